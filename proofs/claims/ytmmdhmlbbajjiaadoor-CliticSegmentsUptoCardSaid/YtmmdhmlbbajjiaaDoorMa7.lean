/-
  Part 7 of the texts behind the walks of this claim: an own layer over the kit's wp, plain laws, and walks. No conditions.
-/
import Derived.Test.YtmmdhmlbbajjiaaDoorMa6
import Derived.KernelRfl
import Derived.Test.YtmmdhmlbbajjiaaDoorRows
import Derived.Laws.StructEq
import Derived.Tactics2
set_option linter.unusedVariables false
set_option linter.unusedSimpArgs false
set_option linter.deprecated false
namespace Go.GH
open Go Go.Proofs
variable {E : Env}
theorem elemB_50_2_40 : elemB Tryd.prog 50 2 40 = true := by kernel_rfl
theorem flatB_30 : flatB Tryd.prog 30 = true := by kernel_rfl
theorem flatB_36 : flatB Tryd.prog 36 = true := by kernel_rfl
theorem flatB_76 : flatB Tryd.prog 76 = true := by kernel_rfl
theorem oneB_30 : oneB Tryd.prog 30 = true := by kernel_rfl
theorem oneB_36 : oneB Tryd.prog 36 = true := by kernel_rfl
theorem oneB_72 : oneB Tryd.prog 72 = true := by kernel_rfl
theorem oneB_76 : oneB Tryd.prog 76 = true := by kernel_rfl
theorem oneB_9 : oneB Tryd.prog 9 = true := by kernel_rfl
theorem sliceB_36_50_2 : sliceB Tryd.prog 36 50 2 = true := by kernel_rfl
theorem sliceB_73_35_1 : sliceB Tryd.prog 73 35 1 = true := by kernel_rfl
theorem zeroIs_30 : zeroIs Tryd.prog 30 (.int .i64 0) := by unfold zeroIs; kernel_rfl
theorem zeroIs_35 : zeroIs Tryd.prog 35 (.slice none 0 0) := by unfold zeroIs; kernel_rfl
theorem zeroIs_36 : zeroIs Tryd.prog 36 (.slice none 0 0) := by unfold zeroIs; kernel_rfl
theorem zeroIs_72 : zeroIs Tryd.prog 72 (.map none) := by unfold zeroIs; kernel_rfl
theorem zeroIs_76 : zeroIs Tryd.prog 76 (.nilFunc) := by unfold zeroIs; kernel_rfl
def encSS (l : List ByteArray) : List DV := [DStrs l]
def outL (a : List Letter) (l : List Rule) (hs cs : List ByteArray) (w : ByteArray) (i : Nat) : List Sg := ((candL (onceL hs) (onceL cs)).take i).filter (okSg a l w)
theorem outL_len (a : List Letter) (l : List Rule) (hs cs : List ByteArray) (w : ByteArray) (i : Nat) : (outL a l hs cs w i).length ≤ (candL (onceL hs) (onceL cs)).length := Nat.le_trans (List.length_filter_le _ _) (by rw [List.length_take]; omega)
theorem cand_few {hs cs : List ByteArray} (h5 : hs.length ≤ 5) (h4 : cs.length ≤ 4) : (candL (onceL hs) (onceL cs)).length ≤ 105 := by
  have h1 := onceN_len hs hs.length
  have h2 := onceN_len cs cs.length
  rw [candL_len]
  show (onceN hs hs.length).length * _ ≤ _
  have h3 : (onceL cs).length ≤ 4 := Nat.le_trans h2 h4
  have h6 : (onceL cs).length * (onceL cs).length ≤ 4 * 4 := Nat.mul_le_mul h3 h3
  calc (onceN hs hs.length).length * (1 + (onceL cs).length + (onceL cs).length * (onceL cs).length) ≤ 5 * 21 := Nat.mul_le_mul (by omega) (by omega)
    _ = 105 := rfl
theorem outL_next {a : List Letter} {l : List Rule} {hs cs : List ByteArray} {w : ByteArray} {i : Nat} {s : Sg} (h : (candL (onceL hs) (onceL cs))[i]? = some s) : outL a l hs cs w (i + 1) = if okSg a l w s = true then outL a l hs cs w i ++ [s] else outL a l hs cs w i := by
  obtain ⟨hi, rfl⟩ := List.getElem?_eq_some_iff.1 h
  unfold outL
  rw [take_next hi, List.filter_append, List.filter_cons, List.filter_nil]
  split <;> simp
theorem cSplit0 (hV : VS E) (a : List Letter) (l : List Rule) (hs cs : List ByteArray) (w : ByteArray) (hr : ∀ r ∈ l, SmR r) (h5 : hs.length ≤ 5) (h4 : cs.length ≤ 4) : GCall Tryd.prog E 19 [DLs a, DRs l, DStrs hs, DStrs cs, .v (.string w)] [] (fun d H => ∃ k, d = .tup [accD 2 k ((splitR a l hs cs w).1.map encSg), .v (.int .i64 (splitR a l hs cs w).2)] ∧ ∀ p ∈ accH 50 2 k ((splitR a l hs cs w).1.map encSg), p ∈ H) := by
  refine GCall.bodyM (C := ⟨Tryd.prog, E, true⟩) Tryd.func19 rfl (fun _ => rfl) (by kernel_rfl) rfl ?_
  refine SMCode.seqRS ?_
  refine SOps.boxF rfl rfl rfl ?_
  refine SOps.alloc (sz := 1) zeroIs_36 (fun b0 hb_0 => ?_)
  refine SOps.alloc (sz := 1) zeroIs_30 (fun b1 hb_1 => ?_)
  refine SOps.nil ?_
  refine SMCode.seqS ?_
  refine SCode.seqR ?_
  refine SOps.move rfl ?_
  refine SOps.move rfl ?_
  refine SOps.callP (cValid hV _ _ (by assumption)) rfl ?_
  rintro _ rfl
  refine SOps.un rfl rfl ?_
  refine SOps.move rfl ?_
  refine SOps.caseB 29 rfl (fun hb1 => ?_) (fun hb1 => ?_)
  · try simp only [nmL] at hb1
    refine SOps.skip rfl ?_
    refine SOps.skip rfl ?_
    refine SOps.skip rfl ?_
    refine SOps.skip rfl ?_
    refine SOps.pick rfl rfl ?_
    refine SOps.move rfl ?_
    refine SOps.skip rfl ?_
    refine SOps.skip rfl ?_
    refine SOps.skip rfl ?_
    refine SOps.skip rfl ?_
    refine SOps.pick rfl rfl ?_
    refine SOps.move rfl ?_
    refine SOps.skip rfl ?_
    refine SOps.skip rfl ?_
    refine SOps.skip rfl ?_
    refine SOps.skip rfl ?_
    refine SOps.skip rfl ?_
    refine SOps.pick rfl rfl ?_
    refine SOps.nil ?_
    refine SCode.cond rfl (fun _ => ?_) (fun h => by cases h)
    refine SCode.seqR ?_
    refine SOps.storeM 1 rfl rfl oneB_36 rfl ?_
    refine SOps.storeM 0 rfl rfl oneB_30 rfl ?_
    refine SOps.nil ?_
    refine SCode.ret ?_
    exact ⟨_, Res.two (.flat (i := 1) (k := 0) (j := 0) rfl flatB_36 rfl rfl rfl rfl) (.flat (i := 0) (k := 0) (j := 0) rfl flatB_30 rfl rfl rfl rfl), 0, by unfold splitR; rw [if_neg (fun h9 => by unfold argS at h9; simp only [Bool.and_eq_true] at h9; first | (rw [h9.1.1.1] at hb1; exact Bool.noConfusion hb1) | (rw [h9.1.1.2] at hb2; exact Bool.noConfusion hb2) | (rw [h9.1.2] at hb3; exact Bool.noConfusion hb3) | (simp_all; done))]; rfl, by unfold splitR; rw [if_neg (fun h9 => by unfold argS at h9; simp only [Bool.and_eq_true] at h9; first | (rw [h9.1.1.1] at hb1; exact Bool.noConfusion hb1) | (rw [h9.1.1.2] at hb2; exact Bool.noConfusion hb2) | (rw [h9.1.2] at hb3; exact Bool.noConfusion hb3) | (simp_all; done))]; exact fun p hp => by cases hp⟩
  · try simp only [nmL] at hb1
    refine SOps.move rfl ?_
    refine SOps.move rfl ?_
    refine SOps.callP (cWords hV _ _) rfl ?_
    rintro _ rfl
    refine SOps.un rfl rfl ?_
    refine SOps.pick rfl rfl ?_
    refine SOps.move rfl ?_
    refine SOps.caseB 35 rfl (fun hb2 => ?_) (fun hb2 => ?_)
    · try simp only [nmL] at hb2
      refine SOps.skip rfl ?_
      refine SOps.skip rfl ?_
      refine SOps.skip rfl ?_
      refine SOps.skip rfl ?_
      refine SOps.pick rfl rfl ?_
      refine SOps.move rfl ?_
      refine SOps.skip rfl ?_
      refine SOps.skip rfl ?_
      refine SOps.skip rfl ?_
      refine SOps.skip rfl ?_
      refine SOps.skip rfl ?_
      refine SOps.pick rfl rfl ?_
      refine SOps.nil ?_
      refine SCode.cond rfl (fun _ => ?_) (fun h => by cases h)
      refine SCode.seqR ?_
      refine SOps.storeM 1 rfl rfl oneB_36 rfl ?_
      refine SOps.storeM 0 rfl rfl oneB_30 rfl ?_
      refine SOps.nil ?_
      refine SCode.ret ?_
      exact ⟨_, Res.two (.flat (i := 1) (k := 0) (j := 0) rfl flatB_36 rfl rfl rfl rfl) (.flat (i := 0) (k := 0) (j := 0) rfl flatB_30 rfl rfl rfl rfl), 0, by unfold splitR; rw [if_neg (fun h9 => by unfold argS at h9; simp only [Bool.and_eq_true] at h9; first | (rw [h9.1.1.1] at hb1; exact Bool.noConfusion hb1) | (rw [h9.1.1.2] at hb2; exact Bool.noConfusion hb2) | (rw [h9.1.2] at hb3; exact Bool.noConfusion hb3) | (simp_all; done))]; rfl, by unfold splitR; rw [if_neg (fun h9 => by unfold argS at h9; simp only [Bool.and_eq_true] at h9; first | (rw [h9.1.1.1] at hb1; exact Bool.noConfusion hb1) | (rw [h9.1.1.2] at hb2; exact Bool.noConfusion hb2) | (rw [h9.1.2] at hb3; exact Bool.noConfusion hb3) | (simp_all; done))]; exact fun p hp => by cases hp⟩
    · try simp only [nmL] at hb2
      refine SOps.move rfl ?_
      refine SOps.move rfl ?_
      refine SOps.callP (cWords hV _ _) rfl ?_
      rintro _ rfl
      refine SOps.un rfl rfl ?_
      refine SOps.pick rfl rfl ?_
      refine SOps.move rfl ?_
      refine SOps.caseB 41 rfl (fun hb3 => ?_) (fun hb3 => ?_)
      · try simp only [nmL] at hb3
        refine SOps.skip rfl ?_
        refine SOps.skip rfl ?_
        refine SOps.skip rfl ?_
        refine SOps.skip rfl ?_
        refine SOps.skip rfl ?_
        refine SOps.pick rfl rfl ?_
        refine SOps.nil ?_
        refine SCode.cond rfl (fun _ => ?_) (fun h => by cases h)
        refine SCode.seqR ?_
        refine SOps.storeM 1 rfl rfl oneB_36 rfl ?_
        refine SOps.storeM 0 rfl rfl oneB_30 rfl ?_
        refine SOps.nil ?_
        refine SCode.ret ?_
        exact ⟨_, Res.two (.flat (i := 1) (k := 0) (j := 0) rfl flatB_36 rfl rfl rfl rfl) (.flat (i := 0) (k := 0) (j := 0) rfl flatB_30 rfl rfl rfl rfl), 0, by unfold splitR; rw [if_neg (fun h9 => by unfold argS at h9; simp only [Bool.and_eq_true] at h9; first | (rw [h9.1.1.1] at hb1; exact Bool.noConfusion hb1) | (rw [h9.1.1.2] at hb2; exact Bool.noConfusion hb2) | (rw [h9.1.2] at hb3; exact Bool.noConfusion hb3) | (simp_all; done))]; rfl, by unfold splitR; rw [if_neg (fun h9 => by unfold argS at h9; simp only [Bool.and_eq_true] at h9; first | (rw [h9.1.1.1] at hb1; exact Bool.noConfusion hb1) | (rw [h9.1.1.2] at hb2; exact Bool.noConfusion hb2) | (rw [h9.1.2] at hb3; exact Bool.noConfusion hb3) | (simp_all; done))]; exact fun p hp => by cases hp⟩
      · try simp only [nmL] at hb3
        refine SOps.move rfl ?_
        refine SOps.loadPin rfl flatB_9 ?_
        refine SOps.litF rfl sliceB_35_9_1 zeroIs_9 rfl ?_
        refine SOps.callP (cWords hV a [w]) rfl ?_
        rintro _ rfl
        refine SOps.un rfl rfl ?_
        refine SOps.pick rfl rfl ?_
        refine SOps.nil ?_
        refine SCode.cond rfl (fun hc4 => ?_) (fun hc4 => ?_)
        · try simp only [nmL] at hc4
          refine SCode.seqR ?_
          refine SOps.storeM 1 rfl rfl oneB_36 rfl ?_
          refine SOps.storeM 0 rfl rfl oneB_30 rfl ?_
          refine SOps.nil ?_
          refine SCode.ret ?_
          exact ⟨_, Res.two (.flat (i := 1) (k := 0) (j := 0) rfl flatB_36 rfl rfl rfl rfl) (.flat (i := 0) (k := 0) (j := 0) rfl flatB_30 rfl rfl rfl rfl), 0, by unfold splitR; rw [if_neg (fun h9 => by unfold argS at h9; simp only [Bool.and_eq_true] at h9; first | (rw [h9.1.1.1] at hb1; exact Bool.noConfusion hb1) | (rw [h9.1.1.2] at hb2; exact Bool.noConfusion hb2) | (rw [h9.1.2] at hb3; exact Bool.noConfusion hb3) | (simp_all; done))]; rfl, by unfold splitR; rw [if_neg (fun h9 => by unfold argS at h9; simp only [Bool.and_eq_true] at h9; first | (rw [h9.1.1.1] at hb1; exact Bool.noConfusion hb1) | (rw [h9.1.1.2] at hb2; exact Bool.noConfusion hb2) | (rw [h9.1.2] at hb3; exact Bool.noConfusion hb3) | (simp_all; done))]; exact fun p hp => by cases hp⟩
        · try simp only [nmL] at hc4
          refine SCode.skip ?_
          show SMCode _ _ _ _ _
          refine SMCode.seqRS ?_
          have harg : argS a l hs cs w = true := by unfold argS; simp_all
          have hal : a.length ≤ 64 := by have h9 := harg; unfold argS at h9; simp only [Bool.and_eq_true] at h9; have := validA_iff.1 (validS_iff.1 h9.1.1.1).1; omega
          have hwh : ∀ s ∈ hs, isWordA a s = true := by have h9 := harg; unfold argS at h9; simp only [Bool.and_eq_true, List.all_eq_true] at h9; exact h9.1.1.2
          have hwc : ∀ s ∈ cs, isWordA a s = true := by have h9 := harg; unfold argS at h9; simp only [Bool.and_eq_true, List.all_eq_true] at h9; exact h9.1.2
          have hww : isWordA a w = true := by have h9 := harg; unfold argS at h9; simp only [Bool.and_eq_true, List.all_eq_true] at h9; exact h9.2
          have hwd : ∀ ws ∈ [hs, cs], ∀ s ∈ ws, isWordA a s = true := by intro ws h1 s h2; simp only [List.mem_cons, List.not_mem_nil, or_false] at h1; rcases h1 with rfl | rfl; exact hwh s h2; exact hwc s h2
          refine SOps.move rfl ?_
          refine SOps.callP (cSteady l hr) rfl ?_
          rintro _ ⟨es0, hM0, rfl⟩
          refine SOps.assign rfl ?_
          refine SOps.nil ?_
          refine SMCode.seqRS ?_
          refine SOps.makeMap0 (fun b2 hb_2 => ?_)
          refine SOps.alloc (sz := 1) zeroIs_72 (fun b3 hb_3 => ?_)
          refine SOps.storeM 0 rfl rfl oneB_72 rfl ?_
          refine SOps.freezeRef (t := 13) 0 0 rfl rfl rfl rfl rfl ?_
          refine SOps.nil ?_
          refine SMCode.seqS ?_
          refine SCode.seqR ?_
          refine SOps.move rfl ?_
          refine SOps.move rfl ?_
          refine SOps.litF rfl sliceB_73_35_1 zeroIs_35 rfl ?_
          refine SOps.lenM rfl sliceB_73_35_1 ?_
          refine SOps.move rfl ?_
          refine SOps.nil ?_
          refine SCode.block ?_
          refine SCode.loop3 (fun (q : Nat) (es : List (Value × DV)) (ks : List ByteArray) => (⟨123, [(0, DLs a), (1, DRs l), (2, DStrs hs), (3, DStrs cs), (9, .ipin [.v (.string w)]), (10, .ref b0 0), (11, .ref b1 0), (12, .fn 74 [.ipin [.imap es0]]), (13, .ipin [.mp b2]), (53, .isl false 1 ([hs, cs].map encSS)), (54, .v (.int .i64 2)), (55, .v (.int .i64 (q : Int)))], [(b2, .map es), (b1, .row 30 1 [[.v (.int .i64 0)]]), (b0, .row 36 1 [[.v (.slice none 0 0)]])]⟩ : St)) (fun (q : Nat) (es : List (Value × DV)) (ks : List ByteArray) => q ≤ 2 ∧ MapS (keepS l) es ks ∧ ∀ ws ∈ [hs, cs].take q, ∀ s ∈ ws, memS s ks = true) (fun (q : Nat) (es : List (Value × DV)) (ks : List ByteArray) => 2 - q) (0) ([]) ([]) (by exact ⟨Nat.zero_le _, MapS.nil _, fun ws h => by cases h⟩) (St.Le.of ⟨(by first | rfl | (show some _ = some _; simp)), (by first | rfl | (show some _ = some _; simp)), (by first | rfl | (show some _ = some _; simp)), (by first | rfl | (show some _ = some _; simp)), (by first | rfl | (show some _ = some _; simp)), (by first | rfl | (show some _ = some _; simp)), (by first | rfl | (show some _ = some _; simp)), (by first | rfl | (show some _ = some _; simp)), (by first | rfl | (show some _ = some _; simp)), (by first | rfl | (show some _ = some _; simp)), (by first | rfl | (show some _ = some _; simp)), (by first | rfl | (show some _ = some _; simp)), trivial⟩ rfl (by first | rfl | (simp))) ?_
          rintro q es ks ⟨hq, hM, hcov⟩
          refine SCode.seqR ?_
          refine SOps.bin rfl rfl rfl ?_
          refine SOps.nil ?_
          refine SCode.seq ?_
          refine SCode.cond rfl (fun hc5 => ?_) (fun hc5 => ?_)
          · try simp only [nmL] at hc5
            refine SCode.skip ?_
            show SCode _ _ _ _
            refine SCode.seq ?_
            refine SCode.block ?_
            refine SCode.seqR ?_
            have hq2 : q < 2 := by omega
            have hwq := List.getElem_mem (show q < [hs, cs].length from hq2)
            refine SOps.indexM (q) rfl rfl sliceB_73_35_1 (by first | omega | (simp only [lenB]; omega)) (by first | omega | (simp only [lenB]; omega)) ?_
            refine SOps.loadPin rfl flatB_35 ?_
            refine SOps.assign rfl ?_
            refine SOps.nil ?_
            refine SCode.seqR ?_
            refine SOps.move rfl ?_
            refine SOps.lenM rfl sliceB_35_9_1 ?_
            refine SOps.move rfl ?_
            refine SOps.nil ?_
            refine SCode.block ?_
            refine SCode.loop3 (fun (j : Nat) (es2 : List (Value × DV)) (ks2 : List ByteArray) => (⟨123, [(0, DLs a), (1, DRs l), (2, DStrs hs), (3, DStrs cs), (9, .ipin [.v (.string w)]), (10, .ref b0 0), (11, .ref b1 0), (12, .fn 74 [.ipin [.imap es0]]), (13, .ipin [.mp b2]), (53, .isl false 1 ([hs, cs].map encSS)), (54, .v (.int .i64 2)), (55, .v (.int .i64 (q : Int))), (59, DStrs ([hs, cs][q])), (60, .v (.int .i64 ((([hs, cs][q]).length : Nat) : Int))), (61, .v (.int .i64 (j : Int)))], [(b2, .map es2), (b1, .row 30 1 [[.v (.int .i64 0)]]), (b0, .row 36 1 [[.v (.slice none 0 0)]])]⟩ : St)) (fun (j : Nat) (es2 : List (Value × DV)) (ks2 : List ByteArray) => j ≤ ([hs, cs][q]).length ∧ MapS (keepS l) es2 ks2 ∧ (∀ ws ∈ [hs, cs].take q, ∀ s ∈ ws, memS s ks2 = true) ∧ ∀ s ∈ ([hs, cs][q]).take j, memS s ks2 = true) (fun (j : Nat) (es2 : List (Value × DV)) (ks2 : List ByteArray) => ([hs, cs][q]).length - j) (0) (es) (ks) (by exact ⟨Nat.zero_le _, hM, hcov, fun s h => by cases h⟩) (St.Le.of ⟨(by first | rfl | (show some _ = some _; simp)), (by first | rfl | (show some _ = some _; simp)), (by first | rfl | (show some _ = some _; simp)), (by first | rfl | (show some _ = some _; simp)), (by first | rfl | (show some _ = some _; simp)), (by first | rfl | (show some _ = some _; simp)), (by first | rfl | (show some _ = some _; simp)), (by first | rfl | (show some _ = some _; simp)), (by first | rfl | (show some _ = some _; simp)), (by first | rfl | (show some _ = some _; simp)), (by first | rfl | (show some _ = some _; simp)), (by first | rfl | (show some _ = some _; simp)), (by first | rfl | (show some _ = some _; simp)), (by first | rfl | (show some _ = some _; simp)), (by first | rfl | (show some _ = some _; simp)), trivial⟩ rfl (by first | rfl | (simp))) ?_
            rintro j es2 ks2 ⟨hj, hM2, hcov2, hin2⟩
            refine SCode.fact (isl_len (t := 59) rfl) (fun hB => ?_)
            simp only [List.length_map, lenB] at hB
            have hks := hM2.keys
            refine SCode.seqR ?_
            refine SOps.bin rfl rfl rfl ?_
            refine SOps.nil ?_
            refine SCode.seq ?_
            refine SCode.cond rfl (fun hc6 => ?_) (fun hc6 => ?_)
            · try simp only [nmL] at hc6
              refine SCode.skip ?_
              show SCode _ _ _ _
              refine SCode.seq ?_
              refine SCode.block ?_
              refine SCode.seqR ?_
              have hjl : j < ([hs, cs][q]).length := by omega
              have hsq := List.getElem_mem hjl
              refine SOps.indexM (j) rfl rfl sliceB_35_9_1 (by first | omega | (simp only [lenB]; omega)) (by first | omega | (simp only [lenB]; omega)) ?_
              refine SOps.loadPin rfl flatB_9 ?_
              refine SOps.assign rfl ?_
              refine SOps.nil ?_
              apply SCode.drawAuto1 5 7 mixed_ [65, 66, 67, 68, 69] [[.inr 13], [.inr 17], [.inr 12], [.inr 17], [.inl 2, .inl 3]]
              · kernel_rfl
              · kernel_rfl
              · kernel_rfl
              · kernel_rfl
              · rfl
              · rfl
              · apply DOk.cons 65 
                · rfl
                · exact (NeedIs.inr _ rfl NeedIs.nil)
                · intro rest
                  refine SOps.loadPin rfl flatB_72 ?_
                  exact SOps.nil rfl
                apply DOk.cons 66 
                · rfl
                · exact (NeedIs.inr _ rfl NeedIs.nil)
                · intro rest
                  refine SOps.move rfl ?_
                  exact SOps.nil rfl
                apply DOk.cons 67 
                · rfl
                · exact (NeedIs.inr _ rfl NeedIs.nil)
                · intro rest
                  refine SOps.move rfl ?_
                  exact SOps.nil rfl
                apply DOk.cons 68 
                · rfl
                · exact (NeedIs.inr _ rfl NeedIs.nil)
                · intro rest
                  refine SOps.move rfl ?_
                  exact SOps.nil rfl
                apply DOk.cons 69 
                · rfl
                · exact (NeedIs.inl 1 _ _ rfl rfl (NeedIs.inl 0 _ _ rfl rfl NeedIs.nil))
                · intro rest
                  refine SOps.callFn (ds := [_]) rfl (cSteady1 l es0 _ hM0 (by have := (word_facts (hwd _ hwq _ hsq)).2.2.2; omega)) rfl ?_
                  rintro _ _ ⟨rfl, rfl⟩
                  exact SOps.nil rfl
                exact DOk.nil
              · rfl
              · refine SOps.mapUpdate 0 rfl rfl rfl rfl mapB_72 rfl (hks) ?_
                refine SOps.nil ?_
                show SCode _ _ _ _
                refine SCode.region ?_
                refine SOps.addI rfl rfl (by first | omega | (simp only [lenB]; omega)) (by first | omega | (simp only [lenB]; omega)) ?_
                refine SOps.move rfl ?_
                refine SOps.nil ?_
                exact ⟨j + 1, _, ks2 ++ [([hs, cs][q])[j]], ⟨by omega, hM2.add _, fun ws h s h9 => by rw [memS_snoc, hcov2 ws h s h9]; rfl, fun s h9 => by rw [take_next hjl] at h9; rw [memS_snoc]; rcases List.mem_append.1 h9 with h9 | h9; rw [hin2 s h9]; rfl; rw [List.mem_singleton.1 h9]; simp⟩, by omega, St.Le.of ⟨rfl, rfl, rfl, rfl, rfl, rfl, rfl, rfl, rfl, rfl, rfl, rfl, rfl, rfl, rfl, trivial⟩ rfl rfl⟩
            · try simp only [nmL] at hc6
              refine SCode.exit ?_
              show SCode _ _ _ _
              refine SCode.region ?_
              refine SOps.addI rfl rfl (by first | omega | (simp only [lenB]; omega)) (by first | omega | (simp only [lenB]; omega)) ?_
              refine SOps.move rfl ?_
              refine SOps.nil ?_
              exact ⟨q + 1, es2, ks2, ⟨by omega, hM2, fun ws h s hs9 => by rw [take_next hq2] at h; rcases List.mem_append.1 h with h | h; exact hcov2 ws h s hs9; rw [List.mem_singleton.1 h] at hs9; exact hin2 s (by rw [List.take_of_length_le (by omega)]; exact hs9)⟩, by omega, St.Le.of ⟨rfl, rfl, rfl, rfl, rfl, rfl, rfl, rfl, rfl, rfl, rfl, rfl, trivial⟩⟩
          · try simp only [nmL] at hc5
            refine SCode.exit ?_
            show SMCode _ _ _ _ _
            refine SMCode.seqRS ?_
            refine SOps.move rfl ?_
            refine SOps.loadPin rfl flatB_9 ?_
            refine SOps.callFn (ds := [_]) rfl (cSteady1 l es0 w hM0 (by have := (word_facts hww).2.2.2; omega)) rfl ?_
            rintro _ _ ⟨rfl, rfl⟩
            refine SOps.alloc (sz := 1) zeroIs_9 (fun b4 hb_4 => ?_)
            refine SOps.storeM 0 rfl rfl oneB_9 rfl ?_
            refine SOps.freezeRef (t := 18) 0 0 rfl rfl rfl rfl rfl ?_
            refine SOps.nil ?_
            refine SMCode.seqRS ?_
            refine SOps.freezePinMap (t := 13) 0 rfl rfl rfl ?_
            refine SOps.makeFunc rfl ?_
            refine SOps.alloc (sz := 1) zeroIs_76 (fun b5 hb_5 => ?_)
            refine SOps.storeM 0 rfl rfl oneB_76 rfl ?_
            refine SOps.freezeRef (t := 19) 0 0 rfl rfl rfl rfl rfl ?_
            refine SOps.nil ?_
            refine SMCode.seqRS ?_
            refine SOps.move rfl ?_
            refine SOps.callP (cExtended _ (by omega)) rfl ?_
            rintro _ rfl
            refine SOps.move rfl ?_
            refine SOps.buildM placesB_65 zeroIs_65 rfl rfl ?_
            refine SOps.alloc (sz := 2) zeroIs_65 (fun b6 hb_6 => ?_)
            refine SOps.storeAM 0 rfl rfl aggB_65_2 rfl ?_
            refine SOps.freezeRef (t := 20) 0 0 rfl rfl rfl rfl rfl ?_
            refine SOps.nil ?_
            refine SMCode.seqRS ?_
            refine SOps.alloc (sz := 1) zeroIs_36 (fun b7 hb_7 => ?_)
            refine SOps.nil ?_
            refine SMCode.seq ?_
            refine SMCode.seqRS ?_
            refine SOps.move rfl ?_
            refine SOps.callP (cDistinct hs (by omega)) rfl ?_
            rintro _ rfl
            refine SOps.move rfl ?_
            refine SOps.callP (cDistinct cs (by omega)) rfl ?_
            rintro _ rfl
            refine SOps.callP (cCandidates _ _) rfl ?_
            rintro _ rfl
            refine SOps.nil ?_
            refine SMCode.block ?_
            refine SMCode.weaken (st' := (⟨123, [(84, .fn 76 [.ipin [DStrs (onceL hs)], .ipin [DStrs (onceL cs)]]), (9, .ipin [.v (.string w)]), (10, .ref b0 0), (11, .ref b1 0), (19, .ipin [.fn 46 [.ipin [.v (.string (keepS l w))], .ipin [.imap es]]]), (20, .ipin [DLs (extA a), DRs l]), (21, .ref b7 0)], ([(b7, .row 36 1 [[accD 2 0 ((outL a l hs cs w 0).map encSg)]]), (b1, .row 30 1 [[.v (.int .i64 0)]]), (b0, .row 36 1 [[.v (.slice none 0 0)]])] ++ (accH 50 2 0 ((outL a l hs cs w 0).map encSg) ++ []))⟩ : St)) (St.Le.of ⟨rfl, rfl, rfl, rfl, rfl, rfl, rfl, trivial⟩ rfl rfl) ?_
            refine SMCode.range rfl (iCandidates _ _) (fun i H => ∃ k, List.Sublist ([(b7, .row 36 1 [[accD 2 k ((outL a l hs cs w i).map encSg)]]), (b1, .row 30 1 [[.v (.int .i64 0)]]), (b0, .row 36 1 [[.v (.slice none 0 0)]])] ++ (accH 50 2 k ((outL a l hs cs w i).map encSg) ++ [])) H) ⟨0, List.Sublist.refl _⟩ rfl (fun i x l9 H hx hI => ?_) (fun H hI => ?_)
            · obtain ⟨k, hsub⟩ := hI
              have hcv : ∀ ws ∈ [hs, cs], ∀ s ∈ ws, memS s ks = true := fun ws h => hcov ws (by rw [List.take_of_length_le (by simp only [List.length_cons, List.length_nil]; omega)]; exact h)
              obtain ⟨sg, hsg, rfl⟩ : ∃ sg, (candL (onceL hs) (onceL cs))[i]? = some sg ∧ DV.agg (encSg sg) = x := by unfold candD at hx; rw [List.getElem?_map] at hx; exact Option.map_eq_some_iff.1 hx
              have hnx := outL_next (a := a) (l := l) (w := w) hsg
              have hmem := candL_mem (List.mem_of_getElem? hsg)
              have hwo := outL_len a l hs cs w i
              have hfew := cand_few h5 h4
              have hsw : isWordA a sg.host = true := hwh _ (onceL_mem hmem.1)
              have hsc : ∀ c ∈ sg.cls, isWordA a c = true := fun c hc => hwc _ (onceL_mem (hmem.2.2 c hc))
              have hpre := split_pre harg sg (List.mem_of_getElem? hsg)
              refine SRound.weaken (st' := (⟨123, [(85, .agg (encSg sg)), (9, .ipin [.v (.string w)]), (10, .ref b0 0), (11, .ref b1 0), (19, .ipin [.fn 46 [.ipin [.v (.string (keepS l w))], .ipin [.imap es]]]), (20, .ipin [DLs (extA a), DRs l]), (21, .ref b7 0)], ([(b7, .row 36 1 [[accD 2 k ((outL a l hs cs w i).map encSg)]]), (b1, .row 30 1 [[.v (.int .i64 0)]]), (b0, .row 36 1 [[.v (.slice none 0 0)]])] ++ (accH 50 2 k ((outL a l hs cs w i).map encSg) ++ []))⟩ : St)) (St.Le.ofSub ⟨rfl, rfl, rfl, rfl, rfl, rfl, rfl, trivial⟩ hsub) ?_
              refine SRound.region ?_
              refine SOps.alloc (sz := 2) zeroIs_50 (fun b8 hb_8 => ?_)
              refine SOps.storeAM 0 rfl rfl aggB_50_2 rfl ?_
              refine SOps.nil ?_
              refine ⟨rfl, ?_⟩
              refine SRound.block ?_
              refine SRound.seq ?_
              refine SRound.seqR ?_
              refine SOps.fieldRef rfl fieldB_50_1_1 ?_
              refine SOps.loadRef 0 0 1 rfl flatB_35 rfl rfl rfl rfl ?_
              refine SOps.lenM rfl sliceB_35_9_1 ?_
              refine SOps.bin rfl rfl rfl ?_
              refine SOps.move rfl ?_
              refine SOps.caseB 90 rfl (fun hb7 => ?_) (fun hb7 => ?_)
              · try simp only [nmL] at hb7
                refine SOps.fieldRef rfl fieldB_50_0_0 ?_
                refine SOps.loadRef 0 0 0 rfl flatB_9 rfl rfl rfl rfl ?_
                refine SOps.loadPin rfl flatB_9 ?_
                refine SOps.bin rfl rfl rfl ?_
                refine SOps.pick rfl rfl ?_
                refine SOps.move rfl ?_
                refine SOps.caseB 96 rfl (fun hb8 => ?_) (fun hb8 => ?_)
                · try simp only [nmL] at hb8
                  refine SOps.skip rfl ?_
                  refine SOps.skip rfl ?_
                  refine SOps.skip rfl ?_
                  refine SOps.skip rfl ?_
                  refine SOps.pick rfl rfl ?_
                  refine SOps.nil ?_
                  refine SRound.cond rfl (fun _ => ?_) (fun h => by cases h)
                  refine SRound.exit ?_
                  first
                    | ((have hno : okSg a l w sg = false := by first | (rw [← hpre]; unfold preSg; simp_all; done) | (unfold okSg; simp_all; done)); rw [hno, if_neg (by simp)] at hnx; exact ⟨rfl, k, by rw [hnx]; exact .cons _ (.refl _)⟩)
                    | (have hyes : okSg a l w sg = true := by (unfold okSg; simp_all; done)); rw [hyes, if_pos rfl] at hnx; first | exact ⟨rfl, b8, by rw [hnx, List.map_append]; exact .cons _ (.refl _)⟩ | exact ⟨rfl, b9, by rw [hnx, List.map_append]; exact .cons _ (.refl _)⟩ | exact ⟨rfl, b10, by rw [hnx, List.map_append]; exact .cons _ (.refl _)⟩ | exact ⟨rfl, b11, by rw [hnx, List.map_append]; exact .cons _ (.refl _)⟩ | exact ⟨rfl, b12, by rw [hnx, List.map_append]; exact .cons _ (.refl _)⟩ | exact ⟨rfl, b13, by rw [hnx, List.map_append]; exact .cons _ (.refl _)⟩ | exact ⟨rfl, b14, by rw [hnx, List.map_append]; exact .cons _ (.refl _)⟩ | exact ⟨rfl, b15, by rw [hnx, List.map_append]; exact .cons _ (.refl _)⟩
                · try simp only [nmL] at hb8
                  refine SOps.loadPin rfl flatB_76 ?_
                  refine SOps.loadRefA 0 0 0 rfl aggB_50_2 rfl rfl rfl (Nat.le_of_ble_eq_true rfl) ?_
                  refine SOps.callFn (ds := [_]) rfl (cPoss l w es ks sg hM (by have := (word_facts hww).2.2.1; omega) (hcv _ (by simp) _ (onceL_mem hmem.1)) (fun c hc => hcv _ (by simp) _ (onceL_mem (hmem.2.2 c hc)))) rfl ?_
                  rintro _ _ ⟨rfl, rfl⟩
                  refine SOps.un rfl rfl ?_
                  refine SOps.pick rfl rfl ?_
                  refine SOps.nil ?_
                  refine SRound.cond rfl (fun hc9 => ?_) (fun hc9 => ?_)
                  · try simp only [nmL] at hc9
                    refine SRound.exit ?_
                    first
                      | ((have hno : okSg a l w sg = false := by first | (rw [← hpre]; unfold preSg; simp_all; done) | (unfold okSg; simp_all; done)); rw [hno, if_neg (by simp)] at hnx; exact ⟨rfl, k, by rw [hnx]; exact .cons _ (.refl _)⟩)
                      | (have hyes : okSg a l w sg = true := by (unfold okSg; simp_all; done)); rw [hyes, if_pos rfl] at hnx; first | exact ⟨rfl, b8, by rw [hnx, List.map_append]; exact .cons _ (.refl _)⟩ | exact ⟨rfl, b9, by rw [hnx, List.map_append]; exact .cons _ (.refl _)⟩ | exact ⟨rfl, b10, by rw [hnx, List.map_append]; exact .cons _ (.refl _)⟩ | exact ⟨rfl, b11, by rw [hnx, List.map_append]; exact .cons _ (.refl _)⟩ | exact ⟨rfl, b12, by rw [hnx, List.map_append]; exact .cons _ (.refl _)⟩ | exact ⟨rfl, b13, by rw [hnx, List.map_append]; exact .cons _ (.refl _)⟩ | exact ⟨rfl, b14, by rw [hnx, List.map_append]; exact .cons _ (.refl _)⟩ | exact ⟨rfl, b15, by rw [hnx, List.map_append]; exact .cons _ (.refl _)⟩
                  · try simp only [nmL] at hc9
                    refine SRound.skip ?_
                    show SRound _ _ _ _ _
                    refine SRound.seqR ?_
                    refine SOps.loadPinA rfl aggB_65_2 (Nat.le_of_ble_eq_true rfl) ?_
                    refine SOps.loadRefA 0 0 0 rfl aggB_50_2 rfl rfl rfl (Nat.le_of_ble_eq_true rfl) ?_
                    refine SOps.callP (jAll hV a l sg hr hsw hsc) rfl ?_
                    rintro _ rfl
                    refine SOps.move rfl ?_
                    refine SOps.extract rfl rfl ?_
                    refine SOps.extract rfl rfl ?_
                    refine SOps.assign rfl ?_
                    refine SOps.assign rfl ?_
                    refine SOps.nil ?_
                    refine SRound.seq ?_
                    refine SRound.seqR ?_
                    refine SOps.move rfl ?_
                    refine SOps.bin rfl rfl rfl ?_
                    refine SOps.move rfl ?_
                    refine SOps.caseB 110 rfl (fun hb10 => ?_) (fun hb10 => ?_)
                    · try simp only [nmL] at hb10
                      refine SOps.skip rfl ?_
                      refine SOps.skip rfl ?_
                      refine SOps.skip rfl ?_
                      refine SOps.pick rfl rfl ?_
                      refine SOps.nil ?_
                      refine SRound.cond rfl (fun _ => ?_) (fun h => by cases h)
                      refine SRound.exit ?_
                      first
                        | ((have hno : okSg a l w sg = false := by first | (rw [← hpre]; unfold preSg; simp_all; done) | (unfold okSg; simp_all; done)); rw [hno, if_neg (by simp)] at hnx; exact ⟨rfl, k, by rw [hnx]; exact .cons _ (.refl _)⟩)
                        | (have hyes : okSg a l w sg = true := by (unfold okSg; simp_all; done)); rw [hyes, if_pos rfl] at hnx; first | exact ⟨rfl, b8, by rw [hnx, List.map_append]; exact .cons _ (.refl _)⟩ | exact ⟨rfl, b9, by rw [hnx, List.map_append]; exact .cons _ (.refl _)⟩ | exact ⟨rfl, b10, by rw [hnx, List.map_append]; exact .cons _ (.refl _)⟩ | exact ⟨rfl, b11, by rw [hnx, List.map_append]; exact .cons _ (.refl _)⟩ | exact ⟨rfl, b12, by rw [hnx, List.map_append]; exact .cons _ (.refl _)⟩ | exact ⟨rfl, b13, by rw [hnx, List.map_append]; exact .cons _ (.refl _)⟩ | exact ⟨rfl, b14, by rw [hnx, List.map_append]; exact .cons _ (.refl _)⟩ | exact ⟨rfl, b15, by rw [hnx, List.map_append]; exact .cons _ (.refl _)⟩
                    · try simp only [nmL] at hb10
                      refine SOps.move rfl ?_
                      refine SOps.loadPin rfl flatB_9 ?_
                      refine SOps.bin rfl rfl rfl ?_
                      refine SOps.pick rfl rfl ?_
                      refine SOps.nil ?_
                      refine SRound.cond rfl (fun hc11 => ?_) (fun hc11 => ?_)
                      · try simp only [nmL] at hc11
                        refine SRound.exit ?_
                        first
                          | ((have hno : okSg a l w sg = false := by first | (rw [← hpre]; unfold preSg; simp_all; done) | (unfold okSg; simp_all; done)); rw [hno, if_neg (by simp)] at hnx; exact ⟨rfl, k, by rw [hnx]; exact .cons _ (.refl _)⟩)
                          | (have hyes : okSg a l w sg = true := by (unfold okSg; simp_all; done)); rw [hyes, if_pos rfl] at hnx; first | exact ⟨rfl, b8, by rw [hnx, List.map_append]; exact .cons _ (.refl _)⟩ | exact ⟨rfl, b9, by rw [hnx, List.map_append]; exact .cons _ (.refl _)⟩ | exact ⟨rfl, b10, by rw [hnx, List.map_append]; exact .cons _ (.refl _)⟩ | exact ⟨rfl, b11, by rw [hnx, List.map_append]; exact .cons _ (.refl _)⟩ | exact ⟨rfl, b12, by rw [hnx, List.map_append]; exact .cons _ (.refl _)⟩ | exact ⟨rfl, b13, by rw [hnx, List.map_append]; exact .cons _ (.refl _)⟩ | exact ⟨rfl, b14, by rw [hnx, List.map_append]; exact .cons _ (.refl _)⟩ | exact ⟨rfl, b15, by rw [hnx, List.map_append]; exact .cons _ (.refl _)⟩
                      · try simp only [nmL] at hc11
                        refine SRound.skip ?_
                        show SRound _ _ _ _ _
                        refine SRound.seq ?_
                        refine SRound.seqR ?_
                        refine SOps.loadRef 1 0 0 rfl flatB_36 rfl rfl rfl rfl ?_
                        refine SOps.lenAcc rfl sliceB_36_50_2 ?_
                        refine SOps.bin rfl rfl rfl ?_
                        refine SOps.nil ?_
                        refine SRound.cond rfl (fun hc12 => ?_) (fun hc12 => ?_)
                        · try simp only [nmL] at hc12
                          refine SRound.seqR ?_
                          exfalso
                          have h9 : (List.map encSg (outL a l hs cs w i)).length = (outL a l hs cs w i).length := List.length_map ..
                          omega
                        · try simp only [nmL] at hc12
                          refine SRound.skip ?_
                          show SRound _ _ _ _ _
                          refine SRound.region ?_
                          refine SOps.loadRef 1 0 0 rfl flatB_36 rfl rfl rfl rfl ?_
                          refine SOps.loadRefA 0 0 0 rfl aggB_50_2 rfl rfl rfl (Nat.le_of_ble_eq_true rfl) ?_
                          refine SOps.frame1 (SOps.litF rfl sliceB_36_50_2 zeroIs_50 rfl (SOps.nil rfl)) ?_
                          refine SOps.appendAcc [_, _, _, _] [] sliceB_36_50_2 elemB_50_2_40 rfl rfl rfl SrcD.isl (by simp) (by first | (simp [lenB] <;> (first | omega | (simp only [lenB]; omega))) | (simp only [lenB]; (first | omega | (simp only [lenB]; omega)))) (by first | (simp <;> (first | omega | (simp only [lenB]; omega))) | (first | omega | (simp only [lenB]; omega))) (fun b9 => ?_)
                          refine SOps.storeM 1 rfl rfl oneB_36 rfl ?_ (accD_one _ _ _)
                          refine SOps.nil ?_
                          first
                            | ((have hno : okSg a l w sg = false := by first | (rw [← hpre]; unfold preSg; simp_all; done) | (unfold okSg; simp_all; done)); rw [hno, if_neg (by simp)] at hnx; exact ⟨rfl, k, by rw [hnx]; exact .cons _ (.refl _)⟩)
                            | (have hyes : okSg a l w sg = true := by (unfold okSg; simp_all; done)); rw [hyes, if_pos rfl] at hnx; first | exact ⟨rfl, b8, by rw [hnx, List.map_append]; exact .cons _ (.refl _)⟩ | exact ⟨rfl, b9, by rw [hnx, List.map_append]; exact .cons _ (.refl _)⟩ | exact ⟨rfl, b10, by rw [hnx, List.map_append]; exact .cons _ (.refl _)⟩ | exact ⟨rfl, b11, by rw [hnx, List.map_append]; exact .cons _ (.refl _)⟩ | exact ⟨rfl, b12, by rw [hnx, List.map_append]; exact .cons _ (.refl _)⟩ | exact ⟨rfl, b13, by rw [hnx, List.map_append]; exact .cons _ (.refl _)⟩ | exact ⟨rfl, b14, by rw [hnx, List.map_append]; exact .cons _ (.refl _)⟩ | exact ⟨rfl, b15, by rw [hnx, List.map_append]; exact .cons _ (.refl _)⟩
              · try simp only [nmL] at hb7
                refine SOps.skip rfl ?_
                refine SOps.skip rfl ?_
                refine SOps.skip rfl ?_
                refine SOps.skip rfl ?_
                refine SOps.pick rfl rfl ?_
                refine SOps.move rfl ?_
                refine SOps.loadPin rfl flatB_76 ?_
                refine SOps.loadRefA 0 0 0 rfl aggB_50_2 rfl rfl rfl (Nat.le_of_ble_eq_true rfl) ?_
                refine SOps.callFn (ds := [_]) rfl (cPoss l w es ks sg hM (by have := (word_facts hww).2.2.1; omega) (hcv _ (by simp) _ (onceL_mem hmem.1)) (fun c hc => hcv _ (by simp) _ (onceL_mem (hmem.2.2 c hc)))) rfl ?_
                rintro _ _ ⟨rfl, rfl⟩
                refine SOps.un rfl rfl ?_
                refine SOps.pick rfl rfl ?_
                refine SOps.nil ?_
                refine SRound.cond rfl (fun hc13 => ?_) (fun hc13 => ?_)
                · try simp only [nmL] at hc13
                  refine SRound.exit ?_
                  first
                    | ((have hno : okSg a l w sg = false := by first | (rw [← hpre]; unfold preSg; simp_all; done) | (unfold okSg; simp_all; done)); rw [hno, if_neg (by simp)] at hnx; exact ⟨rfl, k, by rw [hnx]; exact .cons _ (.refl _)⟩)
                    | (have hyes : okSg a l w sg = true := by (unfold okSg; simp_all; done)); rw [hyes, if_pos rfl] at hnx; first | exact ⟨rfl, b8, by rw [hnx, List.map_append]; exact .cons _ (.refl _)⟩ | exact ⟨rfl, b9, by rw [hnx, List.map_append]; exact .cons _ (.refl _)⟩ | exact ⟨rfl, b10, by rw [hnx, List.map_append]; exact .cons _ (.refl _)⟩ | exact ⟨rfl, b11, by rw [hnx, List.map_append]; exact .cons _ (.refl _)⟩ | exact ⟨rfl, b12, by rw [hnx, List.map_append]; exact .cons _ (.refl _)⟩ | exact ⟨rfl, b13, by rw [hnx, List.map_append]; exact .cons _ (.refl _)⟩ | exact ⟨rfl, b14, by rw [hnx, List.map_append]; exact .cons _ (.refl _)⟩ | exact ⟨rfl, b15, by rw [hnx, List.map_append]; exact .cons _ (.refl _)⟩
                · try simp only [nmL] at hc13
                  refine SRound.skip ?_
                  show SRound _ _ _ _ _
                  refine SRound.seqR ?_
                  refine SOps.loadPinA rfl aggB_65_2 (Nat.le_of_ble_eq_true rfl) ?_
                  refine SOps.loadRefA 0 0 0 rfl aggB_50_2 rfl rfl rfl (Nat.le_of_ble_eq_true rfl) ?_
                  refine SOps.callP (jAll hV a l sg hr hsw hsc) rfl ?_
                  rintro _ rfl
                  refine SOps.move rfl ?_
                  refine SOps.extract rfl rfl ?_
                  refine SOps.extract rfl rfl ?_
                  refine SOps.assign rfl ?_
                  refine SOps.assign rfl ?_
                  refine SOps.nil ?_
                  refine SRound.seq ?_
                  refine SRound.seqR ?_
                  refine SOps.move rfl ?_
                  refine SOps.bin rfl rfl rfl ?_
                  refine SOps.move rfl ?_
                  refine SOps.caseB 110 rfl (fun hb14 => ?_) (fun hb14 => ?_)
                  · try simp only [nmL] at hb14
                    refine SOps.skip rfl ?_
                    refine SOps.skip rfl ?_
                    refine SOps.skip rfl ?_
                    refine SOps.pick rfl rfl ?_
                    refine SOps.nil ?_
                    refine SRound.cond rfl (fun _ => ?_) (fun h => by cases h)
                    refine SRound.exit ?_
                    first
                      | ((have hno : okSg a l w sg = false := by first | (rw [← hpre]; unfold preSg; simp_all; done) | (unfold okSg; simp_all; done)); rw [hno, if_neg (by simp)] at hnx; exact ⟨rfl, k, by rw [hnx]; exact .cons _ (.refl _)⟩)
                      | (have hyes : okSg a l w sg = true := by (unfold okSg; simp_all; done)); rw [hyes, if_pos rfl] at hnx; first | exact ⟨rfl, b8, by rw [hnx, List.map_append]; exact .cons _ (.refl _)⟩ | exact ⟨rfl, b9, by rw [hnx, List.map_append]; exact .cons _ (.refl _)⟩ | exact ⟨rfl, b10, by rw [hnx, List.map_append]; exact .cons _ (.refl _)⟩ | exact ⟨rfl, b11, by rw [hnx, List.map_append]; exact .cons _ (.refl _)⟩ | exact ⟨rfl, b12, by rw [hnx, List.map_append]; exact .cons _ (.refl _)⟩ | exact ⟨rfl, b13, by rw [hnx, List.map_append]; exact .cons _ (.refl _)⟩ | exact ⟨rfl, b14, by rw [hnx, List.map_append]; exact .cons _ (.refl _)⟩ | exact ⟨rfl, b15, by rw [hnx, List.map_append]; exact .cons _ (.refl _)⟩
                  · try simp only [nmL] at hb14
                    refine SOps.move rfl ?_
                    refine SOps.loadPin rfl flatB_9 ?_
                    refine SOps.bin rfl rfl rfl ?_
                    refine SOps.pick rfl rfl ?_
                    refine SOps.nil ?_
                    refine SRound.cond rfl (fun hc15 => ?_) (fun hc15 => ?_)
                    · try simp only [nmL] at hc15
                      refine SRound.exit ?_
                      first
                        | ((have hno : okSg a l w sg = false := by first | (rw [← hpre]; unfold preSg; simp_all; done) | (unfold okSg; simp_all; done)); rw [hno, if_neg (by simp)] at hnx; exact ⟨rfl, k, by rw [hnx]; exact .cons _ (.refl _)⟩)
                        | (have hyes : okSg a l w sg = true := by (unfold okSg; simp_all; done)); rw [hyes, if_pos rfl] at hnx; first | exact ⟨rfl, b8, by rw [hnx, List.map_append]; exact .cons _ (.refl _)⟩ | exact ⟨rfl, b9, by rw [hnx, List.map_append]; exact .cons _ (.refl _)⟩ | exact ⟨rfl, b10, by rw [hnx, List.map_append]; exact .cons _ (.refl _)⟩ | exact ⟨rfl, b11, by rw [hnx, List.map_append]; exact .cons _ (.refl _)⟩ | exact ⟨rfl, b12, by rw [hnx, List.map_append]; exact .cons _ (.refl _)⟩ | exact ⟨rfl, b13, by rw [hnx, List.map_append]; exact .cons _ (.refl _)⟩ | exact ⟨rfl, b14, by rw [hnx, List.map_append]; exact .cons _ (.refl _)⟩ | exact ⟨rfl, b15, by rw [hnx, List.map_append]; exact .cons _ (.refl _)⟩
                    · try simp only [nmL] at hc15
                      refine SRound.skip ?_
                      show SRound _ _ _ _ _
                      refine SRound.seq ?_
                      refine SRound.seqR ?_
                      refine SOps.loadRef 1 0 0 rfl flatB_36 rfl rfl rfl rfl ?_
                      refine SOps.lenAcc rfl sliceB_36_50_2 ?_
                      refine SOps.bin rfl rfl rfl ?_
                      refine SOps.nil ?_
                      refine SRound.cond rfl (fun hc16 => ?_) (fun hc16 => ?_)
                      · try simp only [nmL] at hc16
                        refine SRound.seqR ?_
                        exfalso
                        have h9 : (List.map encSg (outL a l hs cs w i)).length = (outL a l hs cs w i).length := List.length_map ..
                        omega
                      · try simp only [nmL] at hc16
                        refine SRound.skip ?_
                        show SRound _ _ _ _ _
                        refine SRound.region ?_
                        refine SOps.loadRef 1 0 0 rfl flatB_36 rfl rfl rfl rfl ?_
                        refine SOps.loadRefA 0 0 0 rfl aggB_50_2 rfl rfl rfl (Nat.le_of_ble_eq_true rfl) ?_
                        refine SOps.frame1 (SOps.litF rfl sliceB_36_50_2 zeroIs_50 rfl (SOps.nil rfl)) ?_
                        refine SOps.appendAcc [_, _, _, _] [] sliceB_36_50_2 elemB_50_2_40 rfl rfl rfl SrcD.isl (by simp) (by first | (simp [lenB] <;> (first | omega | (simp only [lenB]; omega))) | (simp only [lenB]; (first | omega | (simp only [lenB]; omega)))) (by first | (simp <;> (first | omega | (simp only [lenB]; omega))) | (first | omega | (simp only [lenB]; omega))) (fun b10 => ?_)
                        refine SOps.storeM 1 rfl rfl oneB_36 rfl ?_ (accD_one _ _ _)
                        refine SOps.nil ?_
                        first
                          | ((have hno : okSg a l w sg = false := by first | (rw [← hpre]; unfold preSg; simp_all; done) | (unfold okSg; simp_all; done)); rw [hno, if_neg (by simp)] at hnx; exact ⟨rfl, k, by rw [hnx]; exact .cons _ (.refl _)⟩)
                          | (have hyes : okSg a l w sg = true := by (unfold okSg; simp_all; done)); rw [hyes, if_pos rfl] at hnx; first | exact ⟨rfl, b8, by rw [hnx, List.map_append]; exact .cons _ (.refl _)⟩ | exact ⟨rfl, b9, by rw [hnx, List.map_append]; exact .cons _ (.refl _)⟩ | exact ⟨rfl, b10, by rw [hnx, List.map_append]; exact .cons _ (.refl _)⟩ | exact ⟨rfl, b11, by rw [hnx, List.map_append]; exact .cons _ (.refl _)⟩ | exact ⟨rfl, b12, by rw [hnx, List.map_append]; exact .cons _ (.refl _)⟩ | exact ⟨rfl, b13, by rw [hnx, List.map_append]; exact .cons _ (.refl _)⟩ | exact ⟨rfl, b14, by rw [hnx, List.map_append]; exact .cons _ (.refl _)⟩ | exact ⟨rfl, b15, by rw [hnx, List.map_append]; exact .cons _ (.refl _)⟩
            · obtain ⟨k, hsub⟩ := hI
              show SMCode _ _ _ _ _
              refine SMCode.weaken (st' := (⟨123, [(9, .ipin [.v (.string w)]), (10, .ref b0 0), (11, .ref b1 0), (19, .ipin [.fn 46 [.ipin [.v (.string (keepS l w))], .ipin [.imap es]]]), (20, .ipin [DLs (extA a), DRs l]), (21, .ref b7 0)], ([(b7, .row 36 1 [[accD 2 k ((outL a l hs cs w (candD (onceL hs) (onceL cs)).length).map encSg)]]), (b1, .row 30 1 [[.v (.int .i64 0)]]), (b0, .row 36 1 [[.v (.slice none 0 0)]])] ++ (accH 50 2 k ((outL a l hs cs w (candD (onceL hs) (onceL cs)).length).map encSg) ++ []))⟩ : St)) (St.Le.ofSub ⟨rfl, rfl, rfl, rfl, rfl, rfl, trivial⟩ hsub) ?_
              refine SMCode.seqR ?_
              refine SOps.loadRef 0 0 0 rfl flatB_36 rfl rfl rfl rfl ?_
              refine SOps.storeM 2 rfl rfl oneB_36 rfl ?_ (accD_one _ _ _)
              refine SOps.storeM 1 rfl rfl oneB_30 rfl ?_
              refine SOps.nil ?_
              refine SMCode.ret ?_
              have hfin : outL a l hs cs w (candD (onceL hs) (onceL cs)).length = splitL a l hs cs w := by unfold outL splitL candD; rw [List.length_map, List.take_length]
              have hsl : (splitL a l hs cs w).length ≤ 105 := by rw [← hfin]; exact Nat.le_trans (outL_len ..) (cand_few h5 h4)
              have hsr : splitR a l hs cs w = (splitL a l hs cs w, 0) := by unfold splitR; rw [if_pos harg, if_neg (by omega)]
              exact ⟨_, Res.two (.flat (i := 2) (k := 0) (j := 0) rfl flatB_36 rfl rfl rfl rfl) (.flat (i := 1) (k := 0) (j := 0) rfl flatB_30 rfl rfl rfl rfl), k, by rw [hsr, ← hfin], by rw [hsr, ← hfin]; exact fun p hp => .tail _ (.tail _ (.tail _ (by rw [List.append_nil]; exact hp)))⟩
theorem cSplit (hV : VS E) (a : List Letter) (l : List Rule) (hs cs : List ByteArray) (w : ByteArray) (hr : ∀ r ∈ l, SmR r) (h5 : hs.length ≤ 5) (h4 : cs.length ≤ 4) : GCall Tryd.prog E 19 [DLs a, DRs l, DStrs hs, DStrs cs, .v (.string w)] [] (fun d H => d = .tup [DSgs (splitR a l hs cs w).1, .v (.int .i64 (splitR a l hs cs w).2)] ∧ H = []) :=
  GCall.cleanAcc (cSplit0 hV a l hs cs w hr h5 h4)
end Go.GH
namespace Go.GH
open Go Go.Lib

theorem encBy_fffd : encBy 65533 = [239, 191, 189] := by decide +kernel
theorem encs_only (s : ByteArray) : ∀ (f p : Nat), s.size - p ≤ f → (encs (runesAt s p)).data.toList = s.data.toList.drop p → (steps s p).all (stepOK s) = true
  | 0, p, h, _ => by rw [steps_ge (by omega)]; rfl
  | f + 1, p, h, hv => by
    by_cases hp : p < s.size
    · have hw := decode_w s p
      rw [runesAt_lt hp, encs_cons_data] at hv
      have hok : stepOK s (p, ((Utf8.decode s p).1 : Int)) = true := by
        by_cases hr : ((Utf8.decode s p).1 : Int) = 65533
        · rw [hr] at hv ⊢
          rw [encBy_fffd] at hv
          have hl := congrArg List.length hv
          simp only [List.length_append, List.length_cons, List.length_nil, List.length_drop, Array.length_toList, ByteArray.size_data] at hl
          refine stepOK_yes (by omega) ?_
          apply ByteArray.ext
          apply Array.toList_inj.1
          have := congrArg (fun l => l.take 3) hv
          rw [extract_eq, ← this]
          rfl
        · exact stepOK_no hr
      rw [steps_lt hp, List.all_cons, hok, Bool.true_and]
      refine encs_only s f _ (by omega) ?_
      have hb := step_bytes s p hp hok
      rw [hb] at hv
      have h2 : (s.data.toList.drop p).take (Utf8.decode s p).2 ++ (s.data.toList.drop p).drop (Utf8.decode s p).2 = s.data.toList.drop p := List.take_append_drop ..
      rw [← h2] at hv
      rw [← List.drop_drop]
      have := List.append_cancel_left (hv.trans (by rw [h2]; exact h2.symm))
      exact this
    · rw [steps_ge (by omega)]; rfl
theorem encs_iff (s : ByteArray) : decide (encs (runes s) = s) = utf8R s := by
  rw [Bool.eq_iff_iff, decide_eq_true_eq]
  constructor
  · intro h
    exact encs_only s _ 0 (Nat.le_refl _) (by rw [runesAt_zero, h, List.drop_zero])
  · exact encs_runes
theorem encs_snoc (l : List Int) (r : Int) : encs (l ++ [r]) = encs l ++ Utf8.encode r := by
  rw [encs_append, encs, encs]
  apply ByteArray.ext
  simp
theorem idxs_runes (a : List Letter) (s : ByteArray) : (idxs a s).length = (runes s).length := by simp [idxs]
theorem validA_proper (a : List Letter) : validA a = (decide (1 ≤ a.length) && decide (a.length ≤ 64) && (properB a && decide (a.length ≤ 65))) := by
  rw [Bool.eq_iff_iff, validA_iff]
  simp only [Bool.and_eq_true, decide_eq_true_eq, properB_iff]
  constructor
  · rintro ⟨⟨h1, h2⟩, h3, h4⟩
    exact ⟨⟨h1, h2⟩, ⟨h3, h4⟩, by omega⟩
  · rintro ⟨⟨h1, h2⟩, ⟨h3, h4⟩, _⟩
    exact ⟨⟨h1, h2⟩, h3, h4⟩
theorem byte61 (b : UInt8) : (b == 61) = decide ((b.toNat : Int) = 61) := by
  rw [Bool.eq_iff_iff, beq_iff_eq, decide_eq_true_eq]
  constructor
  · rintro rfl; rfl
  · intro h
    exact UInt8.toNat_inj.1 (show b.toNat = 61 by omega)
theorem list_at {s : ByteArray} {j : Nat} (h : j < s.size) (h2 : j < s.data.toList.length) : s.data.toList[j] = s[j] := by simp; rfl
theorem eq_next {s : ByteArray} {j : Nat} (h : j < s.size) (hn : ¬ ((s[j]).toNat : Int) = 61) (hg : (s.data.toList.take j).any (fun b => b == 61) = false) : (s.data.toList.take (j + 1)).any (fun b => b == 61) = false := by
  have h2 : j < s.data.toList.length := by simpa using h
  rw [take_next h2, List.any_append, hg, Bool.false_or, List.any_cons, List.any_nil, Bool.or_false, list_at h h2, byte61]
  exact decide_eq_false hn
theorem eq_here {s : ByteArray} {j : Nat} (h : j < s.size) (he : ((s[j]).toNat : Int) = 61) : hasEq s = true := by
  have h2 : j < s.data.toList.length := by simpa using h
  rw [hasEq, List.any_eq_true]
  exact ⟨_, List.getElem_mem h2, by rw [list_at h h2, byte61]; exact decide_eq_true he⟩
def aw14A : List Letter := [⟨97, 1⟩, ⟨101, 1⟩, ⟨116, 2⟩, ⟨100, 18⟩]
def aw14R : List Rule := [⟨116, ⟨#[100]⟩, [⟨1, ⟨#[]⟩, false, false⟩], [⟨2147483648, ⟨#[]⟩, false, false⟩, ⟨1, ⟨#[]⟩, false, false⟩], false, false⟩, ⟨97, ⟨#[]⟩, [], [⟨2147483648, ⟨#[]⟩, false, false⟩, ⟨0, ⟨#[97]⟩, false, false⟩], false, false⟩]
def sTat : ByteArray := ⟨#[116, 97, 116]⟩
def sTa : ByteArray := ⟨#[116, 97]⟩
def sAt : ByteArray := ⟨#[97, 116]⟩
def sE : ByteArray := ⟨#[101]⟩
def sT : ByteArray := ⟨#[116]⟩
def sTade : ByteArray := ⟨#[116, 97, 100, 101]⟩
theorem aw14_sm : ∀ r ∈ aw14R, SmR r := fun r hr => by
  simp only [aw14R, List.mem_cons, List.not_mem_nil, or_false] at hr
  rcases hr with rfl | rfl <;> exact ⟨by decide +kernel, by decide +kernel, by decide +kernel⟩
theorem aw14_valid : validS aw14A aw14R = true := by kernel_rfl
theorem aw14_att1 : attR aw14A aw14R sTat sE = (sTade, 0) := by kernel_rfl
theorem aw14_att2 : attR aw14A aw14R sTa sAt = (sTat, 0) := by kernel_rfl
theorem aw14_split : (splitR aw14A aw14R [sTat, sTa] [sAt, sT] sTat).1.length = 3 ∧ (splitR aw14A aw14R [sTat, sTa] [sAt, sT] sTat).2 = 0 := ⟨by kernel_rfl, by kernel_rfl⟩
end Go.GH
namespace Go.GH
open Go Go.Proofs
variable {E : Env}
theorem q6Index (a : List Letter) (r : Int)  : GCall Tryd.prog E 72 [DLs a, .v (.int .i32 r)] [] (fun d H => d = .v (.int .i64 (idxI a r)) ∧ H = []) := by
  refine GCall.body (C := ⟨Tryd.prog, E, true⟩) Tryd.func72 rfl (fun _ => rfl) (by kernel_rfl) rfl ?_
  refine SCode.seqR ?_
  refine SOps.assign rfl ?_
  refine SOps.nil ?_
  refine SCode.seq ?_
  refine SCode.seqR ?_
  refine SOps.assign rfl ?_
  refine SOps.nil ?_
  refine SCode.block ?_
  refine SCode.loop1 (fun (i : Nat) => (⟨20, [(0, DLs a), (1, .v (.int .i32 r)), (5, .v (.int .i64 (i : Int)))], []⟩ : St)) (fun (i : Nat) => i ≤ a.length ∧ ∀ l ∈ a.take i, l.rune ≠ r) (fun (i : Nat) => a.length - i) (0) (by simp) (St.Le.of ⟨(by first | rfl | (show some _ = some _; simp)), (by first | rfl | (show some _ = some _; simp)), (by first | rfl | (show some _ = some _; simp)), trivial⟩ rfl (by first | rfl | (simp))) ?_
  rintro i ⟨hi, hf⟩
  refine SCode.fact (isl_len (t := 0) rfl) (fun hB => ?_)
  simp only [List.length_map, lenB] at hB
  refine SCode.seq ?_
  refine SCode.seqR ?_
  refine SOps.move rfl ?_
  refine SOps.move rfl ?_
  refine SOps.lenM rfl sliceB_22_28_2 ?_
  refine SOps.bin rfl rfl rfl ?_
  refine SOps.nil ?_
  refine SCode.cond rfl (fun hc1 => ?_) (fun hc1 => ?_)
  · try simp only [nmL] at hc1
    refine SCode.skip ?_
    show SCode _ _ _ _
    refine SCode.seq ?_
    refine SCode.block ?_
    refine SCode.seqR ?_
    refine SOps.move rfl ?_
    refine SOps.move rfl ?_
    refine SOps.indexM (i) rfl rfl sliceB_22_28_2 (by omega) (by omega) ?_
    refine SOps.fieldPin rfl fieldB_28_0_0 ?_
    refine SOps.loadPin rfl flatB_21 ?_
    refine SOps.move rfl ?_
    refine SOps.bin rfl rfl rfl ?_
    refine SOps.nil ?_
    refine SCode.cond rfl (fun hc2 => ?_) (fun hc2 => ?_)
    · try simp only [nmL] at hc2
      refine SCode.seqR ?_
      refine SOps.move rfl ?_
      refine SOps.assign rfl ?_
      refine SOps.nil ?_
      refine SCode.ret ?_
      have hx : idx a r = some i := idx_drop hf (by omega) hc2
      exact ⟨_, Res.one (.tmp rfl), by rw [idxI_some hx], rfl⟩
    · try simp only [nmL] at hc2
      refine SCode.skip ?_
      show SCode _ _ _ _
      refine SCode.region ?_
      refine SOps.move rfl ?_
      refine SOps.addI rfl rfl (by omega) (by omega) ?_
      refine SOps.assign rfl ?_
      refine SOps.nil ?_
      exact ⟨i + 1, by exact ⟨by omega, take_more hf (by omega) hc2⟩, by omega, (St.Le.of ⟨(by first | rfl | (show some _ = some _; simp)), (by first | rfl | (show some _ = some _; simp)), (by first | rfl | (show some _ = some _; simp)), trivial⟩ rfl (by first | rfl | (simp)))⟩
  · try simp only [nmL] at hc1
    refine SCode.exit ?_
    show SCode _ _ _ _
    refine SCode.seqR ?_
    refine SOps.assign rfl ?_
    refine SOps.nil ?_
    refine SCode.ret ?_
    have hx : idx a r = none := idx_none.2 (by rw [List.take_of_length_le (by omega)] at hf; exact hf)
    exact ⟨_, Res.one (.tmp rfl), by rw [idxI_none hx], rfl⟩
theorem q6Over (a : List Letter) (s : ByteArray) (hs : s.size ≤ 1048576) : GCall Tryd.prog E 41 [DLs a, .v (.string s)] [] (fun d H => d = (if (runes s).all (fun r => (idx a r).isSome) then .tup [DNats (idxs a s), .v (.bool (utf8R s))] else .tup [.v (.slice none 0 0), .v (.bool false)]) ∧ H = []) := by
  refine GCall.body (C := ⟨Tryd.prog, E, true⟩) Tryd.func41 rfl (fun _ => rfl) (by kernel_rfl) rfl ?_
  refine SCode.seqR ?_
  refine SOps.assign rfl ?_
  refine SOps.assign rfl ?_
  refine SOps.nil ?_
  refine SCode.seqR ?_
  refine SOps.litO sliceB_43_3_1 zeroIs_3 rfl (fun b0 hb_0 => ?_)
  refine SOps.assign rfl ?_
  refine SOps.nil ?_
  refine SCode.seqR ?_
  refine SOps.assign rfl ?_
  refine SOps.nil ?_
  refine SCode.seq ?_
  refine SCode.seqR ?_
  refine SOps.move rfl ?_
  refine SOps.rangeStr rfl strB_9 (fun b1 hb_1 => ?_)
  refine SOps.nil ?_
  refine SCode.block ?_
  refine SCode.loop5 (fun (p : Nat) (b : Nat) (l : List Nat) (kb : Nat) (back : List Int) => (⟨34, [(0, DLs a), (1, .v (.string s)), (6, .sl kb 1 0 l.length), (7, .v (.string (encs back))), (13, .it b)], [(b, .iter s p), (kb, .row 3 1 (l.map encN))]⟩ : St)) (fun (p : Nat) (b : Nat) (l : List Nat) (kb : Nat) (back : List Int) => l.length ≤ p ∧ (encs back).size ≤ 4 * p ∧ (runesAt s p).all (fun r => (idx a r).isSome) = (runes s).all (fun r => (idx a r).isSome) ∧ l ++ (runesAt s p).map (fun r => (idx a r).getD 0) = idxs a s ∧ back ++ runesAt s p = runes s) (fun (p : Nat) (b : Nat) (l : List Nat) (kb : Nat) (back : List Int) => s.size - p) (0) (b1) ([]) (b0) ([]) (by exact ⟨Nat.le_refl _, Nat.le_refl _, rfl, rfl, rfl⟩) (St.Le.of ⟨(by first | rfl | (show some _ = some _; simp)), (by first | rfl | (show some _ = some _; simp)), (by first | rfl | (show some _ = some _; simp)), (by first | rfl | (show some _ = some _; simp)), (by first | rfl | (show some _ = some _; simp)), trivial⟩ rfl (by first | rfl | (simp))) ?_
  rintro p b l kb back ⟨hln, hbk, ho, hl, hbr⟩
  refine SCode.seqR ?_
  refine SOps.next 0 rfl rfl (fun hn1 => ?_) (fun hn1 => ?_) (by first | omega | (simp only [lenB]; omega))
  · refine SOps.extract rfl rfl ?_
    refine SOps.nil ?_
    refine SCode.seq ?_
    refine SCode.cond rfl (fun _ => ?_) (fun h => by cases h)
    refine SCode.skip ?_
    show SCode _ _ _ _
    refine SCode.block ?_
    refine SCode.seqR ?_
    refine SOps.extract rfl rfl ?_
    refine SOps.assign rfl ?_
    refine SOps.nil ?_
    refine SCode.seqR ?_
    refine SOps.move rfl ?_
    refine SOps.move rfl ?_
    refine SOps.callP (q6Index _ _) rfl ?_
    rintro _ rfl
    refine SOps.assign rfl ?_
    refine SOps.nil ?_
    refine SCode.seq ?_
    refine SCode.seqR ?_
    refine SOps.move rfl ?_
    refine SOps.bin rfl rfl rfl ?_
    refine SOps.nil ?_
    refine SCode.cond rfl (fun hc2 => ?_) (fun hc2 => ?_)
    · try simp only [nmL] at hc2
      refine SCode.seqR ?_
      refine SOps.assign rfl ?_
      refine SOps.assign rfl ?_
      refine SOps.nil ?_
      refine SCode.drop ?_
      refine SCode.ret ?_
      exact ⟨_, Res.two (.tmp rfl) (.tmp rfl), by rw [if_neg (fun h => by rw [← ho, runes_step hn1] at h; cases hx : idx a ((Utf8.decode s p).1 : Int) with | none => rw [hx] at h; simp at h | some k => rw [idxI_some hx] at hc2; omega)], rfl⟩
    · try simp only [nmL] at hc2
      obtain ⟨k, hk⟩ := idxI_nonneg.1 hc2
      have hki := idxI_some hk
      refine SCode.skip ?_
      show SCode _ _ _ _
      refine SCode.seqR ?_
      refine SOps.move rfl ?_
      refine SOps.move rfl ?_
      refine SOps.reSlot (t := 23) rfl (show _ = DV.v (.int .i64 ((k : Nat) : Int)) by rw [hki]) ?_
      refine SOps.litF rfl sliceB_43_3_1 zeroIs_3 rfl ?_
      refine SOps.appendOwn 1 sliceB_43_3_1 elemB_3_1_8 rfl rfl rfl (by simp) SrcD.isl (by simp) (by first | (simp [lenB] <;> (first | omega | (simp only [lenB]; omega))) | (simp only [lenB]; (first | omega | (simp only [lenB]; omega)))) (by first | (simp <;> (first | omega | (simp only [lenB]; omega))) | (first | omega | (simp only [lenB]; omega))) (fun b2 hb_2 => ?_)
      refine SOps.assign rfl ?_
      refine SOps.nil ?_
      refine SCode.region ?_
      refine SOps.move rfl ?_
      refine SOps.move rfl ?_
      refine SOps.convIntStr rfl someB_21 strB_9 ?_
      refine SOps.concat rfl rfl (by simp only [lenB]; have := encode_size ((Utf8.decode s p).1 : Int); omega) ?_
      refine SOps.assign rfl ?_
      refine SOps.nil ?_
      have hes := encode_size ((Utf8.decode s p).1 : Int)
      exact ⟨p + (Utf8.decode s p).2, b, l ++ [k], b2, back ++ [((Utf8.decode s p).1 : Int)], ⟨by have := decode_w s p; simp; omega, by rw [encs_snoc, ByteArray.size_append]; have := decode_w s p; omega, by rw [← ho, runes_step hn1, hk]; rfl, by rw [← hl, runesAt_lt hn1]; simp [hk], by rw [← hbr, runesAt_lt hn1]; simp⟩, by have := decode_w s p; omega, St.Le.of ⟨rfl, rfl, (by show some _ = some _; simp), (by show some _ = some _; rw [encs_snoc]), rfl, trivial⟩ rfl (by rw [List.map_append]; rfl)⟩
  · refine SOps.extract rfl rfl ?_
    refine SOps.nil ?_
    refine SCode.seq ?_
    refine SCode.cond rfl (fun h => by cases h) (fun _ => ?_)
    refine SCode.exit ?_
    show SCode _ _ _ _
    refine SCode.seqR ?_
    refine SOps.freezeS (t := 6) 1 rfl rfl rfl (by simp) ?_
    refine SOps.move rfl ?_
    refine SOps.move rfl ?_
    refine SOps.move rfl ?_
    refine SOps.bin rfl rfl rfl ?_
    refine SOps.assign rfl ?_
    refine SOps.assign rfl ?_
    refine SOps.nil ?_
    refine SCode.drop ?_
    refine SCode.ret ?_
    have hb2 : back = runes s := by rw [← hbr, runesAt_ge hn1, List.append_nil]
    have hl2 : l = idxs a s := by rw [← hl, runesAt_ge hn1]; simp
    exact ⟨_, Res.two (.tmp rfl) (.tmp rfl), by rw [if_pos (by rw [← ho, runesAt_ge hn1]; rfl), hb2, hl2, encs_iff], rfl⟩
theorem q6Code (r : Int)  : GCall Tryd.prog E 82 [.v (.int .i32 r)] [] (fun d H => d = .v (.bool (goodR r)) ∧ H = []) := by
  refine GCall.body (C := ⟨Tryd.prog, E, true⟩) Tryd.func82 rfl (fun _ => rfl) (by kernel_rfl) rfl ?_
  refine SCode.seqR ?_
  refine SOps.assign rfl ?_
  refine SOps.nil ?_
  refine SCode.seqR ?_
  refine SOps.move rfl ?_
  refine SOps.bin rfl rfl rfl ?_
  refine SOps.move rfl ?_
  refine SOps.caseB 5 rfl (fun hb1 => ?_) (fun hb1 => ?_)
  · try simp only [nmL] at hb1
    refine SOps.move rfl ?_
    refine SOps.bin rfl rfl rfl ?_
    refine SOps.move rfl ?_
    refine SOps.caseB 8 rfl (fun hb2 => ?_) (fun hb2 => ?_)
    · try simp only [nmL] at hb2
      refine SOps.skip rfl ?_
      refine SOps.skip rfl ?_
      refine SOps.pick rfl rfl ?_
      refine SOps.pick rfl rfl ?_
      refine SOps.move rfl ?_
      refine SOps.move rfl ?_
      refine SOps.bin rfl rfl rfl ?_
      refine SOps.pick rfl rfl ?_
      refine SOps.assign rfl ?_
      refine SOps.nil ?_
      refine SCode.ret ?_
      exact ⟨_, Res.one (.tmp rfl), congrArg (fun b => DV.v (.bool b)) (by rw [Bool.eq_iff_iff]; simp only [goodR, runeOK, decide_eq_true_eq, Bool.false_eq_true, Bool.true_eq_false, beq_iff_eq]; first | omega | (simp; omega)), rfl⟩
    · try simp only [nmL] at hb2
      refine SOps.move rfl ?_
      refine SOps.bin rfl rfl rfl ?_
      refine SOps.pick rfl rfl ?_
      refine SOps.pick rfl rfl ?_
      refine SOps.move rfl ?_
      refine SOps.caseB 13 rfl (fun hb3 => ?_) (fun hb3 => ?_)
      · try simp only [nmL] at hb3
        refine SOps.move rfl ?_
        refine SOps.bin rfl rfl rfl ?_
        refine SOps.pick rfl rfl ?_
        refine SOps.assign rfl ?_
        refine SOps.nil ?_
        refine SCode.ret ?_
        exact ⟨_, Res.one (.tmp rfl), congrArg (fun b => DV.v (.bool b)) (by rw [Bool.eq_iff_iff]; simp only [goodR, runeOK, decide_eq_true_eq, Bool.false_eq_true, Bool.true_eq_false, beq_iff_eq]; first | omega | (simp; omega)), rfl⟩
      · try simp only [nmL] at hb3
        refine SOps.skip rfl ?_
        refine SOps.skip rfl ?_
        refine SOps.pick rfl rfl ?_
        refine SOps.assign rfl ?_
        refine SOps.nil ?_
        refine SCode.ret ?_
        exact ⟨_, Res.one (.tmp rfl), congrArg (fun b => DV.v (.bool b)) (by rw [Bool.eq_iff_iff]; simp only [goodR, runeOK, decide_eq_true_eq, Bool.false_eq_true, Bool.true_eq_false, beq_iff_eq]; first | omega | (simp; omega)), rfl⟩
  · try simp only [nmL] at hb1
    refine SOps.skip rfl ?_
    refine SOps.skip rfl ?_
    refine SOps.skip rfl ?_
    refine SOps.skip rfl ?_
    refine SOps.skip rfl ?_
    refine SOps.skip rfl ?_
    refine SOps.pick rfl rfl ?_
    refine SOps.move rfl ?_
    refine SOps.skip rfl ?_
    refine SOps.skip rfl ?_
    refine SOps.pick rfl rfl ?_
    refine SOps.assign rfl ?_
    refine SOps.nil ?_
    refine SCode.ret ?_
    exact ⟨_, Res.one (.tmp rfl), congrArg (fun b => DV.v (.bool b)) (by rw [Bool.eq_iff_iff]; simp only [goodR, runeOK, decide_eq_true_eq, Bool.false_eq_true, Bool.true_eq_false, beq_iff_eq]; first | omega | (simp; omega)), rfl⟩
theorem q6Proper (a : List Letter)  : GCall Tryd.prog E 63 [DLs a] [] (fun d H => d = .v (.bool (properB a && decide (a.length ≤ 65))) ∧ H = []) := by
  refine GCall.body (C := ⟨Tryd.prog, E, true⟩) Tryd.func63 rfl (fun _ => rfl) (by kernel_rfl) rfl ?_
  refine SCode.seqR ?_
  refine SOps.assign rfl ?_
  refine SOps.nil ?_
  refine SCode.seq ?_
  refine SCode.seqR ?_
  refine SOps.fact (isl_len (t := 0) rfl) (fun hB => ?_)
  simp only [List.length_map, lenB] at hB
  refine SOps.move rfl ?_
  refine SOps.lenM rfl sliceB_22_28_2 ?_
  refine SOps.bin rfl rfl rfl ?_
  refine SOps.nil ?_
  refine SCode.cond rfl (fun hc1 => ?_) (fun hc1 => ?_)
  · try simp only [nmL] at hc1
    refine SCode.seqR ?_
    refine SOps.assign rfl ?_
    refine SOps.nil ?_
    refine SCode.ret ?_
    exact ⟨_, Res.one (.tmp rfl), congrArg (fun b => DV.v (.bool b)) (Eq.symm (Bool.eq_false_iff.2 (fun h => by simp only [Bool.and_eq_true, decide_eq_true_eq] at h; omega))), rfl⟩
  · try simp only [nmL] at hc1
    refine SCode.skip ?_
    show SCode _ _ _ _
    refine SCode.seq ?_
    refine SCode.seqR ?_
    refine SOps.assign rfl ?_
    refine SOps.nil ?_
    refine SCode.block ?_
    refine SCode.loop1 (fun (i : Nat) => (⟨32, [(0, DLs a), (3, .v (.int .i64 (i : Int)))], []⟩ : St)) (fun (i : Nat) => i ≤ a.length ∧ (∀ l ∈ a.take i, goodR l.rune = true) ∧ ((a.take i).map (·.rune)).Nodup) (fun (i : Nat) => a.length - i) (0) (by simp) (St.Le.of ⟨(by first | rfl | (show some _ = some _; simp)), (by first | rfl | (show some _ = some _; simp)), trivial⟩ rfl (by first | rfl | (simp))) ?_
    rintro i ⟨hi, hf⟩
    refine SCode.seq ?_
    refine SCode.seqR ?_
    refine SOps.move rfl ?_
    refine SOps.move rfl ?_
    refine SOps.lenM rfl sliceB_22_28_2 ?_
    refine SOps.bin rfl rfl rfl ?_
    refine SOps.nil ?_
    refine SCode.cond rfl (fun hc2 => ?_) (fun hc2 => ?_)
    · try simp only [nmL] at hc2
      refine SCode.skip ?_
      show SCode _ _ _ _
      refine SCode.seq ?_
      refine SCode.block ?_
      refine SCode.seq ?_
      have hi6 : i < a.length := by omega
      rcases hg : goodR (a[i]).rune with _ | _
      · apply SCode.drawAuto mixed_ [13, 14, 15, 16, 17, 18, 19, 20, 21, 22, 23, 24, 25, 26, 27, 28, 29, 30, 31] [[.inr 0], [.inr 3], [.inl 0, .inl 1], [.inl 2], [.inl 3], [.inl 4], [.inl 5], [.inl 6], [.inl 7], [.inl 7], [.inl 7], [.inl 7], [.inl 7], [.inl 7], [.inl 7], [.inl 7], [.inl 7], [.inl 7], [.inl 7, .inl 17]]
        · kernel_rfl
        · kernel_rfl
        · apply DOk.cons 13 
          · rfl
          · exact (NeedIs.inr _ rfl NeedIs.nil)
          · intro rest
            refine SOps.move rfl ?_
            exact SOps.nil rfl
          apply DOk.cons 14 
          · rfl
          · exact (NeedIs.inr _ rfl NeedIs.nil)
          · intro rest
            refine SOps.move rfl ?_
            exact SOps.nil rfl
          apply DOk.cons 15 
          · rfl
          · exact (NeedIs.inl 1 _ _ rfl rfl (NeedIs.inl 0 _ _ rfl rfl NeedIs.nil))
          · intro rest
            refine SOps.indexM (i) rfl rfl sliceB_22_28_2 (by first | omega | (simp only [lenB]; omega)) (by first | omega | (simp only [lenB]; omega)) ?_
            exact SOps.nil rfl
          apply DOk.cons 16 
          · rfl
          · exact (NeedIs.inl 0 _ _ rfl rfl NeedIs.nil)
          · intro rest
            refine SOps.fieldPin rfl fieldB_28_0_0 ?_
            exact SOps.nil rfl
          apply DOk.cons 17 
          · rfl
          · exact (NeedIs.inl 0 _ _ rfl rfl NeedIs.nil)
          · intro rest
            refine SOps.loadPin rfl flatB_21 ?_
            exact SOps.nil rfl
          apply DOk.cons 18 
          · rfl
          · exact (NeedIs.inl 0 _ _ rfl rfl NeedIs.nil)
          · intro rest
            refine SOps.callP (q6Code _) rfl ?_
            rintro _ rfl
            exact SOps.nil rfl
          apply DOk.cons 19 (.v (.bool true))
          · rfl
          · exact (NeedIs.inl 0 _ _ rfl rfl NeedIs.nil)
          · intro rest
            refine SOps.un rfl rfl ?_
            exact SOps.nil (congrArg (fun b => St.put _ 19 (.v (.bool b))) (by rw [hg]; rfl))
          apply DOk.cons 20 (.v (.bool true))
          · rfl
          · exact (NeedIs.inl 0 _ _ rfl rfl NeedIs.nil)
          · intro rest
            refine SOps.move rfl ?_
            exact SOps.nil (congrArg (fun b => St.put _ 20 (.v (.bool b))) (rfl))
          apply DOk.cons 21 
          · rfl
          · exact (NeedIs.inl 0 _ _ rfl rfl NeedIs.nil)
          · intro rest
            refine SOps.skip rfl ?_
            exact SOps.nil rfl
          apply DOk.cons 22 
          · rfl
          · exact (NeedIs.inl 1 _ _ rfl rfl NeedIs.nil)
          · intro rest
            refine SOps.skip rfl ?_
            exact SOps.nil rfl
          apply DOk.cons 23 
          · rfl
          · exact (NeedIs.inl 2 _ _ rfl rfl NeedIs.nil)
          · intro rest
            refine SOps.skip rfl ?_
            exact SOps.nil rfl
          apply DOk.cons 24 
          · rfl
          · exact (NeedIs.inl 3 _ _ rfl rfl NeedIs.nil)
          · intro rest
            refine SOps.skip rfl ?_
            exact SOps.nil rfl
          apply DOk.cons 25 
          · rfl
          · exact (NeedIs.inl 4 _ _ rfl rfl NeedIs.nil)
          · intro rest
            refine SOps.skip rfl ?_
            exact SOps.nil rfl
          apply DOk.cons 26 
          · rfl
          · exact (NeedIs.inl 5 _ _ rfl rfl NeedIs.nil)
          · intro rest
            refine SOps.skip rfl ?_
            exact SOps.nil rfl
          apply DOk.cons 27 
          · rfl
          · exact (NeedIs.inl 6 _ _ rfl rfl NeedIs.nil)
          · intro rest
            refine SOps.skip rfl ?_
            exact SOps.nil rfl
          apply DOk.cons 28 
          · rfl
          · exact (NeedIs.inl 7 _ _ rfl rfl NeedIs.nil)
          · intro rest
            refine SOps.skip rfl ?_
            exact SOps.nil rfl
          apply DOk.cons 29 
          · rfl
          · exact (NeedIs.inl 8 _ _ rfl rfl NeedIs.nil)
          · intro rest
            refine SOps.skip rfl ?_
            exact SOps.nil rfl
          apply DOk.cons 30 
          · rfl
          · exact (NeedIs.inl 9 _ _ rfl rfl NeedIs.nil)
          · intro rest
            refine SOps.skip rfl ?_
            exact SOps.nil rfl
          apply DOk.cons 31 (.v (.bool true))
          · rfl
          · exact (NeedIs.inl 10 _ _ rfl rfl (NeedIs.inl 0 _ _ rfl rfl NeedIs.nil))
          · intro rest
            refine SOps.pick rfl rfl ?_
            exact SOps.nil (congrArg (fun b => St.put _ 31 (.v (.bool b))) (rfl))
          exact DOk.nil
        · rfl
        · show SCode _ _ _ _
          refine SCode.cond rfl (fun _ => ?_) (fun h => by cases h)
          refine SCode.seqR ?_
          refine SOps.assign rfl ?_
          refine SOps.nil ?_
          refine SCode.ret ?_
          exact ⟨_, Res.one (.tmp rfl), congrArg (fun b => DV.v (.bool b)) (Eq.symm (Bool.eq_false_iff.2 (fun h => by have := (properB_iff.1 (show properB a = true by simp only [Bool.and_eq_true] at h; exact h.1)).1 _ (List.getElem_mem (show i < a.length by omega)); rw [this] at hg; cases hg))), rfl⟩
      · apply SCode.drawAuto mixed_ [13, 14, 15, 16, 17, 18, 19, 20, 21, 22, 23, 24, 25, 26, 27, 28, 29, 30, 31] [[.inr 0], [.inr 3], [.inl 0, .inl 1], [.inl 2], [.inl 3], [.inl 4], [.inl 5], [.inl 6], [.inl 7, .inr 0], [.inl 7, .inr 3], [.inl 7, .inl 8, .inl 9], [.inl 7, .inr 0], [.inl 7, .inr 3], [.inl 7, .inl 11, .inl 12], [.inl 7, .inl 13], [.inl 7, .inl 14], [.inl 7, .inl 10, .inl 15], [.inl 7, .inl 16], [.inl 7, .inl 17]]
        · kernel_rfl
        · kernel_rfl
        · apply DOk.cons 13 
          · rfl
          · exact (NeedIs.inr _ rfl NeedIs.nil)
          · intro rest
            refine SOps.move rfl ?_
            exact SOps.nil rfl
          apply DOk.cons 14 
          · rfl
          · exact (NeedIs.inr _ rfl NeedIs.nil)
          · intro rest
            refine SOps.move rfl ?_
            exact SOps.nil rfl
          apply DOk.cons 15 
          · rfl
          · exact (NeedIs.inl 1 _ _ rfl rfl (NeedIs.inl 0 _ _ rfl rfl NeedIs.nil))
          · intro rest
            refine SOps.indexM (i) rfl rfl sliceB_22_28_2 (by first | omega | (simp only [lenB]; omega)) (by first | omega | (simp only [lenB]; omega)) ?_
            exact SOps.nil rfl
          apply DOk.cons 16 
          · rfl
          · exact (NeedIs.inl 0 _ _ rfl rfl NeedIs.nil)
          · intro rest
            refine SOps.fieldPin rfl fieldB_28_0_0 ?_
            exact SOps.nil rfl
          apply DOk.cons 17 
          · rfl
          · exact (NeedIs.inl 0 _ _ rfl rfl NeedIs.nil)
          · intro rest
            refine SOps.loadPin rfl flatB_21 ?_
            exact SOps.nil rfl
          apply DOk.cons 18 
          · rfl
          · exact (NeedIs.inl 0 _ _ rfl rfl NeedIs.nil)
          · intro rest
            refine SOps.callP (q6Code _) rfl ?_
            rintro _ rfl
            exact SOps.nil rfl
          apply DOk.cons 19 (.v (.bool false))
          · rfl
          · exact (NeedIs.inl 0 _ _ rfl rfl NeedIs.nil)
          · intro rest
            refine SOps.un rfl rfl ?_
            exact SOps.nil (congrArg (fun b => St.put _ 19 (.v (.bool b))) (by rw [hg]; rfl))
          apply DOk.cons 20 (.v (.bool false))
          · rfl
          · exact (NeedIs.inl 0 _ _ rfl rfl NeedIs.nil)
          · intro rest
            refine SOps.move rfl ?_
            exact SOps.nil (congrArg (fun b => St.put _ 20 (.v (.bool b))) (rfl))
          apply DOk.cons 21 
          · rfl
          · exact (NeedIs.inl 0 _ _ rfl rfl (NeedIs.inr _ rfl NeedIs.nil))
          · intro rest
            refine SOps.move rfl ?_
            exact SOps.nil rfl
          apply DOk.cons 22 
          · rfl
          · exact (NeedIs.inl 1 _ _ rfl rfl (NeedIs.inr _ rfl NeedIs.nil))
          · intro rest
            refine SOps.move rfl ?_
            exact SOps.nil rfl
          apply DOk.cons 23 
          · rfl
          · exact (NeedIs.inl 2 _ _ rfl rfl (NeedIs.inl 1 _ _ rfl rfl (NeedIs.inl 0 _ _ rfl rfl NeedIs.nil)))
          · intro rest
            refine SOps.sliceT (n1 := 0) (i) sliceB_22_28_2 rfl rfl (by first | omega | (simp only [lenB]; omega)) (by first | omega | (simp only [lenB]; omega)) ?_
            exact SOps.nil rfl
          apply DOk.cons 24 
          · rfl
          · exact (NeedIs.inl 3 _ _ rfl rfl (NeedIs.inr _ rfl NeedIs.nil))
          · intro rest
            refine SOps.move rfl ?_
            exact SOps.nil rfl
          apply DOk.cons 25 
          · rfl
          · exact (NeedIs.inl 4 _ _ rfl rfl (NeedIs.inr _ rfl NeedIs.nil))
          · intro rest
            refine SOps.move rfl ?_
            exact SOps.nil rfl
          apply DOk.cons 26 
          · rfl
          · exact (NeedIs.inl 5 _ _ rfl rfl (NeedIs.inl 1 _ _ rfl rfl (NeedIs.inl 0 _ _ rfl rfl NeedIs.nil)))
          · intro rest
            refine SOps.indexM (i) rfl rfl sliceB_22_28_2 (by first | omega | (simp only [lenB]; omega)) (by first | omega | (simp only [lenB]; omega)) ?_
            exact SOps.nil rfl
          apply DOk.cons 27 
          · rfl
          · exact (NeedIs.inl 6 _ _ rfl rfl (NeedIs.inl 0 _ _ rfl rfl NeedIs.nil))
          · intro rest
            refine SOps.fieldPin rfl fieldB_28_0_0 ?_
            exact SOps.nil rfl
          apply DOk.cons 28 
          · rfl
          · exact (NeedIs.inl 7 _ _ rfl rfl (NeedIs.inl 0 _ _ rfl rfl NeedIs.nil))
          · intro rest
            refine SOps.loadPin rfl flatB_21 ?_
            exact SOps.nil rfl
          apply DOk.cons 29 
          · rfl
          · exact (NeedIs.inl 8 _ _ rfl rfl (NeedIs.inl 5 _ _ rfl rfl (NeedIs.inl 0 _ _ rfl rfl NeedIs.nil)))
          · intro rest
            refine SOps.callP (q6Index _ _) rfl ?_
            rintro _ rfl
            exact SOps.nil rfl
          apply DOk.cons 30 
          · rfl
          · exact (NeedIs.inl 9 _ _ rfl rfl (NeedIs.inl 0 _ _ rfl rfl NeedIs.nil))
          · intro rest
            refine SOps.bin rfl rfl rfl ?_
            exact SOps.nil rfl
          apply DOk.cons 31 
          · rfl
          · exact (NeedIs.inl 10 _ _ rfl rfl (NeedIs.inl 0 _ _ rfl rfl NeedIs.nil))
          · intro rest
            refine SOps.pick rfl rfl ?_
            exact SOps.nil rfl
          exact DOk.nil
        · rfl
        · show SCode _ _ _ _
          refine SCode.cond rfl (fun hc3 => ?_) (fun hc3 => ?_)
          · try simp only [nmL] at hc3
            refine SCode.seqR ?_
            refine SOps.assign rfl ?_
            refine SOps.nil ?_
            refine SCode.ret ?_
            exact ⟨_, Res.one (.tmp rfl), congrArg (fun b => DV.v (.bool b)) (Eq.symm (Bool.eq_false_iff.2 (fun h => by have := ((nodup_snoc (show i < a.length by omega)).1 (properB_take (by simp only [Bool.and_eq_true] at h; exact h.1) (i + 1)).2).2; rw [idxI_none this] at hc3; omega))), rfl⟩
          · try simp only [nmL] at hc3
            refine SCode.skip ?_
            show SCode _ _ _ _
            refine SCode.region ?_
            refine SOps.move rfl ?_
            refine SOps.addI rfl rfl (by first | omega | (simp only [lenB]; omega)) (by first | omega | (simp only [lenB]; omega)) ?_
            refine SOps.assign rfl ?_
            refine SOps.nil ?_
            exact ⟨i + 1, by exact ⟨by omega, take_more hf.1 (by omega) hg, (nodup_snoc (by omega)).2 ⟨hf.2, by cases h : idx (a.take i) (a[i]).rune with | none => rfl | some k => rw [idxI_some h] at hc3; omega⟩⟩, by omega, (St.Le.of ⟨(by first | rfl | (show some _ = some _; simp)), (by first | rfl | (show some _ = some _; simp)), trivial⟩ rfl (by first | rfl | (simp)))⟩
    · try simp only [nmL] at hc2
      refine SCode.exit ?_
      show SCode _ _ _ _
      refine SCode.seqR ?_
      refine SOps.assign rfl ?_
      refine SOps.nil ?_
      refine SCode.ret ?_
      exact ⟨_, Res.one (.tmp rfl), congrArg (fun b => DV.v (.bool b)) (Eq.symm (by rw [List.take_of_length_le (by omega)] at hf; rw [properB_iff.2 hf, decide_eq_true (by omega)]; rfl)), rfl⟩
theorem q10Alphabet (a : List Letter)  : GCall Tryd.prog E 35 [DLs a] [] (fun d H => d = .v (.bool (validA a)) ∧ H = []) := by
  refine GCall.body (C := ⟨Tryd.prog, E, true⟩) Tryd.func35 rfl (fun _ => rfl) (by kernel_rfl) rfl ?_
  refine SCode.seqR ?_
  refine SOps.assign rfl ?_
  refine SOps.nil ?_
  refine SCode.seqR ?_
  refine SOps.fact (isl_len (t := 0) rfl) (fun hB => ?_)
  simp only [List.length_map, lenB] at hB
  refine SOps.move rfl ?_
  refine SOps.lenM rfl sliceB_22_28_2 ?_
  refine SOps.bin rfl rfl rfl ?_
  refine SOps.move rfl ?_
  refine SOps.caseB 6 rfl (fun hb1 => ?_) (fun hb1 => ?_)
  · try simp only [nmL] at hb1
    refine SOps.move rfl ?_
    refine SOps.lenM rfl sliceB_22_28_2 ?_
    refine SOps.bin rfl rfl rfl ?_
    refine SOps.pick rfl rfl ?_
    refine SOps.move rfl ?_
    refine SOps.caseB 11 rfl (fun hb2 => ?_) (fun hb2 => ?_)
    · try simp only [nmL] at hb2
      refine SOps.move rfl ?_
      refine SOps.callP (q6Proper _) rfl ?_
      rintro _ rfl
      refine SOps.pick rfl rfl ?_
      refine SOps.assign rfl ?_
      refine SOps.nil ?_
      refine SCode.ret ?_
      exact ⟨_, Res.one (.tmp rfl), congrArg (fun b => DV.v (.bool b)) (by rw [validA_proper]; first | (rw [decide_eq_false (show ¬ 1 ≤ a.length by omega)]; rfl) | (rw [decide_eq_true (show 1 ≤ a.length by omega), decide_eq_false (show ¬ a.length ≤ 64 by omega)]; rfl) | (rw [decide_eq_true (show 1 ≤ a.length by omega), decide_eq_true (show a.length ≤ 64 by omega)]; rfl)), rfl⟩
    · try simp only [nmL] at hb2
      refine SOps.skip rfl ?_
      refine SOps.skip rfl ?_
      refine SOps.pick rfl rfl ?_
      refine SOps.assign rfl ?_
      refine SOps.nil ?_
      refine SCode.ret ?_
      exact ⟨_, Res.one (.tmp rfl), congrArg (fun b => DV.v (.bool b)) (by rw [validA_proper]; first | (rw [decide_eq_false (show ¬ 1 ≤ a.length by omega)]; rfl) | (rw [decide_eq_true (show 1 ≤ a.length by omega), decide_eq_false (show ¬ a.length ≤ 64 by omega)]; rfl) | (rw [decide_eq_true (show 1 ≤ a.length by omega), decide_eq_true (show a.length ≤ 64 by omega)]; rfl)), rfl⟩
  · try simp only [nmL] at hb1
    refine SOps.skip rfl ?_
    refine SOps.skip rfl ?_
    refine SOps.skip rfl ?_
    refine SOps.pick rfl rfl ?_
    refine SOps.move rfl ?_
    refine SOps.skip rfl ?_
    refine SOps.skip rfl ?_
    refine SOps.pick rfl rfl ?_
    refine SOps.assign rfl ?_
    refine SOps.nil ?_
    refine SCode.ret ?_
    exact ⟨_, Res.one (.tmp rfl), congrArg (fun b => DV.v (.bool b)) (by rw [validA_proper]; first | (rw [decide_eq_false (show ¬ 1 ≤ a.length by omega)]; rfl) | (rw [decide_eq_true (show 1 ≤ a.length by omega), decide_eq_false (show ¬ a.length ≤ 64 by omega)]; rfl) | (rw [decide_eq_true (show 1 ≤ a.length by omega), decide_eq_true (show a.length ≤ 64 by omega)]; rfl)), rfl⟩
theorem q10Word (a : List Letter) (s : ByteArray) (hs : s.size ≤ 1048576) : GCall Tryd.prog E 17 [DLs a, .v (.string s)] [] (fun d H => d = .v (.bool (isWordA a s)) ∧ H = []) := by
  have hil := idxs_len a s
  have hir := idxs_runes a s
  refine GCall.body (C := ⟨Tryd.prog, E, true⟩) Tryd.func17 rfl (fun _ => rfl) (by kernel_rfl) rfl ?_
  refine SCode.seqR ?_
  refine SOps.assign rfl ?_
  refine SOps.nil ?_
  refine SCode.seqR ?_
  refine SOps.move rfl ?_
  refine SOps.move rfl ?_
  rcases hal : (runes s).all (fun r => (idx a r).isSome) with _ | _
  · refine SOps.callP (q6Over a s hs) rfl ?_
    rintro _ rfl
    rw [if_neg (by rw [hal]; simp)]
    refine SOps.move rfl ?_
    refine SOps.extract rfl rfl ?_
    refine SOps.extract rfl rfl ?_
    refine SOps.assign rfl ?_
    refine SOps.assign rfl ?_
    refine SOps.nil ?_
    refine SCode.seqR ?_
    refine SOps.move rfl ?_
    refine SOps.move rfl ?_
    refine SOps.skip rfl ?_
    refine SOps.skip rfl ?_
    refine SOps.skip rfl ?_
    refine SOps.pick rfl rfl ?_
    refine SOps.assign rfl ?_
    refine SOps.nil ?_
    refine SCode.ret ?_
    exact ⟨_, Res.one (.tmp rfl), congrArg (fun b => DV.v (.bool b)) (by unfold isWordA overA; rw [hal]; first | (simp; done) | (rw [Bool.eq_iff_iff]; simp_all; done) | (rw [Bool.eq_iff_iff]; simp_all; omega)), rfl⟩
  · refine SOps.callP (q6Over a s hs) rfl ?_
    rintro _ rfl
    rw [if_pos hal]
    refine SOps.move rfl ?_
    refine SOps.extract rfl rfl ?_
    refine SOps.extract rfl rfl ?_
    refine SOps.assign rfl ?_
    refine SOps.assign rfl ?_
    refine SOps.nil ?_
    refine SCode.seqR ?_
    refine SOps.move rfl ?_
    refine SOps.move rfl ?_
    refine SOps.caseB 14 rfl (fun hb1 => ?_) (fun hb1 => ?_)
    · try simp only [nmL] at hb1
      refine SOps.move rfl ?_
      refine SOps.lenM rfl sliceB_43_3_1 ?_
      refine SOps.bin rfl rfl rfl ?_
      refine SOps.pick rfl rfl ?_
      refine SOps.assign rfl ?_
      refine SOps.nil ?_
      refine SCode.ret ?_
      exact ⟨_, Res.one (.tmp rfl), congrArg (fun b => DV.v (.bool b)) (by unfold isWordA overA; rw [hal]; first | (simp; done) | (rw [Bool.eq_iff_iff]; simp_all; done) | (rw [Bool.eq_iff_iff]; simp_all; omega)), rfl⟩
    · try simp only [nmL] at hb1
      refine SOps.skip rfl ?_
      refine SOps.skip rfl ?_
      refine SOps.skip rfl ?_
      refine SOps.pick rfl rfl ?_
      refine SOps.assign rfl ?_
      refine SOps.nil ?_
      refine SCode.ret ?_
      exact ⟨_, Res.one (.tmp rfl), congrArg (fun b => DV.v (.bool b)) (by unfold isWordA overA; rw [hal]; first | (simp; done) | (rw [Bool.eq_iff_iff]; simp_all; done) | (rw [Bool.eq_iff_iff]; simp_all; omega)), rfl⟩
theorem q14Extended (a : List Letter) (ha : a.length ≤ 1000000) : GCall Tryd.prog E 37 [DLs a] [] (fun d H => d = DLs (extA a) ∧ H = []) := by
  refine GCall.body (C := ⟨Tryd.prog, E, true⟩) Tryd.func37 rfl (fun _ => rfl) (by kernel_rfl) rfl ?_
  refine SCode.seqR ?_
  refine SOps.assign rfl ?_
  refine SOps.nil ?_
  refine SCode.seqR ?_
  refine SOps.litO sliceB_22_28_2 zeroIs_28 rfl (fun b0 hb_0 => ?_)
  refine SOps.move rfl ?_
  refine SOps.appendOwnE 0 sliceB_22_28_2 elemB_28_2_8 rfl rfl rfl (by simp) SrcD.isl (by simp [lenB]; omega) (by simp; omega) (fun bC => ?_)
  refine SOps.buildM placesB_28 zeroIs_28 rfl rfl ?_
  refine SOps.litF rfl sliceB_22_28_2 zeroIs_28 rfl ?_
  refine SOps.appendOwn 0 sliceB_22_28_2 elemB_28_2_8 rfl rfl rfl (by simp) SrcD.isl (by simp) (by simp [lenB]; omega) (by simp; omega) (fun bA _ => ?_)
  refine SOps.freezeS (t := 8) 0 rfl rfl rfl (by simp) ?_
  refine SOps.assign rfl ?_
  refine SOps.nil ?_
  refine SCode.ret ?_
  exact ⟨_, Res.one (.tmp rfl), by show DV.isl false 2 ([] ++ a.map encL ++ [encL eqL]) = DV.isl false 2 ((a ++ [eqL]).map encL); rw [List.map_append, List.nil_append]; rfl, rfl⟩
theorem q14Valid (hV : VS E) (a : List Letter) (l : List Rule) (hr : ∀ r ∈ l, SmR r) : GCall Tryd.prog E 14 [DLs a, DRs l] [] (fun d H => d = .v (.bool (validS a l)) ∧ H = []) := by
  refine GCall.body (C := ⟨Tryd.prog, E, true⟩) Tryd.func14 rfl (fun _ => rfl) (by kernel_rfl) rfl ?_
  refine SCode.seqR ?_
  refine SOps.assign rfl ?_
  refine SOps.nil ?_
  refine SCode.seq ?_
  refine SCode.seqR ?_
  refine SOps.move rfl ?_
  refine SOps.callP (q10Alphabet _) rfl ?_
  rintro _ rfl
  refine SOps.un rfl rfl ?_
  refine SOps.move rfl ?_
  refine SOps.caseB 12 rfl (fun hb1 => ?_) (fun hb1 => ?_)
  · try simp only [nmL] at hb1
    refine SOps.skip rfl ?_
    refine SOps.skip rfl ?_
    refine SOps.skip rfl ?_
    refine SOps.pick rfl rfl ?_
    refine SOps.move rfl ?_
    refine SOps.skip rfl ?_
    refine SOps.skip rfl ?_
    refine SOps.skip rfl ?_
    refine SOps.pick rfl rfl ?_
    refine SOps.nil ?_
    refine SCode.cond rfl (fun _ => ?_) (fun h => by cases h)
    refine SCode.seqR ?_
    refine SOps.assign rfl ?_
    refine SOps.nil ?_
    refine SCode.ret ?_
    exact ⟨_, Res.one (.tmp rfl), congrArg (fun b => DV.v (.bool b)) (Eq.symm (Bool.eq_false_iff.2 (fun h => by obtain ⟨v1, v2, v3, v4⟩ := validS_iff.1 h; have v5 := idxI_none v2; first | omega | simp_all))), rfl⟩
  · try simp only [nmL] at hb1
    refine SOps.move rfl ?_
    refine SOps.callP (qIndex _ _) rfl ?_
    rintro _ rfl
    refine SOps.bin rfl rfl rfl ?_
    refine SOps.pick rfl rfl ?_
    refine SOps.move rfl ?_
    refine SOps.caseB 17 rfl (fun hb2 => ?_) (fun hb2 => ?_)
    · try simp only [nmL] at hb2
      refine SOps.skip rfl ?_
      refine SOps.skip rfl ?_
      refine SOps.skip rfl ?_
      refine SOps.pick rfl rfl ?_
      refine SOps.nil ?_
      refine SCode.cond rfl (fun _ => ?_) (fun h => by cases h)
      refine SCode.seqR ?_
      refine SOps.assign rfl ?_
      refine SOps.nil ?_
      refine SCode.ret ?_
      exact ⟨_, Res.one (.tmp rfl), congrArg (fun b => DV.v (.bool b)) (Eq.symm (Bool.eq_false_iff.2 (fun h => by obtain ⟨v1, v2, v3, v4⟩ := validS_iff.1 h; have v5 := idxI_none v2; first | omega | simp_all))), rfl⟩
    · try simp only [nmL] at hb2
      refine SOps.move rfl ?_
      refine SOps.lenM rfl sliceB_23_47_6 ?_
      refine SOps.bin rfl rfl rfl ?_
      refine SOps.pick rfl rfl ?_
      refine SOps.nil ?_
      refine SCode.cond rfl (fun hc3 => ?_) (fun hc3 => ?_)
      · try simp only [nmL] at hc3
        refine SCode.seqR ?_
        refine SOps.assign rfl ?_
        refine SOps.nil ?_
        refine SCode.ret ?_
        exact ⟨_, Res.one (.tmp rfl), congrArg (fun b => DV.v (.bool b)) (Eq.symm (Bool.eq_false_iff.2 (fun h => by obtain ⟨v1, v2, v3, v4⟩ := validS_iff.1 h; have v5 := idxI_none v2; first | omega | simp_all))), rfl⟩
      · try simp only [nmL] at hc3
        refine SCode.skip ?_
        show SCode _ _ _ _
        refine SCode.seqR ?_
        have hal : a.length ≤ 64 := by have := validA_iff.1 (show validA a = true by simp_all); omega
        refine SOps.move rfl ?_
        refine SOps.callP (q14Extended _ (by omega)) rfl ?_
        rintro _ rfl
        refine SOps.assign rfl ?_
        refine SOps.nil ?_
        refine SCode.seq ?_
        refine SCode.seqR ?_
        refine SOps.assign rfl ?_
        refine SOps.nil ?_
        refine SCode.block ?_
        refine SCode.loop1 (fun (i : Nat) => (⟨55, [(0, DLs a), (1, DRs l), (5, DLs (extA a)), (6, .v (.int .i64 (i : Int)))], []⟩ : St)) (fun (i : Nat) => i ≤ l.length ∧ ∀ r ∈ l.take i, r.fr ≠ 61 ∧ hasEq r.«to» = false ∧ validR (extA a) r = true) (fun (i : Nat) => l.length - i) (0) (by simp) (St.Le.of ⟨(by first | rfl | (show some _ = some _; simp)), (by first | rfl | (show some _ = some _; simp)), (by first | rfl | (show some _ = some _; simp)), (by first | rfl | (show some _ = some _; simp)), trivial⟩ rfl (by first | rfl | (simp))) ?_
        rintro i ⟨hi, hf⟩
        refine SCode.seq ?_
        refine SCode.seqR ?_
        refine SOps.move rfl ?_
        refine SOps.move rfl ?_
        refine SOps.lenM rfl sliceB_23_47_6 ?_
        refine SOps.bin rfl rfl rfl ?_
        refine SOps.nil ?_
        refine SCode.cond rfl (fun hc4 => ?_) (fun hc4 => ?_)
        · try simp only [nmL] at hc4
          refine SCode.skip ?_
          show SCode _ _ _ _
          refine SCode.seq ?_
          refine SCode.block ?_
          refine SCode.seqR ?_
          have hil : i < l.length := by omega
          have hri := hr _ (List.getElem_mem hil)
          have hri1 := hri.1
          refine SOps.move rfl ?_
          refine SOps.move rfl ?_
          refine SOps.indexM (i) rfl rfl sliceB_23_47_6 (by first | omega | (simp only [lenB]; omega)) (by first | omega | (simp only [lenB]; omega)) ?_
          refine SOps.loadPinA rfl aggB_47_6 (Nat.le_of_ble_eq_true rfl) ?_
          refine SOps.alloc (sz := 6) zeroIs_47 (fun b0 hb_0 => ?_)
          refine SOps.storeAM 0 rfl rfl aggB_47_6 rfl ?_
          refine SOps.freezeRef (t := 7) 0 0 rfl rfl rfl rfl rfl ?_
          refine SOps.nil ?_
          refine SCode.seq ?_
          refine SCode.seqR ?_
          refine SOps.move rfl ?_
          refine SOps.loadPinA rfl aggB_47_6 (Nat.le_of_ble_eq_true rfl) ?_
          refine SOps.callP (qValid hV _ _) rfl ?_
          rintro _ rfl
          refine SOps.un rfl rfl ?_
          refine SOps.move rfl ?_
          refine SOps.caseB 38 rfl (fun hb5 => ?_) (fun hb5 => ?_)
          · try simp only [nmL] at hb5
            refine SOps.skip rfl ?_
            refine SOps.skip rfl ?_
            refine SOps.skip rfl ?_
            refine SOps.pick rfl rfl ?_
            refine SOps.nil ?_
            refine SCode.cond rfl (fun _ => ?_) (fun h => by cases h)
            refine SCode.seqR ?_
            refine SOps.assign rfl ?_
            refine SOps.nil ?_
            refine SCode.ret ?_
            exact ⟨_, Res.one (.tmp rfl), congrArg (fun b => DV.v (.bool b)) (Eq.symm (Bool.eq_false_iff.2 (fun h => by obtain ⟨v1, v2, v3, v4⟩ := validS_iff.1 h; obtain ⟨v5, v6, v7⟩ := v4 _ (List.getElem_mem (show i < l.length by omega)); simp_all))), rfl⟩
          · try simp only [nmL] at hb5
            refine SOps.fieldPin rfl fieldB_47_0_0 ?_
            refine SOps.loadPin rfl flatB_21 ?_
            refine SOps.bin rfl rfl rfl ?_
            refine SOps.pick rfl rfl ?_
            refine SOps.nil ?_
            refine SCode.cond rfl (fun hc6 => ?_) (fun hc6 => ?_)
            · try simp only [nmL] at hc6
              refine SCode.seqR ?_
              refine SOps.assign rfl ?_
              refine SOps.nil ?_
              refine SCode.ret ?_
              exact ⟨_, Res.one (.tmp rfl), congrArg (fun b => DV.v (.bool b)) (Eq.symm (Bool.eq_false_iff.2 (fun h => by obtain ⟨v1, v2, v3, v4⟩ := validS_iff.1 h; obtain ⟨v5, v6, v7⟩ := v4 _ (List.getElem_mem (show i < l.length by omega)); simp_all))), rfl⟩
            · try simp only [nmL] at hc6
              refine SCode.skip ?_
              show SCode _ _ _ _
              refine SCode.seqR ?_
              refine SOps.assign rfl ?_
              refine SOps.nil ?_
              refine SCode.block ?_
              refine SCode.loop1 (fun (j : Nat) => (⟨55, [(0, DLs a), (1, DRs l), (5, DLs (extA a)), (6, .v (.int .i64 (i : Int))), (7, .ipin (encR (l[i]))), (8, .v (.int .i64 (j : Int)))], []⟩ : St)) (fun (j : Nat) => j ≤ (l[i]).«to».size ∧ ((l[i]).«to».data.toList.take j).any (fun b => b == 61) = false) (fun (j : Nat) => (l[i]).«to».size - j) (0) (by exact ⟨Nat.zero_le _, rfl⟩) (St.Le.of ⟨(by first | rfl | (show some _ = some _; simp)), (by first | rfl | (show some _ = some _; simp)), (by first | rfl | (show some _ = some _; simp)), (by first | rfl | (show some _ = some _; simp)), (by first | rfl | (show some _ = some _; simp)), (by first | rfl | (show some _ = some _; simp)), trivial⟩ rfl (by first | rfl | (simp))) ?_
              rintro j ⟨hj, hg2⟩
              have hsl : (l[i]).«to».data.toList.length = (l[i]).«to».size := by simp
              refine SCode.seq ?_
              refine SCode.seqR ?_
              refine SOps.move rfl ?_
              refine SOps.fieldPin rfl fieldB_47_1_1 ?_
              refine SOps.loadPin rfl flatB_9 ?_
              refine SOps.lenStr rfl strB_9 ?_
              refine SOps.bin rfl rfl rfl ?_
              refine SOps.nil ?_
              refine SCode.cond rfl (fun hc7 => ?_) (fun hc7 => ?_)
              · try simp only [nmL] at hc7
                refine SCode.skip ?_
                show SCode _ _ _ _
                refine SCode.seq ?_
                refine SCode.block ?_
                refine SCode.seqR ?_
                refine SOps.fieldPin rfl fieldB_47_1_1 ?_
                refine SOps.loadPin rfl flatB_9 ?_
                refine SOps.move rfl ?_
                refine SOps.strIndexM (j) rfl rfl strB_9 (by first | omega | (simp only [lenB]; omega)) (by first | omega | (simp only [lenB]; omega)) ?_
                refine SOps.bin rfl rfl rfl ?_
                refine SOps.nil ?_
                refine SCode.cond rfl (fun hc8 => ?_) (fun hc8 => ?_)
                · try simp only [nmL] at hc8
                  refine SCode.seqR ?_
                  refine SOps.assign rfl ?_
                  refine SOps.nil ?_
                  refine SCode.ret ?_
                  exact ⟨_, Res.one (.tmp rfl), congrArg (fun b => DV.v (.bool b)) (Eq.symm (Bool.eq_false_iff.2 (fun h => by obtain ⟨v1, v2, v3, v4⟩ := validS_iff.1 h; obtain ⟨v5, v6, v7⟩ := v4 _ (List.getElem_mem (show i < l.length by omega)); rw [eq_here (show j < (l[i]).«to».size by omega) hc8] at v6; cases v6))), rfl⟩
                · try simp only [nmL] at hc8
                  refine SCode.skip ?_
                  show SCode _ _ _ _
                  refine SCode.region ?_
                  refine SOps.move rfl ?_
                  refine SOps.addI rfl rfl (by first | omega | (simp only [lenB]; omega)) (by first | omega | (simp only [lenB]; omega)) ?_
                  refine SOps.assign rfl ?_
                  refine SOps.nil ?_
                  exact ⟨j + 1, by exact ⟨by omega, eq_next (show j < (l[i]).«to».size by omega) hc8 hg2⟩, by omega, (St.Le.of ⟨(by first | rfl | (show some _ = some _; simp)), (by first | rfl | (show some _ = some _; simp)), (by first | rfl | (show some _ = some _; simp)), (by first | rfl | (show some _ = some _; simp)), (by first | rfl | (show some _ = some _; simp)), (by first | rfl | (show some _ = some _; simp)), trivial⟩ rfl (by first | rfl | (simp)))⟩
              · try simp only [nmL] at hc7
                refine SCode.exit ?_
                show SCode _ _ _ _
                refine SCode.region ?_
                refine SOps.move rfl ?_
                refine SOps.addI rfl rfl (by first | omega | (simp only [lenB]; omega)) (by first | omega | (simp only [lenB]; omega)) ?_
                refine SOps.assign rfl ?_
                refine SOps.nil ?_
                exact ⟨i + 1, by exact ⟨by omega, take_more hf (by omega) ⟨by simp_all, by rw [hasEq, ← hg2, List.take_of_length_le (by rw [hsl]; omega)], by simp_all⟩⟩, by omega, (St.Le.of ⟨(by first | rfl | (show some _ = some _; simp)), (by first | rfl | (show some _ = some _; simp)), (by first | rfl | (show some _ = some _; simp)), (by first | rfl | (show some _ = some _; simp)), trivial⟩ rfl (by first | rfl | (simp)))⟩
        · try simp only [nmL] at hc4
          refine SCode.exit ?_
          show SCode _ _ _ _
          refine SCode.seqR ?_
          refine SOps.assign rfl ?_
          refine SOps.nil ?_
          refine SCode.ret ?_
          exact ⟨_, Res.one (.tmp rfl), congrArg (fun b => DV.v (.bool b)) (Eq.symm (validS_iff.2 ⟨by simp_all, by cases hx : idx a 61 with | none => rfl | some k => (have := idxI_some hx; omega), by omega, all_of (by omega) hf⟩)), rfl⟩
end Go.GH
namespace Go.GH
open Go Go.Proofs
variable {E : Env}
theorem placesB_47 : placesB Tryd.prog 47 [(0, 1), (1, 1), (2, 1), (3, 1), (4, 1), (5, 1)] = true := by kernel_rfl
theorem placesB_87 : placesB Tryd.prog 87 [(0, 1), (1, 1), (2, 1), (3, 1)] = true := by kernel_rfl
theorem l14Letters   : GCall Tryd.prog E 28 [] [] (fun d H => d = DLs aw14A ∧ H = []) := by
  refine GCall.body (C := ⟨Tryd.prog, E, true⟩) Tryd.func28 rfl (fun _ => rfl) (by kernel_rfl) rfl ?_
  refine SCode.seqR ?_
  refine SOps.assign rfl ?_
  refine SOps.nil ?_
  refine SCode.seqR ?_
  refine SOps.buildM placesB_28 zeroIs_28 rfl rfl ?_
  refine SOps.buildM placesB_28 zeroIs_28 rfl rfl ?_
  refine SOps.buildM placesB_28 zeroIs_28 rfl rfl ?_
  refine SOps.buildM placesB_28 zeroIs_28 rfl rfl ?_
  refine SOps.litF rfl sliceB_22_28_2 zeroIs_28 rfl ?_
  refine SOps.assign rfl ?_
  refine SOps.nil ?_
  refine SCode.ret ?_
  exact ⟨_, Res.one (.tmp rfl), rfl, rfl⟩
theorem l14Rules   : GCall Tryd.prog E 29 [] [] (fun d H => d = DRs aw14R ∧ H = []) := by
  refine GCall.body (C := ⟨Tryd.prog, E, true⟩) Tryd.func29 rfl (fun _ => rfl) (by kernel_rfl) rfl ?_
  refine SCode.seqR ?_
  refine SOps.assign rfl ?_
  refine SOps.nil ?_
  refine SCode.seqR ?_
  refine SOps.buildM placesB_87 zeroIs_87 rfl rfl ?_
  refine SOps.litF rfl sliceB_45_87_4 zeroIs_87 rfl ?_
  refine SOps.buildM placesB_87 zeroIs_87 rfl rfl ?_
  refine SOps.buildM placesB_87 zeroIs_87 rfl rfl ?_
  refine SOps.litF rfl sliceB_45_87_4 zeroIs_87 rfl ?_
  refine SOps.buildM placesB_47 zeroIs_47 rfl rfl ?_
  refine SOps.buildM placesB_87 zeroIs_87 rfl rfl ?_
  refine SOps.buildM placesB_87 zeroIs_87 rfl rfl ?_
  refine SOps.litF rfl sliceB_45_87_4 zeroIs_87 rfl ?_
  refine SOps.buildM placesB_47 zeroIs_47 rfl rfl ?_
  refine SOps.relab (t := 10) (d' := .agg (encR (aw14R[1]'(by decide)))) rfl (fun w F v hv => rep_aggNil (sz := 4) 2 hv rfl) ?_
  refine SOps.litF rfl sliceB_23_47_6 zeroIs_47 rfl ?_
  refine SOps.assign rfl ?_
  refine SOps.nil ?_
  refine SCode.ret ?_
  exact ⟨_, Res.one (.tmp rfl), rfl, rfl⟩
def fewB (a : List Letter) (l : List Rule) : Bool := decide (a.length ≤ 6) && decide (l.length ≤ 5)
theorem l14Few (a : List Letter) (l : List Rule)  : GCall Tryd.prog E 15 [DLs a, DRs l] [] (fun d H => d = .v (.bool (fewB a l)) ∧ H = []) := by
  refine GCall.body (C := ⟨Tryd.prog, E, true⟩) Tryd.func15 rfl (fun _ => rfl) (by kernel_rfl) rfl ?_
  refine SCode.seqR ?_
  refine SOps.assign rfl ?_
  refine SOps.nil ?_
  refine SCode.seqR ?_
  refine SOps.move rfl ?_
  refine SOps.lenM rfl sliceB_22_28_2 ?_
  refine SOps.bin rfl rfl rfl ?_
  refine SOps.move rfl ?_
  refine SOps.caseB 8 rfl (fun hb1 => ?_) (fun hb1 => ?_)
  · try simp only [nmL] at hb1
    refine SOps.move rfl ?_
    refine SOps.lenM rfl sliceB_23_47_6 ?_
    refine SOps.bin rfl rfl rfl ?_
    refine SOps.pick rfl rfl ?_
    refine SOps.assign rfl ?_
    refine SOps.nil ?_
    refine SCode.ret ?_
    exact ⟨_, Res.one (.tmp rfl), congrArg (fun b => DV.v (.bool b)) (by unfold fewB; rw [Bool.eq_iff_iff]; simp only [Bool.and_eq_true, decide_eq_true_eq, Bool.false_eq_true]; first | omega | (simp only [false_iff]; omega)), rfl⟩
  · try simp only [nmL] at hb1
    refine SOps.skip rfl ?_
    refine SOps.skip rfl ?_
    refine SOps.skip rfl ?_
    refine SOps.pick rfl rfl ?_
    refine SOps.assign rfl ?_
    refine SOps.nil ?_
    refine SCode.ret ?_
    exact ⟨_, Res.one (.tmp rfl), congrArg (fun b => DV.v (.bool b)) (by unfold fewB; rw [Bool.eq_iff_iff]; simp only [Bool.and_eq_true, decide_eq_true_eq, Bool.false_eq_true]; first | omega | (simp only [false_iff]; omega)), rfl⟩
theorem a14Att1 (hV : VS E) : GCall Tryd.prog E 16 [DLs aw14A, DRs aw14R, .v (.string sTat), .v (.string sE)] [] (fun d H => d = .tup [.v (.string sTade), .v (.int .i64 0)] ∧ H = []) := GCall.mono (cAttach hV aw14A aw14R sTat sE aw14_sm) (fun d H h => ⟨h.1.trans (by rw [aw14_att1]; rfl), h.2⟩)
theorem a14Att2 (hV : VS E) : GCall Tryd.prog E 16 [DLs aw14A, DRs aw14R, .v (.string sTa), .v (.string sAt)] [] (fun d H => d = .tup [.v (.string sTat), .v (.int .i64 0)] ∧ H = []) := GCall.mono (cAttach hV aw14A aw14R sTa sAt aw14_sm) (fun d H h => ⟨h.1.trans (by rw [aw14_att2]; rfl), h.2⟩)
theorem a14Valid (hV : VS E) : GCall Tryd.prog E 13 [DLs aw14A, DRs aw14R] [] (fun d H => d = .v (.bool true) ∧ H = []) := GCall.mono (cValid hV aw14A aw14R aw14_sm) (fun d H h => ⟨h.1.trans (by rw [aw14_valid]), h.2⟩)
theorem a14Split (hV : VS E) : GCall Tryd.prog E 19 [DLs aw14A, DRs aw14R, DStrs [sTat, sTa], DStrs [sAt, sT], .v (.string sTat)] [] (fun d H => d = .tup [DSgs (splitR aw14A aw14R [sTat, sTa] [sAt, sT] sTat).1, .v (.int .i64 0)] ∧ H = []) := GCall.mono (cSplit hV aw14A aw14R [sTat, sTa] [sAt, sT] sTat aw14_sm (by decide) (by decide)) (fun d H h => ⟨h.1.trans (by rw [aw14_split.2]), h.2⟩)
theorem awake14 (hV : VS E)  : GCall Tryd.prog E 11 [] [] (fun d H => d = .v (.bool true) ∧ H = []) := by
  refine GCall.body (C := ⟨Tryd.prog, E, true⟩) Tryd.func11 rfl (fun _ => rfl) (by kernel_rfl) rfl ?_
  refine SCode.seqR ?_
  refine SOps.assign rfl ?_
  refine SOps.nil ?_
  refine SCode.seqR ?_
  refine SOps.callP (l14Letters) rfl ?_
  rintro _ rfl
  refine SOps.callP (l14Rules) rfl ?_
  rintro _ rfl
  refine SOps.callP (a14Att1 hV) rfl ?_
  rintro _ rfl
  refine SOps.move rfl ?_
  refine SOps.extract rfl rfl ?_
  refine SOps.extract rfl rfl ?_
  refine SOps.assign rfl ?_
  refine SOps.assign rfl ?_
  refine SOps.nil ?_
  refine SCode.seqR ?_
  refine SOps.callP (l14Letters) rfl ?_
  rintro _ rfl
  refine SOps.callP (l14Rules) rfl ?_
  rintro _ rfl
  refine SOps.callP (a14Att2 hV) rfl ?_
  rintro _ rfl
  refine SOps.move rfl ?_
  refine SOps.extract rfl rfl ?_
  refine SOps.extract rfl rfl ?_
  refine SOps.assign rfl ?_
  refine SOps.assign rfl ?_
  refine SOps.nil ?_
  refine SCode.seqR ?_
  refine SOps.callP (l14Letters) rfl ?_
  rintro _ rfl
  refine SOps.callP (l14Rules) rfl ?_
  rintro _ rfl
  refine SOps.litF rfl sliceB_35_9_1 zeroIs_9 rfl ?_
  refine SOps.litF rfl sliceB_35_9_1 zeroIs_9 rfl ?_
  refine SOps.callP (a14Split hV) rfl ?_
  rintro _ rfl
  refine SOps.move rfl ?_
  refine SOps.extract rfl rfl ?_
  refine SOps.extract rfl rfl ?_
  refine SOps.assign rfl ?_
  refine SOps.assign rfl ?_
  refine SOps.nil ?_
  refine SCode.seqR ?_
  refine SOps.callP (l14Letters) rfl ?_
  rintro _ rfl
  refine SOps.callP (l14Rules) rfl ?_
  rintro _ rfl
  refine SOps.callP (a14Valid hV) rfl ?_
  rintro _ rfl
  refine SOps.move rfl ?_
  refine SOps.move rfl ?_
  refine SOps.bin rfl rfl rfl ?_
  refine SOps.reSlot (t := 32) rfl (show _ = DV.v (.bool true) from by rfl) ?_
  refine SOps.pick rfl rfl ?_
  refine SOps.move rfl ?_
  refine SOps.move rfl ?_
  refine SOps.bin rfl rfl rfl ?_
  refine SOps.reSlot (t := 36) rfl (show _ = DV.v (.bool true) from by rfl) ?_
  refine SOps.pick rfl rfl ?_
  refine SOps.move rfl ?_
  refine SOps.move rfl ?_
  refine SOps.bin rfl rfl rfl ?_
  refine SOps.reSlot (t := 40) rfl (show _ = DV.v (.bool true) from by rfl) ?_
  refine SOps.pick rfl rfl ?_
  refine SOps.move rfl ?_
  refine SOps.move rfl ?_
  refine SOps.bin rfl rfl rfl ?_
  refine SOps.reSlot (t := 44) rfl (show _ = DV.v (.bool true) from by rfl) ?_
  refine SOps.pick rfl rfl ?_
  refine SOps.move rfl ?_
  refine SOps.move rfl ?_
  refine SOps.lenM rfl sliceB_36_50_2 ?_
  refine SOps.bin rfl rfl rfl ?_
  refine SOps.reSlot (t := 49) rfl (show _ = DV.v (.bool true) from congrArg (fun b => DV.v (.bool b)) (by simp [aw14_split.1])) ?_
  refine SOps.pick rfl rfl ?_
  refine SOps.move rfl ?_
  refine SOps.move rfl ?_
  refine SOps.bin rfl rfl rfl ?_
  refine SOps.reSlot (t := 53) rfl (show _ = DV.v (.bool true) from by rfl) ?_
  refine SOps.pick rfl rfl ?_
  refine SOps.assign rfl ?_
  refine SOps.nil ?_
  refine SCode.ret ?_
  exact ⟨_, Res.one (.tmp rfl), rfl, rfl⟩
def AW14 (E : Env) : Prop := GCall Tryd.prog E 11 [] [] (fun d H => d = .v (.bool true) ∧ H = [])
end Go.GH
namespace Go.GH
open Go Go.Lib Go.Proofs Go.Proofs.YtmmdhmlbbajjiaaDoor
theorem u8Extra : U8Extra Tryd.prog Tryd.laysValid_ren :=
  ⟨by kernel_rfl, by kernel_rfl, by kernel_rfl, by kernel_rfl, by kernel_rfl, by kernel_rfl, by kernel_rfl⟩
theorem laid_E0 (W : World) (h : laidMetH Tryd.prog Rows.cliticValidRow.laid W) : E0.holds W (AllF W) := by
  have h' : laidMet Tryd.prog [("unicode/utf8.acceptRanges", Rows.laid_unicode_utf8_acceptRanges), ("unicode/utf8.first", Rows.laid_unicode_utf8_first)] W := h
  have e1 : Rows.laid_unicode_utf8_first = firstData := by kernel_rfl
  have e2 : (Rows.laid_unicode_utf8_acceptRanges : DataW Unit) = acceptData := by kernel_rfl
  rw [e1, e2] at h'
  exact tabE_all (utf8Tabs_of_readsT (U8Types.of196 Tryd.laysValid) u8Extra (laidMet.reads h' (.tail _ (.head _))) (laidMet.reads h' (.head _)))
theorem vsE0 : VS E0 := vs_ok
theorem awE0 : AW14 E0 := awake14 vsE0
end Go.GH
namespace Go.GH
open Go

theorem map_of {α β : Type} {f : α → β} : ∀ {es : List β}, (∀ e ∈ es, ∃ x, e = f x) → ∃ xs : List α, es = xs.map f
  | [], _ => ⟨[], rfl⟩
  | e :: es, h => by
    obtain ⟨x, rfl⟩ := h e (List.mem_cons_self ..)
    obtain ⟨xs, rfl⟩ := map_of (fun e he => h e (List.mem_cons_of_mem _ he))
    exact ⟨x :: xs, rfl⟩
def ElemIs (L : List DTy) (e : List DV) : Prop := e.length = L.length ∧ ∀ (j : Nat) d ty, e[j]? = some d → L[j]? = some ty → HasD ty d
theorem HasD.slice {α : Type} {L : List DTy} {f : α → List DV} {d : DV} (h : HasD (.sl L) d) (hf : ∀ e, ElemIs L e → ∃ x, e = f x) : ∃ xs : List α, d = .isl false L.length (xs.map f) := by
  cases h with
  | @sl L es hl hd =>
    obtain ⟨xs, rfl⟩ := map_of (f := f) (es := es) (fun e he => by
      obtain ⟨i, hi⟩ := List.mem_iff_getElem?.1 he
      exact hf e ⟨hl i e hi, fun j d ty hj ht => hd i e j d ty hi hj ht⟩)
    exact ⟨xs, rfl⟩
theorem ElemIs.one {ty : DTy} {e : List DV} (h : ElemIs [ty] e) : ∃ d, e = [d] ∧ HasD ty d := by
  obtain ⟨h1, h2⟩ := h
  match e, h1 with
  | [d], _ => exact ⟨d, rfl, h2 0 d ty rfl rfl⟩
theorem ElemIs.two {t1 t2 : DTy} {e : List DV} (h : ElemIs [t1, t2] e) : ∃ d1 d2, e = [d1, d2] ∧ HasD t1 d1 ∧ HasD t2 d2 := by
  obtain ⟨h1, h2⟩ := h
  match e, h1 with
  | [d1, d2], _ => exact ⟨d1, d2, rfl, h2 0 d1 t1 rfl rfl, h2 1 d2 t2 rfl rfl⟩
theorem ElemIs.three {t1 t2 t3 : DTy} {e : List DV} (h : ElemIs [t1, t2, t3] e) : ∃ d1 d2 d3, e = [d1, d2, d3] ∧ HasD t1 d1 ∧ HasD t2 d2 ∧ HasD t3 d3 := by
  obtain ⟨h1, h2⟩ := h
  match e, h1 with
  | [d1, d2, d3], _ => exact ⟨d1, d2, d3, rfl, h2 0 d1 t1 rfl rfl, h2 1 d2 t2 rfl rfl, h2 2 d3 t3 rfl rfl⟩
theorem HasD.int_inv {k : IntKind} {d : DV} (h : HasD (.int k) d) : ∃ n, d = .v (.int k n) ∧ k.has n := by cases h with | int h => exact ⟨_, rfl, h⟩
theorem HasD.str_inv {d : DV} (h : HasD .str d) : ∃ s, d = .v (.string s) := by cases h; exact ⟨_, rfl⟩
theorem HasD.bool_inv {d : DV} (h : HasD .bool d) : ∃ b, d = .v (.bool b) := by cases h; exact ⟨_, rfl⟩
theorem HasD.letters {d : DV} (h : HasD (.sl [.int .i32, .int .u32]) d) : ∃ a, d = DLs a :=
  h.slice (f := encL) (fun e he => by
    obtain ⟨d1, d2, rfl, h1, h2⟩ := he.two
    obtain ⟨r, rfl, _⟩ := h1.int_inv
    obtain ⟨c, rfl, _⟩ := h2.int_inv
    exact ⟨⟨r, c⟩, rfl⟩)
theorem HasD.ints {d : DV} (h : HasD (.sl [.int .i64]) d) : ∃ l, d = DInts l :=
  h.slice (f := encI) (fun e he => by
    obtain ⟨d1, rfl, h1⟩ := he.one
    obtain ⟨r, rfl, _⟩ := h1.int_inv
    exact ⟨r, rfl⟩)
theorem HasD.masks {d : DV} (h : HasD (.sl [.int .u32]) d) : ∃ l, d = DMasks l :=
  h.slice (f := encU) (fun e he => by
    obtain ⟨d1, rfl, h1⟩ := he.one
    obtain ⟨r, rfl, _⟩ := h1.int_inv
    exact ⟨r, rfl⟩)
theorem HasD.strs {d : DV} (h : HasD (.sl [.str]) d) : ∃ l, d = DStrs l :=
  h.slice (f := encS) (fun e he => by
    obtain ⟨d1, rfl, h1⟩ := he.one
    obtain ⟨r, rfl⟩ := h1.str_inv
    exact ⟨r, rfl⟩)

end Go.GH
namespace Go.GH
open Go Go.RowKit Go.Proofs.YtmmdhmlbbajjiaaDoor

inductive SmallD (N : Nat) : DV → Prop
  | v {x : Value} (h : ∀ s, x = .string s → s.size ≤ N) : SmallD N (.v x)
  | isl {nn : Bool} {sz : Nat} {es : List (List DV)} (hl : es.length ≤ N) (h : ∀ (i : Nat) e (j : Nat) d, es[i]? = some e → e[j]? = some d → SmallD N d) : SmallD N (.isl nn sz es)
theorem bulk_one {H : Type} (d : DataW H) : 1 ≤ Rows.uptoBulk d := by
  cases d with
  | lit l => cases l <;> simp [Rows.uptoBulk]
  | _ => simp [Rows.uptoBulk]
theorem bulk_part {H : Type} {d : DataW H} : ∀ {l : List (DataW H)}, d ∈ l → Rows.uptoBulk d ≤ Rows.uptoBulkAll l
  | [], h => by cases h
  | x :: l, h => by
    rw [Rows.uptoBulkAll]
    rcases List.mem_cons.1 h with rfl | h
    · omega
    · have := bulk_part h; omega
theorem bulk_len {H : Type} : ∀ (l : List (DataW H)), l.length ≤ Rows.uptoBulkAll l
  | [] => Nat.zero_le _
  | x :: l => by
    rw [Rows.uptoBulkAll, List.length_cons]
    have := bulk_len l
    have := bulk_one x
    omega
theorem bulk_elems {H : Type} (a b : List (DataW H)) : Rows.uptoBulkAll a ≤ Rows.uptoBulk (.slice a b) := by
  rw [Rows.uptoBulk]; omega
theorem bulk_agg {H : Type} (a : List (DataW H)) : Rows.uptoBulkAll a ≤ Rows.uptoBulk (.agg a) := by
  rw [Rows.uptoBulk]; omega
theorem bulk_str {H : Type} (s : ByteArray) : Rows.uptoBulk (DataW.lit (H := H) (.string s.data.toList)) = s.size + 1 := by
  rw [Rows.uptoBulk]; simp
def CellsS (N : Nat) (w : World) (cs : List Value) (L : List DTy) (ds : List DV) : Prop :=
  cs.length = L.length ∧ ds.length = L.length ∧ ∀ (j : Nat) v d ty, cs[j]? = some v → ds[j]? = some d → L[j]? = some ty → Rep w (AllF w) v d ∧ HasD ty d ∧ v.oneCell' = true ∧ SmallD N d
def PWS (N : Nat) (w : World) (cs : List Value) (L : List DTy) : Prop :=
  cs.length = L.length ∧ ∀ (j : Nat) v ty, cs[j]? = some v → L[j]? = some ty → ∃ d, Rep w (AllF w) v d ∧ HasD ty d ∧ v.oneCell' = true ∧ SmallD N d
theorem PWS.cells {N : Nat} {w : World} {cs : List Value} {L : List DTy} (h : PWS N w cs L) : ∃ ds, CellsS N w cs L ds := by
  have key : ∀ j, ∃ d, ∀ v ty, cs[j]? = some v → L[j]? = some ty → Rep w (AllF w) v d ∧ HasD ty d ∧ v.oneCell' = true ∧ SmallD N d := fun j => by
    by_cases hj : j < L.length
    · obtain ⟨d, hd⟩ := h.2 j _ _ (List.getElem?_eq_getElem (show j < cs.length by rw [h.1]; exact hj)) (List.getElem?_eq_getElem hj)
      refine ⟨d, fun v ty hv ht => ?_⟩
      rw [List.getElem?_eq_getElem (show j < cs.length by rw [h.1]; exact hj)] at hv
      rw [List.getElem?_eq_getElem hj] at ht
      obtain rfl := Option.some.inj hv
      obtain rfl := Option.some.inj ht
      exact hd
    · exact ⟨.any, fun v ty _ ht => absurd (List.getElem?_eq_some_iff.1 ht).1 hj⟩
  refine ⟨(List.range L.length).map (fun j => (key j).choose), h.1, by simp, fun j v d ty hv hd ht => ?_⟩
  rw [List.getElem?_map] at hd
  obtain ⟨q, hq, rfl⟩ := Option.map_eq_some_iff.1 hd
  have hlt : j < L.length := (List.getElem?_eq_some_iff.1 ht).1
  rw [List.getElem?_range hlt] at hq
  obtain rfl := Option.some.inj hq
  exact (key j).choose_spec v ty hv ht
theorem PWS.one {N : Nat} {w : World} {v : Value} {ty : DTy} {d : DV} (h1 : Rep w (AllF w) v d) (h2 : HasD ty d) (h3 : v.oneCell' = true) (h4 : SmallD N d) : PWS N w [v] [ty] :=
  ⟨rfl, fun j u t hv ht => by
    match j, hv, ht with
    | 0, hv, ht => simp at hv ht; subst hv; subst ht; exact ⟨d, h1, h2, h3, h4⟩
    | j + 1, hv, ht => simp at hv⟩
theorem pws_trod {N : Nat} {H : Type} {enc : TypeId × Value → H} {P : Program} {w : World} {sp : Nat → Bool} {held : Bool} {t : TypeId} {L : List DTy} (h : TyIs P t L) :
    ∀ (fuel : Nat) (cs : List Value) (x : DataW H × List MemPlace), DataW.trod enc P w 0 sp held fuel t cs = some x → Rows.uptoBulk x.1 ≤ N → PWS N w cs L := by
  induction h with
  | @int t k h =>
    intro fuel cs x hx hb0
    obtain ⟨n, rfl, hxe, hwf⟩ := DataW.trod_int h hx
    exact .one (d := .v (.int k n)) (.v (show k.has n from lit_int_wf hwf)) (.int (lit_int_wf hwf)) rfl (.v (fun s e => by cases e))
  | @str t h =>
    intro fuel cs x hx hb0
    obtain ⟨s, rfl, hxe, hs⟩ := DataW.trod_string h hx
    have hs : s.size ≤ lenB := by
      have e : maxLen = lenB := by decide
      omega
    exact .one (d := .v (.string s)) (.v hs) (.str hs) rfl (.v (fun s' e => by cases e; rw [hxe, bulk_str] at hb0; omega))
  | @bool t h =>
    intro fuel cs x hx hb0
    obtain ⟨b, rfl, _⟩ := DataW.trod_bool h hx
    exact .one (d := .v (.bool b)) (.v trivial) .bool rfl (.v (fun s e => by cases e))
  | @sl t e L h he hc hne ih =>
    intro fuel cs x hx hb0
    rcases DataW.trod_slice h hx with ⟨rfl, _⟩ | ⟨a, len, cap, elems, rest, n, rfl, rfl, hxe, hb, hl, hm, hlen, hel, _, _⟩
    · exact .one (d := .isl false L.length []) (.isl (b := 0) (o := 0) (fun _ _ => undef) rfl (by omega) (by simp [lenB]) (fun h => by cases h) (fun h => absurd rfl h) (fun i e h => by simp at h) (fun i e j d h => by simp at h) (fun i e j d h => by simp at h))
        (.sl (fun i e h => by simp at h) (fun i e j d ty h => by simp at h)) rfl (.isl (by simp) (fun i e j d h => by simp at h))
    · have key : ∀ i, ∃ p : List Value × List DV, i < len → w.cells? 0 (a.add (i * L.length)) L.length = some p.1 ∧ CellsS N w p.1 L p.2 := fun i => by
        by_cases hi : i < len
        · have h1 := hel i hi
          rw [List.getElem?_eq_getElem (by omega)] at h1
          obtain ⟨cs', h2, h3⟩ := Option.bind_eq_some_iff.1 h1
          have hbe : Rows.uptoBulk (elems[i]'(by omega)).1 ≤ N := by
            rw [hxe] at hb0
            exact Nat.le_trans (bulk_part (List.mem_map.2 ⟨_, List.getElem_mem _, rfl⟩)) (Nat.le_trans (bulk_elems _ _) hb0)
          obtain ⟨ds, hds⟩ := (ih n cs' _ h3 hbe).cells
          exact ⟨(cs', ds), fun _ => ⟨by rw [← hc]; exact h2, hds⟩⟩
        · exact ⟨([], []), fun h => absurd h hi⟩
      have hpos : 0 < L.length := List.length_pos_iff.2 hne
      have hspot : 0 < len → a.spot = none ∧ a.block < w.heap.size := fun h0 => by
        obtain ⟨h1, h2, _⟩ := (key 0).choose_spec h0
        obtain ⟨_, _, h4⟩ := World.cells?_some h1
        have h5 := h4 0 hpos
        rw [List.getElem?_eq_getElem (by omega)] at h5
        simp only [Nat.zero_mul] at h5
        have h6 := cell?_lt h5
        simp [Addr.add] at h6
        exact ⟨h6.2, h6.1⟩
      have hadd : 0 < len → ∀ q, a.add q = ⟨a.block, a.off + q, none⟩ := fun h0 q => by
        have := (hspot h0).1
        obtain ⟨b, o, s⟩ := a
        simp only at this
        subst this
        exact add_plain' b o q
      let es : List (List DV) := (List.range len).map (fun i => (key i).choose.2)
      have hes : ∀ (i : Nat) e, es[i]? = some e → i < len ∧ e = (key i).choose.2 := fun i e hi => by
        simp only [es, List.getElem?_map] at hi
        obtain ⟨q, hq, rfl⟩ := Option.map_eq_some_iff.1 hi
        have hlt : i < len := by have := (List.getElem?_eq_some_iff.1 hq).1; simpa using this
        rw [List.getElem?_range hlt] at hq
        obtain rfl := Option.some.inj hq
        exact ⟨hlt, rfl⟩
      have hcell : ∀ (i : Nat) e (j : Nat) d, es[i]? = some e → e[j]? = some d → ∃ v ty, L[j]? = some ty ∧ w.cell? ⟨a.block, a.off + (i * L.length + j), none⟩ = some v ∧ ((key i).choose.1)[j]? = some v ∧ Rep w (AllF w) v d ∧ HasD ty d ∧ v.oneCell' = true ∧ SmallD N d := fun i e j d hi hj => by
        obtain ⟨hlt, rfl⟩ := hes i e hi
        obtain ⟨h1, h2, h3, h4⟩ := (key i).choose_spec hlt
        obtain ⟨_, _, h5⟩ := World.cells?_some h1
        have hjl : j < L.length := by rw [← h3]; exact (List.getElem?_eq_some_iff.1 hj).1
        have hv := List.getElem?_eq_getElem (show j < ((key i).choose.1).length by omega)
        refine ⟨_, _, List.getElem?_eq_getElem hjl, ?_, hv, h4 j _ d _ hv hj (List.getElem?_eq_getElem hjl)⟩
        rw [← hv, ← h5 j hjl, hadd (by omega), add_plain', Nat.add_assoc]
      have hesl : es.length = len := by simp [es]
      have hmx : maxLen = lenB := by decide
      refine .one (d := .isl false L.length es) (.isl (b := a.block) (o := a.off) (fun i j => (((key i).choose.1)[j]?).getD undef) hesl.symm hl (by omega) (fun h => by cases h) (fun hne' => ?_) (fun i e hi => ?_) (fun i e j d hi hj => ?_) (fun i e j d hi hj => ?_)) (.sl (fun i e hi => ?_) (fun i e j d ty hi hj hty => ?_)) rfl (.isl (by rw [hesl, ← hlen]; rw [hxe] at hb0; exact Nat.le_trans (by simpa using bulk_len (elems.map (·.1))) (Nat.le_trans (bulk_elems _ _) hb0)) (fun i e j d hi hj => by obtain ⟨_, _, _, _, _, _, _, _, h7⟩ := hcell i e j d hi hj; exact h7))
      · have h0 : 0 < len := by
          rcases Nat.eq_zero_or_pos len with h | h
          · exact absurd (by simp [es, h]) hne'
          · exact h
        refine ⟨?_, (hspot h0).2⟩
        have := (hspot h0).1
        obtain ⟨b, o, s⟩ := a
        simp only at this
        subst this
        rfl
      · obtain ⟨hlt, rfl⟩ := hes i e hi; exact ((key i).choose_spec hlt).2.2.1
      · obtain ⟨v, ty, _, h2, h3, _, _, h6, _⟩ := hcell i e j d hi hj
        simp only [h3, Option.getD_some]
        exact ⟨h2, h6⟩
      · obtain ⟨v, ty, _, _, h3, h4, _⟩ := hcell i e j d hi hj
        simp only [h3, Option.getD_some]
        exact h4
      · obtain ⟨hlt, rfl⟩ := hes i e hi; exact ((key i).choose_spec hlt).2.2.1
      · obtain ⟨v, ty', h1, _, _, _, h5, _⟩ := hcell i e j d hi hj
        rw [h1] at hty
        obtain rfl := Option.some.inj hty
        exact h5
  | @struct t fs Ls h hc hl hf ho ih =>
    intro fuel cs x hx hb0
    obtain ⟨xs, n, rfl, hxe, hlen, hxl, hx⟩ := DataW.trod_struct h hx
    refine ⟨hlen.trans hc, fun j v ty hv hty => ?_⟩
    obtain ⟨i, Li, q, h1, h2, rfl⟩ := flatten_find Ls j ty hty
    have hi : i < fs.size := by rw [← hl]; exact (List.getElem?_eq_some_iff.1 h1).1
    have hfi := Array.getElem?_eq_getElem hi
    obtain ⟨o1, o2⟩ := ho i _ Li hfi h1
    have h3 := hx i _ hfi
    rw [List.getElem?_eq_getElem (show i < xs.length by omega)] at h3
    have hbe : Rows.uptoBulk (xs[i]'(by omega)).1 ≤ N := by
      rw [hxe] at hb0
      exact Nat.le_trans (bulk_part (List.mem_map.2 ⟨_, List.getElem_mem _, rfl⟩)) (Nat.le_trans (bulk_agg _) hb0)
    obtain ⟨_, h4⟩ := ih i _ Li hfi h1 n _ _ h3 hbe
    have hql : q < Li.length := (List.getElem?_eq_some_iff.1 h2).1
    exact h4 q v ty (by rw [List.getElem?_take, if_pos (by omega), List.getElem?_drop, o1]; exact hv) h2

/-- An argument of one cell. -/
theorem arg_repS {N : Nat} {H : Type} {enc : TypeId × Value → H} {P : Program} {w : World} {sp : Nat → Bool} {held : Bool} {t : TypeId} {ty : DTy} {v : Value} {d : DataW H} {p : List MemPlace} (hT : TyIs P t [ty]) (h : DataW.Trod enc P w 0 sp held t v d p) (hv : v.cells = #[v]) (hb : Rows.uptoBulk d ≤ N) : ∃ dv, Rep w (AllF w) v dv ∧ HasD ty dv ∧ SmallD N dv := by
  obtain ⟨fuel, h⟩ := h
  rw [hv] at h
  obtain ⟨ds, h1, h2, h3⟩ := (pws_trod hT fuel _ _ h hb).cells
  match ds, h2 with
  | [dv], _ => exact ⟨dv, (h3 0 v dv ty rfl rfl rfl).1, (h3 0 v dv ty rfl rfl rfl).2.1, (h3 0 v dv ty rfl rfl rfl).2.2.2⟩
/-- An argument of several cells. -/
theorem arg_repAS {N : Nat} {H : Type} {enc : TypeId × Value → H} {P : Program} {w : World} {sp : Nat → Bool} {held : Bool} {t : TypeId} {L : List DTy} {us : Array Value} {d : DataW H} {p : List MemPlace} (hT : TyIs P t L) (h : DataW.Trod enc P w 0 sp held t (.agg us) d p) (hb : Rows.uptoBulk d ≤ N) : ∃ ds, Rep w (AllF w) (.agg us) (.agg ds) ∧ ElemIs L ds ∧ ∀ d ∈ ds, SmallD N d := by
  obtain ⟨fuel, h⟩ := h
  obtain ⟨ds, h1, h2, h3⟩ := (pws_trod hT fuel _ _ h hb).cells
  have hus : us.size = ds.length := by rw [h2, ← h1]; rfl
  refine ⟨ds, .agg hus (fun j x dd hx hd => ?_), ⟨h2, fun j dd ty hd ht => ?_⟩, fun dd hdd => ?_⟩
  · have hlt : j < L.length := by rw [← h2]; exact (List.getElem?_eq_some_iff.1 hd).1
    exact (h3 j x dd _ (by show us.toList[j]? = some x; simpa using hx) hd (List.getElem?_eq_getElem hlt)).1
  · have hlt : j < us.size := by rw [hus]; exact (List.getElem?_eq_some_iff.1 hd).1
    exact (h3 j us[j] dd ty (by show us.toList[j]? = some us[j]; simp [hlt]) hd ht).2.1
  · obtain ⟨j, hj⟩ := List.mem_iff_getElem?.1 hdd
    have hlt : j < us.size := by rw [hus]; exact (List.getElem?_eq_some_iff.1 hj).1
    have hlL : j < L.length := by rw [← h2]; exact (List.getElem?_eq_some_iff.1 hj).1
    exact (h3 j us[j] dd _ (by show us.toList[j]? = some us[j]; simp [hlt]) hj (List.getElem?_eq_getElem hlL)).2.2.2
end Go.GH
namespace Go.GH
open Go
abbrev TIt : List DTy := [.int .u32, .str, .bool, .bool]
abbrev TRu : List DTy := [.int .i32, .str, .sl TIt, .sl TIt, .bool, .bool]
theorem ElemIs.item {e : List DV} (h : ElemIs TIt e) : ∃ x : Item, e = encIt x := by
  obtain ⟨h1, h2⟩ := h
  match e, h1 with
  | [d0, d1, d2, d3], _ =>
    obtain ⟨n, rfl, _⟩ := (h2 0 d0 _ rfl rfl).int_inv
    obtain ⟨s, rfl⟩ := (h2 1 d1 _ rfl rfl).str_inv
    obtain ⟨b, rfl⟩ := (h2 2 d2 _ rfl rfl).bool_inv
    obtain ⟨c, rfl⟩ := (h2 3 d3 _ rfl rfl).bool_inv
    exact ⟨⟨n, s, b, c⟩, rfl⟩
theorem HasD.items {d : DV} (h : HasD (.sl TIt) d) : ∃ p, d = DIts p := h.slice (f := encIt) (fun e he => he.item)
theorem ElemIs.rule {e : List DV} (h : ElemIs TRu e) : ∃ r : Rule, e = encR r := by
  obtain ⟨h1, h2⟩ := h
  match e, h1 with
  | [d0, d1, d2, d3, d4, d5], _ =>
    obtain ⟨n, rfl, _⟩ := (h2 0 d0 _ rfl rfl).int_inv
    obtain ⟨s, rfl⟩ := (h2 1 d1 _ rfl rfl).str_inv
    obtain ⟨p, rfl⟩ := (h2 2 d2 _ rfl rfl).items
    obtain ⟨q, rfl⟩ := (h2 3 d3 _ rfl rfl).items
    obtain ⟨b, rfl⟩ := (h2 4 d4 _ rfl rfl).bool_inv
    obtain ⟨c, rfl⟩ := (h2 5 d5 _ rfl rfl).bool_inv
    exact ⟨⟨n, s, p, q, b, c⟩, rfl⟩
theorem HasD.rules {d : DV} (h : HasD (.sl TRu) d) : ∃ l, d = DRs l := h.slice (f := encR) (fun e he => he.rule)
theorem SmallD.str {N : Nat} {s : ByteArray} (h : SmallD N (.v (.string s))) : s.size ≤ N := by cases h with | v h => exact h s rfl
theorem SmallD.items {N : Nat} {p : List Item} (h : SmallD N (DIts p)) : ∀ x ∈ p, x.lets.size ≤ N := fun x hx => by
  obtain ⟨i, hi⟩ := List.mem_iff_getElem?.1 hx
  cases h with
  | isl hl h => exact (h i (encIt x) 1 (.v (.string x.lets)) (by rw [List.getElem?_map, hi]; rfl) rfl).str
theorem SmallD.len {N : Nat} {nn : Bool} {sz : Nat} {es : List (List DV)} (h : SmallD N (.isl nn sz es)) : es.length ≤ N := by cases h with | isl hl _ => exact hl
theorem SmallD.ruleE {r : Rule} (h : ∀ d ∈ encR r, SmallD 1048576 d) : SmR r :=
  ⟨(h (.v (.string r.«to»)) (by simp [encR])).str, (h (DIts r.left) (by simp [encR])).items, (h (DIts r.right) (by simp [encR])).items⟩
theorem SmallD.rules {l : List Rule} (h : SmallD 1048576 (DRs l)) : ∀ r ∈ l, SmR r := fun r hr => by
  obtain ⟨i, hi⟩ := List.mem_iff_getElem?.1 hr
  cases h with
  | isl hl h =>
    refine SmallD.ruleE (fun d hd => ?_)
    obtain ⟨j, hj⟩ := List.mem_iff_getElem?.1 hd
    exact h i (encR r) j d (by rw [List.getElem?_map, hi]; rfl) hj
end Go.GH
namespace Go.GH
open Go
theorem ElemIs.segment {e : List DV} (h : ElemIs [.str, .sl [.str]] e) : ∃ x : Sg, e = encSg x := by
  obtain ⟨d0, d1, rfl, h0, h1⟩ := h.two
  obtain ⟨s, rfl⟩ := h0.str_inv
  obtain ⟨l, rfl⟩ := h1.strs
  exact ⟨⟨s, l⟩, rfl⟩
theorem SmallD.strs {N : Nat} {l : List ByteArray} (h : SmallD N (DStrs l)) : ∀ s ∈ l, s.size ≤ N := fun s hs => by
  obtain ⟨i, hi⟩ := List.mem_iff_getElem?.1 hs
  cases h with
  | isl hl h => exact (h i (encS s) 0 (.v (.string s)) (by rw [List.getElem?_map, hi]; rfl) rfl).str
theorem SmallD.seg {x : Sg} (h : ∀ d ∈ encSg x, SmallD 1048576 d) : x.host.size ≤ 1048576 ∧ ∀ s ∈ x.cls, s.size ≤ 1048576 :=
  ⟨(h (.v (.string x.host)) (by simp [encSg])).str, (h (DStrs x.cls) (by simp [encSg])).strs⟩
end Go.GH
namespace Go.GH
open Go Go.Proofs
variable {E : Env} {st : St} {ops : Array Oper} {rest : List Oper} {R : St → Prop} {t : Tmp} {ty : TypeId} {pos : String} {aft : Array Edge} {g : Option (Nat × Bool)} {pu : Bool}
end Go.GH
namespace Go.GH
open Go
def dropTo (s : ByteArray) (i : Nat) : ByteArray := ⟨((s.data.toList.take i).filter (fun b => !(b == 61))).toArray⟩
theorem dropTo_size (s : ByteArray) (i : Nat) : (dropTo s i).size ≤ i := by
  show ((s.data.toList.take i).filter _).toArray.size ≤ i
  rw [List.size_toArray]
  exact Nat.le_trans (List.length_filter_le _ _) (by rw [List.length_take]; omega)
theorem one_byte {s : ByteArray} {i : Nat} (h : i < s.size) : (s.extract i (i + 1)).data.toList = [s[i]] := by
  rw [ByteArray.data_extract]
  have h2 : i < s.data.toList.length := by simpa using h
  rw [Array.toList_extract, List.extract_eq_drop_take, List.drop_eq_getElem_cons h2]
  rw [show i + 1 - i = 1 by omega]
  simp only [List.take_succ_cons, List.take_zero]
  rw [list_at h h2]
theorem ba_ext {x y : ByteArray} (h : x.data.toList = y.data.toList) : x = y := ByteArray.ext (Array.toList_inj.1 h)
theorem drop_yes {s : ByteArray} {i : Nat} (h : i < s.size) (hn : ¬ ((s[i]).toNat : Int) = 61) : dropTo s (i + 1) = dropTo s i ++ s.extract i (i + 1) := by
  have h2 : i < s.data.toList.length := by simpa using h
  apply ba_ext
  rw [ByteArray.data_append, Array.toList_append, one_byte h]
  show ((s.data.toList.take (i + 1)).filter _).toArray.toList = ((s.data.toList.take i).filter _).toArray.toList ++ _
  rw [take_next h2, List.filter_append, List.filter_cons, List.filter_nil, list_at h h2, byte61, decide_eq_false hn]
  rfl
theorem drop_no {s : ByteArray} {i : Nat} (h : i < s.size) (hn : ((s[i]).toNat : Int) = 61) : dropTo s (i + 1) = dropTo s i := by
  have h2 : i < s.data.toList.length := by simpa using h
  unfold dropTo
  rw [take_next h2, List.filter_append, List.filter_cons, List.filter_nil, list_at h h2, byte61, decide_eq_true hn]
  simp
theorem drop_all {s : ByteArray} {i : Nat} (h : s.size ≤ i) : dropTo s i = dropB s := by
  unfold dropTo dropB
  rw [List.take_of_length_le (by simpa using h)]
theorem casc_bad {x : List ByteArray × Int} (h : ¬ (cascX x).2 = 0) : (cascX x).1 = ⟨#[]⟩ := by
  unfold cascX at h ⊢
  split
  · rename_i h2; rw [if_pos h2] at h; exact absurd rfl h
  · rfl
theorem casc_size (a : List Letter) (l : List Rule) (h c : ByteArray) : (cascE a l h c).1.size ≤ 160 := by
  by_cases h0 : (cascE a l h c).2 = 0
  · have := casc_word (show (cascX (traceR (extA a) l (joinE h c))).2 = 0 from h0)
    have h2 := utf8_size this.2
    show (cascX (traceR (extA a) l (joinE h c))).1.size ≤ 160
    omega
  · have := casc_bad (show ¬ (cascX (traceR (extA a) l (joinE h c))).2 = 0 from h0)
    show (cascX (traceR (extA a) l (joinE h c))).1.size ≤ 160
    rw [this]; decide
theorem att_ref {a : List Letter} {l : List Rule} {h c : ByteArray} (h40 : ¬ 40 < (runes h).length + 1 + (runes c).length) : attE a l h c = (dropB (cascE a l h c).1, (cascE a l h c).2) := by
  unfold attE
  rw [if_neg h40]
  by_cases h0 : (cascE a l h c).2 = 0
  · have := casc_word (show (cascX (traceR (extA a) l (joinE h c))).2 = 0 from h0)
    rw [if_pos h0, h0, dropE_eq (show utf8R (cascE a l h c).1 = true from this.2)]
  · have := casc_bad (show ¬ (cascX (traceR (extA a) l (joinE h c))).2 = 0 from h0)
    rw [if_neg h0, show (cascE a l h c).1 = ⟨#[]⟩ from this]
    rfl
end Go.GH
namespace Go.GH
open Go Go.Proofs
variable {E : Env}
theorem q14Words (a : List Letter) (l : List ByteArray) (hz : ∀ s ∈ l, s.size ≤ 1048576) : GCall Tryd.prog E 26 [DLs a, DStrs l] [] (fun d H => d = .v (.bool (l.all (isWordA a))) ∧ H = []) := by
  refine GCall.body (C := ⟨Tryd.prog, E, true⟩) Tryd.func26 rfl (fun _ => rfl) (by kernel_rfl) rfl ?_
  refine SCode.seqR ?_
  refine SOps.assign rfl ?_
  refine SOps.nil ?_
  refine SCode.seq ?_
  refine SCode.seqR ?_
  refine SOps.assign rfl ?_
  refine SOps.nil ?_
  refine SCode.block ?_
  refine SCode.loop1 (fun (i : Nat) => (⟨19, [(0, DLs a), (1, DStrs l), (5, .v (.int .i64 (i : Int)))], []⟩ : St)) (fun (i : Nat) => i ≤ l.length ∧ ∀ s ∈ l.take i, isWordA a s = true) (fun (i : Nat) => l.length - i) (0) (by simp) (St.Le.of ⟨(by first | rfl | (show some _ = some _; simp)), (by first | rfl | (show some _ = some _; simp)), (by first | rfl | (show some _ = some _; simp)), trivial⟩ rfl (by first | rfl | (simp))) ?_
  rintro i ⟨hi, hf⟩
  refine SCode.fact (isl_len (t := 1) rfl) (fun hB => ?_)
  simp only [List.length_map, lenB] at hB
  refine SCode.seq ?_
  refine SCode.seqR ?_
  refine SOps.move rfl ?_
  refine SOps.move rfl ?_
  refine SOps.lenM rfl sliceB_35_9_1 ?_
  refine SOps.bin rfl rfl rfl ?_
  refine SOps.nil ?_
  refine SCode.cond rfl (fun hc1 => ?_) (fun hc1 => ?_)
  · try simp only [nmL] at hc1
    refine SCode.skip ?_
    show SCode _ _ _ _
    refine SCode.seq ?_
    refine SCode.block ?_
    refine SCode.seqR ?_
    have hzi := hz _ (List.getElem_mem (show i < l.length by omega))
    refine SOps.move rfl ?_
    refine SOps.move rfl ?_
    refine SOps.move rfl ?_
    refine SOps.indexM (i) rfl rfl sliceB_35_9_1 (by first | omega | (simp only [lenB]; omega)) (by first | omega | (simp only [lenB]; omega)) ?_
    refine SOps.loadPin rfl flatB_9 ?_
    refine SOps.callP (q10Word _ _ hzi) rfl ?_
    rintro _ rfl
    refine SOps.un rfl rfl ?_
    refine SOps.nil ?_
    refine SCode.cond rfl (fun hc2 => ?_) (fun hc2 => ?_)
    · try simp only [nmL] at hc2
      refine SCode.seqR ?_
      refine SOps.assign rfl ?_
      refine SOps.nil ?_
      refine SCode.ret ?_
      exact ⟨_, Res.one (.tmp rfl), congrArg (fun b => DV.v (.bool b)) (Eq.symm (Bool.eq_false_iff.2 (fun h => by rw [List.all_eq_true] at h; have := h _ (List.getElem_mem (show i < l.length by omega)); simp_all))), rfl⟩
    · try simp only [nmL] at hc2
      refine SCode.skip ?_
      show SCode _ _ _ _
      refine SCode.region ?_
      refine SOps.move rfl ?_
      refine SOps.addI rfl rfl (by first | omega | (simp only [lenB]; omega)) (by first | omega | (simp only [lenB]; omega)) ?_
      refine SOps.assign rfl ?_
      refine SOps.nil ?_
      exact ⟨i + 1, by exact ⟨by omega, take_more hf (by omega) (by simp_all)⟩, by omega, (St.Le.of ⟨(by first | rfl | (show some _ = some _; simp)), (by first | rfl | (show some _ = some _; simp)), (by first | rfl | (show some _ = some _; simp)), trivial⟩ rfl (by first | rfl | (simp)))⟩
  · try simp only [nmL] at hc1
    refine SCode.exit ?_
    show SCode _ _ _ _
    refine SCode.seqR ?_
    refine SOps.assign rfl ?_
    refine SOps.nil ?_
    refine SCode.ret ?_
    exact ⟨_, Res.one (.tmp rfl), congrArg (fun b => DV.v (.bool b)) (Eq.symm (List.all_eq_true.2 (all_of (by omega) hf))), rfl⟩
theorem q14Without (s : ByteArray) (hs : s.size ≤ 1048576) : GCall Tryd.prog E 44 [.v (.string s)] [] (fun d H => d = .v (.string (dropB s)) ∧ H = []) := by
  refine GCall.body (C := ⟨Tryd.prog, E, true⟩) Tryd.func44 rfl (fun _ => rfl) (by kernel_rfl) rfl ?_
  refine SCode.seqR ?_
  refine SOps.assign rfl ?_
  refine SOps.nil ?_
  refine SCode.seqR ?_
  refine SOps.assign rfl ?_
  refine SOps.nil ?_
  refine SCode.seq ?_
  refine SCode.seqR ?_
  refine SOps.assign rfl ?_
  refine SOps.nil ?_
  refine SCode.block ?_
  refine SCode.loop1 (fun (i : Nat) => (⟨23, [(0, .v (.string s)), (3, .v (.string (dropTo s i))), (4, .v (.int .i64 (i : Int)))], []⟩ : St)) (fun (i : Nat) => i ≤ s.size) (fun (i : Nat) => s.size - i) (0) (by exact Nat.zero_le _) (St.Le.of ⟨(by first | rfl | (show some _ = some _; simp)), (by first | rfl | (show some _ = some _; simp)), (by first | rfl | (show some _ = some _; simp)), trivial⟩ rfl (by first | rfl | (simp))) ?_
  rintro i hi
  refine SCode.seq ?_
  refine SCode.seqR ?_
  refine SOps.move rfl ?_
  refine SOps.move rfl ?_
  refine SOps.lenStr rfl strB_9 ?_
  refine SOps.bin rfl rfl rfl ?_
  refine SOps.nil ?_
  refine SCode.cond rfl (fun hc1 => ?_) (fun hc1 => ?_)
  · try simp only [nmL] at hc1
    refine SCode.skip ?_
    show SCode _ _ _ _
    refine SCode.seq ?_
    refine SCode.block ?_
    refine SCode.seqR ?_
    refine SOps.move rfl ?_
    refine SOps.move rfl ?_
    refine SOps.strIndexM (i) rfl rfl strB_9 (by first | omega | (simp only [lenB]; omega)) (by first | omega | (simp only [lenB]; omega)) ?_
    refine SOps.bin rfl rfl rfl ?_
    refine SOps.nil ?_
    refine SCode.cond rfl (fun hc2 => ?_) (fun hc2 => ?_)
    · try simp only [nmL] at hc2
      refine SCode.region ?_
      refine SOps.move rfl ?_
      refine SOps.move rfl ?_
      refine SOps.move rfl ?_
      refine SOps.move rfl ?_
      refine SOps.addI rfl rfl (by first | omega | (simp only [lenB]; omega)) (by first | omega | (simp only [lenB]; omega)) ?_
      refine SOps.sliceStr (i) ((i + 1)) strB_9 rfl (.at (i) rfl (by first | omega | (simp only [lenB]; omega))) (.at ((i + 1)) rfl (by first | omega | (simp only [lenB]; omega))) (by first | omega | (simp only [lenB]; omega)) (by first | omega | (simp only [lenB]; omega)) ?_
      refine SOps.concat rfl rfl (by simp only [lenB, ByteArray.size_append, ByteArray.size_extract]; have := dropTo_size s i; omega) ?_
      refine SOps.assign rfl ?_
      refine SOps.nil ?_
      show SCode _ _ _ _
      refine SCode.region ?_
      refine SOps.move rfl ?_
      refine SOps.addI rfl rfl (by first | omega | (simp only [lenB]; omega)) (by first | omega | (simp only [lenB]; omega)) ?_
      refine SOps.assign rfl ?_
      refine SOps.nil ?_
      first
        | exact ⟨i + 1, by omega, by omega, St.Le.of ⟨rfl, (by rw [drop_yes (show i < s.size by omega) hc2]; rfl), rfl, trivial⟩⟩
        | exact ⟨i + 1, by omega, by omega, St.Le.of ⟨rfl, (by rw [drop_no (show i < s.size by omega) hc2]; rfl), rfl, trivial⟩⟩
        | exact ⟨i + 1, by omega, by omega, St.Le.of ⟨rfl, (by rw [drop_no (show i < s.size by omega) (by omega)]; rfl), rfl, trivial⟩⟩
    · try simp only [nmL] at hc2
      refine SCode.skip ?_
      show SCode _ _ _ _
      refine SCode.region ?_
      refine SOps.move rfl ?_
      refine SOps.addI rfl rfl (by first | omega | (simp only [lenB]; omega)) (by first | omega | (simp only [lenB]; omega)) ?_
      refine SOps.assign rfl ?_
      refine SOps.nil ?_
      first
        | exact ⟨i + 1, by omega, by omega, St.Le.of ⟨rfl, (by rw [drop_yes (show i < s.size by omega) hc2]; rfl), rfl, trivial⟩⟩
        | exact ⟨i + 1, by omega, by omega, St.Le.of ⟨rfl, (by rw [drop_no (show i < s.size by omega) hc2]; rfl), rfl, trivial⟩⟩
        | exact ⟨i + 1, by omega, by omega, St.Le.of ⟨rfl, (by rw [drop_no (show i < s.size by omega) (by omega)]; rfl), rfl, trivial⟩⟩
  · try simp only [nmL] at hc1
    refine SCode.exit ?_
    show SCode _ _ _ _
    refine SCode.seqR ?_
    refine SOps.move rfl ?_
    refine SOps.assign rfl ?_
    refine SOps.nil ?_
    refine SCode.ret ?_
    exact ⟨_, Res.one (.tmp rfl), by rw [drop_all (by omega)], rfl⟩
theorem q14Attach (hV : VS E) (a : List Letter) (l : List Rule) (h c : ByteArray) (hr : ∀ r ∈ l, SmR r) (h1 : isWordA a h = true) (h2 : isWordA a c = true) (ha : a.length ≤ 64) : GCall Tryd.prog E 18 [DLs a, DRs l, .v (.string h), .v (.string c)] [] (fun d H => d = tupA (attE a l h c) ∧ H = []) := by
  have hq1 := word_facts h1
  have hq2 := word_facts h2
  have hjw := join_word hq1.1 hq2.1
  have hcz := casc_size a l h c
  have hjs : (joinE h c).size ≤ 1048576 := by show (h ++ eqB ++ c).size ≤ _; rw [ByteArray.size_append, ByteArray.size_append, show eqB.size = 1 from rfl]; omega
  refine GCall.body (C := ⟨Tryd.prog, E, true⟩) Tryd.func18 rfl (fun _ => rfl) (by kernel_rfl) rfl ?_
  refine SCode.seqR ?_
  refine SOps.assign rfl ?_
  refine SOps.assign rfl ?_
  refine SOps.nil ?_
  refine SCode.seqR ?_
  refine SOps.move rfl ?_
  refine SOps.callP (q14Extended _ (by omega)) rfl ?_
  rintro _ rfl
  refine SOps.assign rfl ?_
  refine SOps.nil ?_
  refine SCode.seqR ?_
  refine SOps.move rfl ?_
  refine SOps.concat rfl rfl (by simp only [lenB, ByteArray.size_append]; have : (ByteArray.mk #[61]).size = 1 := rfl; omega) ?_
  refine SOps.move rfl ?_
  refine SOps.concat rfl rfl (by simp only [lenB, ByteArray.size_append]; have : (ByteArray.mk #[61]).size = 1 := rfl; omega) ?_
  refine SOps.assign rfl ?_
  refine SOps.nil ?_
  refine SCode.seq ?_
  refine SCode.seqR ?_
  refine SOps.move rfl ?_
  refine SOps.move rfl ?_
  refine SOps.callP (qWord hV _ (joinE h c)) rfl ?_
  rintro _ rfl
  refine SOps.un rfl rfl ?_
  refine SOps.nil ?_
  refine SCode.cond rfl (fun hc1 => ?_) (fun hc1 => ?_)
  · try simp only [nmL] at hc1
    refine SCode.seqR ?_
    refine SOps.assign rfl ?_
    refine SOps.assign rfl ?_
    refine SOps.nil ?_
    refine SCode.ret ?_
    exact ⟨_, Res.two (.tmp rfl) (.tmp rfl), (by unfold attE; rw [if_pos (by have h9 := hc1; rw [hjw] at h9; have := of_decide_eq_false h9; omega)]; rfl), rfl⟩
  · try simp only [nmL] at hc1
    refine SCode.skip ?_
    show SCode _ _ _ _
    refine SCode.seqR ?_
    refine SOps.move rfl ?_
    refine SOps.move rfl ?_
    refine SOps.move rfl ?_
    refine SOps.callP (qCascade' hV (extA a) l (joinE h c) hr hjs) rfl ?_
    rintro _ rfl
    refine SOps.move rfl ?_
    refine SOps.extract rfl rfl ?_
    refine SOps.extract rfl rfl ?_
    refine SOps.assign rfl ?_
    refine SOps.assign rfl ?_
    refine SOps.nil ?_
    refine SCode.seqR ?_
    refine SOps.move rfl ?_
    refine SOps.callP (q14Without (cascE a l h c).1 (by omega)) rfl ?_
    rintro _ rfl
    refine SOps.move rfl ?_
    refine SOps.assign rfl ?_
    refine SOps.assign rfl ?_
    refine SOps.nil ?_
    refine SCode.ret ?_
    exact ⟨_, Res.two (.tmp rfl) (.tmp rfl), (by rw [att_ref (by have h9 := hc1; rw [hjw] at h9; have := of_decide_eq_true h9; omega)]; rfl), rfl⟩
end Go.GH
namespace Go.GH
open Go
end Go.GH
namespace Go.GH
open Go
instance sgDec : DecidableEq Sg := fun x y => if h : x.host = y.host ∧ x.cls = y.cls then .isTrue (by cases x; cases y; simp_all) else .isFalse (fun e => h (by subst e; exact ⟨rfl, rfl⟩))
/-! segments with a form, host by host -/
/-! what Split finds -/
/-! without rules -/
end Go.GH
namespace Go.GH
open Go Go.Proofs
variable {E : Env}
theorem q14All (hV : VS E) (a : List Letter) (l : List Rule) (sg : Sg) (hr : ∀ r ∈ l, SmR r) (hh : isWordA a sg.host = true) (hc : ∀ c ∈ sg.cls, isWordA a c = true) (ha : a.length ≤ 64) (hcl : sg.cls.length ≤ 1000) : GCall Tryd.prog E 27 [DLs a, DRs l, .agg (encSg sg)] [] (fun d H => d = tupA (allE a l sg.host sg.cls) ∧ H = []) := by
  refine GCall.body (C := ⟨Tryd.prog, E, true⟩) Tryd.func27 rfl (fun _ => rfl) (by kernel_rfl) rfl ?_
  refine SCode.seqR ?_
  refine SOps.boxAM rfl rfl ?_
  refine SOps.assign rfl ?_
  refine SOps.assign rfl ?_
  refine SOps.nil ?_
  refine SCode.seqR ?_
  refine SOps.fieldPin rfl fieldB_50_0_0 ?_
  refine SOps.loadPin rfl flatB_9 ?_
  refine SOps.assign rfl ?_
  refine SOps.nil ?_
  refine SCode.seq ?_
  refine SCode.seqR ?_
  refine SOps.assign rfl ?_
  refine SOps.nil ?_
  refine SCode.block ?_
  refine SCode.loop2 (fun (i : Nat) (f : ByteArray) => (⟨38, [(0, DLs a), (1, DRs l), (5, .ipin (encSg sg)), (8, .v (.string f)), (9, .v (.int .i64 (i : Int)))], []⟩ : St)) (fun (i : Nat) (f : ByteArray) => i ≤ sg.cls.length ∧ isWordA a f = true ∧ allE a l f (sg.cls.drop i) = allE a l sg.host sg.cls) (fun (i : Nat) (f : ByteArray) => sg.cls.length - i) (0) (sg.host) (by exact ⟨Nat.zero_le _, hh, rfl⟩) (St.Le.of ⟨(by first | rfl | (show some _ = some _; simp)), (by first | rfl | (show some _ = some _; simp)), (by first | rfl | (show some _ = some _; simp)), (by first | rfl | (show some _ = some _; simp)), (by first | rfl | (show some _ = some _; simp)), trivial⟩ rfl (by first | rfl | (simp))) ?_
  rintro i f ⟨hi, hfw, hf⟩
  refine SCode.seq ?_
  refine SCode.seqR ?_
  refine SOps.move rfl ?_
  refine SOps.fieldPin rfl fieldB_50_1_1 ?_
  refine SOps.loadPin rfl flatB_35 ?_
  refine SOps.lenM rfl sliceB_35_9_1 ?_
  refine SOps.bin rfl rfl rfl ?_
  refine SOps.nil ?_
  refine SCode.cond rfl (fun hc1 => ?_) (fun hc1 => ?_)
  · try simp only [nmL] at hc1
    refine SCode.skip ?_
    show SCode _ _ _ _
    refine SCode.seq ?_
    refine SCode.block ?_
    refine SCode.seqR ?_
    have hil : i < sg.cls.length := by omega
    have hci := hc _ (List.getElem_mem hil)
    have hdr : sg.cls.drop i = sg.cls[i] :: sg.cls.drop (i + 1) := List.drop_eq_getElem_cons hil
    refine SOps.move rfl ?_
    refine SOps.move rfl ?_
    refine SOps.move rfl ?_
    refine SOps.fieldPin rfl fieldB_50_1_1 ?_
    refine SOps.loadPin rfl flatB_35 ?_
    refine SOps.move rfl ?_
    refine SOps.indexM (i) rfl rfl sliceB_35_9_1 (by first | omega | (simp only [lenB]; omega)) (by first | omega | (simp only [lenB]; omega)) ?_
    refine SOps.loadPin rfl flatB_9 ?_
    refine SOps.callP (q14Attach hV _ _ _ _ hr hfw hci ha) rfl ?_
    rintro _ rfl
    refine SOps.move rfl ?_
    refine SOps.extract rfl rfl ?_
    refine SOps.extract rfl rfl ?_
    refine SOps.assign rfl ?_
    refine SOps.assign rfl ?_
    refine SOps.nil ?_
    refine SCode.seq ?_
    refine SCode.seqR ?_
    refine SOps.move rfl ?_
    refine SOps.bin rfl rfl rfl ?_
    refine SOps.nil ?_
    refine SCode.cond rfl (fun hc2 => ?_) (fun hc2 => ?_)
    · try simp only [nmL] at hc2
      refine SCode.seqR ?_
      refine SOps.move rfl ?_
      refine SOps.assign rfl ?_
      refine SOps.assign rfl ?_
      refine SOps.nil ?_
      refine SCode.ret ?_
      exact ⟨_, Res.two (.tmp rfl) (.tmp rfl), (by rw [← hf, hdr, allE, if_neg hc2]; rfl), rfl⟩
    · try simp only [nmL] at hc2
      refine SCode.skip ?_
      show SCode _ _ _ _
      refine SCode.region ?_
      refine SOps.move rfl ?_
      refine SOps.assign rfl ?_
      refine SOps.nil ?_
      show SCode _ _ _ _
      refine SCode.region ?_
      refine SOps.move rfl ?_
      refine SOps.addI rfl rfl (by first | omega | (simp only [lenB]; omega)) (by first | omega | (simp only [lenB]; omega)) ?_
      refine SOps.assign rfl ?_
      refine SOps.nil ?_
      exact ⟨i + 1, (attE a l f (sg.cls[i])).1, ⟨by omega, att_word hfw hci hc2, by rw [← hf, hdr, allE, if_pos hc2]⟩, by omega, St.Le.of ⟨rfl, rfl, rfl, rfl, rfl, trivial⟩⟩
  · try simp only [nmL] at hc1
    refine SCode.exit ?_
    show SCode _ _ _ _
    refine SCode.seqR ?_
    refine SOps.move rfl ?_
    refine SOps.assign rfl ?_
    refine SOps.assign rfl ?_
    refine SOps.nil ?_
    refine SCode.ret ?_
    exact ⟨_, Res.two (.tmp rfl) (.tmp rfl), (by rw [← hf, List.drop_eq_nil_of_le (by omega)]; rfl), rfl⟩
end Go.GH
namespace Go.GH
open Go Go.Proofs
variable {E : Env}
theorem l14Segments (hV : VS E) (hA : AW14 E) (a : List Letter) (l : List Rule) (sg : Sg) (hr : ∀ r ∈ l, SmR r) (hz : sg.host.size ≤ 1048576 ∧ ∀ s ∈ sg.cls, s.size ≤ 1048576) : GCall Tryd.prog E 8 [DLs a, DRs l, .agg (encSg sg)] [] (fun d H => d = .v (.bool true) ∧ H = []) := by
  obtain ⟨hz1, hz2⟩ := hz
  refine GCall.body (C := ⟨Tryd.prog, E, true⟩) Tryd.func8 rfl (fun _ => rfl) (by kernel_rfl) rfl ?_
  refine SCode.seqR ?_
  refine SOps.boxAM rfl rfl ?_
  refine SOps.assign rfl ?_
  refine SOps.nil ?_
  refine SCode.seq ?_
  refine SCode.seqR ?_
  refine SOps.callP hA rfl ?_
  rintro _ rfl
  refine SOps.un rfl rfl ?_
  refine SOps.nil ?_
  refine SCode.cond rfl (fun h => by cases h) (fun _ => ?_)
  refine SCode.skip ?_
  show SCode _ _ _ _
  refine SCode.seq ?_
  refine SCode.seqR ?_
  refine SOps.move rfl ?_
  refine SOps.move rfl ?_
  refine SOps.callP (l14Few _ _) rfl ?_
  rintro _ rfl
  refine SOps.un rfl rfl ?_
  refine SOps.move rfl ?_
  refine SOps.caseB 17 rfl (fun hb1 => ?_) (fun hb1 => ?_)
  · try simp only [nmL] at hb1
    refine SOps.skip rfl ?_
    refine SOps.skip rfl ?_
    refine SOps.skip rfl ?_
    refine SOps.skip rfl ?_
    refine SOps.pick rfl rfl ?_
    refine SOps.nil ?_
    refine SCode.cond rfl (fun _ => ?_) (fun h => by cases h)
    refine SCode.seqR ?_
    refine SOps.assign rfl ?_
    refine SOps.nil ?_
    refine SCode.ret ?_
    exact ⟨_, Res.one (.tmp rfl), rfl, rfl⟩
  · try simp only [nmL] at hb1
    refine SOps.fieldPin rfl fieldB_50_1_1 ?_
    refine SOps.loadPin rfl flatB_35 ?_
    refine SOps.lenM rfl sliceB_35_9_1 ?_
    refine SOps.bin rfl rfl rfl ?_
    refine SOps.pick rfl rfl ?_
    refine SOps.nil ?_
    refine SCode.cond rfl (fun hc2 => ?_) (fun hc2 => ?_)
    · try simp only [nmL] at hc2
      refine SCode.seqR ?_
      refine SOps.assign rfl ?_
      refine SOps.nil ?_
      refine SCode.ret ?_
      exact ⟨_, Res.one (.tmp rfl), rfl, rfl⟩
    · try simp only [nmL] at hc2
      refine SCode.skip ?_
      show SCode _ _ _ _
      refine SCode.seqR ?_
      refine SOps.move rfl ?_
      refine SOps.move rfl ?_
      refine SOps.loadPinA rfl aggB_50_2 (Nat.le_of_ble_eq_true rfl) ?_
      refine SOps.callP (cAttachAll hV _ _ sg (by assumption)) rfl ?_
      rintro _ rfl
      refine SOps.move rfl ?_
      refine SOps.extract rfl rfl ?_
      refine SOps.extract rfl rfl ?_
      refine SOps.assign rfl ?_
      refine SOps.assign rfl ?_
      refine SOps.nil ?_
      refine SCode.seq ?_
      refine SCode.seqR ?_
      refine SOps.move rfl ?_
      refine SOps.move rfl ?_
      refine SOps.callP (q14Valid hV _ _ hr) rfl ?_
      rintro _ rfl
      refine SOps.un rfl rfl ?_
      refine SOps.move rfl ?_
      refine SOps.caseB 34 rfl (fun hb3 => ?_) (fun hb3 => ?_)
      · try simp only [nmL] at hb3
        refine SOps.skip rfl ?_
        refine SOps.skip rfl ?_
        refine SOps.skip rfl ?_
        refine SOps.skip rfl ?_
        refine SOps.skip rfl ?_
        refine SOps.pick rfl rfl ?_
        refine SOps.move rfl ?_
        refine SOps.skip rfl ?_
        refine SOps.skip rfl ?_
        refine SOps.skip rfl ?_
        refine SOps.skip rfl ?_
        refine SOps.skip rfl ?_
        refine SOps.pick rfl rfl ?_
        refine SOps.nil ?_
        refine SCode.cond rfl (fun _ => ?_) (fun h => by cases h)
        refine SCode.seqR ?_
        have hbad : allR a l sg = (⟨#[]⟩, 1) := by unfold allR; rw [if_neg (by simp_all)]
        refine SOps.move rfl ?_
        refine SOps.bin rfl rfl rfl ?_
        refine SOps.reSlot (t := 49) rfl (show _ = DV.v (.bool true) from congrArg (fun b => DV.v (.bool b)) (by rw [hbad]; rfl)) ?_
        refine SOps.move rfl ?_
        refine SOps.move rfl ?_
        refine SOps.bin rfl rfl rfl ?_
        refine SOps.reSlot (t := 52) rfl (show _ = DV.v (.bool true) from congrArg (fun b => DV.v (.bool b)) (by rw [hbad]; rfl)) ?_
        refine SOps.pick rfl rfl ?_
        refine SOps.assign rfl ?_
        refine SOps.nil ?_
        refine SCode.ret ?_
        exact ⟨_, Res.one (.tmp rfl), rfl, rfl⟩
      · try simp only [nmL] at hb3
        refine SOps.move rfl ?_
        refine SOps.fieldPin rfl fieldB_50_0_0 ?_
        refine SOps.loadPin rfl flatB_9 ?_
        refine SOps.callP (q10Word _ _ hz1) rfl ?_
        rintro _ rfl
        refine SOps.un rfl rfl ?_
        refine SOps.pick rfl rfl ?_
        refine SOps.move rfl ?_
        refine SOps.caseB 41 rfl (fun hb4 => ?_) (fun hb4 => ?_)
        · try simp only [nmL] at hb4
          refine SOps.skip rfl ?_
          refine SOps.skip rfl ?_
          refine SOps.skip rfl ?_
          refine SOps.skip rfl ?_
          refine SOps.skip rfl ?_
          refine SOps.pick rfl rfl ?_
          refine SOps.nil ?_
          refine SCode.cond rfl (fun _ => ?_) (fun h => by cases h)
          refine SCode.seqR ?_
          have hbad : allR a l sg = (⟨#[]⟩, 1) := by unfold allR; rw [if_neg (by simp_all)]
          refine SOps.move rfl ?_
          refine SOps.bin rfl rfl rfl ?_
          refine SOps.reSlot (t := 49) rfl (show _ = DV.v (.bool true) from congrArg (fun b => DV.v (.bool b)) (by rw [hbad]; rfl)) ?_
          refine SOps.move rfl ?_
          refine SOps.move rfl ?_
          refine SOps.bin rfl rfl rfl ?_
          refine SOps.reSlot (t := 52) rfl (show _ = DV.v (.bool true) from congrArg (fun b => DV.v (.bool b)) (by rw [hbad]; rfl)) ?_
          refine SOps.pick rfl rfl ?_
          refine SOps.assign rfl ?_
          refine SOps.nil ?_
          refine SCode.ret ?_
          exact ⟨_, Res.one (.tmp rfl), rfl, rfl⟩
        · try simp only [nmL] at hb4
          refine SOps.move rfl ?_
          refine SOps.fieldPin rfl fieldB_50_1_1 ?_
          refine SOps.loadPin rfl flatB_35 ?_
          refine SOps.callP (q14Words _ _ hz2) rfl ?_
          rintro _ rfl
          refine SOps.un rfl rfl ?_
          refine SOps.pick rfl rfl ?_
          refine SOps.nil ?_
          refine SCode.cond rfl (fun hc5 => ?_) (fun hc5 => ?_)
          · try simp only [nmL] at hc5
            refine SCode.seqR ?_
            have hbad : allR a l sg = (⟨#[]⟩, 1) := by unfold allR; rw [if_neg (by simp_all)]
            refine SOps.move rfl ?_
            refine SOps.bin rfl rfl rfl ?_
            refine SOps.reSlot (t := 49) rfl (show _ = DV.v (.bool true) from congrArg (fun b => DV.v (.bool b)) (by rw [hbad]; rfl)) ?_
            refine SOps.move rfl ?_
            refine SOps.move rfl ?_
            refine SOps.bin rfl rfl rfl ?_
            refine SOps.reSlot (t := 52) rfl (show _ = DV.v (.bool true) from congrArg (fun b => DV.v (.bool b)) (by rw [hbad]; rfl)) ?_
            refine SOps.pick rfl rfl ?_
            refine SOps.assign rfl ?_
            refine SOps.nil ?_
            refine SCode.ret ?_
            exact ⟨_, Res.one (.tmp rfl), rfl, rfl⟩
          · try simp only [nmL] at hc5
            refine SCode.skip ?_
            show SCode _ _ _ _
            refine SCode.seqR ?_
            have hvs : validS a l = true := by simp_all
            have hwh : isWordA a sg.host = true := by simp_all
            have hwc : ∀ c ∈ sg.cls, isWordA a c = true := by simp_all
            have hal : a.length ≤ 64 := by have := validA_iff.1 (validS_iff.1 hvs).1; omega
            have hgood : allR a l sg = allE a l sg.host sg.cls := by unfold allR; rw [if_pos (by simp_all)]
            refine SOps.move rfl ?_
            refine SOps.move rfl ?_
            refine SOps.loadPinA rfl aggB_50_2 (Nat.le_of_ble_eq_true rfl) ?_
            refine SOps.callP (q14All hV _ _ sg hr hwh hwc hal (by omega)) rfl ?_
            rintro _ rfl
            refine SOps.move rfl ?_
            refine SOps.extract rfl rfl ?_
            refine SOps.extract rfl rfl ?_
            refine SOps.assign rfl ?_
            refine SOps.assign rfl ?_
            refine SOps.nil ?_
            refine SCode.seqR ?_
            refine SOps.move rfl ?_
            refine SOps.move rfl ?_
            refine SOps.bin rfl rfl rfl ?_
            refine SOps.reSlot (t := 63) rfl (show _ = DV.v (.bool true) from congrArg (fun b => DV.v (.bool b)) (by rw [hgood]; simp)) ?_
            refine SOps.move rfl ?_
            refine SOps.move rfl ?_
            refine SOps.move rfl ?_
            refine SOps.bin rfl rfl rfl ?_
            refine SOps.reSlot (t := 67) rfl (show _ = DV.v (.bool true) from congrArg (fun b => DV.v (.bool b)) (by rw [hgood]; simp)) ?_
            refine SOps.pick rfl rfl ?_
            refine SOps.assign rfl ?_
            refine SOps.nil ?_
            refine SCode.ret ?_
            exact ⟨_, Res.one (.tmp rfl), rfl, rfl⟩
end Go.GH
