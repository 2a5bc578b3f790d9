/-
  Part 5 of the texts behind the walks of this claim: an own layer over the kit's wp, plain laws, and walks. No conditions.
-/
import Derived.Test.YtmmdhmlbbajjiaaDoorMa4
import Derived.KernelRfl
import Derived.Test.YtmmdhmlbbajjiaaDoorRows
import Derived.Laws.StructEq
import Derived.Tactics2
set_option linter.unusedVariables false
set_option linter.unusedSimpArgs false
set_option linter.deprecated false
namespace Go.GH
open Go Go.Proofs
variable {E : Env}
theorem fieldB_65_0_0 : fieldB Tryd.prog 65 0 0 = true := by kernel_rfl
theorem fieldB_65_1_1 : fieldB Tryd.prog 65 1 1 = true := by kernel_rfl
theorem flatB_22 : flatB Tryd.prog 22 = true := by kernel_rfl
theorem flatB_23 : flatB Tryd.prog 23 = true := by kernel_rfl
theorem casc_word {x : List Letter} {l : List Rule} {s : ByteArray} (h : (cascX (traceR x l s)).2 = 0) : (runes (cascX (traceR x l s)).1).length ≤ 40 ∧ utf8R (cascX (traceR x l s)).1 = true := by
  have := (casc_filter (p := fun _ => false) (fun r _ => ⟨fun _ => rfl, fun _ _ => rfl⟩) h).2
  rw [consS_eq, Bool.and_eq_true, Bool.and_eq_true, decide_eq_true_eq] at this
  exact ⟨this.1.2, this.1.1⟩
theorem encs_size4 : ∀ rs : List Int, (encs rs).size ≤ 4 * rs.length
  | [] => Nat.le_refl _
  | r :: rs => by
    have h1 := encs_size4 rs
    have h2 := encode_size r
    rw [show encs (r :: rs) = Utf8.encode r ++ encs rs from rfl, ByteArray.size_append, List.length_cons]
    omega
theorem utf8_size {s : ByteArray} (h : utf8R s = true) : s.size ≤ 4 * (runes s).length := by
  have := encs_size4 (runes s)
  rwa [encs_runes h] at this
theorem ba_list (s : ByteArray) : (⟨s.data.toList.toArray⟩ : ByteArray) = s := by cases s; simp
theorem cValid (hV : VS E) (a : List Letter) (l : List Rule) (hr : ∀ r ∈ l, SmR r) : GCall Tryd.prog E 13 [DLs a, DRs l] [] (fun d H => d = .v (.bool (validS a l)) ∧ H = []) := by
 refine GCall.body (C := ⟨Tryd.prog, E, true⟩) Tryd.func13 rfl (fun _ => rfl) (by kernel_rfl) rfl ?_
 refine SCode.seqR (SOps.assign rfl (SOps.nil (SCode.seq (SCode.seqR (SOps.move rfl (SOps.callP (aValid _) rfl ?_))))))
 rintro _ rfl
 refine SOps.un rfl rfl (SOps.move rfl ?_)
 refine SOps.caseB 11 rfl (fun hb1 => ?_) (fun hb1 => ?_)
 ·try simp only [nmL] at hb1
  refine SOps.skip rfl (SOps.skip rfl (SOps.skip rfl (SOps.pick rfl rfl (SOps.move rfl (SOps.skip rfl (SOps.skip rfl (SOps.skip rfl (SOps.pick rfl rfl (SOps.nil ?_)))))))))
  refine SCode.cond rfl (fun _ => ?_) (fun h => by cases h)
  refine SCode.seqR (SOps.assign rfl (SOps.nil (SCode.ret ?_)))
  exact ⟨_, Res.one (.tmp rfl), congrArg (fun b => DV.v (.bool b)) (Eq.symm (Bool.eq_false_iff.2 (fun h => by obtain ⟨v1, v2, v3, v4⟩ := validS_iff.1 h; have v5 := idxI_none v2; first | omega | simp_all))), rfl⟩
 ·try simp only [nmL] at hb1
  refine SOps.move rfl (SOps.callP (aIndex _ _) rfl ?_)
  rintro _ rfl
  refine SOps.bin rfl rfl rfl (SOps.pick rfl rfl (SOps.move rfl ?_))
  refine SOps.caseB 16 rfl (fun hb2 => ?_) (fun hb2 => ?_)
  ·try simp only [nmL] at hb2
   refine SOps.skip rfl (SOps.skip rfl (SOps.skip rfl (SOps.pick rfl rfl (SOps.nil ?_))))
   refine SCode.cond rfl (fun _ => ?_) (fun h => by cases h)
   refine SCode.seqR (SOps.assign rfl (SOps.nil (SCode.ret ?_)))
   exact ⟨_, Res.one (.tmp rfl), congrArg (fun b => DV.v (.bool b)) (Eq.symm (Bool.eq_false_iff.2 (fun h => by obtain ⟨v1, v2, v3, v4⟩ := validS_iff.1 h; have v5 := idxI_none v2; first | omega | simp_all))), rfl⟩
  ·try simp only [nmL] at hb2
   refine SOps.move rfl (SOps.lenM rfl sliceB_23_47_6 (SOps.bin rfl rfl rfl (SOps.pick rfl rfl (SOps.nil ?_))))
   refine SCode.cond rfl (fun hc3 => ?_) (fun hc3 => ?_)
   ·try simp only [nmL] at hc3
    refine SCode.seqR (SOps.assign rfl (SOps.nil (SCode.ret ?_)))
    exact ⟨_, Res.one (.tmp rfl), congrArg (fun b => DV.v (.bool b)) (Eq.symm (Bool.eq_false_iff.2 (fun h => by obtain ⟨v1, v2, v3, v4⟩ := validS_iff.1 h; have v5 := idxI_none v2; first | omega | simp_all))), rfl⟩
   ·try simp only [nmL] at hc3
    refine SCode.skip ?_
    show SCode _ _ _ _
    refine SCode.seqR ?_
    have hal : a.length ≤ 64 := by have := validA_iff.1 (show validA a = true by simp_all); omega
    refine SOps.move rfl (SOps.callP (cExtended _ (by omega)) rfl ?_)
    rintro _ rfl
    refine SOps.assign rfl (SOps.nil (SCode.seq (SCode.seqR (SOps.move rfl (SOps.lenM rfl sliceB_23_47_6 (SOps.move rfl (SOps.nil (SCode.block (SCode.loop1 (fun (i : Nat) => (⟨45, [(5, DLs (extA a)), (23, DRs l), (24, .v (.int .i64 ((l.length : Nat) : Int))), (25, .v (.int .i64 (i : Int)))], []⟩ : St)) (fun (i : Nat) => i ≤ l.length ∧ ∀ r ∈ l.take i, r.fr ≠ 61 ∧ hasEq r.«to» = false ∧ validR (extA a) r = true) (fun (i : Nat) => l.length - i) (0) (by simp) (St.Le.of ⟨(by first | rfl | (show some _ = some _; simp)), (by first | rfl | (show some _ = some _; simp)), (by first | rfl | (show some _ = some _; simp)), (by first | rfl | (show some _ = some _; simp)), trivial⟩ rfl (by first | rfl | (simp))) ?_)))))))))
    rintro i ⟨hi, hf⟩
    refine SCode.seqR (SOps.bin rfl rfl rfl (SOps.nil (SCode.seq ?_)))
    refine SCode.cond rfl (fun hc4 => ?_) (fun hc4 => ?_)
    ·try simp only [nmL] at hc4
     refine SCode.skip ?_
     show SCode _ _ _ _
     refine SCode.seq (SCode.block (SCode.seqR ?_))
     have hri := hr _ (List.getElem_mem (show i < l.length by omega))
     refine SOps.indexM (i) rfl rfl sliceB_23_47_6 (by first | omega | (simp only [lenB]; omega)) (by first | omega | (simp only [lenB]; omega)) (SOps.loadPinA rfl aggB_47_6 (Nat.le_of_ble_eq_true rfl) ?_)
     refine SOps.alloc (sz := 6) zeroIs_47 (fun b0 hb_0 => ?_)
     refine SOps.storeAM 0 rfl rfl aggB_47_6 rfl (SOps.freezeRef (t := 7) 0 0 rfl rfl rfl rfl rfl (SOps.nil (SCode.seqR (SOps.fieldPin rfl fieldB_47_0_0 (SOps.loadPin rfl flatB_21 (SOps.bin rfl rfl rfl (SOps.move rfl ?_)))))))
     refine SOps.caseB 32 rfl (fun hb5 => ?_) (fun hb5 => ?_)
     ·try simp only [nmL] at hb5
      refine SOps.skip rfl (SOps.skip rfl (SOps.skip rfl (SOps.skip rfl (SOps.pick rfl rfl (SOps.move rfl (SOps.skip rfl (SOps.skip rfl (SOps.skip rfl (SOps.skip rfl (SOps.pick rfl rfl (SOps.nil ?_)))))))))))
      refine SCode.cond rfl (fun _ => ?_) (fun h => by cases h)
      refine SCode.seqR (SOps.assign rfl (SOps.nil (SCode.ret ?_)))
      exact ⟨_, Res.one (.tmp rfl), congrArg (fun b => DV.v (.bool b)) (Eq.symm (Bool.eq_false_iff.2 (fun h => by obtain ⟨v1, v2, v3, v4⟩ := validS_iff.1 h; obtain ⟨v5, v6, v7⟩ := v4 _ (List.getElem_mem (show i < l.length by omega)); simp_all))), rfl⟩
     ·try simp only [nmL] at hb5
      refine SOps.fieldPin rfl fieldB_47_1_1 (SOps.loadPin rfl flatB_9 (SOps.callP (sByte _ hri.1) rfl ?_))
      rintro _ ⟨n9, rfl, hn9⟩
      refine SOps.bin rfl rfl rfl (SOps.reSlot (t := 36) rfl (show _ = DV.v (.bool (hasEq (l[i]).«to»)) from congrArg (fun b => DV.v (.bool b)) (hn9)) (SOps.pick rfl rfl (SOps.move rfl ?_)))
      refine SOps.caseB 38 rfl (fun hb6 => ?_) (fun hb6 => ?_)
      ·try simp only [nmL] at hb6
       refine SOps.skip rfl (SOps.skip rfl (SOps.skip rfl (SOps.skip rfl (SOps.pick rfl rfl (SOps.nil ?_)))))
       refine SCode.cond rfl (fun _ => ?_) (fun h => by cases h)
       refine SCode.seqR (SOps.assign rfl (SOps.nil (SCode.ret ?_)))
       exact ⟨_, Res.one (.tmp rfl), congrArg (fun b => DV.v (.bool b)) (Eq.symm (Bool.eq_false_iff.2 (fun h => by obtain ⟨v1, v2, v3, v4⟩ := validS_iff.1 h; obtain ⟨v5, v6, v7⟩ := v4 _ (List.getElem_mem (show i < l.length by omega)); simp_all))), rfl⟩
      ·try simp only [nmL] at hb6
       refine SOps.move rfl (SOps.loadPinA rfl aggB_47_6 (Nat.le_of_ble_eq_true rfl) (SOps.callP (rValid hV _ _ hri) rfl ?_))
       rintro _ rfl
       refine SOps.un rfl rfl (SOps.pick rfl rfl (SOps.nil ?_))
       refine SCode.cond rfl (fun hc7 => ?_) (fun hc7 => ?_)
       ·try simp only [nmL] at hc7
        refine SCode.seqR (SOps.assign rfl (SOps.nil (SCode.ret ?_)))
        exact ⟨_, Res.one (.tmp rfl), congrArg (fun b => DV.v (.bool b)) (Eq.symm (Bool.eq_false_iff.2 (fun h => by obtain ⟨v1, v2, v3, v4⟩ := validS_iff.1 h; obtain ⟨v5, v6, v7⟩ := v4 _ (List.getElem_mem (show i < l.length by omega)); simp_all))), rfl⟩
       ·try simp only [nmL] at hc7
        refine SCode.skip ?_
        show SCode _ _ _ _
        refine SCode.region (SOps.addI rfl rfl (by first | omega | (simp only [lenB]; omega)) (by first | omega | (simp only [lenB]; omega)) (SOps.move rfl (SOps.nil ?_)))
        exact ⟨i + 1, by exact ⟨by omega, take_more hf (by omega) ⟨by simp_all, by simp_all, by simp_all⟩⟩, by omega, (St.Le.of ⟨(by first | rfl | (show some _ = some _; simp)), (by first | rfl | (show some _ = some _; simp)), (by first | rfl | (show some _ = some _; simp)), (by first | rfl | (show some _ = some _; simp)), trivial⟩ rfl (by first | rfl | (simp)))⟩
    ·try simp only [nmL] at hc4
     refine SCode.exit ?_
     show SCode _ _ _ _
     refine SCode.seqR (SOps.assign rfl (SOps.nil (SCode.ret ?_)))
     exact ⟨_, Res.one (.tmp rfl), congrArg (fun b => DV.v (.bool b)) (Eq.symm (validS_iff.2 ⟨by simp_all, by cases hx : idx a 61 with | none => rfl | some k => (have := idxI_some hx; omega), by omega, all_of (by omega) hf⟩)), rfl⟩
theorem cWords (hV : VS E) (a : List Letter) (l : List ByteArray)  : GCall Tryd.prog E 39 [DLs a, DStrs l] [] (fun d H => d = .v (.bool (l.all (isWordA a))) ∧ H = []) := by
 refine GCall.body (C := ⟨Tryd.prog, E, true⟩) Tryd.func39 rfl (fun _ => rfl) (by kernel_rfl) rfl ?_
 refine SCode.seqR (SOps.assign rfl (SOps.nil (SCode.seq (SCode.seqR (SOps.move rfl (SOps.lenM rfl sliceB_35_9_1 (SOps.move rfl (SOps.nil (SCode.block (SCode.loop1 (fun (i : Nat) => (⟨18, [(0, DLs a), (7, DStrs l), (8, .v (.int .i64 ((l.length : Nat) : Int))), (9, .v (.int .i64 (i : Int)))], []⟩ : St)) (fun (i : Nat) => i ≤ l.length ∧ ∀ s ∈ l.take i, isWordA a s = true) (fun (i : Nat) => l.length - i) (0) (by simp) (St.Le.of ⟨(by first | rfl | (show some _ = some _; simp)), (by first | rfl | (show some _ = some _; simp)), (by first | rfl | (show some _ = some _; simp)), (by first | rfl | (show some _ = some _; simp)), trivial⟩ rfl (by first | rfl | (simp))) ?_))))))))))
 rintro i ⟨hi, hf⟩
 refine SCode.fact (isl_len (t := 7) rfl) (fun hB => ?_)
 simp only [List.length_map, lenB] at hB
 refine SCode.seqR (SOps.bin rfl rfl rfl (SOps.nil (SCode.seq ?_)))
 refine SCode.cond rfl (fun hc1 => ?_) (fun hc1 => ?_)
 ·try simp only [nmL] at hc1
  refine SCode.skip ?_
  show SCode _ _ _ _
  refine SCode.seq (SCode.block (SCode.seqR (SOps.indexM (i) rfl rfl sliceB_35_9_1 (by first | omega | (simp only [lenB]; omega)) (by first | omega | (simp only [lenB]; omega)) (SOps.loadPin rfl flatB_9 (SOps.assign rfl (SOps.nil (SCode.seqR (SOps.move rfl (SOps.move rfl (SOps.callP (aIsWord hV _ _) rfl ?_))))))))))
  rintro _ rfl
  refine SOps.un rfl rfl (SOps.nil ?_)
  refine SCode.cond rfl (fun hc2 => ?_) (fun hc2 => ?_)
  ·try simp only [nmL] at hc2
   refine SCode.seqR (SOps.assign rfl (SOps.nil (SCode.ret ?_)))
   exact ⟨_, Res.one (.tmp rfl), congrArg (fun b => DV.v (.bool b)) (Eq.symm (Bool.eq_false_iff.2 (fun h => by rw [List.all_eq_true] at h; have := h _ (List.getElem_mem (show i < l.length by omega)); simp_all))), rfl⟩
  ·try simp only [nmL] at hc2
   refine SCode.skip ?_
   show SCode _ _ _ _
   refine SCode.region (SOps.addI rfl rfl (by first | omega | (simp only [lenB]; omega)) (by first | omega | (simp only [lenB]; omega)) (SOps.move rfl (SOps.nil ?_)))
   exact ⟨i + 1, by exact ⟨by omega, take_more hf (by omega) (by simp_all)⟩, by omega, (St.Le.of ⟨(by first | rfl | (show some _ = some _; simp)), (by first | rfl | (show some _ = some _; simp)), (by first | rfl | (show some _ = some _; simp)), (by first | rfl | (show some _ = some _; simp)), trivial⟩ rfl (by first | rfl | (simp)))⟩
 ·try simp only [nmL] at hc1
  refine SCode.exit ?_
  show SCode _ _ _ _
  refine SCode.seqR (SOps.assign rfl (SOps.nil (SCode.ret ?_)))
  exact ⟨_, Res.one (.tmp rfl), congrArg (fun b => DV.v (.bool b)) (Eq.symm (List.all_eq_true.2 (all_of (by omega) hf))), rfl⟩
theorem jAttach (hV : VS E) (a : List Letter) (l : List Rule) (h c : ByteArray) (hr : ∀ r ∈ l, SmR r) (h1 : utf8R h = true) (h2 : utf8R c = true) (w1 : (runes h).length ≤ 40) (w2 : (runes c).length ≤ 40) : GCall Tryd.prog E 40 [.agg [DLs (extA a), DRs l], .v (.string h), .v (.string c)] [] (fun d H => d = tupA (attE a l h c) ∧ H = []) := by
 have hu1 := utf8_size h1
 have hu2 := utf8_size h2
 refine GCall.body (C := ⟨Tryd.prog, E, true⟩) Tryd.func40 rfl (fun _ => rfl) (by kernel_rfl) rfl ?_
 refine SCode.seqR (SOps.boxAM rfl rfl (SOps.assign rfl (SOps.assign rfl (SOps.nil (SCode.seq (SCode.seqR (SOps.move rfl (SOps.callP (uRuneCount _) rfl ?_))))))))
 rintro _ rfl
 refine SOps.addI rfl rfl (by first | omega | (simp only [lenB]; omega)) (by first | omega | (simp only [lenB]; omega)) (SOps.move rfl (SOps.callP (uRuneCount _) rfl ?_))
 rintro _ rfl
 refine SOps.addI rfl rfl (by first | omega | (simp only [lenB]; omega)) (by first | omega | (simp only [lenB]; omega)) (SOps.bin rfl rfl rfl (SOps.nil ?_))
 refine SCode.cond rfl (fun hc1 => ?_) (fun hc1 => ?_)
 ·try simp only [nmL] at hc1
  refine SCode.seqR (SOps.assign rfl (SOps.assign rfl (SOps.nil (SCode.ret ?_))))
  exact ⟨_, Res.two (.tmp rfl) (.tmp rfl), (by unfold attE; rw [if_pos (by omega)]; rfl), rfl⟩
 ·try simp only [nmL] at hc1
  refine SCode.skip ?_
  show SCode _ _ _ _
  refine SCode.seqR ?_
  have hjs : (joinE h c).size ≤ 1048576 := by show (h ++ eqB ++ c).size ≤ _; rw [ByteArray.size_append, ByteArray.size_append, show eqB.size = 1 from rfl]; omega
  refine SOps.fieldPin rfl fieldB_65_0_0 (SOps.loadPin rfl flatB_22 (SOps.fieldPin rfl fieldB_65_1_1 (SOps.loadPin rfl flatB_23 (SOps.move rfl (SOps.concat rfl rfl (by simp only [lenB, ByteArray.size_append]; have : (ByteArray.mk #[61]).size = 1 := rfl; omega) (SOps.move rfl (SOps.concat rfl rfl (by simp only [lenB, ByteArray.size_append]; have : (ByteArray.mk #[61]).size = 1 := rfl; omega) (SOps.callP (rCascade hV (extA a) l (joinE h c) hr hjs) rfl ?_))))))))
  rintro _ rfl
  refine SOps.move rfl (SOps.extract rfl rfl (SOps.extract rfl rfl (SOps.assign rfl (SOps.assign rfl (SOps.nil (SCode.seq (SCode.seqR (SOps.move rfl (SOps.bin rfl rfl rfl (SOps.nil ?_))))))))))
  refine SCode.cond rfl (fun hc2 => ?_) (fun hc2 => ?_)
  ·try simp only [nmL] at hc2
   refine SCode.seqR (SOps.move rfl (SOps.assign rfl (SOps.assign rfl (SOps.nil (SCode.ret ?_)))))
   exact ⟨_, Res.two (.tmp rfl) (.tmp rfl), (by unfold attE; rw [if_neg (by omega), if_neg (show ¬ (cascE a l h c).2 = 0 from hc2)]; rfl), rfl⟩
  ·try simp only [nmL] at hc2
   refine SCode.skip ?_
   show SCode _ _ _ _
   refine SCode.seqR ?_
   have hcw := casc_word (show (cascX (traceR (extA a) l (joinE h c))).2 = 0 from hc2)
   change (runes (cascE a l h c).1).length ≤ 40 ∧ utf8R (cascE a l h c).1 = true at hcw
   have hws := utf8_size hcw.2
   refine SOps.allocV (sz := 2) zeroBld (fun b0 hb_0 => ?_)
   refine SOps.nil (SCode.seq (SCode.seqR (SOps.move rfl ?_)))
   refine SOps.rangeStr rfl strB_9 (fun b1 hb_1 => ?_)
   refine SOps.nil (SCode.block (SCode.loop5 (fun (p : Nat) (b : Nat) (g : Nat) (u : Bool) (bs : List UInt8) => (⟨45, [(10, .vref b0 100 2), (36, .it b)], [(b, .iter (cascE a l h c).1 p)] ++ bldH b0 g u bs⟩ : St)) (fun (p : Nat) (b : Nat) (g : Nat) (u : Bool) (bs : List UInt8) => bs ++ (encs ((runesAt (cascE a l h c).1 p).filter (fun r => !decide (r = 61)))).data.toList = (encs ((runes (cascE a l h c).1).filter (fun r => !decide (r = 61)))).data.toList) (fun (p : Nat) (b : Nat) (g : Nat) (u : Bool) (bs : List UInt8) => (cascE a l h c).1.size - p) (0) (b1) (0) (false) ([]) (by rfl) (St.Le.of ⟨(by first | rfl | (show some _ = some _; simp)), (by first | rfl | (show some _ = some _; simp)), trivial⟩ rfl (by first | rfl | (simp))) ?_))
   rintro p b g u bs hf
   have hbl : bs.length ≤ 8388608 := by have h8 := congrArg List.length hf; rw [List.length_append] at h8; have h9 := encs_size4 ((runes (cascE a l h c).1).filter (fun r => !decide (r = 61))); have h10 := List.length_filter_le (fun r => !decide (r = 61)) (runes (cascE a l h c).1); have h11 : (encs ((runes (cascE a l h c).1).filter (fun r => !decide (r = 61)))).data.toList.length = (encs ((runes (cascE a l h c).1).filter (fun r => !decide (r = 61)))).size := (by simp); omega
   refine SCode.seqR ?_
   refine SOps.next 0 rfl rfl (fun hn3 => ?_) (fun hn3 => ?_) (by first | omega | (simp only [lenB]; omega))
   ·refine SOps.extract rfl rfl (SOps.nil (SCode.seq ?_))
    refine SCode.cond rfl (fun _ => ?_) (fun h => by cases h)
    refine SCode.skip ?_
    show SCode _ _ _ _
    refine SCode.block (SCode.seqR (SOps.extract rfl rfl (SOps.assign rfl (SOps.nil (SCode.seqR (SOps.move rfl (SOps.bin rfl rfl rfl (SOps.nil ?_))))))))
    refine SCode.cond rfl (fun hc4 => ?_) (fun hc4 => ?_)
    ·try simp only [nmL] at hc4
     refine SCode.region (SOps.move rfl (SOps.callR (bldH _ _ _ _) [_] (bWriteRune _ _ _ _ _ (decode_valid _ _) (by omega)) rfl rfl ?_))
     rintro _ _ ⟨g7, n7, rfl, rfl⟩
     refine SOps.nil ?_
     first
      | exact ⟨p + (Utf8.decode (cascE a l h c).1 p).2, b, g7, true, bs ++ encBy _, by rw [← hf, runesAt_lt hn3, List.filter_cons, if_pos (by simp_all), encs_cons_data, List.append_assoc], by have := decode_w (cascE a l h c).1 p; omega, St.Le.of ⟨rfl, rfl,  trivial⟩ rfl rfl⟩
      | exact ⟨p + (Utf8.decode (cascE a l h c).1 p).2, b, g, u, bs, by rw [← hf, runesAt_lt hn3, List.filter_cons, if_neg (by simp_all)], by have := decode_w (cascE a l h c).1 p; omega, St.Le.of ⟨rfl, rfl,  trivial⟩ rfl rfl⟩
    ·try simp only [nmL] at hc4
     refine SCode.skip ?_
     first
      | exact ⟨p + (Utf8.decode (cascE a l h c).1 p).2, b, g7, true, bs ++ encBy _, by rw [← hf, runesAt_lt hn3, List.filter_cons, if_pos (by simp_all), encs_cons_data, List.append_assoc], by have := decode_w (cascE a l h c).1 p; omega, St.Le.of ⟨rfl, rfl,  trivial⟩ rfl rfl⟩
      | exact ⟨p + (Utf8.decode (cascE a l h c).1 p).2, b, g, u, bs, by rw [← hf, runesAt_lt hn3, List.filter_cons, if_neg (by simp_all)], by have := decode_w (cascE a l h c).1 p; omega, St.Le.of ⟨rfl, rfl,  trivial⟩ rfl rfl⟩
   ·refine SOps.extract rfl rfl (SOps.nil (SCode.seq ?_))
    refine SCode.cond rfl (fun h => by cases h) (fun _ => ?_)
    refine SCode.exit ?_
    show SCode _ _ _ _
    refine SCode.seqR (SOps.callR (bldH _ _ _ _) [_] (bString _ _ _ _ (by omega)) rfl rfl ?_)
    rintro _ _ ⟨rfl, rfl⟩
    refine SOps.assign rfl (SOps.assign rfl (SOps.nil (SCode.drop (SCode.ret ?_))))
    have hbs : bs = (dropE (cascE a l h c).1).data.toList := by rw [runesAt_ge hn3] at hf; rw [← List.append_nil bs]; exact hf
    exact ⟨_, Res.two (.tmp rfl) (.tmp rfl), (by unfold attE; rw [if_neg (by omega), if_pos (show (cascE a l h c).2 = 0 from hc2), hbs, ba_list]; rfl), rfl⟩
end Go.GH
namespace Go.GH
open Go Go.Proofs
variable {E : Env}
theorem aggB_50_2 : aggB Tryd.prog 50 2 = true := by kernel_rfl
theorem aggB_65_2 : aggB Tryd.prog 65 2 = true := by kernel_rfl
theorem fieldB_50_0_0 : fieldB Tryd.prog 50 0 0 = true := by kernel_rfl
theorem fieldB_50_1_1 : fieldB Tryd.prog 50 1 1 = true := by kernel_rfl
theorem flatB_35 : flatB Tryd.prog 35 = true := by kernel_rfl
theorem placesB_65 : placesB Tryd.prog 65 [(0, 1), (1, 1)] = true := by kernel_rfl
theorem zeroIs_65 : zeroIs Tryd.prog 65 (.agg #[.slice none 0 0, .slice none 0 0]) := by unfold zeroIs; kernel_rfl
theorem word_facts {a : List Letter} {s : ByteArray} (h : isWordA a s = true) : overA a s = true ∧ utf8R s = true ∧ (runes s).length ≤ 40 ∧ s.size ≤ 160 := by
  have h1 := isWordA_over h
  have h2 := (overA_iff.1 h1.1).1
  exact ⟨h1.1, h2, h1.2, by have := utf8_size h2; omega⟩
theorem att_word {a : List Letter} {l : List Rule} {h c : ByteArray} (h1 : isWordA a h = true) (h2 : isWordA a c = true) (he : (attE a l h c).2 = 0) : isWordA a (attE a l h c).1 = true := by
  have := att_keep (word_facts h1).1 (word_facts h2).1 he
  unfold isWordA
  rw [this.1, Bool.true_and]
  exact decide_eq_true this.2.1
theorem jAll (hV : VS E) (a : List Letter) (l : List Rule) (sg : Sg) (hr : ∀ r ∈ l, SmR r) (hh : isWordA a sg.host = true) (hc : ∀ c ∈ sg.cls, isWordA a c = true) : GCall Tryd.prog E 50 [.agg [DLs (extA a), DRs l], .agg (encSg sg)] [] (fun d H => d = tupA (allE a l sg.host sg.cls) ∧ H = []) := by
 refine GCall.body (C := ⟨Tryd.prog, E, true⟩) Tryd.func50 rfl (fun _ => rfl) (by kernel_rfl) rfl ?_
 refine SCode.seqR (SOps.boxAM rfl rfl (SOps.boxAM rfl rfl (SOps.assign rfl (SOps.assign rfl (SOps.nil (SCode.seqR (SOps.fieldPin rfl fieldB_50_0_0 (SOps.loadPin rfl flatB_9 (SOps.assign rfl (SOps.nil (SCode.seq (SCode.seqR (SOps.fieldPin rfl fieldB_50_1_1 (SOps.loadPin rfl flatB_35 (SOps.lenM rfl sliceB_35_9_1 (SOps.move rfl (SOps.nil (SCode.block (SCode.loop2 (fun (i : Nat) (f : ByteArray) => (⟨33, [(2, .ipin [DLs (extA a), DRs l]), (6, .v (.string f)), (14, DStrs sg.cls), (15, .v (.int .i64 ((sg.cls.length : Nat) : Int))), (16, .v (.int .i64 (i : Int)))], []⟩ : St)) (fun (i : Nat) (f : ByteArray) => i ≤ sg.cls.length ∧ isWordA a f = true ∧ allE a l f (sg.cls.drop i) = allE a l sg.host sg.cls) (fun (i : Nat) (f : ByteArray) => sg.cls.length - i) (0) (sg.host) (by exact ⟨Nat.zero_le _, hh, rfl⟩) (St.Le.of ⟨(by first | rfl | (show some _ = some _; simp)), (by first | rfl | (show some _ = some _; simp)), (by first | rfl | (show some _ = some _; simp)), (by first | rfl | (show some _ = some _; simp)), (by first | rfl | (show some _ = some _; simp)), trivial⟩ rfl (by first | rfl | (simp))) ?_)))))))))))))))))))
 rintro i f ⟨hi, hfw, hf⟩
 refine SCode.fact (isl_len (t := 14) rfl) (fun hB => ?_)
 simp only [List.length_map, lenB] at hB
 refine SCode.seqR (SOps.bin rfl rfl rfl (SOps.nil (SCode.seq ?_)))
 refine SCode.cond rfl (fun hc1 => ?_) (fun hc1 => ?_)
 ·try simp only [nmL] at hc1
  refine SCode.skip ?_
  show SCode _ _ _ _
  refine SCode.seq (SCode.block (SCode.seqR ?_))
  have hil : i < sg.cls.length := by omega
  have hci := hc _ (List.getElem_mem hil)
  have hdr : sg.cls.drop i = sg.cls[i] :: sg.cls.drop (i + 1) := List.drop_eq_getElem_cons hil
  have hq1 := word_facts hfw
  have hq2 := word_facts hci
  refine SOps.indexM (i) rfl rfl sliceB_35_9_1 (by first | omega | (simp only [lenB]; omega)) (by first | omega | (simp only [lenB]; omega)) (SOps.loadPin rfl flatB_9 (SOps.assign rfl (SOps.nil (SCode.seqR (SOps.loadPinA rfl aggB_65_2 (Nat.le_of_ble_eq_true rfl) (SOps.move rfl (SOps.move rfl (SOps.callP (jAttach hV _ _ _ _ hr hq1.2.1 hq2.2.1 hq1.2.2.1 hq2.2.2.1) rfl ?_))))))))
  rintro _ rfl
  refine SOps.move rfl (SOps.extract rfl rfl (SOps.extract rfl rfl (SOps.assign rfl (SOps.assign rfl (SOps.nil (SCode.seq (SCode.seqR (SOps.move rfl (SOps.bin rfl rfl rfl (SOps.nil ?_))))))))))
  refine SCode.cond rfl (fun hc2 => ?_) (fun hc2 => ?_)
  ·try simp only [nmL] at hc2
   refine SCode.seqR (SOps.move rfl (SOps.assign rfl (SOps.assign rfl (SOps.nil (SCode.ret ?_)))))
   exact ⟨_, Res.two (.tmp rfl) (.tmp rfl), (by rw [← hf, hdr, allE, if_neg hc2]; rfl), rfl⟩
  ·try simp only [nmL] at hc2
   refine SCode.skip ?_
   show SCode _ _ _ _
   refine SCode.region (SOps.move rfl (SOps.assign rfl (SOps.nil ?_)))
   show SCode _ _ _ _
   refine SCode.region (SOps.addI rfl rfl (by first | omega | (simp only [lenB]; omega)) (by first | omega | (simp only [lenB]; omega)) (SOps.move rfl (SOps.nil ?_)))
   exact ⟨i + 1, (attE a l f (sg.cls[i])).1, ⟨by omega, att_word hfw hci hc2, by rw [← hf, hdr, allE, if_pos hc2]⟩, by omega, St.Le.of ⟨rfl, rfl, rfl, rfl, rfl, trivial⟩⟩
 ·try simp only [nmL] at hc1
  refine SCode.exit ?_
  show SCode _ _ _ _
  refine SCode.seqR (SOps.move rfl (SOps.assign rfl (SOps.assign rfl (SOps.nil (SCode.ret ?_)))))
  exact ⟨_, Res.two (.tmp rfl) (.tmp rfl), (by rw [← hf, List.drop_eq_nil_of_le (by omega)]; rfl), rfl⟩
theorem cAttach (hV : VS E) (a : List Letter) (l : List Rule) (h c : ByteArray) (hr : ∀ r ∈ l, SmR r) : GCall Tryd.prog E 16 [DLs a, DRs l, .v (.string h), .v (.string c)] [] (fun d H => d = tupA (attR a l h c) ∧ H = []) := by
 refine GCall.body (C := ⟨Tryd.prog, E, true⟩) Tryd.func16 rfl (fun _ => rfl) (by kernel_rfl) rfl ?_
 refine SCode.seqR (SOps.assign rfl (SOps.assign rfl (SOps.nil (SCode.seq (SCode.seqR (SOps.move rfl (SOps.move rfl (SOps.callP (cValid hV _ _ (by assumption)) rfl ?_))))))))
 rintro _ rfl
 refine SOps.un rfl rfl (SOps.move rfl ?_)
 refine SOps.caseB 14 rfl (fun hb1 => ?_) (fun hb1 => ?_)
 ·try simp only [nmL] at hb1
  refine SOps.skip rfl (SOps.skip rfl (SOps.skip rfl (SOps.skip rfl (SOps.skip rfl (SOps.skip rfl (SOps.pick rfl rfl (SOps.nil ?_)))))))
  refine SCode.cond rfl (fun _ => ?_) (fun h => by cases h)
  refine SCode.seqR (SOps.assign rfl (SOps.assign rfl (SOps.nil (SCode.ret ?_))))
  exact ⟨_, Res.two (.tmp rfl) (.tmp rfl), (by unfold attR; first | (rw [if_pos (by simp_all)]; done) | (rw [if_pos (by simp_all)]; rfl) | (rw [if_neg (by simp_all)]; rfl)), rfl⟩
 ·try simp only [nmL] at hb1
  refine SOps.move rfl (SOps.move rfl (SOps.move rfl (SOps.litF rfl sliceB_35_9_1 zeroIs_9 rfl (SOps.callP (cWords hV a [h, c]) rfl ?_))))
  rintro _ rfl
  refine SOps.un rfl rfl (SOps.pick rfl rfl (SOps.nil ?_))
  refine SCode.cond rfl (fun hc2 => ?_) (fun hc2 => ?_)
  ·try simp only [nmL] at hc2
   refine SCode.seqR (SOps.assign rfl (SOps.assign rfl (SOps.nil (SCode.ret ?_))))
   exact ⟨_, Res.two (.tmp rfl) (.tmp rfl), (by unfold attR; first | (rw [if_pos (by simp_all)]; done) | (rw [if_pos (by simp_all)]; rfl) | (rw [if_neg (by simp_all)]; rfl)), rfl⟩
  ·try simp only [nmL] at hc2
   refine SCode.skip ?_
   show SCode _ _ _ _
   refine SCode.seqR ?_
   have hvs : validS a l = true := by simp_all
   have hal : a.length ≤ 64 := by have := validA_iff.1 (validS_iff.1 hvs).1; omega
   have hwh : isWordA a h = true := by simp_all
   have hwc : isWordA a c = true := by simp_all
   have hq1 := word_facts hwh
   have hq2 := word_facts hwc
   refine SOps.move rfl (SOps.callP (cExtended _ (by omega)) rfl ?_)
   rintro _ rfl
   refine SOps.move rfl (SOps.buildM placesB_65 zeroIs_65 rfl rfl (SOps.move rfl (SOps.move rfl (SOps.callP (jAttach hV a _ _ _ hr hq1.2.1 hq2.2.1 hq1.2.2.1 hq2.2.2.1) rfl ?_))))
   rintro _ rfl
   refine SOps.extract rfl rfl (SOps.extract rfl rfl (SOps.assign rfl (SOps.assign rfl (SOps.nil (SCode.ret ?_)))))
   exact ⟨_, Res.two (.tmp rfl) (.tmp rfl), (by unfold attR; first | (rw [if_pos (by simp_all)]; done) | (rw [if_pos (by simp_all)]; rfl) | (rw [if_neg (by simp_all)]; rfl)), rfl⟩
end Go.GH
namespace Go.GH
open Go
theorem look_upd {d : TypeDesc} {k k' : Value} {v : DV} (hk : isKey d k = true) (hk' : isKey d k' = true) : ∀ (es : List (Value × DV)), (∀ p ∈ es, isKey d p.1 = true) → lookupL (updL es k v) k' = if sameKey k' k then some v else lookupL es k'
  | [], _ => rfl
  | p :: es, hs => by
    have hp := hs p (List.mem_cons_self ..)
    have ih := look_upd (v := v) hk hk' es (fun q hq => hs q (List.mem_cons_of_mem _ hq))
    rw [updL]
    by_cases h : sameKey k p.1 = true
    · rw [if_pos h]
      have e := (sameKey_iff hk hp).1 h
      simp only [lookupL]
      rw [← e]
      split <;> rfl
    · rw [if_neg h]
      simp only [lookupL]
      rw [ih]
      by_cases h2 : sameKey k' p.1 = true
      · rw [if_pos h2, if_pos h2]
        have e := (sameKey_iff hk' hp).1 h2
        rw [if_neg]
        intro h3
        have e3 := (sameKey_iff hk' hk).1 h3
        exact h ((sameKey_iff hk hp).2 (e3.symm.trans e))
      · rw [if_neg h2, if_neg h2]
theorem keys_upd {d : TypeDesc} {k : Value} {v : DV} (hk : isKey d k = true) : ∀ (es : List (Value × DV)), (∀ p ∈ es, isKey d p.1 = true) → ∀ p ∈ updL es k v, isKey d p.1 = true
  | [], _, p, hp => by rw [updL, List.mem_singleton] at hp; subst hp; exact hk
  | q :: es, hs, p, hp => by
    rw [updL] at hp
    split at hp
    · rcases List.mem_cons.1 hp with rfl | hp
      · exact hk
      · exact hs p (List.mem_cons_of_mem _ hp)
    · rcases List.mem_cons.1 hp with rfl | hp
      · exact hs p (List.mem_cons_self ..)
      · exact keys_upd hk es (fun q hq => hs q (List.mem_cons_of_mem _ hq)) p hp
def KI (es : List (Value × DV)) : Prop := ∀ p ∈ es, isKey (.int .i32) p.1 = true
def KS (es : List (Value × DV)) : Prop := ∀ p ∈ es, isKey .string p.1 = true
def tT : DV := .v (.bool true)
/-- A set of runes. -/
structure SetI (es : List (Value × DV)) (ks : List Int) : Prop where
  keys : KI es
  look : ∀ r : Int, lookupL es (.int .i32 r) = (if ks.contains r then some () else none).map (fun _ => tT)
theorem SetI.nil : SetI [] [] := ⟨(fun p hp => by cases hp), fun r => rfl⟩
theorem SetI.add {es : List (Value × DV)} {ks : List Int} (h : SetI es ks) (r : Int) : SetI (updL es (.int .i32 r) tT) (ks ++ [r]) := by
  refine ⟨keys_upd rfl es h.keys, fun q => ?_⟩
  rw [look_upd (d := .int .i32) rfl rfl es h.keys, h.look]
  by_cases e : q = r
  · subst e; simp [sameKey]
  · simp [sameKey, e]
/-- A set of strings. -/
structure SetS (es : List (Value × DV)) (ks : List ByteArray) : Prop where
  keys : KS es
  look : ∀ s : ByteArray, lookupL es (.string s) = (if memS s ks then some () else none).map (fun _ => tT)
theorem SetS.nil : SetS [] [] := ⟨(fun p hp => by cases hp), fun r => rfl⟩
theorem SetS.add {es : List (Value × DV)} {ks : List ByteArray} (h : SetS es ks) (r : ByteArray) : SetS (updL es (.string r) tT) (ks ++ [r]) := by
  refine ⟨keys_upd rfl es h.keys, fun q => ?_⟩
  rw [look_upd (d := .string) rfl rfl es h.keys, h.look, memS_snoc]
  by_cases e : q = r
  · subst e; simp [sameKey]
  · have e2 : ¬ r = q := fun x => e x.symm
    simp [sameKey, e, e2]
/-- What strings are mapped to what f says. -/
structure MapS (f : ByteArray → ByteArray) (es : List (Value × DV)) (ks : List ByteArray) : Prop where
  keys : KS es
  look : ∀ s : ByteArray, lookupL es (.string s) = (if memS s ks then some (f s) else none).map (fun x => DV.v (.string x))
theorem MapS.nil (f : ByteArray → ByteArray) : MapS f [] [] := ⟨(fun p hp => by cases hp), fun r => rfl⟩
theorem MapS.add {f : ByteArray → ByteArray} {es : List (Value × DV)} {ks : List ByteArray} (h : MapS f es ks) (r : ByteArray) : MapS f (updL es (.string r) (.v (.string (f r)))) (ks ++ [r]) := by
  refine ⟨keys_upd rfl es h.keys, fun q => ?_⟩
  rw [look_upd (d := .string) rfl rfl es h.keys, h.look, memS_snoc]
  by_cases e : q = r
  · subst e; simp [sameKey]
  · have e2 : ¬ r = q := fun x => e x.symm
    simp [sameKey, e, e2]
theorem SetS.more {es : List (Value × DV)} {ks : List ByteArray} (h : SetS es ks) {r : ByteArray} (hr : memS r ks = true) : SetS es (ks ++ [r]) := by
  refine ⟨h.keys, fun q => ?_⟩
  rw [h.look, memS_snoc]
  by_cases e : r = q
  · subst e; rw [hr]; rfl
  · simp [e]
theorem take_next {α : Type} {l : List α} {i : Nat} (h : i < l.length) : l.take (i + 1) = l.take i ++ [l[i]] := by
  rw [List.take_succ, List.getElem?_eq_getElem h]; rfl
theorem chg_nil (r : Int) : chg [] r = false := rfl
theorem chg_cons (q : Rule) (l : List Rule) (r : Int) : chg (q :: l) r = ((decide (q.fr = r) || (runes q.«to»).contains r) || chg l r) := rfl
end Go.GH
namespace Go.GH
open Go Go.Proofs
variable {E : Env}
theorem mapB_109 : mapB Tryd.prog 109 9 4 (.string) := ⟨by kernel_rfl, by kernel_rfl⟩
theorem sHasPrefix (s p : ByteArray) (hs : s.size ≤ 1048576) : GCall Tryd.prog E 88 [.v (.string s), .v (.string p)] [] (fun d H => d = .v (.bool (prefB p s)) ∧ H = []) := by
 refine GCall.body (C := ⟨Tryd.prog, E, true⟩) Tryd.func88 rfl (fun _ => rfl) (by kernel_rfl) rfl ?_
 refine SCode.seqR (SOps.assign rfl (SOps.nil (SCode.seqR (SOps.move rfl (SOps.lenStr rfl strB_9 (SOps.move rfl (SOps.lenStr rfl strB_9 (SOps.bin rfl rfl rfl (SOps.move rfl ?_)))))))))
 refine SOps.caseB 10 rfl (fun hb1 => ?_) (fun hb1 => ?_)
 ·try simp only [nmL] at hb1
  refine SOps.move rfl (SOps.move rfl (SOps.lenStr rfl strB_9 (SOps.sliceStr (0) (p.size) strB_9 rfl .none (.at (p.size) rfl (by first | omega | (simp only [lenB]; omega))) (by first | omega | (simp only [lenB]; omega)) (by first | omega | (simp only [lenB]; omega)) (SOps.move rfl (SOps.bin rfl rfl rfl (SOps.pick rfl rfl (SOps.assign rfl (SOps.nil (SCode.ret ?_)))))))))
  have hps : p.size ≤ 1048576 ∨ ¬ p.size ≤ s.size := by omega
  exact ⟨_, Res.one (.tmp rfl), congrArg (fun b => DV.v (.bool b)) (by unfold prefB; first | (rw [decide_eq_true (show p.size ≤ s.size by omega), Bool.true_and]; done) | (rw [decide_eq_true (show p.size ≤ s.size by omega), Bool.true_and]; rfl) | (rw [decide_eq_false (show ¬ p.size ≤ s.size by omega)]; rfl)), rfl⟩
 ·try simp only [nmL] at hb1
  refine SOps.skip rfl (SOps.skip rfl (SOps.skip rfl (SOps.skip rfl (SOps.skip rfl (SOps.skip rfl (SOps.pick rfl rfl (SOps.assign rfl (SOps.nil (SCode.ret ?_)))))))))
  have hps : p.size ≤ 1048576 ∨ ¬ p.size ≤ s.size := by omega
  exact ⟨_, Res.one (.tmp rfl), congrArg (fun b => DV.v (.bool b)) (by unfold prefB; first | (rw [decide_eq_true (show p.size ≤ s.size by omega), Bool.true_and]; done) | (rw [decide_eq_true (show p.size ≤ s.size by omega), Bool.true_and]; rfl) | (rw [decide_eq_false (show ¬ p.size ≤ s.size by omega)]; rfl)), rfl⟩
theorem sCutPrefix0 (s p : ByteArray) (hs : s.size ≤ 1048576) : GCall Tryd.prog E 75 [.v (.string s), .v (.string p)] [] (fun d H => d = .tup [.v (.string (cutP (s, true) p).1), .v (.bool (cutP (s, true) p).2)] ∧ H = []) := by
 refine GCall.body (C := ⟨Tryd.prog, E, true⟩) Tryd.func75 rfl (fun _ => rfl) (by kernel_rfl) rfl ?_
 refine SCode.seqR (SOps.assign rfl (SOps.assign rfl (SOps.nil (SCode.seq (SCode.seqR (SOps.move rfl (SOps.move rfl (SOps.callP (sHasPrefix _ _ (by assumption)) rfl ?_))))))))
 rintro _ rfl
 refine SOps.un rfl rfl (SOps.nil ?_)
 refine SCode.cond rfl (fun hc1 => ?_) (fun hc1 => ?_)
 ·try simp only [nmL] at hc1
  have hpb : prefB p s = false := hc1
  refine SCode.seqR (SOps.move rfl (SOps.assign rfl (SOps.assign rfl (SOps.nil (SCode.ret ?_)))))
  exact ⟨_, Res.two (.tmp rfl) (.tmp rfl), (by unfold cutP; rw [if_pos rfl, hpb]; rfl), rfl⟩
 ·try simp only [nmL] at hc1
  have hpb : prefB p s = true := hc1
  have hple : p.size ≤ s.size := by unfold prefB at hpb; rw [Bool.and_eq_true, decide_eq_true_eq] at hpb; exact hpb.1
  refine SCode.skip ?_
  show SCode _ _ _ _
  refine SCode.seqR (SOps.move rfl (SOps.move rfl (SOps.lenStr rfl strB_9 (SOps.sliceStr (p.size) (_) strB_9 rfl (.at (p.size) rfl (by first | omega | (simp only [lenB]; omega))) .none (by first | omega | (simp only [lenB]; omega)) (by first | omega | (simp only [lenB]; omega)) (SOps.assign rfl (SOps.assign rfl (SOps.nil (SCode.ret ?_))))))))
  exact ⟨_, Res.two (.tmp rfl) (.tmp rfl), (by unfold cutP; rw [if_pos rfl, if_pos hpb]), rfl⟩
theorem sCutPrefix (s p : ByteArray) (hs : s.size ≤ 1048576) : GCall Tryd.prog E 47 [.v (.string s), .v (.string p)] [] (fun d H => d = .tup [.v (.string (cutP (s, true) p).1), .v (.bool (cutP (s, true) p).2)] ∧ H = []) := by
 refine GCall.body (C := ⟨Tryd.prog, E, true⟩) Tryd.func47 rfl (fun _ => rfl) (by kernel_rfl) rfl ?_
 refine SCode.seqR (SOps.assign rfl (SOps.assign rfl (SOps.nil (SCode.seqR (SOps.move rfl (SOps.move rfl (SOps.callP (sCutPrefix0 _ _ (by assumption)) rfl ?_)))))))
 rintro _ rfl
 refine SOps.extract rfl rfl (SOps.extract rfl rfl (SOps.assign rfl (SOps.assign rfl (SOps.nil (SCode.ret ?_)))))
 exact ⟨_, Res.two (.tmp rfl) (.tmp rfl), rfl, rfl⟩
theorem cDistinct (l : List ByteArray) (hl : l.length ≤ 1048576) : GCall Tryd.prog E 49 [DStrs l] [] (fun d H => d = DStrs (onceL l) ∧ H = []) := by
 refine GCall.body (C := ⟨Tryd.prog, E, true⟩) Tryd.func49 rfl (fun _ => rfl) (by kernel_rfl) rfl ?_
 refine SCode.seqR (SOps.assign rfl (SOps.nil (SCode.seqR ?_)))
 refine SOps.makeMap0 (fun b0 hb_0 => ?_)
 refine SOps.assign rfl (SOps.nil (SCode.seqR (SOps.assign rfl (SOps.nil (SCode.seq (SCode.seqR (SOps.move rfl (SOps.lenM rfl sliceB_35_9_1 (SOps.move rfl (SOps.nil (SCode.block (SCode.loop3 (fun (i : Nat) (es : List (Value × DV)) (k : Nat) => (⟨26, [(3, .mp b0), (4, accD 1 k ((onceN l i).map encS)), (8, DStrs l), (9, .v (.int .i64 ((l.length : Nat) : Int))), (10, .v (.int .i64 (i : Int)))], [(b0, .map es)] ++ (accH 9 1 k ((onceN l i).map encS) ++ [])⟩ : St)) (fun (i : Nat) (es : List (Value × DV)) (k : Nat) => i ≤ l.length ∧ SetS es (l.take i)) (fun (i : Nat) (es : List (Value × DV)) (k : Nat) => l.length - i) (0) ([]) (0) (by exact ⟨Nat.zero_le _, SetS.nil⟩) (St.Le.of ⟨(by first | rfl | (show some _ = some _; simp)), (by first | rfl | (show some _ = some _; simp)), (by first | rfl | (show some _ = some _; simp)), (by first | rfl | (show some _ = some _; simp)), (by first | rfl | (show some _ = some _; simp)), trivial⟩ rfl (by first | rfl | (simp))) ?_))))))))))))
 rintro i es k ⟨hi, hS⟩
 have hks := hS.keys
 have hol := onceN_len l i
 refine SCode.seqR (SOps.bin rfl rfl rfl (SOps.nil (SCode.seq ?_)))
 refine SCode.cond rfl (fun hc1 => ?_) (fun hc1 => ?_)
 ·try simp only [nmL] at hc1
  refine SCode.skip ?_
  show SCode _ _ _ _
  refine SCode.seq (SCode.block (SCode.seqR ?_))
  have hil : i < l.length := by omega
  have hgd : l.getD i .empty = l[i] := by rw [List.getD_eq_getElem?_getD, List.getElem?_eq_getElem hil]; rfl
  have hon : onceN l (i + 1) = if memS (l[i]) (l.take i) then onceN l i else onceN l i ++ [l[i]] := by rw [onceN, hgd]
  refine SOps.indexM (i) rfl rfl sliceB_35_9_1 (by first | omega | (simp only [lenB]; omega)) (by first | omega | (simp only [lenB]; omega)) (SOps.loadPin rfl flatB_9 (SOps.assign rfl (SOps.nil (SCode.seqR (SOps.move rfl (SOps.move rfl ?_))))))
  refine SOps.lookupOM 0 (if memS (l[i]) (l.take i) then some () else none) (fun _ => tT) rfl rfl rfl mapB_109 (hks) zeroIs_4 ((hS.look _)) (fun y2 hy2 => ?_) (fun hy2 => ?_)
  ·have hmm : memS (l[i]) (l.take i) = true := by cases h : memS (l[i]) (l.take i) with | true => rfl | false => rw [h] at hy2; cases hy2
   refine SOps.un rfl rfl (SOps.nil ?_)
   refine SCode.cond rfl (fun hc3 => ?_) (fun hc3 => ?_)
   ·try simp only [nmL] at hc3
    refine SCode.seqR (SOps.move rfl (SOps.move rfl (SOps.mapUpdate 0 rfl rfl rfl rfl mapB_109 rfl (hks) (SOps.nil (SCode.region (SOps.move rfl (SOps.move rfl (SOps.litF rfl sliceB_35_9_1 zeroIs_9 rfl ?_))))))))
    refine SOps.appendAcc [_] [] sliceB_35_9_1 elemB_9_1_16 rfl rfl rfl SrcD.isl (by simp) (by first | (simp [lenB] <;> (first | omega | (simp only [lenB]; omega))) | (simp only [lenB]; (first | omega | (simp only [lenB]; omega)))) (by first | (simp <;> (first | omega | (simp only [lenB]; omega))) | (first | omega | (simp only [lenB]; omega))) (fun b1 => ?_)
    refine SOps.assign rfl (SOps.nil ?_)
    show SCode _ _ _ _
    refine SCode.region (SOps.addI rfl rfl (by first | omega | (simp only [lenB]; omega)) (by first | omega | (simp only [lenB]; omega)) (SOps.move rfl (SOps.nil ?_)))
    first
     | (exfalso; simp at hc3; done)
     | (exfalso; simp_all; done)
     | exact ⟨i + 1, _, b2, ⟨by omega, by rw [take_next hil]; exact hS.add _⟩, by omega, St.Le.of ⟨rfl, (by rw [hon, if_neg hmm, List.map_append]; rfl), rfl, rfl, rfl, trivial⟩ rfl (by rw [hon, if_neg hmm, List.map_append]; rfl)⟩
     | exact ⟨i + 1, es, k, ⟨by omega, by rw [take_next hil]; exact hS.more hmm⟩, by omega, St.Le.of ⟨rfl, (by rw [hon, if_pos hmm]; rfl), rfl, rfl, rfl, trivial⟩ rfl (by rw [hon, if_pos hmm]; rfl)⟩
   ·try simp only [nmL] at hc3
    refine SCode.skip ?_
    show SCode _ _ _ _
    refine SCode.region (SOps.addI rfl rfl (by first | omega | (simp only [lenB]; omega)) (by first | omega | (simp only [lenB]; omega)) (SOps.move rfl (SOps.nil ?_)))
    first
     | (exfalso; simp at hc3; done)
     | (exfalso; simp_all; done)
     | exact ⟨i + 1, _, b2, ⟨by omega, by rw [take_next hil]; exact hS.add _⟩, by omega, St.Le.of ⟨rfl, (by rw [hon, if_neg hmm, List.map_append]; rfl), rfl, rfl, rfl, trivial⟩ rfl (by rw [hon, if_neg hmm, List.map_append]; rfl)⟩
     | exact ⟨i + 1, es, k, ⟨by omega, by rw [take_next hil]; exact hS.more hmm⟩, by omega, St.Le.of ⟨rfl, (by rw [hon, if_pos hmm]; rfl), rfl, rfl, rfl, trivial⟩ rfl (by rw [hon, if_pos hmm]; rfl)⟩
  ·have hmm : ¬ memS (l[i]) (l.take i) = true := fun h => by rw [if_pos h] at hy2; cases hy2
   refine SOps.un rfl rfl (SOps.nil ?_)
   refine SCode.cond rfl (fun _ => ?_) (fun h => by cases h)
   refine SCode.seqR (SOps.move rfl (SOps.move rfl (SOps.mapUpdate 0 rfl rfl rfl rfl mapB_109 rfl (hks) (SOps.nil (SCode.region (SOps.move rfl (SOps.move rfl (SOps.litF rfl sliceB_35_9_1 zeroIs_9 rfl ?_))))))))
   refine SOps.appendAcc [_] [] sliceB_35_9_1 elemB_9_1_16 rfl rfl rfl SrcD.isl (by simp) (by first | (simp [lenB] <;> (first | omega | (simp only [lenB]; omega))) | (simp only [lenB]; (first | omega | (simp only [lenB]; omega)))) (by first | (simp <;> (first | omega | (simp only [lenB]; omega))) | (first | omega | (simp only [lenB]; omega))) (fun b2 => ?_)
   refine SOps.assign rfl (SOps.nil ?_)
   show SCode _ _ _ _
   refine SCode.region (SOps.addI rfl rfl (by first | omega | (simp only [lenB]; omega)) (by first | omega | (simp only [lenB]; omega)) (SOps.move rfl (SOps.nil ?_)))
   first
    | (exfalso; simp at hc3; done)
    | (exfalso; simp_all; done)
    | exact ⟨i + 1, _, b2, ⟨by omega, by rw [take_next hil]; exact hS.add _⟩, by omega, St.Le.of ⟨rfl, (by rw [hon, if_neg hmm, List.map_append]; rfl), rfl, rfl, rfl, trivial⟩ rfl (by rw [hon, if_neg hmm, List.map_append]; rfl)⟩
    | exact ⟨i + 1, es, k, ⟨by omega, by rw [take_next hil]; exact hS.more hmm⟩, by omega, St.Le.of ⟨rfl, (by rw [hon, if_pos hmm]; rfl), rfl, rfl, rfl, trivial⟩ rfl (by rw [hon, if_pos hmm]; rfl)⟩
 ·try simp only [nmL] at hc1
  refine SCode.exit ?_
  show SCode _ _ _ _
  refine SCode.seqR (SOps.freezeAcc (t := 4) [_] [] rfl rfl rfl (SOps.move rfl (SOps.assign rfl (SOps.nil (SCode.drop (SCode.ret ?_))))))
  exact ⟨_, Res.one (.tmp rfl), by unfold onceL; rw [show l.length = i by omega], rfl⟩
end Go.GH
namespace Go.GH
open Go Go.Proofs
variable {E : Env}
theorem flatB_108 : flatB Tryd.prog 108 = true := by kernel_rfl
theorem mapB_108 : mapB Tryd.prog 108 21 4 (.int .i32) := ⟨by kernel_rfl, by kernel_rfl⟩
theorem oneB_108 : oneB Tryd.prog 108 = true := by kernel_rfl
theorem zeroIs_108 : zeroIs Tryd.prog 108 (.map none) := by unfold zeroIs; kernel_rfl
structure ChgM (l : List Rule) (es : List (Value × DV)) : Prop where
  keys : KI es
  look : ∀ r : Int, lookupL es (.int .i32 r) = (if chg l r then some () else none).map (fun _ => tT)
theorem beq_dec (a b : Int) : (a == b) = decide (b = a) := by rw [Bool.eq_iff_iff, beq_iff_eq, decide_eq_true_eq]; exact eq_comm
theorem chg_step {l : List Rule} {i : Nat} (h : i < l.length) (r : Int) : chg (l.drop i) r = ((decide ((l[i]).fr = r) || (runes (l[i]).«to»).contains r) || chg (l.drop (i + 1)) r) := by
  rw [List.drop_eq_getElem_cons h, chg_cons]
theorem cSteady (l : List Rule) (hr : ∀ r ∈ l, SmR r) : GCall Tryd.prog E 45 [DRs l] [] (fun d H => (∃ es, ChgM l es ∧ d = .fn 74 [.ipin [.imap es]]) ∧ H = []) := by
 refine GCall.body (C := ⟨Tryd.prog, E, true⟩) Tryd.func45 rfl (fun _ => rfl) (by kernel_rfl) rfl ?_
 refine SCode.seqR (SOps.assign rfl (SOps.nil (SCode.seqR ?_)))
 refine SOps.makeMap0 (fun b0 hb_0 => ?_)
 refine SOps.alloc (sz := 1) zeroIs_108 (fun b1 hb_1 => ?_)
 refine SOps.storeM 0 rfl rfl oneB_108 rfl (SOps.freezeRef (t := 3) 0 0 rfl rfl rfl rfl rfl (SOps.nil (SCode.seq (SCode.seqR (SOps.move rfl (SOps.lenM rfl sliceB_23_47_6 (SOps.move rfl (SOps.nil (SCode.block (SCode.loop3 (fun (i : Nat) (es : List (Value × DV)) (ks : List Int) => (⟨28, [(3, .ipin [.mp b0]), (9, DRs l), (10, .v (.int .i64 ((l.length : Nat) : Int))), (11, .v (.int .i64 (i : Int)))], [(b0, .map es)]⟩ : St)) (fun (i : Nat) (es : List (Value × DV)) (ks : List Int) => i ≤ l.length ∧ SetI es ks ∧ ∀ r, chg l r = (ks.contains r || chg (l.drop i) r)) (fun (i : Nat) (es : List (Value × DV)) (ks : List Int) => l.length - i) (0) ([]) ([]) (by exact ⟨Nat.zero_le _, SetI.nil, fun r => rfl⟩) (St.Le.of ⟨(by first | rfl | (show some _ = some _; simp)), (by first | rfl | (show some _ = some _; simp)), (by first | rfl | (show some _ = some _; simp)), (by first | rfl | (show some _ = some _; simp)), trivial⟩ rfl (by first | rfl | (simp))) ?_))))))))))
 rintro i es ks ⟨hi, hS, hf⟩
 refine SCode.fact (isl_len (t := 9) rfl) (fun hB => ?_)
 simp only [List.length_map, lenB] at hB
 have hks := hS.keys
 refine SCode.seqR (SOps.bin rfl rfl rfl (SOps.nil (SCode.seq ?_)))
 refine SCode.cond rfl (fun hc1 => ?_) (fun hc1 => ?_)
 ·try simp only [nmL] at hc1
  refine SCode.skip ?_
  show SCode _ _ _ _
  refine SCode.seq (SCode.block (SCode.seqR ?_))
  have hil : i < l.length := by omega
  have hri := hr _ (List.getElem_mem hil)
  have hri1 := hri.1
  refine SOps.indexM (i) rfl rfl sliceB_23_47_6 (by first | omega | (simp only [lenB]; omega)) (by first | omega | (simp only [lenB]; omega)) (SOps.loadPinA rfl aggB_47_6 (Nat.le_of_ble_eq_true rfl) ?_)
  refine SOps.alloc (sz := 6) zeroIs_47 (fun b2 hb_2 => ?_)
  refine SOps.storeAM 0 rfl rfl aggB_47_6 rfl (SOps.freezeRef (t := 5) 0 0 rfl rfl rfl rfl rfl (SOps.nil (SCode.seqR (SOps.loadPin rfl flatB_108 (SOps.fieldPin rfl fieldB_47_0_0 (SOps.loadPin rfl flatB_21 (SOps.mapUpdate 0 rfl rfl rfl rfl mapB_108 rfl (by assumption) (SOps.nil (SCode.seqR (SOps.fieldPin rfl fieldB_47_1_1 (SOps.loadPin rfl flatB_9 ?_)))))))))))
  refine SOps.rangeStr rfl strB_9 (fun b3 hb_3 => ?_)
  refine SOps.nil (SCode.block (SCode.loop4 (fun (p : Nat) (b : Nat) (es2 : List (Value × DV)) (ks2 : List Int) => (⟨28, [(3, .ipin [.mp b0]), (9, DRs l), (10, .v (.int .i64 ((l.length : Nat) : Int))), (11, .v (.int .i64 (i : Int))), (20, .it b)], [(b, .iter (l[i]).«to» p), (b0, .map es2)]⟩ : St)) (fun (p : Nat) (b : Nat) (es2 : List (Value × DV)) (ks2 : List Int) => SetI es2 ks2 ∧ ∀ r, chg l r = (ks2.contains r || ((runesAt (l[i]).«to» p).contains r || chg (l.drop (i + 1)) r))) (fun (p : Nat) (b : Nat) (es2 : List (Value × DV)) (ks2 : List Int) => (l[i]).«to».size - p) (0) (b3) (_) (ks ++ [(l[i]).fr]) (by exact ⟨hS.add _, fun r => by rw [hf r, chg_step hil, runesAt_zero]; simp only [List.contains_eq_any_beq, List.any_append, List.any_cons, List.any_nil, Bool.or_false, Bool.or_assoc, beq_dec]⟩) (St.Le.of ⟨(by first | rfl | (show some _ = some _; simp)), (by first | rfl | (show some _ = some _; simp)), (by first | rfl | (show some _ = some _; simp)), (by first | rfl | (show some _ = some _; simp)), (by first | rfl | (show some _ = some _; simp)), trivial⟩ rfl (by first | rfl | (simp))) ?_))
  rintro p b es2 ks2 ⟨hS2, hf2⟩
  have hks2 := hS2.keys
  refine SCode.seqR ?_
  refine SOps.next 0 rfl rfl (fun hn2 => ?_) (fun hn2 => ?_) (by first | omega | (simp only [lenB]; omega))
  ·refine SOps.extract rfl rfl (SOps.nil (SCode.seq ?_))
   refine SCode.cond rfl (fun _ => ?_) (fun h => by cases h)
   refine SCode.skip ?_
   show SCode _ _ _ _
   refine SCode.block (SCode.seqR (SOps.extract rfl rfl (SOps.assign rfl (SOps.nil (SCode.region (SOps.loadPin rfl flatB_108 (SOps.move rfl (SOps.mapUpdate 1 rfl rfl rfl rfl mapB_108 rfl (by assumption) (SOps.nil ?_)))))))))
   exact ⟨p + (Utf8.decode (l[i]).«to» p).2, b, _, ks2 ++ [_], ⟨hS2.add _, fun r => by rw [hf2 r, runesAt_lt hn2]; simp only [List.contains_eq_any_beq, List.any_append, List.any_cons, List.any_nil, Bool.or_false, Bool.or_assoc]⟩, by have := decode_w (l[i]).«to» p; omega, St.Le.of ⟨rfl, rfl, rfl, rfl, rfl, trivial⟩ rfl rfl⟩
  ·refine SOps.extract rfl rfl (SOps.nil (SCode.seq ?_))
   refine SCode.cond rfl (fun h => by cases h) (fun _ => ?_)
   refine SCode.exit ?_
   show SCode _ _ _ _
   refine SCode.region (SOps.addI rfl rfl (by first | omega | (simp only [lenB]; omega)) (by first | omega | (simp only [lenB]; omega)) (SOps.move rfl (SOps.nil ?_)))
   exact ⟨i + 1, es2, ks2, ⟨by omega, hS2, fun r => by rw [hf2 r, runesAt_ge hn2]; rfl⟩, by omega, St.Le.ofSub ⟨rfl, rfl, rfl, rfl, trivial⟩ (.cons _ (.refl _))⟩
 ·try simp only [nmL] at hc1
  refine SCode.exit ?_
  show SCode _ _ _ _
  refine SCode.seqR (SOps.freezePinMap (t := 3) 0 rfl rfl rfl (SOps.makeFunc rfl (SOps.assign rfl (SOps.nil (SCode.drop (SCode.ret ?_))))))
  exact ⟨_, Res.one (.tmp rfl), ⟨_, ⟨hS.keys, fun r => by rw [hS.look, hf r, List.drop_eq_nil_of_le (by omega), chg_nil, Bool.or_false]⟩, rfl⟩, rfl⟩
theorem cSteady1 (l : List Rule) (es : List (Value × DV)) (s : ByteArray) (hM : ChgM l es) (hs : s.size ≤ 1048576) : GCall Tryd.prog E 74 [.v (.string s), .ipin [.imap es]] [] (fun d H => d = .v (.string (keepS l s)) ∧ H = []) := by
 have hrl := runesAt_len s 0
 rw [runesAt_zero] at hrl
 have hks := hM.keys
 refine GCall.body (C := ⟨Tryd.prog, E, true⟩) Tryd.func74 rfl (fun _ => rfl) (by kernel_rfl) rfl ?_
 refine SCode.seqR (SOps.assign rfl (SOps.nil (SCode.seqR ?_)))
 refine SOps.allocV (sz := 2) zeroBld (fun b0 hb_0 => ?_)
 refine SOps.nil (SCode.seq (SCode.seqR (SOps.move rfl ?_)))
 refine SOps.rangeStr rfl strB_9 (fun b1 hb_1 => ?_)
 refine SOps.nil (SCode.block (SCode.loop5 (fun (p : Nat) (b : Nat) (g : Nat) (u : Bool) (bs : List UInt8) => (⟨19, [(1, .ipin [.imap es]), (4, .vref b0 100 2), (8, .it b)], [(b, .iter s p)] ++ bldH b0 g u bs⟩ : St)) (fun (p : Nat) (b : Nat) (g : Nat) (u : Bool) (bs : List UInt8) => bs ++ (encs ((runesAt s p).filter (fun c => !chg l c))).data.toList = (encs ((runes s).filter (fun c => !chg l c))).data.toList) (fun (p : Nat) (b : Nat) (g : Nat) (u : Bool) (bs : List UInt8) => s.size - p) (0) (b1) (0) (false) ([]) (by rfl) (St.Le.of ⟨(by first | rfl | (show some _ = some _; simp)), (by first | rfl | (show some _ = some _; simp)), (by first | rfl | (show some _ = some _; simp)), trivial⟩ rfl (by first | rfl | (simp))) ?_))
 rintro p b g u bs hf
 have hbl : bs.length ≤ 8388608 := by have h8 := congrArg List.length hf; rw [List.length_append] at h8; have h9 := encs_size4 ((runes s).filter (fun c => !chg l c)); have h10 := List.length_filter_le (fun c => !chg l c) (runes s); have h11 : (encs ((runes s).filter (fun c => !chg l c))).data.toList.length = (encs ((runes s).filter (fun c => !chg l c))).size := (by simp); omega
 refine SCode.seqR ?_
 refine SOps.next 0 rfl rfl (fun hn1 => ?_) (fun hn1 => ?_) (by first | omega | (simp only [lenB]; omega))
 ·refine SOps.extract rfl rfl (SOps.nil (SCode.seq ?_))
  refine SCode.cond rfl (fun _ => ?_) (fun h => by cases h)
  refine SCode.skip ?_
  show SCode _ _ _ _
  refine SCode.block (SCode.seqR (SOps.extract rfl rfl (SOps.assign rfl (SOps.nil (SCode.seqR (SOps.loadPin rfl flatB_108 (SOps.move rfl ?_)))))))
  refine SOps.lookupIM (if chg l ((Utf8.decode s p).1 : Int) then some () else none) (fun _ => tT) rfl rfl mapB_108 (hks) zeroIs_4 ((hM.look _)) (fun y2 hy2 => ?_) (fun hy2 => ?_)
  ·have hmm : chg l ((Utf8.decode s p).1 : Int) = true := by cases h : chg l ((Utf8.decode s p).1 : Int) with | true => rfl | false => rw [h] at hy2; cases hy2
   refine SOps.un rfl rfl (SOps.nil ?_)
   refine SCode.cond rfl (fun hc3 => ?_) (fun hc3 => ?_)
   ·try simp only [nmL] at hc3
    refine SCode.region (SOps.move rfl (SOps.callR (bldH _ _ _ _) [_] (bWriteRune _ _ _ _ _ (decode_valid _ _) (by omega)) rfl rfl ?_))
    rintro _ _ ⟨g7, n7, rfl, rfl⟩
    refine SOps.nil ?_
    first
     | exact ⟨p + (Utf8.decode s p).2, b, g7, true, bs ++ encBy _, by rw [← hf, runesAt_lt hn1, List.filter_cons, if_pos (by simp_all), encs_cons_data, List.append_assoc], by have := decode_w s p; omega, St.Le.of ⟨rfl, rfl, rfl,  trivial⟩ rfl rfl⟩
     | exact ⟨p + (Utf8.decode s p).2, b, g, u, bs, by rw [← hf, runesAt_lt hn1, List.filter_cons, if_neg (by simp_all)], by have := decode_w s p; omega, St.Le.of ⟨rfl, rfl, rfl,  trivial⟩ rfl rfl⟩
   ·try simp only [nmL] at hc3
    refine SCode.skip ?_
    first
     | exact ⟨p + (Utf8.decode s p).2, b, g7, true, bs ++ encBy _, by rw [← hf, runesAt_lt hn1, List.filter_cons, if_pos (by simp_all), encs_cons_data, List.append_assoc], by have := decode_w s p; omega, St.Le.of ⟨rfl, rfl, rfl,  trivial⟩ rfl rfl⟩
     | exact ⟨p + (Utf8.decode s p).2, b, g, u, bs, by rw [← hf, runesAt_lt hn1, List.filter_cons, if_neg (by simp_all)], by have := decode_w s p; omega, St.Le.of ⟨rfl, rfl, rfl,  trivial⟩ rfl rfl⟩
  ·have hmm : chg l ((Utf8.decode s p).1 : Int) = false := by cases h : chg l ((Utf8.decode s p).1 : Int) with | false => rfl | true => rw [h] at hy2; cases hy2
   refine SOps.un rfl rfl (SOps.nil ?_)
   refine SCode.cond rfl (fun _ => ?_) (fun h => by cases h)
   refine SCode.region (SOps.move rfl (SOps.callR (bldH _ _ _ _) [_] (bWriteRune _ _ _ _ _ (decode_valid _ _) (by omega)) rfl rfl ?_))
   rintro _ _ ⟨g7, n7, rfl, rfl⟩
   refine SOps.nil ?_
   first
    | exact ⟨p + (Utf8.decode s p).2, b, g7, true, bs ++ encBy _, by rw [← hf, runesAt_lt hn1, List.filter_cons, if_pos (by simp_all), encs_cons_data, List.append_assoc], by have := decode_w s p; omega, St.Le.of ⟨rfl, rfl, rfl,  trivial⟩ rfl rfl⟩
    | exact ⟨p + (Utf8.decode s p).2, b, g, u, bs, by rw [← hf, runesAt_lt hn1, List.filter_cons, if_neg (by simp_all)], by have := decode_w s p; omega, St.Le.of ⟨rfl, rfl, rfl,  trivial⟩ rfl rfl⟩
 ·refine SOps.extract rfl rfl (SOps.nil (SCode.seq ?_))
  refine SCode.cond rfl (fun h => by cases h) (fun _ => ?_)
  refine SCode.exit ?_
  show SCode _ _ _ _
  refine SCode.seqR (SOps.callR (bldH _ _ _ _) [_] (bString _ _ _ _ (by omega)) rfl rfl ?_)
  rintro _ _ ⟨rfl, rfl⟩
  refine SOps.assign rfl (SOps.nil (SCode.drop (SCode.ret ?_)))
  have hbs : bs = (keepS l s).data.toList := by rw [runesAt_ge hn1] at hf; rw [← List.append_nil bs]; exact hf
  exact ⟨_, Res.one (.tmp rfl), (by rw [hbs, ba_list]), rfl⟩
end Go.GH
namespace Go.GH
open Go
theorem flat_at {α β : Type} (f : α → List β) (N : Nat) (hN : ∀ x, (f x).length = N) : ∀ (l : List α) (i t : Nat), t < N → (l.flatMap f)[i * N + t]? = (l[i]?).bind (fun x => (f x)[t]?)
  | [], i, t, _ => by simp
  | x :: l, 0, t, ht => by
    rw [List.flatMap_cons, Nat.zero_mul, Nat.zero_add, List.getElem?_append_left (by rw [hN]; exact ht)]
    rfl
  | x :: l, i + 1, t, ht => by
    rw [List.flatMap_cons, List.getElem?_append_right (by rw [hN, Nat.succ_mul]; omega), hN]
    have e : (i + 1) * N + t - N = i * N + t := by rw [Nat.succ_mul]; omega
    rw [e, flat_at f N hN l i t ht]
    rfl
def candD (hs cs : List ByteArray) : List DV := (candL hs cs).map (fun s => DV.agg (encSg s))
def cN (cs : List ByteArray) : Nat := 1 + cs.length + cs.length * cs.length
theorem candD_len (hs cs : List ByteArray) : (candD hs cs).length = hs.length * cN cs := by rw [candD, List.length_map, candL_len]; rfl
theorem candD_at {hs cs : List ByteArray} {i t : Nat} (hi : i < hs.length) (ht : t < cN cs) {q : List ByteArray} (hq : (seqL cs)[t]? = some q) : (candD hs cs)[i * cN cs + t]? = some (.agg (encSg ⟨hs[i], q⟩)) := by
  unfold candD candL
  rw [List.getElem?_map, flat_at _ (cN cs) (fun x => by rw [List.length_map, seqL_len]; rfl) hs i t ht, List.getElem?_eq_getElem hi]
  simp [hq]
theorem cand0 {hs cs : List ByteArray} {i : Nat} (hi : i < hs.length) : (candD hs cs)[i * cN cs]? = some (.agg (encSg ⟨hs[i], []⟩)) := by
  have := candD_at (cs := cs) hi (t := 0) (by unfold cN; omega) (q := []) rfl
  rwa [Nat.add_zero] at this
theorem seq1 {cs : List ByteArray} {j : Nat} (hj : j < cs.length) : (seqL cs)[1 + j]? = some [cs[j]] := by
  unfold seqL
  rw [Nat.add_comm, List.getElem?_cons_succ, List.getElem?_append_left (by rw [List.length_map]; exact hj), List.getElem?_map, List.getElem?_eq_getElem hj]; rfl
theorem seq2 {cs : List ByteArray} {j k : Nat} (hj : j < cs.length) (hk : k < cs.length) : (seqL cs)[1 + cs.length + j * cs.length + k]? = some [cs[j], cs[k]] := by
  unfold seqL
  rw [show 1 + cs.length + j * cs.length + k = (cs.length + (j * cs.length + k)) + 1 by omega, List.getElem?_cons_succ, List.getElem?_append_right (by rw [List.length_map]; omega), List.length_map, Nat.add_sub_cancel_left,
    flat_at _ cs.length (fun x => by rw [List.length_map]) cs j k hk, List.getElem?_eq_getElem hj]
  simp [hk]
theorem cand1 {hs cs : List ByteArray} {i j : Nat} (hi : i < hs.length) (hj : j < cs.length) : (candD hs cs)[i * cN cs + 1 + j]? = some (.agg (encSg ⟨hs[i], [cs[j]]⟩)) := by
  rw [Nat.add_assoc]
  exact candD_at hi (by unfold cN; omega) (seq1 hj)
theorem mul_lt' {j k m : Nat} (hj : j < m) (hk : k < m) : j * m + k < m * m := by
  have h1 : (j + 1) * m ≤ m * m := Nat.mul_le_mul_right m hj
  rw [Nat.succ_mul] at h1
  omega
theorem cand2 {hs cs : List ByteArray} {i j k : Nat} (hi : i < hs.length) (hj : j < cs.length) (hk : k < cs.length) : (candD hs cs)[i * cN cs + 1 + cs.length + j * cs.length + k]? = some (.agg (encSg ⟨hs[i], [cs[j], cs[k]]⟩)) := by
  rw [show i * cN cs + 1 + cs.length + j * cs.length + k = i * cN cs + (1 + cs.length + j * cs.length + k) by omega]
  exact candD_at hi (by have := mul_lt' hj hk; unfold cN; omega) (seq2 hj hk)
theorem cutP_size (x : ByteArray × Bool) (p : ByteArray) : (cutP x p).1.size ≤ x.1.size := by
  unfold cutP
  split
  · split
    · show (x.1.extract p.size x.1.size).size ≤ _
      rw [ByteArray.size_extract]; omega
    · exact Nat.le_refl _
  · exact Nat.le_refl _
theorem keepS_size (l : List Rule) (s : ByteArray) : (keepS l s).size ≤ 4 * (runes s).length := by
  have h1 := encs_size4 (keepR l s)
  have h2 : (keepR l s).length ≤ (runes s).length := List.length_filter_le _ _
  unfold keepS
  omega
end Go.GH
namespace Go.GH
open Go Go.Proofs
variable {E : Env}
theorem flatB_72 : flatB Tryd.prog 72 = true := by kernel_rfl
theorem mapB_72 : mapB Tryd.prog 72 9 9 (.string) := ⟨by kernel_rfl, by kernel_rfl⟩
theorem placesB_50 : placesB Tryd.prog 50 [(0, 1), (1, 1)] = true := by kernel_rfl
theorem zeroIs_50 : zeroIs Tryd.prog 50 (.agg #[.string .empty, .slice none 0 0]) := by unfold zeroIs; kernel_rfl
theorem cPoss (l : List Rule) (w : ByteArray) (es : List (Value × DV)) (ks : List ByteArray) (sg : Sg) (hM : MapS (keepS l) es ks) (hw : (runes w).length ≤ 1000) (hh : memS sg.host ks = true) (hc : ∀ c ∈ sg.cls, memS c ks = true) : GCall Tryd.prog E 46 [.agg (encSg sg), .ipin [.v (.string (keepS l w))], .ipin [.imap es]] [] (fun d H => d = .v (.bool (possB l w sg)) ∧ H = []) := by
 have hks := hM.keys
 have hkz := keepS_size l w
 have hks2 : (keepS l w).size ≤ 1048576 := by omega
 refine GCall.body (C := ⟨Tryd.prog, E, true⟩) Tryd.func46 rfl (fun _ => rfl) (by kernel_rfl) rfl ?_
 refine SCode.seqR (SOps.boxAM rfl rfl (SOps.assign rfl (SOps.nil (SCode.seqR (SOps.loadPin rfl flatB_9 (SOps.loadPin rfl flatB_72 (SOps.fieldPin rfl fieldB_50_0_0 (SOps.loadPin rfl flatB_9 ?_))))))))
 refine SOps.lookupIM (some (keepS l sg.host)) (fun x => DV.v (.string x)) rfl rfl mapB_72 (hks) zeroIs_9 ((by rw [hM.look, if_pos hh])) (fun y1 hy1 => ?_) (fun hy1 => ?_)
 ·obtain rfl := Option.some.inj hy1
  refine SOps.callP (sCutPrefix _ _ hks2) rfl ?_
  rintro _ rfl
  refine SOps.move rfl (SOps.extract rfl rfl (SOps.extract rfl rfl (SOps.assign rfl (SOps.assign rfl (SOps.nil (SCode.seq (SCode.seqR (SOps.fieldPin rfl fieldB_50_1_1 (SOps.loadPin rfl flatB_35 (SOps.lenM rfl sliceB_35_9_1 (SOps.move rfl (SOps.nil (SCode.block (SCode.loop3 (fun (i : Nat) (z : ByteArray) (u : Bool) => (⟨40, [(2, .ipin [.imap es]), (5, .v (.string z)), (6, .v (.bool u)), (19, DStrs sg.cls), (20, .v (.int .i64 ((sg.cls.length : Nat) : Int))), (21, .v (.int .i64 (i : Int)))], []⟩ : St)) (fun (i : Nat) (z : ByteArray) (u : Bool) => i ≤ sg.cls.length ∧ z.size ≤ 1048576 ∧ (sg.cls.drop i).foldl (fun x c => cutP x (keepS l c)) (z, u) = sg.cls.foldl (fun x c => cutP x (keepS l c)) (cutP (keepS l w, true) (keepS l sg.host))) (fun (i : Nat) (z : ByteArray) (u : Bool) => sg.cls.length - i) (0) ((cutP (keepS l w, true) (keepS l sg.host)).1) ((cutP (keepS l w, true) (keepS l sg.host)).2) (by exact ⟨Nat.zero_le _, Nat.le_trans (cutP_size _ _) hks2, rfl⟩) (St.Le.of ⟨(by first | rfl | (show some _ = some _; simp)), (by first | rfl | (show some _ = some _; simp)), (by first | rfl | (show some _ = some _; simp)), (by first | rfl | (show some _ = some _; simp)), (by first | rfl | (show some _ = some _; simp)), (by first | rfl | (show some _ = some _; simp)), trivial⟩ rfl (by first | rfl | (simp))) ?_))))))))))))))
  rintro i z u ⟨hi, hz, hf⟩
  refine SCode.fact (isl_len (t := 19) rfl) (fun hB => ?_)
  simp only [List.length_map, lenB] at hB
  refine SCode.seqR (SOps.bin rfl rfl rfl (SOps.nil (SCode.seq ?_)))
  refine SCode.cond rfl (fun hc2 => ?_) (fun hc2 => ?_)
  ·try simp only [nmL] at hc2
   refine SCode.skip ?_
   show SCode _ _ _ _
   refine SCode.seq (SCode.block (SCode.seqR ?_))
   have hil : i < sg.cls.length := by omega
   have hci := hc _ (List.getElem_mem hil)
   have hdr : sg.cls.drop i = sg.cls[i] :: sg.cls.drop (i + 1) := List.drop_eq_getElem_cons hil
   refine SOps.indexM (i) rfl rfl sliceB_35_9_1 (by first | omega | (simp only [lenB]; omega)) (by first | omega | (simp only [lenB]; omega)) (SOps.loadPin rfl flatB_9 (SOps.assign rfl (SOps.nil (SCode.seqR (SOps.move rfl (SOps.nil ?_))))))
   refine SCode.cond rfl (fun hc3 => ?_) (fun hc3 => ?_)
   ·try simp only [nmL] at hc3
    subst hc3
    refine SCode.region (SOps.move rfl (SOps.loadPin rfl flatB_72 (SOps.move rfl ?_)))
    refine SOps.lookupIM (some (keepS l (sg.cls[i]))) (fun x => DV.v (.string x)) rfl rfl mapB_72 (hks) zeroIs_9 ((by rw [hM.look, if_pos hci])) (fun y4 hy4 => ?_) (fun hy4 => ?_)
    ·obtain rfl := Option.some.inj hy4
     refine SOps.callP (sCutPrefix _ _ hz) rfl ?_
     rintro _ rfl
     refine SOps.move rfl (SOps.extract rfl rfl (SOps.extract rfl rfl (SOps.assign rfl (SOps.assign rfl (SOps.nil ?_)))))
     show SCode _ _ _ _
     refine SCode.region (SOps.addI rfl rfl (by first | omega | (simp only [lenB]; omega)) (by first | omega | (simp only [lenB]; omega)) (SOps.move rfl (SOps.nil ?_)))
     first
      | exact ⟨i + 1, (cutP (z, true) (keepS l (sg.cls[i]))).1, (cutP (z, true) (keepS l (sg.cls[i]))).2, ⟨by omega, Nat.le_trans (cutP_size _ _) hz, by rw [← hf, hdr]; rfl⟩, by omega, St.Le.of ⟨rfl, rfl, rfl, rfl, rfl, rfl, trivial⟩⟩
      | exact ⟨i + 1, z, false, ⟨by omega, hz, by rw [← hf, hdr]; rfl⟩, by omega, St.Le.of ⟨rfl, rfl, rfl, rfl, rfl, rfl, trivial⟩⟩
    ·cases hy4
   ·try simp only [nmL] at hc3
    subst hc3
    refine SCode.skip ?_
    show SCode _ _ _ _
    refine SCode.region (SOps.addI rfl rfl (by first | omega | (simp only [lenB]; omega)) (by first | omega | (simp only [lenB]; omega)) (SOps.move rfl (SOps.nil ?_)))
    first
     | exact ⟨i + 1, (cutP (z, true) (keepS l (sg.cls[i]))).1, (cutP (z, true) (keepS l (sg.cls[i]))).2, ⟨by omega, Nat.le_trans (cutP_size _ _) hz, by rw [← hf, hdr]; rfl⟩, by omega, St.Le.of ⟨rfl, rfl, rfl, rfl, rfl, rfl, trivial⟩⟩
     | exact ⟨i + 1, z, false, ⟨by omega, hz, by rw [← hf, hdr]; rfl⟩, by omega, St.Le.of ⟨rfl, rfl, rfl, rfl, rfl, rfl, trivial⟩⟩
  ·try simp only [nmL] at hc2
   refine SCode.exit ?_
   show SCode _ _ _ _
   refine SCode.seqR (SOps.move rfl (SOps.move rfl ?_))
   refine SOps.caseB 36 rfl (fun hb5 => ?_) (fun hb5 => ?_)
   ·try simp only [nmL] at hb5
    refine SOps.move rfl (SOps.bin rfl rfl rfl (SOps.pick rfl rfl (SOps.assign rfl (SOps.nil (SCode.ret ?_)))))
    have hx : (z, u) = sg.cls.foldl (fun x c => cutP x (keepS l c)) (cutP (keepS l w, true) (keepS l sg.host)) := by rw [← hf, List.drop_eq_nil_of_le (by omega)]; rfl
    exact ⟨_, Res.one (.tmp rfl), congrArg (fun b => DV.v (.bool b)) (by unfold possB; rw [← hx]; first | (rw [show u = true by simp_all]; done) | (rw [show u = true by simp_all, Bool.true_and]; done) | (rw [show u = true by simp_all]; rfl) | (rw [show u = false by simp_all]; rfl)), rfl⟩
   ·try simp only [nmL] at hb5
    refine SOps.skip rfl (SOps.skip rfl (SOps.pick rfl rfl (SOps.assign rfl (SOps.nil (SCode.ret ?_)))))
    have hx : (z, u) = sg.cls.foldl (fun x c => cutP x (keepS l c)) (cutP (keepS l w, true) (keepS l sg.host)) := by rw [← hf, List.drop_eq_nil_of_le (by omega)]; rfl
    exact ⟨_, Res.one (.tmp rfl), congrArg (fun b => DV.v (.bool b)) (by unfold possB; rw [← hx]; first | (rw [show u = true by simp_all]; done) | (rw [show u = true by simp_all, Bool.true_and]; done) | (rw [show u = true by simp_all]; rfl) | (rw [show u = false by simp_all]; rfl)), rfl⟩
 ·cases hy1
theorem cCandidates (hs cs : List ByteArray)  : GCall Tryd.prog E 48 [DStrs hs, DStrs cs] [] (fun d H => d = .fn 76 [.ipin [DStrs hs], .ipin [DStrs cs]] ∧ H = []) := by
 refine GCall.body (C := ⟨Tryd.prog, E, true⟩) Tryd.func48 rfl (fun _ => rfl) (by kernel_rfl) rfl ?_
 refine SCode.seqR (SOps.boxF rfl rfl rfl (SOps.boxF rfl rfl rfl (SOps.assign rfl (SOps.nil (SCode.seqR (SOps.makeFunc rfl (SOps.assign rfl (SOps.nil (SCode.ret ?_)))))))))
 exact ⟨_, Res.one (.tmp rfl), rfl, rfl⟩
theorem iCandidates (hs cs : List ByteArray) : GIter Tryd.prog E 76 [.ipin [DStrs hs], .ipin [DStrs cs]] (candD hs cs) := by
  refine GIter.body (C := ⟨Tryd.prog, E, true⟩) Tryd.func76 rfl (by kernel_rfl) rfl rfl (fun l J hK hY => ?_)
  refine SYCode.seqR (SYOps.one hK (SOps.loadPin rfl flatB_35 (SOps.nil rfl)) rfl rfl (SYOps.one hK (SOps.lenM rfl sliceB_35_9_1 (SOps.nil rfl)) rfl rfl (SYOps.one hK (SOps.move rfl (SOps.nil rfl)) rfl rfl (SYOps.nil (SYCode.block (SYCode.loop1 (ι := fun i => i * cN cs) (hx := by exact Nat.zero_mul _) (fun (i : Nat) => (⟨60, [(0, .v (.func (.yield l) #[] #[])), (1, .ipin [DStrs hs]), (2, .ipin [DStrs cs]), (12, DStrs hs), (13, .v (.int .i64 ((hs.length : Nat) : Int))), (14, .v (.int .i64 (i : Int)))], []⟩ : St)) (fun (i : Nat) => i ≤ hs.length) (fun (i : Nat) => hs.length - i) (0) (by exact Nat.zero_le _) (St.Le.of ⟨(by first | rfl | (show some _ = some _; simp)), (by first | rfl | (show some _ = some _; simp)), (by first | rfl | (show some _ = some _; simp)), (by first | rfl | (show some _ = some _; simp)), (by first | rfl | (show some _ = some _; simp)), (by first | rfl | (show some _ = some _; simp)), trivial⟩ rfl (by first | rfl | (simp))) ?_))))))
  rintro i hi
  refine SYCode.fact (isl_len (t := 12) rfl) (fun hB => ?_)
  simp only [List.length_map, lenB] at hB
  refine SYCode.seqR (SYOps.one hK (SOps.bin rfl rfl rfl (SOps.nil rfl)) rfl rfl (SYOps.nil (SYCode.seq ?_)))
  refine SYCode.cond rfl (fun hc1 => ?_) (fun hc1 => ?_)
  · try simp only [nmL] at hc1
    refine SYCode.skip ?_
    show SYCode _ _ _ _ _ _
    refine SYCode.seq (SYCode.block (SYCode.seqR ?_))
    have hil : i < hs.length := by omega
    refine SYOps.one hK (SOps.indexM (i) rfl rfl sliceB_35_9_1 (by first | omega | (simp only [lenB]; omega)) (by first | omega | (simp only [lenB]; omega)) (SOps.nil rfl)) rfl rfl (SYOps.one hK (SOps.loadPin rfl flatB_9 (SOps.nil rfl)) rfl rfl (SYOps.one hK (SOps.assign rfl (SOps.nil rfl)) rfl rfl (SYOps.nil (SYCode.seq (SYCode.seqR (SYOps.one hK (SOps.move rfl (SOps.nil rfl)) rfl rfl (SYOps.one hK (SOps.move rfl (SOps.nil rfl)) rfl rfl (SYOps.one hK (SOps.buildM placesB_50 zeroIs_50 rfl rfl (SOps.nil rfl)) rfl rfl (SYOps.relab (t := 20) (d' := .agg (encSg ⟨hs[i], []⟩)) rfl (fun w F v hv => rep_aggNil (sz := 1) 1 hv rfl) (SYOps.yield hY rfl rfl (cand0 hil) rfl (SYOps.one hK (SOps.un rfl rfl (SOps.nil rfl)) rfl rfl (SYOps.nil ?_))))))))))))
    refine SYCode.cond rfl (fun h => by cases h) (fun _ => ?_)
    refine SYCode.skip ?_
    show SYCode _ _ _ _ _ _
    refine SYCode.seq (SYCode.seqR (SYOps.one hK (SOps.loadPin rfl flatB_35 (SOps.nil rfl)) rfl rfl (SYOps.one hK (SOps.lenM rfl sliceB_35_9_1 (SOps.nil rfl)) rfl rfl (SYOps.one hK (SOps.move rfl (SOps.nil rfl)) rfl rfl (SYOps.nil (SYCode.block (SYCode.loop1 (ι := fun j => i * cN cs + 1 + j) (hx := by rfl) (fun (j : Nat) => (⟨60, [(0, .v (.func (.yield l) #[] #[])), (1, .ipin [DStrs hs]), (2, .ipin [DStrs cs]), (5, .v (.string (hs[i]))), (12, DStrs hs), (13, .v (.int .i64 ((hs.length : Nat) : Int))), (14, .v (.int .i64 (i : Int))), (23, DStrs cs), (24, .v (.int .i64 ((cs.length : Nat) : Int))), (25, .v (.int .i64 (j : Int)))], []⟩ : St)) (fun (j : Nat) => j ≤ cs.length) (fun (j : Nat) => cs.length - j) (0) (by exact Nat.zero_le _) (St.Le.of ⟨(by first | rfl | (show some _ = some _; simp)), (by first | rfl | (show some _ = some _; simp)), (by first | rfl | (show some _ = some _; simp)), (by first | rfl | (show some _ = some _; simp)), (by first | rfl | (show some _ = some _; simp)), (by first | rfl | (show some _ = some _; simp)), (by first | rfl | (show some _ = some _; simp)), (by first | rfl | (show some _ = some _; simp)), (by first | rfl | (show some _ = some _; simp)), (by first | rfl | (show some _ = some _; simp)), trivial⟩ rfl (by first | rfl | (simp))) ?_)))))))
    rintro j hj
    refine SYCode.fact (isl_len (t := 23) rfl) (fun hB2 => ?_)
    simp only [List.length_map, lenB] at hB2
    refine SYCode.seqR (SYOps.one hK (SOps.bin rfl rfl rfl (SOps.nil rfl)) rfl rfl (SYOps.nil (SYCode.seq ?_)))
    refine SYCode.cond rfl (fun hc2 => ?_) (fun hc2 => ?_)
    · try simp only [nmL] at hc2
      refine SYCode.skip ?_
      show SYCode _ _ _ _ _ _
      refine SYCode.seq (SYCode.block (SYCode.seqR ?_))
      have hjl : j < cs.length := by omega
      refine SYOps.one hK (SOps.indexM (j) rfl rfl sliceB_35_9_1 (by first | omega | (simp only [lenB]; omega)) (by first | omega | (simp only [lenB]; omega)) (SOps.nil rfl)) rfl rfl (SYOps.one hK (SOps.loadPin rfl flatB_9 (SOps.nil rfl)) rfl rfl (SYOps.one hK (SOps.assign rfl (SOps.nil rfl)) rfl rfl (SYOps.nil (SYCode.seqR (SYOps.one hK (SOps.move rfl (SOps.nil rfl)) rfl rfl (SYOps.one hK (SOps.move rfl (SOps.nil rfl)) rfl rfl (SYOps.one hK (SOps.move rfl (SOps.nil rfl)) rfl rfl (SYOps.one hK (SOps.litF rfl sliceB_35_9_1 zeroIs_9 rfl (SOps.nil rfl)) rfl rfl (SYOps.one hK (SOps.buildM placesB_50 zeroIs_50 rfl rfl (SOps.nil rfl)) rfl rfl (SYOps.yield hY rfl rfl (cand1 hil hjl) rfl (SYOps.one hK (SOps.un rfl rfl (SOps.nil rfl)) rfl rfl (SYOps.nil ?_))))))))))))
      refine SYCode.cond rfl (fun h => by cases h) (fun _ => ?_)
      refine SYCode.skip ?_
      show SYCode _ _ _ _ _ _
      refine SYCode.region (SYOps.one hK (SOps.addI rfl rfl (by first | omega | (simp only [lenB]; omega)) (by first | omega | (simp only [lenB]; omega)) (SOps.nil rfl)) rfl rfl (SYOps.one hK (SOps.move rfl (SOps.nil rfl)) rfl rfl (SYOps.nil ?_)))
      exact ⟨j + 1, by omega, by omega, St.Le.of ⟨rfl, rfl, rfl, rfl, rfl, rfl, rfl, rfl, rfl, rfl, trivial⟩, by show i * cN cs + 1 + (j + 1) = i * cN cs + 1 + j + 1; omega⟩
    · try simp only [nmL] at hc2
      refine SYCode.exit ?_
      show SYCode _ _ _ _ _ _
      refine SYCode.seqR (SYOps.one hK (SOps.loadPin rfl flatB_35 (SOps.nil rfl)) rfl rfl (SYOps.one hK (SOps.lenM rfl sliceB_35_9_1 (SOps.nil rfl)) rfl rfl (SYOps.one hK (SOps.move rfl (SOps.nil rfl)) rfl rfl (SYOps.nil (SYCode.block (SYCode.loop1 (ι := fun j => i * cN cs + 1 + cs.length + j * cs.length) (hx := by show i * cN cs + 1 + cs.length + 0 * cs.length = i * cN cs + 1 + j; rw [Nat.zero_mul]; omega) (fun (j : Nat) => (⟨60, [(0, .v (.func (.yield l) #[] #[])), (1, .ipin [DStrs hs]), (2, .ipin [DStrs cs]), (5, .v (.string (hs[i]))), (12, DStrs hs), (13, .v (.int .i64 ((hs.length : Nat) : Int))), (14, .v (.int .i64 (i : Int))), (37, DStrs cs), (38, .v (.int .i64 ((cs.length : Nat) : Int))), (39, .v (.int .i64 (j : Int)))], []⟩ : St)) (fun (j : Nat) => j ≤ cs.length) (fun (j : Nat) => cs.length - j) (0) (by exact Nat.zero_le _) (St.Le.of ⟨(by first | rfl | (show some _ = some _; simp)), (by first | rfl | (show some _ = some _; simp)), (by first | rfl | (show some _ = some _; simp)), (by first | rfl | (show some _ = some _; simp)), (by first | rfl | (show some _ = some _; simp)), (by first | rfl | (show some _ = some _; simp)), (by first | rfl | (show some _ = some _; simp)), (by first | rfl | (show some _ = some _; simp)), (by first | rfl | (show some _ = some _; simp)), (by first | rfl | (show some _ = some _; simp)), trivial⟩ rfl (by first | rfl | (simp))) ?_))))))
      rintro j hj
      refine SYCode.fact (isl_len (t := 37) rfl) (fun hB3 => ?_)
      simp only [List.length_map, lenB] at hB3
      refine SYCode.seqR (SYOps.one hK (SOps.bin rfl rfl rfl (SOps.nil rfl)) rfl rfl (SYOps.nil (SYCode.seq ?_)))
      refine SYCode.cond rfl (fun hc3 => ?_) (fun hc3 => ?_)
      · try simp only [nmL] at hc3
        refine SYCode.skip ?_
        show SYCode _ _ _ _ _ _
        refine SYCode.seq (SYCode.block (SYCode.seqR ?_))
        have hjl : j < cs.length := by omega
        refine SYOps.one hK (SOps.indexM (j) rfl rfl sliceB_35_9_1 (by first | omega | (simp only [lenB]; omega)) (by first | omega | (simp only [lenB]; omega)) (SOps.nil rfl)) rfl rfl (SYOps.one hK (SOps.loadPin rfl flatB_9 (SOps.nil rfl)) rfl rfl (SYOps.one hK (SOps.assign rfl (SOps.nil rfl)) rfl rfl (SYOps.nil (SYCode.seqR (SYOps.one hK (SOps.loadPin rfl flatB_35 (SOps.nil rfl)) rfl rfl (SYOps.one hK (SOps.lenM rfl sliceB_35_9_1 (SOps.nil rfl)) rfl rfl (SYOps.one hK (SOps.move rfl (SOps.nil rfl)) rfl rfl (SYOps.nil (SYCode.block (SYCode.loop1 (ι := fun k => i * cN cs + 1 + cs.length + j * cs.length + k) (hx := by rfl) (fun (k : Nat) => (⟨60, [(0, .v (.func (.yield l) #[] #[])), (1, .ipin [DStrs hs]), (2, .ipin [DStrs cs]), (5, .v (.string (hs[i]))), (9, .v (.string (cs[j]))), (12, DStrs hs), (13, .v (.int .i64 ((hs.length : Nat) : Int))), (14, .v (.int .i64 (i : Int))), (37, DStrs cs), (38, .v (.int .i64 ((cs.length : Nat) : Int))), (39, .v (.int .i64 (j : Int))), (43, DStrs cs), (44, .v (.int .i64 ((cs.length : Nat) : Int))), (45, .v (.int .i64 (k : Int)))], []⟩ : St)) (fun (k : Nat) => k ≤ cs.length) (fun (k : Nat) => cs.length - k) (0) (by exact Nat.zero_le _) (St.Le.of ⟨(by first | rfl | (show some _ = some _; simp)), (by first | rfl | (show some _ = some _; simp)), (by first | rfl | (show some _ = some _; simp)), (by first | rfl | (show some _ = some _; simp)), (by first | rfl | (show some _ = some _; simp)), (by first | rfl | (show some _ = some _; simp)), (by first | rfl | (show some _ = some _; simp)), (by first | rfl | (show some _ = some _; simp)), (by first | rfl | (show some _ = some _; simp)), (by first | rfl | (show some _ = some _; simp)), (by first | rfl | (show some _ = some _; simp)), (by first | rfl | (show some _ = some _; simp)), (by first | rfl | (show some _ = some _; simp)), (by first | rfl | (show some _ = some _; simp)), trivial⟩ rfl (by first | rfl | (simp))) ?_))))))))))
        rintro k hk
        refine SYCode.fact (isl_len (t := 43) rfl) (fun hB4 => ?_)
        simp only [List.length_map, lenB] at hB4
        refine SYCode.seqR (SYOps.one hK (SOps.bin rfl rfl rfl (SOps.nil rfl)) rfl rfl (SYOps.nil (SYCode.seq ?_)))
        refine SYCode.cond rfl (fun hc4 => ?_) (fun hc4 => ?_)
        · try simp only [nmL] at hc4
          refine SYCode.skip ?_
          show SYCode _ _ _ _ _ _
          refine SYCode.seq (SYCode.block (SYCode.seqR ?_))
          have hkl : k < cs.length := by omega
          refine SYOps.one hK (SOps.indexM (k) rfl rfl sliceB_35_9_1 (by first | omega | (simp only [lenB]; omega)) (by first | omega | (simp only [lenB]; omega)) (SOps.nil rfl)) rfl rfl (SYOps.one hK (SOps.loadPin rfl flatB_9 (SOps.nil rfl)) rfl rfl (SYOps.one hK (SOps.assign rfl (SOps.nil rfl)) rfl rfl (SYOps.nil (SYCode.seqR (SYOps.one hK (SOps.move rfl (SOps.nil rfl)) rfl rfl (SYOps.one hK (SOps.move rfl (SOps.nil rfl)) rfl rfl (SYOps.one hK (SOps.move rfl (SOps.nil rfl)) rfl rfl (SYOps.one hK (SOps.move rfl (SOps.nil rfl)) rfl rfl (SYOps.one hK (SOps.litF rfl sliceB_35_9_1 zeroIs_9 rfl (SOps.nil rfl)) rfl rfl (SYOps.one hK (SOps.buildM placesB_50 zeroIs_50 rfl rfl (SOps.nil rfl)) rfl rfl (SYOps.yield hY rfl rfl (cand2 hil hjl hkl) rfl (SYOps.one hK (SOps.un rfl rfl (SOps.nil rfl)) rfl rfl (SYOps.nil ?_)))))))))))))
          refine SYCode.cond rfl (fun h => by cases h) (fun _ => ?_)
          refine SYCode.skip ?_
          show SYCode _ _ _ _ _ _
          refine SYCode.region (SYOps.one hK (SOps.addI rfl rfl (by first | omega | (simp only [lenB]; omega)) (by first | omega | (simp only [lenB]; omega)) (SOps.nil rfl)) rfl rfl (SYOps.one hK (SOps.move rfl (SOps.nil rfl)) rfl rfl (SYOps.nil ?_)))
          exact ⟨k + 1, by omega, by omega, St.Le.of ⟨rfl, rfl, rfl, rfl, rfl, rfl, rfl, rfl, rfl, rfl, rfl, rfl, rfl, rfl, trivial⟩, by rfl⟩
        · try simp only [nmL] at hc4
          refine SYCode.exit ?_
          show SYCode _ _ _ _ _ _
          refine SYCode.region (SYOps.one hK (SOps.addI rfl rfl (by first | omega | (simp only [lenB]; omega)) (by first | omega | (simp only [lenB]; omega)) (SOps.nil rfl)) rfl rfl (SYOps.one hK (SOps.move rfl (SOps.nil rfl)) rfl rfl (SYOps.nil ?_)))
          exact ⟨j + 1, by omega, by omega, St.Le.of ⟨rfl, rfl, rfl, rfl, rfl, rfl, rfl, rfl, rfl, rfl, trivial⟩, by show i * cN cs + 1 + cs.length + (j + 1) * cs.length = i * cN cs + 1 + cs.length + j * cs.length + k; rw [Nat.succ_mul]; omega⟩
      · try simp only [nmL] at hc3
        refine SYCode.exit ?_
        show SYCode _ _ _ _ _ _
        refine SYCode.region (SYOps.one hK (SOps.addI rfl rfl (by first | omega | (simp only [lenB]; omega)) (by first | omega | (simp only [lenB]; omega)) (SOps.nil rfl)) rfl rfl (SYOps.one hK (SOps.move rfl (SOps.nil rfl)) rfl rfl (SYOps.nil ?_)))
        exact ⟨i + 1, by omega, by omega, St.Le.of ⟨rfl, rfl, rfl, rfl, rfl, rfl, trivial⟩, by show (i + 1) * cN cs = i * cN cs + 1 + cs.length + j * cs.length; rw [Nat.succ_mul, show j = cs.length by omega]; unfold cN; omega⟩
  · try simp only [nmL] at hc1
    refine SYCode.exit ?_
    exact ⟨.inl rfl, by show i * cN cs = _; rw [candD_len, show i = hs.length by omega]⟩
end Go.GH
namespace Go.GH
open Go Go.Proofs
variable {E : Env}
theorem elemB_50_2_40 : elemB Tryd.prog 50 2 40 = true := by kernel_rfl
theorem flatB_30 : flatB Tryd.prog 30 = true := by kernel_rfl
theorem flatB_36 : flatB Tryd.prog 36 = true := by kernel_rfl
theorem flatB_76 : flatB Tryd.prog 76 = true := by kernel_rfl
theorem oneB_30 : oneB Tryd.prog 30 = true := by kernel_rfl
theorem oneB_36 : oneB Tryd.prog 36 = true := by kernel_rfl
theorem oneB_72 : oneB Tryd.prog 72 = true := by kernel_rfl
theorem oneB_76 : oneB Tryd.prog 76 = true := by kernel_rfl
theorem oneB_9 : oneB Tryd.prog 9 = true := by kernel_rfl
theorem sliceB_36_50_2 : sliceB Tryd.prog 36 50 2 = true := by kernel_rfl
theorem sliceB_73_35_1 : sliceB Tryd.prog 73 35 1 = true := by kernel_rfl
theorem zeroIs_30 : zeroIs Tryd.prog 30 (.int .i64 0) := by unfold zeroIs; kernel_rfl
theorem zeroIs_35 : zeroIs Tryd.prog 35 (.slice none 0 0) := by unfold zeroIs; kernel_rfl
theorem zeroIs_36 : zeroIs Tryd.prog 36 (.slice none 0 0) := by unfold zeroIs; kernel_rfl
theorem zeroIs_72 : zeroIs Tryd.prog 72 (.map none) := by unfold zeroIs; kernel_rfl
theorem zeroIs_76 : zeroIs Tryd.prog 76 (.nilFunc) := by unfold zeroIs; kernel_rfl
def encSS (l : List ByteArray) : List DV := [DStrs l]
def outL (a : List Letter) (l : List Rule) (hs cs : List ByteArray) (w : ByteArray) (i : Nat) : List Sg := ((candL (onceL hs) (onceL cs)).take i).filter (okSg a l w)
theorem outL_len (a : List Letter) (l : List Rule) (hs cs : List ByteArray) (w : ByteArray) (i : Nat) : (outL a l hs cs w i).length ≤ (candL (onceL hs) (onceL cs)).length := Nat.le_trans (List.length_filter_le _ _) (by rw [List.length_take]; omega)
theorem cand_few {hs cs : List ByteArray} (h5 : hs.length ≤ 5) (h4 : cs.length ≤ 4) : (candL (onceL hs) (onceL cs)).length ≤ 105 := by
  have h1 := onceN_len hs hs.length
  have h2 := onceN_len cs cs.length
  rw [candL_len]
  show (onceN hs hs.length).length * _ ≤ _
  have h3 : (onceL cs).length ≤ 4 := Nat.le_trans h2 h4
  have h6 : (onceL cs).length * (onceL cs).length ≤ 4 * 4 := Nat.mul_le_mul h3 h3
  calc (onceN hs hs.length).length * (1 + (onceL cs).length + (onceL cs).length * (onceL cs).length) ≤ 5 * 21 := Nat.mul_le_mul (by omega) (by omega)
    _ = 105 := rfl
theorem outL_next {a : List Letter} {l : List Rule} {hs cs : List ByteArray} {w : ByteArray} {i : Nat} {s : Sg} (h : (candL (onceL hs) (onceL cs))[i]? = some s) : outL a l hs cs w (i + 1) = if okSg a l w s = true then outL a l hs cs w i ++ [s] else outL a l hs cs w i := by
  obtain ⟨hi, rfl⟩ := List.getElem?_eq_some_iff.1 h
  unfold outL
  rw [take_next hi, List.filter_append, List.filter_cons, List.filter_nil]
  split <;> simp
theorem cSplit0 (hV : VS E) (a : List Letter) (l : List Rule) (hs cs : List ByteArray) (w : ByteArray) (hr : ∀ r ∈ l, SmR r) (h5 : hs.length ≤ 5) (h4 : cs.length ≤ 4) : GCall Tryd.prog E 19 [DLs a, DRs l, DStrs hs, DStrs cs, .v (.string w)] [] (fun d H => ∃ k, d = .tup [accD 2 k ((splitR a l hs cs w).1.map encSg), .v (.int .i64 (splitR a l hs cs w).2)] ∧ ∀ p ∈ accH 50 2 k ((splitR a l hs cs w).1.map encSg), p ∈ H) := by
 refine GCall.bodyM (C := ⟨Tryd.prog, E, true⟩) Tryd.func19 rfl (fun _ => rfl) (by kernel_rfl) rfl ?_
 refine SMCode.seqRS (SOps.boxF rfl rfl rfl ?_)
 refine SOps.alloc (sz := 1) zeroIs_36 (fun b0 hb_0 => ?_)
 refine SOps.alloc (sz := 1) zeroIs_30 (fun b1 hb_1 => ?_)
 refine SOps.nil (SMCode.seqS (SCode.seqR (SOps.move rfl (SOps.move rfl (SOps.callP (cValid hV _ _ (by assumption)) rfl ?_)))))
 rintro _ rfl
 refine SOps.un rfl rfl (SOps.move rfl ?_)
 refine SOps.caseB 29 rfl (fun hb1 => ?_) (fun hb1 => ?_)
 ·try simp only [nmL] at hb1
  refine SOps.skip rfl (SOps.skip rfl (SOps.skip rfl (SOps.skip rfl (SOps.pick rfl rfl (SOps.move rfl (SOps.skip rfl (SOps.skip rfl (SOps.skip rfl (SOps.skip rfl (SOps.pick rfl rfl (SOps.move rfl (SOps.skip rfl (SOps.skip rfl (SOps.skip rfl (SOps.skip rfl (SOps.skip rfl (SOps.pick rfl rfl (SOps.nil ?_))))))))))))))))))
  refine SCode.cond rfl (fun _ => ?_) (fun h => by cases h)
  refine SCode.seqR (SOps.storeM 1 rfl rfl oneB_36 rfl (SOps.storeM 0 rfl rfl oneB_30 rfl (SOps.nil (SCode.ret ?_))))
  exact ⟨_, Res.two (.flat (i := 1) (k := 0) (j := 0) rfl flatB_36 rfl rfl rfl rfl) (.flat (i := 0) (k := 0) (j := 0) rfl flatB_30 rfl rfl rfl rfl), 0, by unfold splitR; rw [if_neg (fun h9 => by unfold argS at h9; simp only [Bool.and_eq_true] at h9; first | (rw [h9.1.1.1] at hb1; exact Bool.noConfusion hb1) | (rw [h9.1.1.2] at hb2; exact Bool.noConfusion hb2) | (rw [h9.1.2] at hb3; exact Bool.noConfusion hb3) | (simp_all; done))]; rfl, by unfold splitR; rw [if_neg (fun h9 => by unfold argS at h9; simp only [Bool.and_eq_true] at h9; first | (rw [h9.1.1.1] at hb1; exact Bool.noConfusion hb1) | (rw [h9.1.1.2] at hb2; exact Bool.noConfusion hb2) | (rw [h9.1.2] at hb3; exact Bool.noConfusion hb3) | (simp_all; done))]; exact fun p hp => by cases hp⟩
 ·try simp only [nmL] at hb1
  refine SOps.move rfl (SOps.move rfl (SOps.callP (cWords hV _ _) rfl ?_))
  rintro _ rfl
  refine SOps.un rfl rfl (SOps.pick rfl rfl (SOps.move rfl ?_))
  refine SOps.caseB 35 rfl (fun hb2 => ?_) (fun hb2 => ?_)
  ·try simp only [nmL] at hb2
   refine SOps.skip rfl (SOps.skip rfl (SOps.skip rfl (SOps.skip rfl (SOps.pick rfl rfl (SOps.move rfl (SOps.skip rfl (SOps.skip rfl (SOps.skip rfl (SOps.skip rfl (SOps.skip rfl (SOps.pick rfl rfl (SOps.nil ?_))))))))))))
   refine SCode.cond rfl (fun _ => ?_) (fun h => by cases h)
   refine SCode.seqR (SOps.storeM 1 rfl rfl oneB_36 rfl (SOps.storeM 0 rfl rfl oneB_30 rfl (SOps.nil (SCode.ret ?_))))
   exact ⟨_, Res.two (.flat (i := 1) (k := 0) (j := 0) rfl flatB_36 rfl rfl rfl rfl) (.flat (i := 0) (k := 0) (j := 0) rfl flatB_30 rfl rfl rfl rfl), 0, by unfold splitR; rw [if_neg (fun h9 => by unfold argS at h9; simp only [Bool.and_eq_true] at h9; first | (rw [h9.1.1.1] at hb1; exact Bool.noConfusion hb1) | (rw [h9.1.1.2] at hb2; exact Bool.noConfusion hb2) | (rw [h9.1.2] at hb3; exact Bool.noConfusion hb3) | (simp_all; done))]; rfl, by unfold splitR; rw [if_neg (fun h9 => by unfold argS at h9; simp only [Bool.and_eq_true] at h9; first | (rw [h9.1.1.1] at hb1; exact Bool.noConfusion hb1) | (rw [h9.1.1.2] at hb2; exact Bool.noConfusion hb2) | (rw [h9.1.2] at hb3; exact Bool.noConfusion hb3) | (simp_all; done))]; exact fun p hp => by cases hp⟩
  ·try simp only [nmL] at hb2
   refine SOps.move rfl (SOps.move rfl (SOps.callP (cWords hV _ _) rfl ?_))
   rintro _ rfl
   refine SOps.un rfl rfl (SOps.pick rfl rfl (SOps.move rfl ?_))
   refine SOps.caseB 41 rfl (fun hb3 => ?_) (fun hb3 => ?_)
   ·try simp only [nmL] at hb3
    refine SOps.skip rfl (SOps.skip rfl (SOps.skip rfl (SOps.skip rfl (SOps.skip rfl (SOps.pick rfl rfl (SOps.nil ?_))))))
    refine SCode.cond rfl (fun _ => ?_) (fun h => by cases h)
    refine SCode.seqR (SOps.storeM 1 rfl rfl oneB_36 rfl (SOps.storeM 0 rfl rfl oneB_30 rfl (SOps.nil (SCode.ret ?_))))
    exact ⟨_, Res.two (.flat (i := 1) (k := 0) (j := 0) rfl flatB_36 rfl rfl rfl rfl) (.flat (i := 0) (k := 0) (j := 0) rfl flatB_30 rfl rfl rfl rfl), 0, by unfold splitR; rw [if_neg (fun h9 => by unfold argS at h9; simp only [Bool.and_eq_true] at h9; first | (rw [h9.1.1.1] at hb1; exact Bool.noConfusion hb1) | (rw [h9.1.1.2] at hb2; exact Bool.noConfusion hb2) | (rw [h9.1.2] at hb3; exact Bool.noConfusion hb3) | (simp_all; done))]; rfl, by unfold splitR; rw [if_neg (fun h9 => by unfold argS at h9; simp only [Bool.and_eq_true] at h9; first | (rw [h9.1.1.1] at hb1; exact Bool.noConfusion hb1) | (rw [h9.1.1.2] at hb2; exact Bool.noConfusion hb2) | (rw [h9.1.2] at hb3; exact Bool.noConfusion hb3) | (simp_all; done))]; exact fun p hp => by cases hp⟩
   ·try simp only [nmL] at hb3
    refine SOps.move rfl (SOps.loadPin rfl flatB_9 (SOps.litF rfl sliceB_35_9_1 zeroIs_9 rfl (SOps.callP (cWords hV a [w]) rfl ?_)))
    rintro _ rfl
    refine SOps.un rfl rfl (SOps.pick rfl rfl (SOps.nil ?_))
    refine SCode.cond rfl (fun hc4 => ?_) (fun hc4 => ?_)
    ·try simp only [nmL] at hc4
     refine SCode.seqR (SOps.storeM 1 rfl rfl oneB_36 rfl (SOps.storeM 0 rfl rfl oneB_30 rfl (SOps.nil (SCode.ret ?_))))
     exact ⟨_, Res.two (.flat (i := 1) (k := 0) (j := 0) rfl flatB_36 rfl rfl rfl rfl) (.flat (i := 0) (k := 0) (j := 0) rfl flatB_30 rfl rfl rfl rfl), 0, by unfold splitR; rw [if_neg (fun h9 => by unfold argS at h9; simp only [Bool.and_eq_true] at h9; first | (rw [h9.1.1.1] at hb1; exact Bool.noConfusion hb1) | (rw [h9.1.1.2] at hb2; exact Bool.noConfusion hb2) | (rw [h9.1.2] at hb3; exact Bool.noConfusion hb3) | (simp_all; done))]; rfl, by unfold splitR; rw [if_neg (fun h9 => by unfold argS at h9; simp only [Bool.and_eq_true] at h9; first | (rw [h9.1.1.1] at hb1; exact Bool.noConfusion hb1) | (rw [h9.1.1.2] at hb2; exact Bool.noConfusion hb2) | (rw [h9.1.2] at hb3; exact Bool.noConfusion hb3) | (simp_all; done))]; exact fun p hp => by cases hp⟩
    ·try simp only [nmL] at hc4
     refine SCode.skip ?_
     show SMCode _ _ _ _ _
     refine SMCode.seqRS ?_
     have harg : argS a l hs cs w = true := by unfold argS; simp_all
     have hal : a.length ≤ 64 := by have h9 := harg; unfold argS at h9; simp only [Bool.and_eq_true] at h9; have := validA_iff.1 (validS_iff.1 h9.1.1.1).1; omega
     have hwh : ∀ s ∈ hs, isWordA a s = true := by have h9 := harg; unfold argS at h9; simp only [Bool.and_eq_true, List.all_eq_true] at h9; exact h9.1.1.2
     have hwc : ∀ s ∈ cs, isWordA a s = true := by have h9 := harg; unfold argS at h9; simp only [Bool.and_eq_true, List.all_eq_true] at h9; exact h9.1.2
     have hww : isWordA a w = true := by have h9 := harg; unfold argS at h9; simp only [Bool.and_eq_true, List.all_eq_true] at h9; exact h9.2
     have hwd : ∀ ws ∈ [hs, cs], ∀ s ∈ ws, isWordA a s = true := by intro ws h1 s h2; simp only [List.mem_cons, List.not_mem_nil, or_false] at h1; rcases h1 with rfl | rfl; exact hwh s h2; exact hwc s h2
     refine SOps.move rfl (SOps.callP (cSteady l hr) rfl ?_)
     rintro _ ⟨es0, hM0, rfl⟩
     refine SOps.assign rfl (SOps.nil (SMCode.seqRS ?_))
     refine SOps.makeMap0 (fun b2 hb_2 => ?_)
     refine SOps.alloc (sz := 1) zeroIs_72 (fun b3 hb_3 => ?_)
     refine SOps.storeM 0 rfl rfl oneB_72 rfl (SOps.freezeRef (t := 13) 0 0 rfl rfl rfl rfl rfl (SOps.nil (SMCode.seqS (SCode.seqR (SOps.move rfl (SOps.move rfl (SOps.litF rfl sliceB_73_35_1 zeroIs_35 rfl (SOps.lenM rfl sliceB_73_35_1 (SOps.move rfl (SOps.nil (SCode.block (SCode.loop3 (fun (q : Nat) (es : List (Value × DV)) (ks : List ByteArray) => (⟨123, [(0, DLs a), (1, DRs l), (2, DStrs hs), (3, DStrs cs), (9, .ipin [.v (.string w)]), (10, .ref b0 0), (11, .ref b1 0), (12, .fn 74 [.ipin [.imap es0]]), (13, .ipin [.mp b2]), (53, .isl false 1 ([hs, cs].map encSS)), (54, .v (.int .i64 2)), (55, .v (.int .i64 (q : Int)))], [(b2, .map es), (b1, .row 30 1 [[.v (.int .i64 0)]]), (b0, .row 36 1 [[.v (.slice none 0 0)]])]⟩ : St)) (fun (q : Nat) (es : List (Value × DV)) (ks : List ByteArray) => q ≤ 2 ∧ MapS (keepS l) es ks ∧ ∀ ws ∈ [hs, cs].take q, ∀ s ∈ ws, memS s ks = true) (fun (q : Nat) (es : List (Value × DV)) (ks : List ByteArray) => 2 - q) (0) ([]) ([]) (by exact ⟨Nat.zero_le _, MapS.nil _, fun ws h => by cases h⟩) (St.Le.of ⟨(by first | rfl | (show some _ = some _; simp)), (by first | rfl | (show some _ = some _; simp)), (by first | rfl | (show some _ = some _; simp)), (by first | rfl | (show some _ = some _; simp)), (by first | rfl | (show some _ = some _; simp)), (by first | rfl | (show some _ = some _; simp)), (by first | rfl | (show some _ = some _; simp)), (by first | rfl | (show some _ = some _; simp)), (by first | rfl | (show some _ = some _; simp)), (by first | rfl | (show some _ = some _; simp)), (by first | rfl | (show some _ = some _; simp)), (by first | rfl | (show some _ = some _; simp)), trivial⟩ rfl (by first | rfl | (simp))) ?_))))))))))))
     rintro q es ks ⟨hq, hM, hcov⟩
     refine SCode.seqR (SOps.bin rfl rfl rfl (SOps.nil (SCode.seq ?_)))
     refine SCode.cond rfl (fun hc5 => ?_) (fun hc5 => ?_)
     ·try simp only [nmL] at hc5
      refine SCode.skip ?_
      show SCode _ _ _ _
      refine SCode.seq (SCode.block (SCode.seqR ?_))
      have hq2 : q < 2 := by omega
      have hwq := List.getElem_mem (show q < [hs, cs].length from hq2)
      refine SOps.indexM (q) rfl rfl sliceB_73_35_1 (by first | omega | (simp only [lenB]; omega)) (by first | omega | (simp only [lenB]; omega)) (SOps.loadPin rfl flatB_35 (SOps.assign rfl (SOps.nil (SCode.seqR (SOps.move rfl (SOps.lenM rfl sliceB_35_9_1 (SOps.move rfl (SOps.nil (SCode.block (SCode.loop3 (fun (j : Nat) (es2 : List (Value × DV)) (ks2 : List ByteArray) => (⟨123, [(0, DLs a), (1, DRs l), (2, DStrs hs), (3, DStrs cs), (9, .ipin [.v (.string w)]), (10, .ref b0 0), (11, .ref b1 0), (12, .fn 74 [.ipin [.imap es0]]), (13, .ipin [.mp b2]), (53, .isl false 1 ([hs, cs].map encSS)), (54, .v (.int .i64 2)), (55, .v (.int .i64 (q : Int))), (59, DStrs ([hs, cs][q])), (60, .v (.int .i64 ((([hs, cs][q]).length : Nat) : Int))), (61, .v (.int .i64 (j : Int)))], [(b2, .map es2), (b1, .row 30 1 [[.v (.int .i64 0)]]), (b0, .row 36 1 [[.v (.slice none 0 0)]])]⟩ : St)) (fun (j : Nat) (es2 : List (Value × DV)) (ks2 : List ByteArray) => j ≤ ([hs, cs][q]).length ∧ MapS (keepS l) es2 ks2 ∧ (∀ ws ∈ [hs, cs].take q, ∀ s ∈ ws, memS s ks2 = true) ∧ ∀ s ∈ ([hs, cs][q]).take j, memS s ks2 = true) (fun (j : Nat) (es2 : List (Value × DV)) (ks2 : List ByteArray) => ([hs, cs][q]).length - j) (0) (es) (ks) (by exact ⟨Nat.zero_le _, hM, hcov, fun s h => by cases h⟩) (St.Le.of ⟨(by first | rfl | (show some _ = some _; simp)), (by first | rfl | (show some _ = some _; simp)), (by first | rfl | (show some _ = some _; simp)), (by first | rfl | (show some _ = some _; simp)), (by first | rfl | (show some _ = some _; simp)), (by first | rfl | (show some _ = some _; simp)), (by first | rfl | (show some _ = some _; simp)), (by first | rfl | (show some _ = some _; simp)), (by first | rfl | (show some _ = some _; simp)), (by first | rfl | (show some _ = some _; simp)), (by first | rfl | (show some _ = some _; simp)), (by first | rfl | (show some _ = some _; simp)), (by first | rfl | (show some _ = some _; simp)), (by first | rfl | (show some _ = some _; simp)), (by first | rfl | (show some _ = some _; simp)), trivial⟩ rfl (by first | rfl | (simp))) ?_))))))))))
      rintro j es2 ks2 ⟨hj, hM2, hcov2, hin2⟩
      refine SCode.fact (isl_len (t := 59) rfl) (fun hB => ?_)
      simp only [List.length_map, lenB] at hB
      have hks := hM2.keys
      refine SCode.seqR (SOps.bin rfl rfl rfl (SOps.nil (SCode.seq ?_)))
      refine SCode.cond rfl (fun hc6 => ?_) (fun hc6 => ?_)
      ·try simp only [nmL] at hc6
       refine SCode.skip ?_
       show SCode _ _ _ _
       refine SCode.seq (SCode.block (SCode.seqR ?_))
       have hjl : j < ([hs, cs][q]).length := by omega
       have hsq := List.getElem_mem hjl
       refine SOps.indexM (j) rfl rfl sliceB_35_9_1 (by first | omega | (simp only [lenB]; omega)) (by first | omega | (simp only [lenB]; omega)) (SOps.loadPin rfl flatB_9 (SOps.assign rfl (SOps.nil ?_)))
       apply SCode.drawAuto1 5 7 mixed_ [65, 66, 67, 68, 69] [[.inr 13], [.inr 17], [.inr 12], [.inr 17], [.inl 2, .inl 3]]
       ·kernel_rfl
       ·kernel_rfl
       ·kernel_rfl
       ·kernel_rfl
       ·rfl
       ·rfl
       ·apply DOk.cons 65 
        ·rfl
        ·exact (NeedIs.inr _ rfl NeedIs.nil)
        ·intro rest
         refine SOps.loadPin rfl flatB_72 ?_
         exact SOps.nil rfl
        apply DOk.cons 66 
        ·rfl
        ·exact (NeedIs.inr _ rfl NeedIs.nil)
        ·intro rest
         refine SOps.move rfl ?_
         exact SOps.nil rfl
        apply DOk.cons 67 
        ·rfl
        ·exact (NeedIs.inr _ rfl NeedIs.nil)
        ·intro rest
         refine SOps.move rfl ?_
         exact SOps.nil rfl
        apply DOk.cons 68 
        ·rfl
        ·exact (NeedIs.inr _ rfl NeedIs.nil)
        ·intro rest
         refine SOps.move rfl ?_
         exact SOps.nil rfl
        apply DOk.cons 69 
        ·rfl
        ·exact (NeedIs.inl 1 _ _ rfl rfl (NeedIs.inl 0 _ _ rfl rfl NeedIs.nil))
        ·intro rest
         refine SOps.callFn (ds := [_]) rfl (cSteady1 l es0 _ hM0 (by have := (word_facts (hwd _ hwq _ hsq)).2.2.2; omega)) rfl ?_
         rintro _ _ ⟨rfl, rfl⟩
         exact SOps.nil rfl
        exact DOk.nil
       ·rfl
       ·refine SOps.mapUpdate 0 rfl rfl rfl rfl mapB_72 rfl (hks) (SOps.nil ?_)
        show SCode _ _ _ _
        refine SCode.region (SOps.addI rfl rfl (by first | omega | (simp only [lenB]; omega)) (by first | omega | (simp only [lenB]; omega)) (SOps.move rfl (SOps.nil ?_)))
        exact ⟨j + 1, _, ks2 ++ [([hs, cs][q])[j]], ⟨by omega, hM2.add _, fun ws h s h9 => by rw [memS_snoc, hcov2 ws h s h9]; rfl, fun s h9 => by rw [take_next hjl] at h9; rw [memS_snoc]; rcases List.mem_append.1 h9 with h9 | h9; rw [hin2 s h9]; rfl; rw [List.mem_singleton.1 h9]; simp⟩, by omega, St.Le.of ⟨rfl, rfl, rfl, rfl, rfl, rfl, rfl, rfl, rfl, rfl, rfl, rfl, rfl, rfl, rfl, trivial⟩ rfl rfl⟩
      ·try simp only [nmL] at hc6
       refine SCode.exit ?_
       show SCode _ _ _ _
       refine SCode.region (SOps.addI rfl rfl (by first | omega | (simp only [lenB]; omega)) (by first | omega | (simp only [lenB]; omega)) (SOps.move rfl (SOps.nil ?_)))
       exact ⟨q + 1, es2, ks2, ⟨by omega, hM2, fun ws h s hs9 => by rw [take_next hq2] at h; rcases List.mem_append.1 h with h | h; exact hcov2 ws h s hs9; rw [List.mem_singleton.1 h] at hs9; exact hin2 s (by rw [List.take_of_length_le (by omega)]; exact hs9)⟩, by omega, St.Le.of ⟨rfl, rfl, rfl, rfl, rfl, rfl, rfl, rfl, rfl, rfl, rfl, rfl, trivial⟩⟩
     ·try simp only [nmL] at hc5
      refine SCode.exit ?_
      show SMCode _ _ _ _ _
      refine SMCode.seqRS (SOps.move rfl (SOps.loadPin rfl flatB_9 (SOps.callFn (ds := [_]) rfl (cSteady1 l es0 w hM0 (by have := (word_facts hww).2.2.2; omega)) rfl ?_)))
      rintro _ _ ⟨rfl, rfl⟩
      refine SOps.alloc (sz := 1) zeroIs_9 (fun b4 hb_4 => ?_)
      refine SOps.storeM 0 rfl rfl oneB_9 rfl (SOps.freezeRef (t := 18) 0 0 rfl rfl rfl rfl rfl (SOps.nil (SMCode.seqRS (SOps.freezePinMap (t := 13) 0 rfl rfl rfl (SOps.makeFunc rfl ?_)))))
      refine SOps.alloc (sz := 1) zeroIs_76 (fun b5 hb_5 => ?_)
      refine SOps.storeM 0 rfl rfl oneB_76 rfl (SOps.freezeRef (t := 19) 0 0 rfl rfl rfl rfl rfl (SOps.nil (SMCode.seqRS (SOps.move rfl (SOps.callP (cExtended _ (by omega)) rfl ?_)))))
      rintro _ rfl
      refine SOps.move rfl (SOps.buildM placesB_65 zeroIs_65 rfl rfl ?_)
      refine SOps.alloc (sz := 2) zeroIs_65 (fun b6 hb_6 => ?_)
      refine SOps.storeAM 0 rfl rfl aggB_65_2 rfl (SOps.freezeRef (t := 20) 0 0 rfl rfl rfl rfl rfl (SOps.nil (SMCode.seqRS ?_)))
      refine SOps.alloc (sz := 1) zeroIs_36 (fun b7 hb_7 => ?_)
      refine SOps.nil (SMCode.seq (SMCode.seqRS (SOps.move rfl (SOps.callP (cDistinct hs (by omega)) rfl ?_))))
      rintro _ rfl
      refine SOps.move rfl (SOps.callP (cDistinct cs (by omega)) rfl ?_)
      rintro _ rfl
      refine SOps.callP (cCandidates _ _) rfl ?_
      rintro _ rfl
      refine SOps.nil (SMCode.block (SMCode.weaken (st' := (⟨123, [(84, .fn 76 [.ipin [DStrs (onceL hs)], .ipin [DStrs (onceL cs)]]), (9, .ipin [.v (.string w)]), (10, .ref b0 0), (11, .ref b1 0), (19, .ipin [.fn 46 [.ipin [.v (.string (keepS l w))], .ipin [.imap es]]]), (20, .ipin [DLs (extA a), DRs l]), (21, .ref b7 0)], ([(b7, .row 36 1 [[accD 2 0 ((outL a l hs cs w 0).map encSg)]]), (b1, .row 30 1 [[.v (.int .i64 0)]]), (b0, .row 36 1 [[.v (.slice none 0 0)]])] ++ (accH 50 2 0 ((outL a l hs cs w 0).map encSg) ++ []))⟩ : St)) (St.Le.of ⟨rfl, rfl, rfl, rfl, rfl, rfl, rfl, trivial⟩ rfl rfl) ?_))
      refine SMCode.range rfl (iCandidates _ _) (fun i H => ∃ k, List.Sublist ([(b7, .row 36 1 [[accD 2 k ((outL a l hs cs w i).map encSg)]]), (b1, .row 30 1 [[.v (.int .i64 0)]]), (b0, .row 36 1 [[.v (.slice none 0 0)]])] ++ (accH 50 2 k ((outL a l hs cs w i).map encSg) ++ [])) H) ⟨0, List.Sublist.refl _⟩ rfl (fun i x l9 H hx hI => ?_) (fun H hI => ?_)
      ·obtain ⟨k, hsub⟩ := hI
       have hcv : ∀ ws ∈ [hs, cs], ∀ s ∈ ws, memS s ks = true := fun ws h => hcov ws (by rw [List.take_of_length_le (by simp only [List.length_cons, List.length_nil]; omega)]; exact h)
       obtain ⟨sg, hsg, rfl⟩ : ∃ sg, (candL (onceL hs) (onceL cs))[i]? = some sg ∧ DV.agg (encSg sg) = x := by unfold candD at hx; rw [List.getElem?_map] at hx; exact Option.map_eq_some_iff.1 hx
       have hnx := outL_next (a := a) (l := l) (w := w) hsg
       have hmem := candL_mem (List.mem_of_getElem? hsg)
       have hwo := outL_len a l hs cs w i
       have hfew := cand_few h5 h4
       have hsw : isWordA a sg.host = true := hwh _ (onceL_mem hmem.1)
       have hsc : ∀ c ∈ sg.cls, isWordA a c = true := fun c hc => hwc _ (onceL_mem (hmem.2.2 c hc))
       have hpre := split_pre harg sg (List.mem_of_getElem? hsg)
       refine SRound.weaken (st' := (⟨123, [(85, .agg (encSg sg)), (9, .ipin [.v (.string w)]), (10, .ref b0 0), (11, .ref b1 0), (19, .ipin [.fn 46 [.ipin [.v (.string (keepS l w))], .ipin [.imap es]]]), (20, .ipin [DLs (extA a), DRs l]), (21, .ref b7 0)], ([(b7, .row 36 1 [[accD 2 k ((outL a l hs cs w i).map encSg)]]), (b1, .row 30 1 [[.v (.int .i64 0)]]), (b0, .row 36 1 [[.v (.slice none 0 0)]])] ++ (accH 50 2 k ((outL a l hs cs w i).map encSg) ++ []))⟩ : St)) (St.Le.ofSub ⟨rfl, rfl, rfl, rfl, rfl, rfl, rfl, trivial⟩ hsub) (SRound.region ?_)
       refine SOps.alloc (sz := 2) zeroIs_50 (fun b8 hb_8 => ?_)
       refine SOps.storeAM 0 rfl rfl aggB_50_2 rfl (SOps.nil ?_)
       refine ⟨rfl, ?_⟩
       refine SRound.block (SRound.seq (SRound.seqR (SOps.fieldRef rfl fieldB_50_1_1 (SOps.loadRef 0 0 1 rfl flatB_35 rfl rfl rfl rfl (SOps.lenM rfl sliceB_35_9_1 (SOps.bin rfl rfl rfl (SOps.move rfl ?_)))))))
       refine SOps.caseB 90 rfl (fun hb7 => ?_) (fun hb7 => ?_)
       ·try simp only [nmL] at hb7
        refine SOps.fieldRef rfl fieldB_50_0_0 (SOps.loadRef 0 0 0 rfl flatB_9 rfl rfl rfl rfl (SOps.loadPin rfl flatB_9 (SOps.bin rfl rfl rfl (SOps.pick rfl rfl (SOps.move rfl ?_)))))
        refine SOps.caseB 96 rfl (fun hb8 => ?_) (fun hb8 => ?_)
        ·try simp only [nmL] at hb8
         refine SOps.skip rfl (SOps.skip rfl (SOps.skip rfl (SOps.skip rfl (SOps.pick rfl rfl (SOps.nil ?_)))))
         refine SRound.cond rfl (fun _ => ?_) (fun h => by cases h)
         refine SRound.exit ?_
         first
          | ((have hno : okSg a l w sg = false := by first | (rw [← hpre]; unfold preSg; simp_all; done) | (unfold okSg; simp_all; done)); rw [hno, if_neg (by simp)] at hnx; exact ⟨rfl, k, by rw [hnx]; exact .cons _ (.refl _)⟩)
          | (have hyes : okSg a l w sg = true := by (unfold okSg; simp_all; done)); rw [hyes, if_pos rfl] at hnx; first | exact ⟨rfl, b8, by rw [hnx, List.map_append]; exact .cons _ (.refl _)⟩ | exact ⟨rfl, b9, by rw [hnx, List.map_append]; exact .cons _ (.refl _)⟩ | exact ⟨rfl, b10, by rw [hnx, List.map_append]; exact .cons _ (.refl _)⟩ | exact ⟨rfl, b11, by rw [hnx, List.map_append]; exact .cons _ (.refl _)⟩ | exact ⟨rfl, b12, by rw [hnx, List.map_append]; exact .cons _ (.refl _)⟩ | exact ⟨rfl, b13, by rw [hnx, List.map_append]; exact .cons _ (.refl _)⟩ | exact ⟨rfl, b14, by rw [hnx, List.map_append]; exact .cons _ (.refl _)⟩ | exact ⟨rfl, b15, by rw [hnx, List.map_append]; exact .cons _ (.refl _)⟩
        ·try simp only [nmL] at hb8
         refine SOps.loadPin rfl flatB_76 (SOps.loadRefA 0 0 0 rfl aggB_50_2 rfl rfl rfl (Nat.le_of_ble_eq_true rfl) (SOps.callFn (ds := [_]) rfl (cPoss l w es ks sg hM (by have := (word_facts hww).2.2.1; omega) (hcv _ (by simp) _ (onceL_mem hmem.1)) (fun c hc => hcv _ (by simp) _ (onceL_mem (hmem.2.2 c hc)))) rfl ?_))
         rintro _ _ ⟨rfl, rfl⟩
         refine SOps.un rfl rfl (SOps.pick rfl rfl (SOps.nil ?_))
         refine SRound.cond rfl (fun hc9 => ?_) (fun hc9 => ?_)
         ·try simp only [nmL] at hc9
          refine SRound.exit ?_
          first
           | ((have hno : okSg a l w sg = false := by first | (rw [← hpre]; unfold preSg; simp_all; done) | (unfold okSg; simp_all; done)); rw [hno, if_neg (by simp)] at hnx; exact ⟨rfl, k, by rw [hnx]; exact .cons _ (.refl _)⟩)
           | (have hyes : okSg a l w sg = true := by (unfold okSg; simp_all; done)); rw [hyes, if_pos rfl] at hnx; first | exact ⟨rfl, b8, by rw [hnx, List.map_append]; exact .cons _ (.refl _)⟩ | exact ⟨rfl, b9, by rw [hnx, List.map_append]; exact .cons _ (.refl _)⟩ | exact ⟨rfl, b10, by rw [hnx, List.map_append]; exact .cons _ (.refl _)⟩ | exact ⟨rfl, b11, by rw [hnx, List.map_append]; exact .cons _ (.refl _)⟩ | exact ⟨rfl, b12, by rw [hnx, List.map_append]; exact .cons _ (.refl _)⟩ | exact ⟨rfl, b13, by rw [hnx, List.map_append]; exact .cons _ (.refl _)⟩ | exact ⟨rfl, b14, by rw [hnx, List.map_append]; exact .cons _ (.refl _)⟩ | exact ⟨rfl, b15, by rw [hnx, List.map_append]; exact .cons _ (.refl _)⟩
         ·try simp only [nmL] at hc9
          refine SRound.skip ?_
          show SRound _ _ _ _ _
          refine SRound.seqR (SOps.loadPinA rfl aggB_65_2 (Nat.le_of_ble_eq_true rfl) (SOps.loadRefA 0 0 0 rfl aggB_50_2 rfl rfl rfl (Nat.le_of_ble_eq_true rfl) (SOps.callP (jAll hV a l sg hr hsw hsc) rfl ?_)))
          rintro _ rfl
          refine SOps.move rfl (SOps.extract rfl rfl (SOps.extract rfl rfl (SOps.assign rfl (SOps.assign rfl (SOps.nil (SRound.seq (SRound.seqR (SOps.move rfl (SOps.bin rfl rfl rfl (SOps.move rfl ?_))))))))))
          refine SOps.caseB 110 rfl (fun hb10 => ?_) (fun hb10 => ?_)
          ·try simp only [nmL] at hb10
           refine SOps.skip rfl (SOps.skip rfl (SOps.skip rfl (SOps.pick rfl rfl (SOps.nil ?_))))
           refine SRound.cond rfl (fun _ => ?_) (fun h => by cases h)
           refine SRound.exit ?_
           first
            | ((have hno : okSg a l w sg = false := by first | (rw [← hpre]; unfold preSg; simp_all; done) | (unfold okSg; simp_all; done)); rw [hno, if_neg (by simp)] at hnx; exact ⟨rfl, k, by rw [hnx]; exact .cons _ (.refl _)⟩)
            | (have hyes : okSg a l w sg = true := by (unfold okSg; simp_all; done)); rw [hyes, if_pos rfl] at hnx; first | exact ⟨rfl, b8, by rw [hnx, List.map_append]; exact .cons _ (.refl _)⟩ | exact ⟨rfl, b9, by rw [hnx, List.map_append]; exact .cons _ (.refl _)⟩ | exact ⟨rfl, b10, by rw [hnx, List.map_append]; exact .cons _ (.refl _)⟩ | exact ⟨rfl, b11, by rw [hnx, List.map_append]; exact .cons _ (.refl _)⟩ | exact ⟨rfl, b12, by rw [hnx, List.map_append]; exact .cons _ (.refl _)⟩ | exact ⟨rfl, b13, by rw [hnx, List.map_append]; exact .cons _ (.refl _)⟩ | exact ⟨rfl, b14, by rw [hnx, List.map_append]; exact .cons _ (.refl _)⟩ | exact ⟨rfl, b15, by rw [hnx, List.map_append]; exact .cons _ (.refl _)⟩
          ·try simp only [nmL] at hb10
           refine SOps.move rfl (SOps.loadPin rfl flatB_9 (SOps.bin rfl rfl rfl (SOps.pick rfl rfl (SOps.nil ?_))))
           refine SRound.cond rfl (fun hc11 => ?_) (fun hc11 => ?_)
           ·try simp only [nmL] at hc11
            refine SRound.exit ?_
            first
             | ((have hno : okSg a l w sg = false := by first | (rw [← hpre]; unfold preSg; simp_all; done) | (unfold okSg; simp_all; done)); rw [hno, if_neg (by simp)] at hnx; exact ⟨rfl, k, by rw [hnx]; exact .cons _ (.refl _)⟩)
             | (have hyes : okSg a l w sg = true := by (unfold okSg; simp_all; done)); rw [hyes, if_pos rfl] at hnx; first | exact ⟨rfl, b8, by rw [hnx, List.map_append]; exact .cons _ (.refl _)⟩ | exact ⟨rfl, b9, by rw [hnx, List.map_append]; exact .cons _ (.refl _)⟩ | exact ⟨rfl, b10, by rw [hnx, List.map_append]; exact .cons _ (.refl _)⟩ | exact ⟨rfl, b11, by rw [hnx, List.map_append]; exact .cons _ (.refl _)⟩ | exact ⟨rfl, b12, by rw [hnx, List.map_append]; exact .cons _ (.refl _)⟩ | exact ⟨rfl, b13, by rw [hnx, List.map_append]; exact .cons _ (.refl _)⟩ | exact ⟨rfl, b14, by rw [hnx, List.map_append]; exact .cons _ (.refl _)⟩ | exact ⟨rfl, b15, by rw [hnx, List.map_append]; exact .cons _ (.refl _)⟩
           ·try simp only [nmL] at hc11
            refine SRound.skip ?_
            show SRound _ _ _ _ _
            refine SRound.seq (SRound.seqR (SOps.loadRef 1 0 0 rfl flatB_36 rfl rfl rfl rfl (SOps.lenAcc rfl sliceB_36_50_2 (SOps.bin rfl rfl rfl (SOps.nil ?_)))))
            refine SRound.cond rfl (fun hc12 => ?_) (fun hc12 => ?_)
            ·try simp only [nmL] at hc12
             refine SRound.seqR ?_
             exfalso
             have h9 : (List.map encSg (outL a l hs cs w i)).length = (outL a l hs cs w i).length := List.length_map ..
             omega
            ·try simp only [nmL] at hc12
             refine SRound.skip ?_
             show SRound _ _ _ _ _
             refine SRound.region (SOps.loadRef 1 0 0 rfl flatB_36 rfl rfl rfl rfl (SOps.loadRefA 0 0 0 rfl aggB_50_2 rfl rfl rfl (Nat.le_of_ble_eq_true rfl) (SOps.frame1 (SOps.litF rfl sliceB_36_50_2 zeroIs_50 rfl (SOps.nil rfl)) ?_)))
             refine SOps.appendAcc [_, _, _, _] [] sliceB_36_50_2 elemB_50_2_40 rfl rfl rfl SrcD.isl (by simp) (by first | (simp [lenB] <;> (first | omega | (simp only [lenB]; omega))) | (simp only [lenB]; (first | omega | (simp only [lenB]; omega)))) (by first | (simp <;> (first | omega | (simp only [lenB]; omega))) | (first | omega | (simp only [lenB]; omega))) (fun b9 => ?_)
             refine SOps.storeM 1 rfl rfl oneB_36 rfl ?_ (accD_one _ _ _)
             refine SOps.nil ?_
             first
              | ((have hno : okSg a l w sg = false := by first | (rw [← hpre]; unfold preSg; simp_all; done) | (unfold okSg; simp_all; done)); rw [hno, if_neg (by simp)] at hnx; exact ⟨rfl, k, by rw [hnx]; exact .cons _ (.refl _)⟩)
              | (have hyes : okSg a l w sg = true := by (unfold okSg; simp_all; done)); rw [hyes, if_pos rfl] at hnx; first | exact ⟨rfl, b8, by rw [hnx, List.map_append]; exact .cons _ (.refl _)⟩ | exact ⟨rfl, b9, by rw [hnx, List.map_append]; exact .cons _ (.refl _)⟩ | exact ⟨rfl, b10, by rw [hnx, List.map_append]; exact .cons _ (.refl _)⟩ | exact ⟨rfl, b11, by rw [hnx, List.map_append]; exact .cons _ (.refl _)⟩ | exact ⟨rfl, b12, by rw [hnx, List.map_append]; exact .cons _ (.refl _)⟩ | exact ⟨rfl, b13, by rw [hnx, List.map_append]; exact .cons _ (.refl _)⟩ | exact ⟨rfl, b14, by rw [hnx, List.map_append]; exact .cons _ (.refl _)⟩ | exact ⟨rfl, b15, by rw [hnx, List.map_append]; exact .cons _ (.refl _)⟩
       ·try simp only [nmL] at hb7
        refine SOps.skip rfl (SOps.skip rfl (SOps.skip rfl (SOps.skip rfl (SOps.pick rfl rfl (SOps.move rfl (SOps.loadPin rfl flatB_76 (SOps.loadRefA 0 0 0 rfl aggB_50_2 rfl rfl rfl (Nat.le_of_ble_eq_true rfl) (SOps.callFn (ds := [_]) rfl (cPoss l w es ks sg hM (by have := (word_facts hww).2.2.1; omega) (hcv _ (by simp) _ (onceL_mem hmem.1)) (fun c hc => hcv _ (by simp) _ (onceL_mem (hmem.2.2 c hc)))) rfl ?_))))))))
        rintro _ _ ⟨rfl, rfl⟩
        refine SOps.un rfl rfl (SOps.pick rfl rfl (SOps.nil ?_))
        refine SRound.cond rfl (fun hc13 => ?_) (fun hc13 => ?_)
        ·try simp only [nmL] at hc13
         refine SRound.exit ?_
         first
          | ((have hno : okSg a l w sg = false := by first | (rw [← hpre]; unfold preSg; simp_all; done) | (unfold okSg; simp_all; done)); rw [hno, if_neg (by simp)] at hnx; exact ⟨rfl, k, by rw [hnx]; exact .cons _ (.refl _)⟩)
          | (have hyes : okSg a l w sg = true := by (unfold okSg; simp_all; done)); rw [hyes, if_pos rfl] at hnx; first | exact ⟨rfl, b8, by rw [hnx, List.map_append]; exact .cons _ (.refl _)⟩ | exact ⟨rfl, b9, by rw [hnx, List.map_append]; exact .cons _ (.refl _)⟩ | exact ⟨rfl, b10, by rw [hnx, List.map_append]; exact .cons _ (.refl _)⟩ | exact ⟨rfl, b11, by rw [hnx, List.map_append]; exact .cons _ (.refl _)⟩ | exact ⟨rfl, b12, by rw [hnx, List.map_append]; exact .cons _ (.refl _)⟩ | exact ⟨rfl, b13, by rw [hnx, List.map_append]; exact .cons _ (.refl _)⟩ | exact ⟨rfl, b14, by rw [hnx, List.map_append]; exact .cons _ (.refl _)⟩ | exact ⟨rfl, b15, by rw [hnx, List.map_append]; exact .cons _ (.refl _)⟩
        ·try simp only [nmL] at hc13
         refine SRound.skip ?_
         show SRound _ _ _ _ _
         refine SRound.seqR (SOps.loadPinA rfl aggB_65_2 (Nat.le_of_ble_eq_true rfl) (SOps.loadRefA 0 0 0 rfl aggB_50_2 rfl rfl rfl (Nat.le_of_ble_eq_true rfl) (SOps.callP (jAll hV a l sg hr hsw hsc) rfl ?_)))
         rintro _ rfl
         refine SOps.move rfl (SOps.extract rfl rfl (SOps.extract rfl rfl (SOps.assign rfl (SOps.assign rfl (SOps.nil (SRound.seq (SRound.seqR (SOps.move rfl (SOps.bin rfl rfl rfl (SOps.move rfl ?_))))))))))
         refine SOps.caseB 110 rfl (fun hb14 => ?_) (fun hb14 => ?_)
         ·try simp only [nmL] at hb14
          refine SOps.skip rfl (SOps.skip rfl (SOps.skip rfl (SOps.pick rfl rfl (SOps.nil ?_))))
          refine SRound.cond rfl (fun _ => ?_) (fun h => by cases h)
          refine SRound.exit ?_
          first
           | ((have hno : okSg a l w sg = false := by first | (rw [← hpre]; unfold preSg; simp_all; done) | (unfold okSg; simp_all; done)); rw [hno, if_neg (by simp)] at hnx; exact ⟨rfl, k, by rw [hnx]; exact .cons _ (.refl _)⟩)
           | (have hyes : okSg a l w sg = true := by (unfold okSg; simp_all; done)); rw [hyes, if_pos rfl] at hnx; first | exact ⟨rfl, b8, by rw [hnx, List.map_append]; exact .cons _ (.refl _)⟩ | exact ⟨rfl, b9, by rw [hnx, List.map_append]; exact .cons _ (.refl _)⟩ | exact ⟨rfl, b10, by rw [hnx, List.map_append]; exact .cons _ (.refl _)⟩ | exact ⟨rfl, b11, by rw [hnx, List.map_append]; exact .cons _ (.refl _)⟩ | exact ⟨rfl, b12, by rw [hnx, List.map_append]; exact .cons _ (.refl _)⟩ | exact ⟨rfl, b13, by rw [hnx, List.map_append]; exact .cons _ (.refl _)⟩ | exact ⟨rfl, b14, by rw [hnx, List.map_append]; exact .cons _ (.refl _)⟩ | exact ⟨rfl, b15, by rw [hnx, List.map_append]; exact .cons _ (.refl _)⟩
         ·try simp only [nmL] at hb14
          refine SOps.move rfl (SOps.loadPin rfl flatB_9 (SOps.bin rfl rfl rfl (SOps.pick rfl rfl (SOps.nil ?_))))
          refine SRound.cond rfl (fun hc15 => ?_) (fun hc15 => ?_)
          ·try simp only [nmL] at hc15
           refine SRound.exit ?_
           first
            | ((have hno : okSg a l w sg = false := by first | (rw [← hpre]; unfold preSg; simp_all; done) | (unfold okSg; simp_all; done)); rw [hno, if_neg (by simp)] at hnx; exact ⟨rfl, k, by rw [hnx]; exact .cons _ (.refl _)⟩)
            | (have hyes : okSg a l w sg = true := by (unfold okSg; simp_all; done)); rw [hyes, if_pos rfl] at hnx; first | exact ⟨rfl, b8, by rw [hnx, List.map_append]; exact .cons _ (.refl _)⟩ | exact ⟨rfl, b9, by rw [hnx, List.map_append]; exact .cons _ (.refl _)⟩ | exact ⟨rfl, b10, by rw [hnx, List.map_append]; exact .cons _ (.refl _)⟩ | exact ⟨rfl, b11, by rw [hnx, List.map_append]; exact .cons _ (.refl _)⟩ | exact ⟨rfl, b12, by rw [hnx, List.map_append]; exact .cons _ (.refl _)⟩ | exact ⟨rfl, b13, by rw [hnx, List.map_append]; exact .cons _ (.refl _)⟩ | exact ⟨rfl, b14, by rw [hnx, List.map_append]; exact .cons _ (.refl _)⟩ | exact ⟨rfl, b15, by rw [hnx, List.map_append]; exact .cons _ (.refl _)⟩
          ·try simp only [nmL] at hc15
           refine SRound.skip ?_
           show SRound _ _ _ _ _
           refine SRound.seq (SRound.seqR (SOps.loadRef 1 0 0 rfl flatB_36 rfl rfl rfl rfl (SOps.lenAcc rfl sliceB_36_50_2 (SOps.bin rfl rfl rfl (SOps.nil ?_)))))
           refine SRound.cond rfl (fun hc16 => ?_) (fun hc16 => ?_)
           ·try simp only [nmL] at hc16
            refine SRound.seqR ?_
            exfalso
            have h9 : (List.map encSg (outL a l hs cs w i)).length = (outL a l hs cs w i).length := List.length_map ..
            omega
           ·try simp only [nmL] at hc16
            refine SRound.skip ?_
            show SRound _ _ _ _ _
            refine SRound.region (SOps.loadRef 1 0 0 rfl flatB_36 rfl rfl rfl rfl (SOps.loadRefA 0 0 0 rfl aggB_50_2 rfl rfl rfl (Nat.le_of_ble_eq_true rfl) (SOps.frame1 (SOps.litF rfl sliceB_36_50_2 zeroIs_50 rfl (SOps.nil rfl)) ?_)))
            refine SOps.appendAcc [_, _, _, _] [] sliceB_36_50_2 elemB_50_2_40 rfl rfl rfl SrcD.isl (by simp) (by first | (simp [lenB] <;> (first | omega | (simp only [lenB]; omega))) | (simp only [lenB]; (first | omega | (simp only [lenB]; omega)))) (by first | (simp <;> (first | omega | (simp only [lenB]; omega))) | (first | omega | (simp only [lenB]; omega))) (fun b10 => ?_)
            refine SOps.storeM 1 rfl rfl oneB_36 rfl ?_ (accD_one _ _ _)
            refine SOps.nil ?_
            first
             | ((have hno : okSg a l w sg = false := by first | (rw [← hpre]; unfold preSg; simp_all; done) | (unfold okSg; simp_all; done)); rw [hno, if_neg (by simp)] at hnx; exact ⟨rfl, k, by rw [hnx]; exact .cons _ (.refl _)⟩)
             | (have hyes : okSg a l w sg = true := by (unfold okSg; simp_all; done)); rw [hyes, if_pos rfl] at hnx; first | exact ⟨rfl, b8, by rw [hnx, List.map_append]; exact .cons _ (.refl _)⟩ | exact ⟨rfl, b9, by rw [hnx, List.map_append]; exact .cons _ (.refl _)⟩ | exact ⟨rfl, b10, by rw [hnx, List.map_append]; exact .cons _ (.refl _)⟩ | exact ⟨rfl, b11, by rw [hnx, List.map_append]; exact .cons _ (.refl _)⟩ | exact ⟨rfl, b12, by rw [hnx, List.map_append]; exact .cons _ (.refl _)⟩ | exact ⟨rfl, b13, by rw [hnx, List.map_append]; exact .cons _ (.refl _)⟩ | exact ⟨rfl, b14, by rw [hnx, List.map_append]; exact .cons _ (.refl _)⟩ | exact ⟨rfl, b15, by rw [hnx, List.map_append]; exact .cons _ (.refl _)⟩
      ·obtain ⟨k, hsub⟩ := hI
       show SMCode _ _ _ _ _
       refine SMCode.weaken (st' := (⟨123, [(9, .ipin [.v (.string w)]), (10, .ref b0 0), (11, .ref b1 0), (19, .ipin [.fn 46 [.ipin [.v (.string (keepS l w))], .ipin [.imap es]]]), (20, .ipin [DLs (extA a), DRs l]), (21, .ref b7 0)], ([(b7, .row 36 1 [[accD 2 k ((outL a l hs cs w (candD (onceL hs) (onceL cs)).length).map encSg)]]), (b1, .row 30 1 [[.v (.int .i64 0)]]), (b0, .row 36 1 [[.v (.slice none 0 0)]])] ++ (accH 50 2 k ((outL a l hs cs w (candD (onceL hs) (onceL cs)).length).map encSg) ++ []))⟩ : St)) (St.Le.ofSub ⟨rfl, rfl, rfl, rfl, rfl, rfl, trivial⟩ hsub) (SMCode.seqR (SOps.loadRef 0 0 0 rfl flatB_36 rfl rfl rfl rfl ?_))
       refine SOps.storeM 2 rfl rfl oneB_36 rfl ?_ (accD_one _ _ _)
       refine SOps.storeM 1 rfl rfl oneB_30 rfl (SOps.nil (SMCode.ret ?_))
       have hfin : outL a l hs cs w (candD (onceL hs) (onceL cs)).length = splitL a l hs cs w := by unfold outL splitL candD; rw [List.length_map, List.take_length]
       have hsl : (splitL a l hs cs w).length ≤ 105 := by rw [← hfin]; exact Nat.le_trans (outL_len ..) (cand_few h5 h4)
       have hsr : splitR a l hs cs w = (splitL a l hs cs w, 0) := by unfold splitR; rw [if_pos harg, if_neg (by omega)]
       exact ⟨_, Res.two (.flat (i := 2) (k := 0) (j := 0) rfl flatB_36 rfl rfl rfl rfl) (.flat (i := 1) (k := 0) (j := 0) rfl flatB_30 rfl rfl rfl rfl), k, by rw [hsr, ← hfin], by rw [hsr, ← hfin]; exact fun p hp => .tail _ (.tail _ (.tail _ (by rw [List.append_nil]; exact hp)))⟩
theorem cSplit (hV : VS E) (a : List Letter) (l : List Rule) (hs cs : List ByteArray) (w : ByteArray) (hr : ∀ r ∈ l, SmR r) (h5 : hs.length ≤ 5) (h4 : cs.length ≤ 4) : GCall Tryd.prog E 19 [DLs a, DRs l, DStrs hs, DStrs cs, .v (.string w)] [] (fun d H => d = .tup [DSgs (splitR a l hs cs w).1, .v (.int .i64 (splitR a l hs cs w).2)] ∧ H = []) :=
  GCall.cleanAcc (cSplit0 hV a l hs cs w hr h5 h4)
end Go.GH
namespace Go.GH
open Go Go.Lib

theorem encBy_fffd : encBy 65533 = [239, 191, 189] := by decide +kernel
theorem encs_only (s : ByteArray) : ∀ (f p : Nat), s.size - p ≤ f → (encs (runesAt s p)).data.toList = s.data.toList.drop p → (steps s p).all (stepOK s) = true
  | 0, p, h, _ => by rw [steps_ge (by omega)]; rfl
  | f + 1, p, h, hv => by
    by_cases hp : p < s.size
    · have hw := decode_w s p
      rw [runesAt_lt hp, encs_cons_data] at hv
      have hok : stepOK s (p, ((Utf8.decode s p).1 : Int)) = true := by
        by_cases hr : ((Utf8.decode s p).1 : Int) = 65533
        · rw [hr] at hv ⊢
          rw [encBy_fffd] at hv
          have hl := congrArg List.length hv
          simp only [List.length_append, List.length_cons, List.length_nil, List.length_drop, Array.length_toList, ByteArray.size_data] at hl
          refine stepOK_yes (by omega) ?_
          apply ByteArray.ext
          apply Array.toList_inj.1
          have := congrArg (fun l => l.take 3) hv
          rw [extract_eq, ← this]
          rfl
        · exact stepOK_no hr
      rw [steps_lt hp, List.all_cons, hok, Bool.true_and]
      refine encs_only s f _ (by omega) ?_
      have hb := step_bytes s p hp hok
      rw [hb] at hv
      have h2 : (s.data.toList.drop p).take (Utf8.decode s p).2 ++ (s.data.toList.drop p).drop (Utf8.decode s p).2 = s.data.toList.drop p := List.take_append_drop ..
      rw [← h2] at hv
      rw [← List.drop_drop]
      have := List.append_cancel_left (hv.trans (by rw [h2]; exact h2.symm))
      exact this
    · rw [steps_ge (by omega)]; rfl
theorem encs_iff (s : ByteArray) : decide (encs (runes s) = s) = utf8R s := by
  rw [Bool.eq_iff_iff, decide_eq_true_eq]
  constructor
  · intro h
    exact encs_only s _ 0 (Nat.le_refl _) (by rw [runesAt_zero, h, List.drop_zero])
  · exact encs_runes
theorem encs_snoc (l : List Int) (r : Int) : encs (l ++ [r]) = encs l ++ Utf8.encode r := by
  rw [encs_append, encs, encs]
  apply ByteArray.ext
  simp
theorem idxs_runes (a : List Letter) (s : ByteArray) : (idxs a s).length = (runes s).length := by simp [idxs]
theorem validA_proper (a : List Letter) : validA a = (decide (1 ≤ a.length) && decide (a.length ≤ 64) && (properB a && decide (a.length ≤ 65))) := by
  rw [Bool.eq_iff_iff, validA_iff]
  simp only [Bool.and_eq_true, decide_eq_true_eq, properB_iff]
  constructor
  · rintro ⟨⟨h1, h2⟩, h3, h4⟩
    exact ⟨⟨h1, h2⟩, ⟨h3, h4⟩, by omega⟩
  · rintro ⟨⟨h1, h2⟩, ⟨h3, h4⟩, _⟩
    exact ⟨⟨h1, h2⟩, h3, h4⟩
theorem byte61 (b : UInt8) : (b == 61) = decide ((b.toNat : Int) = 61) := by
  rw [Bool.eq_iff_iff, beq_iff_eq, decide_eq_true_eq]
  constructor
  · rintro rfl; rfl
  · intro h
    exact UInt8.toNat_inj.1 (show b.toNat = 61 by omega)
theorem list_at {s : ByteArray} {j : Nat} (h : j < s.size) (h2 : j < s.data.toList.length) : s.data.toList[j] = s[j] := by simp; rfl
theorem eq_next {s : ByteArray} {j : Nat} (h : j < s.size) (hn : ¬ ((s[j]).toNat : Int) = 61) (hg : (s.data.toList.take j).any (fun b => b == 61) = false) : (s.data.toList.take (j + 1)).any (fun b => b == 61) = false := by
  have h2 : j < s.data.toList.length := by simpa using h
  rw [take_next h2, List.any_append, hg, Bool.false_or, List.any_cons, List.any_nil, Bool.or_false, list_at h h2, byte61]
  exact decide_eq_false hn
theorem eq_here {s : ByteArray} {j : Nat} (h : j < s.size) (he : ((s[j]).toNat : Int) = 61) : hasEq s = true := by
  have h2 : j < s.data.toList.length := by simpa using h
  rw [hasEq, List.any_eq_true]
  exact ⟨_, List.getElem_mem h2, by rw [list_at h h2, byte61]; exact decide_eq_true he⟩
def aw14A : List Letter := [⟨97, 1⟩, ⟨101, 1⟩, ⟨116, 2⟩, ⟨100, 18⟩]
def aw14R : List Rule := [⟨116, ⟨#[100]⟩, [⟨1, ⟨#[]⟩, false, false⟩], [⟨2147483648, ⟨#[]⟩, false, false⟩, ⟨1, ⟨#[]⟩, false, false⟩], false, false⟩, ⟨97, ⟨#[]⟩, [], [⟨2147483648, ⟨#[]⟩, false, false⟩, ⟨0, ⟨#[97]⟩, false, false⟩], false, false⟩]
def sTat : ByteArray := ⟨#[116, 97, 116]⟩
def sTa : ByteArray := ⟨#[116, 97]⟩
def sAt : ByteArray := ⟨#[97, 116]⟩
def sE : ByteArray := ⟨#[101]⟩
def sT : ByteArray := ⟨#[116]⟩
def sTade : ByteArray := ⟨#[116, 97, 100, 101]⟩
theorem aw14_sm : ∀ r ∈ aw14R, SmR r := fun r hr => by
  simp only [aw14R, List.mem_cons, List.not_mem_nil, or_false] at hr
  rcases hr with rfl | rfl <;> exact ⟨by decide +kernel, by decide +kernel, by decide +kernel⟩
theorem aw14_valid : validS aw14A aw14R = true := by kernel_rfl
theorem aw14_att1 : attR aw14A aw14R sTat sE = (sTade, 0) := by kernel_rfl
theorem aw14_att2 : attR aw14A aw14R sTa sAt = (sTat, 0) := by kernel_rfl
theorem aw14_split : (splitR aw14A aw14R [sTat, sTa] [sAt, sT] sTat).1.length = 3 ∧ (splitR aw14A aw14R [sTat, sTa] [sAt, sT] sTat).2 = 0 := ⟨by kernel_rfl, by kernel_rfl⟩
end Go.GH
namespace Go.GH
open Go Go.Proofs
variable {E : Env}
theorem q6Index (a : List Letter) (r : Int)  : GCall Tryd.prog E 72 [DLs a, .v (.int .i32 r)] [] (fun d H => d = .v (.int .i64 (idxI a r)) ∧ H = []) := by
 refine GCall.body (C := ⟨Tryd.prog, E, true⟩) Tryd.func72 rfl (fun _ => rfl) (by kernel_rfl) rfl ?_
 refine SCode.seqR (SOps.assign rfl (SOps.nil (SCode.seq (SCode.seqR (SOps.assign rfl (SOps.nil (SCode.block (SCode.loop1 (fun (i : Nat) => (⟨20, [(0, DLs a), (1, .v (.int .i32 r)), (5, .v (.int .i64 (i : Int)))], []⟩ : St)) (fun (i : Nat) => i ≤ a.length ∧ ∀ l ∈ a.take i, l.rune ≠ r) (fun (i : Nat) => a.length - i) (0) (by simp) (St.Le.of ⟨(by first | rfl | (show some _ = some _; simp)), (by first | rfl | (show some _ = some _; simp)), (by first | rfl | (show some _ = some _; simp)), trivial⟩ rfl (by first | rfl | (simp))) ?_))))))))
 rintro i ⟨hi, hf⟩
 refine SCode.fact (isl_len (t := 0) rfl) (fun hB => ?_)
 simp only [List.length_map, lenB] at hB
 refine SCode.seq (SCode.seqR (SOps.move rfl (SOps.move rfl (SOps.lenM rfl sliceB_22_28_2 (SOps.bin rfl rfl rfl (SOps.nil ?_))))))
 refine SCode.cond rfl (fun hc1 => ?_) (fun hc1 => ?_)
 ·try simp only [nmL] at hc1
  refine SCode.skip ?_
  show SCode _ _ _ _
  refine SCode.seq (SCode.block (SCode.seqR (SOps.move rfl (SOps.move rfl (SOps.indexM (i) rfl rfl sliceB_22_28_2 (by omega) (by omega) (SOps.fieldPin rfl fieldB_28_0_0 (SOps.loadPin rfl flatB_21 (SOps.move rfl (SOps.bin rfl rfl rfl (SOps.nil ?_))))))))))
  refine SCode.cond rfl (fun hc2 => ?_) (fun hc2 => ?_)
  ·try simp only [nmL] at hc2
   refine SCode.seqR (SOps.move rfl (SOps.assign rfl (SOps.nil (SCode.ret ?_))))
   have hx : idx a r = some i := idx_drop hf (by omega) hc2
   exact ⟨_, Res.one (.tmp rfl), by rw [idxI_some hx], rfl⟩
  ·try simp only [nmL] at hc2
   refine SCode.skip ?_
   show SCode _ _ _ _
   refine SCode.region (SOps.move rfl (SOps.addI rfl rfl (by omega) (by omega) (SOps.assign rfl (SOps.nil ?_))))
   exact ⟨i + 1, by exact ⟨by omega, take_more hf (by omega) hc2⟩, by omega, (St.Le.of ⟨(by first | rfl | (show some _ = some _; simp)), (by first | rfl | (show some _ = some _; simp)), (by first | rfl | (show some _ = some _; simp)), trivial⟩ rfl (by first | rfl | (simp)))⟩
 ·try simp only [nmL] at hc1
  refine SCode.exit ?_
  show SCode _ _ _ _
  refine SCode.seqR (SOps.assign rfl (SOps.nil (SCode.ret ?_)))
  have hx : idx a r = none := idx_none.2 (by rw [List.take_of_length_le (by omega)] at hf; exact hf)
  exact ⟨_, Res.one (.tmp rfl), by rw [idxI_none hx], rfl⟩
theorem q6Over (a : List Letter) (s : ByteArray) (hs : s.size ≤ 1048576) : GCall Tryd.prog E 41 [DLs a, .v (.string s)] [] (fun d H => d = (if (runes s).all (fun r => (idx a r).isSome) then .tup [DNats (idxs a s), .v (.bool (utf8R s))] else .tup [.v (.slice none 0 0), .v (.bool false)]) ∧ H = []) := by
 refine GCall.body (C := ⟨Tryd.prog, E, true⟩) Tryd.func41 rfl (fun _ => rfl) (by kernel_rfl) rfl ?_
 refine SCode.seqR (SOps.assign rfl (SOps.assign rfl (SOps.nil (SCode.seqR ?_))))
 refine SOps.litO sliceB_43_3_1 zeroIs_3 rfl (fun b0 hb_0 => ?_)
 refine SOps.assign rfl (SOps.nil (SCode.seqR (SOps.assign rfl (SOps.nil (SCode.seq (SCode.seqR (SOps.move rfl ?_)))))))
 refine SOps.rangeStr rfl strB_9 (fun b1 hb_1 => ?_)
 refine SOps.nil (SCode.block (SCode.loop5 (fun (p : Nat) (b : Nat) (l : List Nat) (kb : Nat) (back : List Int) => (⟨34, [(0, DLs a), (1, .v (.string s)), (6, .sl kb 1 0 l.length), (7, .v (.string (encs back))), (13, .it b)], [(b, .iter s p), (kb, .row 3 1 (l.map encN))]⟩ : St)) (fun (p : Nat) (b : Nat) (l : List Nat) (kb : Nat) (back : List Int) => l.length ≤ p ∧ (encs back).size ≤ 4 * p ∧ (runesAt s p).all (fun r => (idx a r).isSome) = (runes s).all (fun r => (idx a r).isSome) ∧ l ++ (runesAt s p).map (fun r => (idx a r).getD 0) = idxs a s ∧ back ++ runesAt s p = runes s) (fun (p : Nat) (b : Nat) (l : List Nat) (kb : Nat) (back : List Int) => s.size - p) (0) (b1) ([]) (b0) ([]) (by exact ⟨Nat.le_refl _, Nat.le_refl _, rfl, rfl, rfl⟩) (St.Le.of ⟨(by first | rfl | (show some _ = some _; simp)), (by first | rfl | (show some _ = some _; simp)), (by first | rfl | (show some _ = some _; simp)), (by first | rfl | (show some _ = some _; simp)), (by first | rfl | (show some _ = some _; simp)), trivial⟩ rfl (by first | rfl | (simp))) ?_))
 rintro p b l kb back ⟨hln, hbk, ho, hl, hbr⟩
 refine SCode.seqR ?_
 refine SOps.next 0 rfl rfl (fun hn1 => ?_) (fun hn1 => ?_) (by first | omega | (simp only [lenB]; omega))
 ·refine SOps.extract rfl rfl (SOps.nil (SCode.seq ?_))
  refine SCode.cond rfl (fun _ => ?_) (fun h => by cases h)
  refine SCode.skip ?_
  show SCode _ _ _ _
  refine SCode.block (SCode.seqR (SOps.extract rfl rfl (SOps.assign rfl (SOps.nil (SCode.seqR (SOps.move rfl (SOps.move rfl (SOps.callP (q6Index _ _) rfl ?_))))))))
  rintro _ rfl
  refine SOps.assign rfl (SOps.nil (SCode.seq (SCode.seqR (SOps.move rfl (SOps.bin rfl rfl rfl (SOps.nil ?_))))))
  refine SCode.cond rfl (fun hc2 => ?_) (fun hc2 => ?_)
  ·try simp only [nmL] at hc2
   refine SCode.seqR (SOps.assign rfl (SOps.assign rfl (SOps.nil (SCode.drop (SCode.ret ?_)))))
   exact ⟨_, Res.two (.tmp rfl) (.tmp rfl), by rw [if_neg (fun h => by rw [← ho, runes_step hn1] at h; cases hx : idx a ((Utf8.decode s p).1 : Int) with | none => rw [hx] at h; simp at h | some k => rw [idxI_some hx] at hc2; omega)], rfl⟩
  ·try simp only [nmL] at hc2
   obtain ⟨k, hk⟩ := idxI_nonneg.1 hc2
   have hki := idxI_some hk
   refine SCode.skip ?_
   show SCode _ _ _ _
   refine SCode.seqR (SOps.move rfl (SOps.move rfl (SOps.reSlot (t := 23) rfl (show _ = DV.v (.int .i64 ((k : Nat) : Int)) by rw [hki]) (SOps.litF rfl sliceB_43_3_1 zeroIs_3 rfl ?_))))
   refine SOps.appendOwn 1 sliceB_43_3_1 elemB_3_1_8 rfl rfl rfl (by simp) SrcD.isl (by simp) (by first | (simp [lenB] <;> (first | omega | (simp only [lenB]; omega))) | (simp only [lenB]; (first | omega | (simp only [lenB]; omega)))) (by first | (simp <;> (first | omega | (simp only [lenB]; omega))) | (first | omega | (simp only [lenB]; omega))) (fun b2 hb_2 => ?_)
   refine SOps.assign rfl (SOps.nil (SCode.region (SOps.move rfl (SOps.move rfl (SOps.convIntStr rfl someB_21 strB_9 (SOps.concat rfl rfl (by simp only [lenB]; have := encode_size ((Utf8.decode s p).1 : Int); omega) (SOps.assign rfl (SOps.nil ?_))))))))
   have hes := encode_size ((Utf8.decode s p).1 : Int)
   exact ⟨p + (Utf8.decode s p).2, b, l ++ [k], b2, back ++ [((Utf8.decode s p).1 : Int)], ⟨by have := decode_w s p; simp; omega, by rw [encs_snoc, ByteArray.size_append]; have := decode_w s p; omega, by rw [← ho, runes_step hn1, hk]; rfl, by rw [← hl, runesAt_lt hn1]; simp [hk], by rw [← hbr, runesAt_lt hn1]; simp⟩, by have := decode_w s p; omega, St.Le.of ⟨rfl, rfl, (by show some _ = some _; simp), (by show some _ = some _; rw [encs_snoc]), rfl, trivial⟩ rfl (by rw [List.map_append]; rfl)⟩
 ·refine SOps.extract rfl rfl (SOps.nil (SCode.seq ?_))
  refine SCode.cond rfl (fun h => by cases h) (fun _ => ?_)
  refine SCode.exit ?_
  show SCode _ _ _ _
  refine SCode.seqR (SOps.freezeS (t := 6) 1 rfl rfl rfl (by simp) (SOps.move rfl (SOps.move rfl (SOps.move rfl (SOps.bin rfl rfl rfl (SOps.assign rfl (SOps.assign rfl (SOps.nil (SCode.drop (SCode.ret ?_))))))))))
  have hb2 : back = runes s := by rw [← hbr, runesAt_ge hn1, List.append_nil]
  have hl2 : l = idxs a s := by rw [← hl, runesAt_ge hn1]; simp
  exact ⟨_, Res.two (.tmp rfl) (.tmp rfl), by rw [if_pos (by rw [← ho, runesAt_ge hn1]; rfl), hb2, hl2, encs_iff], rfl⟩
theorem q6Code (r : Int)  : GCall Tryd.prog E 82 [.v (.int .i32 r)] [] (fun d H => d = .v (.bool (goodR r)) ∧ H = []) := by
 refine GCall.body (C := ⟨Tryd.prog, E, true⟩) Tryd.func82 rfl (fun _ => rfl) (by kernel_rfl) rfl ?_
 refine SCode.seqR (SOps.assign rfl (SOps.nil (SCode.seqR (SOps.move rfl (SOps.bin rfl rfl rfl (SOps.move rfl ?_))))))
 refine SOps.caseB 5 rfl (fun hb1 => ?_) (fun hb1 => ?_)
 ·try simp only [nmL] at hb1
  refine SOps.move rfl (SOps.bin rfl rfl rfl (SOps.move rfl ?_))
  refine SOps.caseB 8 rfl (fun hb2 => ?_) (fun hb2 => ?_)
  ·try simp only [nmL] at hb2
   refine SOps.skip rfl (SOps.skip rfl (SOps.pick rfl rfl (SOps.pick rfl rfl (SOps.move rfl (SOps.move rfl (SOps.bin rfl rfl rfl (SOps.pick rfl rfl (SOps.assign rfl (SOps.nil (SCode.ret ?_))))))))))
   exact ⟨_, Res.one (.tmp rfl), congrArg (fun b => DV.v (.bool b)) (by rw [Bool.eq_iff_iff]; simp only [goodR, runeOK, decide_eq_true_eq, Bool.false_eq_true, Bool.true_eq_false, beq_iff_eq]; first | omega | (simp; omega)), rfl⟩
  ·try simp only [nmL] at hb2
   refine SOps.move rfl (SOps.bin rfl rfl rfl (SOps.pick rfl rfl (SOps.pick rfl rfl (SOps.move rfl ?_))))
   refine SOps.caseB 13 rfl (fun hb3 => ?_) (fun hb3 => ?_)
   ·try simp only [nmL] at hb3
    refine SOps.move rfl (SOps.bin rfl rfl rfl (SOps.pick rfl rfl (SOps.assign rfl (SOps.nil (SCode.ret ?_)))))
    exact ⟨_, Res.one (.tmp rfl), congrArg (fun b => DV.v (.bool b)) (by rw [Bool.eq_iff_iff]; simp only [goodR, runeOK, decide_eq_true_eq, Bool.false_eq_true, Bool.true_eq_false, beq_iff_eq]; first | omega | (simp; omega)), rfl⟩
   ·try simp only [nmL] at hb3
    refine SOps.skip rfl (SOps.skip rfl (SOps.pick rfl rfl (SOps.assign rfl (SOps.nil (SCode.ret ?_)))))
    exact ⟨_, Res.one (.tmp rfl), congrArg (fun b => DV.v (.bool b)) (by rw [Bool.eq_iff_iff]; simp only [goodR, runeOK, decide_eq_true_eq, Bool.false_eq_true, Bool.true_eq_false, beq_iff_eq]; first | omega | (simp; omega)), rfl⟩
 ·try simp only [nmL] at hb1
  refine SOps.skip rfl (SOps.skip rfl (SOps.skip rfl (SOps.skip rfl (SOps.skip rfl (SOps.skip rfl (SOps.pick rfl rfl (SOps.move rfl (SOps.skip rfl (SOps.skip rfl (SOps.pick rfl rfl (SOps.assign rfl (SOps.nil (SCode.ret ?_)))))))))))))
  exact ⟨_, Res.one (.tmp rfl), congrArg (fun b => DV.v (.bool b)) (by rw [Bool.eq_iff_iff]; simp only [goodR, runeOK, decide_eq_true_eq, Bool.false_eq_true, Bool.true_eq_false, beq_iff_eq]; first | omega | (simp; omega)), rfl⟩
theorem q6Proper (a : List Letter)  : GCall Tryd.prog E 63 [DLs a] [] (fun d H => d = .v (.bool (properB a && decide (a.length ≤ 65))) ∧ H = []) := by
 refine GCall.body (C := ⟨Tryd.prog, E, true⟩) Tryd.func63 rfl (fun _ => rfl) (by kernel_rfl) rfl ?_
 refine SCode.seqR (SOps.assign rfl (SOps.nil (SCode.seq (SCode.seqR ?_))))
 refine SOps.fact (isl_len (t := 0) rfl) (fun hB => ?_)
 simp only [List.length_map, lenB] at hB
 refine SOps.move rfl (SOps.lenM rfl sliceB_22_28_2 (SOps.bin rfl rfl rfl (SOps.nil ?_)))
 refine SCode.cond rfl (fun hc1 => ?_) (fun hc1 => ?_)
 ·try simp only [nmL] at hc1
  refine SCode.seqR (SOps.assign rfl (SOps.nil (SCode.ret ?_)))
  exact ⟨_, Res.one (.tmp rfl), congrArg (fun b => DV.v (.bool b)) (Eq.symm (Bool.eq_false_iff.2 (fun h => by simp only [Bool.and_eq_true, decide_eq_true_eq] at h; omega))), rfl⟩
 ·try simp only [nmL] at hc1
  refine SCode.skip ?_
  show SCode _ _ _ _
  refine SCode.seq (SCode.seqR (SOps.assign rfl (SOps.nil (SCode.block (SCode.loop1 (fun (i : Nat) => (⟨32, [(0, DLs a), (3, .v (.int .i64 (i : Int)))], []⟩ : St)) (fun (i : Nat) => i ≤ a.length ∧ (∀ l ∈ a.take i, goodR l.rune = true) ∧ ((a.take i).map (·.rune)).Nodup) (fun (i : Nat) => a.length - i) (0) (by simp) (St.Le.of ⟨(by first | rfl | (show some _ = some _; simp)), (by first | rfl | (show some _ = some _; simp)), trivial⟩ rfl (by first | rfl | (simp))) ?_)))))
  rintro i ⟨hi, hf⟩
  refine SCode.seq (SCode.seqR (SOps.move rfl (SOps.move rfl (SOps.lenM rfl sliceB_22_28_2 (SOps.bin rfl rfl rfl (SOps.nil ?_))))))
  refine SCode.cond rfl (fun hc2 => ?_) (fun hc2 => ?_)
  ·try simp only [nmL] at hc2
   refine SCode.skip ?_
   show SCode _ _ _ _
   refine SCode.seq (SCode.block (SCode.seq ?_))
   have hi6 : i < a.length := by omega
   rcases hg : goodR (a[i]).rune with _ | _
   ·apply SCode.drawAuto mixed_ [13, 14, 15, 16, 17, 18, 19, 20, 21, 22, 23, 24, 25, 26, 27, 28, 29, 30, 31] [[.inr 0], [.inr 3], [.inl 0, .inl 1], [.inl 2], [.inl 3], [.inl 4], [.inl 5], [.inl 6], [.inl 7], [.inl 7], [.inl 7], [.inl 7], [.inl 7], [.inl 7], [.inl 7], [.inl 7], [.inl 7], [.inl 7], [.inl 7, .inl 17]]
    ·kernel_rfl
    ·kernel_rfl
    ·apply DOk.cons 13 
     ·rfl
     ·exact (NeedIs.inr _ rfl NeedIs.nil)
     ·intro rest
      refine SOps.move rfl ?_
      exact SOps.nil rfl
     apply DOk.cons 14 
     ·rfl
     ·exact (NeedIs.inr _ rfl NeedIs.nil)
     ·intro rest
      refine SOps.move rfl ?_
      exact SOps.nil rfl
     apply DOk.cons 15 
     ·rfl
     ·exact (NeedIs.inl 1 _ _ rfl rfl (NeedIs.inl 0 _ _ rfl rfl NeedIs.nil))
     ·intro rest
      refine SOps.indexM (i) rfl rfl sliceB_22_28_2 (by first | omega | (simp only [lenB]; omega)) (by first | omega | (simp only [lenB]; omega)) ?_
      exact SOps.nil rfl
     apply DOk.cons 16 
     ·rfl
     ·exact (NeedIs.inl 0 _ _ rfl rfl NeedIs.nil)
     ·intro rest
      refine SOps.fieldPin rfl fieldB_28_0_0 ?_
      exact SOps.nil rfl
     apply DOk.cons 17 
     ·rfl
     ·exact (NeedIs.inl 0 _ _ rfl rfl NeedIs.nil)
     ·intro rest
      refine SOps.loadPin rfl flatB_21 ?_
      exact SOps.nil rfl
     apply DOk.cons 18 
     ·rfl
     ·exact (NeedIs.inl 0 _ _ rfl rfl NeedIs.nil)
     ·intro rest
      refine SOps.callP (q6Code _) rfl ?_
      rintro _ rfl
      exact SOps.nil rfl
     apply DOk.cons 19 (.v (.bool true))
     ·rfl
     ·exact (NeedIs.inl 0 _ _ rfl rfl NeedIs.nil)
     ·intro rest
      refine SOps.un rfl rfl ?_
      exact SOps.nil (congrArg (fun b => St.put _ 19 (.v (.bool b))) (by rw [hg]; rfl))
     apply DOk.cons 20 (.v (.bool true))
     ·rfl
     ·exact (NeedIs.inl 0 _ _ rfl rfl NeedIs.nil)
     ·intro rest
      refine SOps.move rfl ?_
      exact SOps.nil (congrArg (fun b => St.put _ 20 (.v (.bool b))) (rfl))
     apply DOk.cons 21 
     ·rfl
     ·exact (NeedIs.inl 0 _ _ rfl rfl NeedIs.nil)
     ·intro rest
      refine SOps.skip rfl ?_
      exact SOps.nil rfl
     apply DOk.cons 22 
     ·rfl
     ·exact (NeedIs.inl 1 _ _ rfl rfl NeedIs.nil)
     ·intro rest
      refine SOps.skip rfl ?_
      exact SOps.nil rfl
     apply DOk.cons 23 
     ·rfl
     ·exact (NeedIs.inl 2 _ _ rfl rfl NeedIs.nil)
     ·intro rest
      refine SOps.skip rfl ?_
      exact SOps.nil rfl
     apply DOk.cons 24 
     ·rfl
     ·exact (NeedIs.inl 3 _ _ rfl rfl NeedIs.nil)
     ·intro rest
      refine SOps.skip rfl ?_
      exact SOps.nil rfl
     apply DOk.cons 25 
     ·rfl
     ·exact (NeedIs.inl 4 _ _ rfl rfl NeedIs.nil)
     ·intro rest
      refine SOps.skip rfl ?_
      exact SOps.nil rfl
     apply DOk.cons 26 
     ·rfl
     ·exact (NeedIs.inl 5 _ _ rfl rfl NeedIs.nil)
     ·intro rest
      refine SOps.skip rfl ?_
      exact SOps.nil rfl
     apply DOk.cons 27 
     ·rfl
     ·exact (NeedIs.inl 6 _ _ rfl rfl NeedIs.nil)
     ·intro rest
      refine SOps.skip rfl ?_
      exact SOps.nil rfl
     apply DOk.cons 28 
     ·rfl
     ·exact (NeedIs.inl 7 _ _ rfl rfl NeedIs.nil)
     ·intro rest
      refine SOps.skip rfl ?_
      exact SOps.nil rfl
     apply DOk.cons 29 
     ·rfl
     ·exact (NeedIs.inl 8 _ _ rfl rfl NeedIs.nil)
     ·intro rest
      refine SOps.skip rfl ?_
      exact SOps.nil rfl
     apply DOk.cons 30 
     ·rfl
     ·exact (NeedIs.inl 9 _ _ rfl rfl NeedIs.nil)
     ·intro rest
      refine SOps.skip rfl ?_
      exact SOps.nil rfl
     apply DOk.cons 31 (.v (.bool true))
     ·rfl
     ·exact (NeedIs.inl 10 _ _ rfl rfl (NeedIs.inl 0 _ _ rfl rfl NeedIs.nil))
     ·intro rest
      refine SOps.pick rfl rfl ?_
      exact SOps.nil (congrArg (fun b => St.put _ 31 (.v (.bool b))) (rfl))
     exact DOk.nil
    ·rfl
    ·show SCode _ _ _ _
     refine SCode.cond rfl (fun _ => ?_) (fun h => by cases h)
     refine SCode.seqR (SOps.assign rfl (SOps.nil (SCode.ret ?_)))
     exact ⟨_, Res.one (.tmp rfl), congrArg (fun b => DV.v (.bool b)) (Eq.symm (Bool.eq_false_iff.2 (fun h => by have := (properB_iff.1 (show properB a = true by simp only [Bool.and_eq_true] at h; exact h.1)).1 _ (List.getElem_mem (show i < a.length by omega)); rw [this] at hg; cases hg))), rfl⟩
   ·apply SCode.drawAuto mixed_ [13, 14, 15, 16, 17, 18, 19, 20, 21, 22, 23, 24, 25, 26, 27, 28, 29, 30, 31] [[.inr 0], [.inr 3], [.inl 0, .inl 1], [.inl 2], [.inl 3], [.inl 4], [.inl 5], [.inl 6], [.inl 7, .inr 0], [.inl 7, .inr 3], [.inl 7, .inl 8, .inl 9], [.inl 7, .inr 0], [.inl 7, .inr 3], [.inl 7, .inl 11, .inl 12], [.inl 7, .inl 13], [.inl 7, .inl 14], [.inl 7, .inl 10, .inl 15], [.inl 7, .inl 16], [.inl 7, .inl 17]]
    ·kernel_rfl
    ·kernel_rfl
    ·apply DOk.cons 13 
     ·rfl
     ·exact (NeedIs.inr _ rfl NeedIs.nil)
     ·intro rest
      refine SOps.move rfl ?_
      exact SOps.nil rfl
     apply DOk.cons 14 
     ·rfl
     ·exact (NeedIs.inr _ rfl NeedIs.nil)
     ·intro rest
      refine SOps.move rfl ?_
      exact SOps.nil rfl
     apply DOk.cons 15 
     ·rfl
     ·exact (NeedIs.inl 1 _ _ rfl rfl (NeedIs.inl 0 _ _ rfl rfl NeedIs.nil))
     ·intro rest
      refine SOps.indexM (i) rfl rfl sliceB_22_28_2 (by first | omega | (simp only [lenB]; omega)) (by first | omega | (simp only [lenB]; omega)) ?_
      exact SOps.nil rfl
     apply DOk.cons 16 
     ·rfl
     ·exact (NeedIs.inl 0 _ _ rfl rfl NeedIs.nil)
     ·intro rest
      refine SOps.fieldPin rfl fieldB_28_0_0 ?_
      exact SOps.nil rfl
     apply DOk.cons 17 
     ·rfl
     ·exact (NeedIs.inl 0 _ _ rfl rfl NeedIs.nil)
     ·intro rest
      refine SOps.loadPin rfl flatB_21 ?_
      exact SOps.nil rfl
     apply DOk.cons 18 
     ·rfl
     ·exact (NeedIs.inl 0 _ _ rfl rfl NeedIs.nil)
     ·intro rest
      refine SOps.callP (q6Code _) rfl ?_
      rintro _ rfl
      exact SOps.nil rfl
     apply DOk.cons 19 (.v (.bool false))
     ·rfl
     ·exact (NeedIs.inl 0 _ _ rfl rfl NeedIs.nil)
     ·intro rest
      refine SOps.un rfl rfl ?_
      exact SOps.nil (congrArg (fun b => St.put _ 19 (.v (.bool b))) (by rw [hg]; rfl))
     apply DOk.cons 20 (.v (.bool false))
     ·rfl
     ·exact (NeedIs.inl 0 _ _ rfl rfl NeedIs.nil)
     ·intro rest
      refine SOps.move rfl ?_
      exact SOps.nil (congrArg (fun b => St.put _ 20 (.v (.bool b))) (rfl))
     apply DOk.cons 21 
     ·rfl
     ·exact (NeedIs.inl 0 _ _ rfl rfl (NeedIs.inr _ rfl NeedIs.nil))
     ·intro rest
      refine SOps.move rfl ?_
      exact SOps.nil rfl
     apply DOk.cons 22 
     ·rfl
     ·exact (NeedIs.inl 1 _ _ rfl rfl (NeedIs.inr _ rfl NeedIs.nil))
     ·intro rest
      refine SOps.move rfl ?_
      exact SOps.nil rfl
     apply DOk.cons 23 
     ·rfl
     ·exact (NeedIs.inl 2 _ _ rfl rfl (NeedIs.inl 1 _ _ rfl rfl (NeedIs.inl 0 _ _ rfl rfl NeedIs.nil)))
     ·intro rest
      refine SOps.sliceT (n1 := 0) (i) sliceB_22_28_2 rfl rfl (by first | omega | (simp only [lenB]; omega)) (by first | omega | (simp only [lenB]; omega)) ?_
      exact SOps.nil rfl
     apply DOk.cons 24 
     ·rfl
     ·exact (NeedIs.inl 3 _ _ rfl rfl (NeedIs.inr _ rfl NeedIs.nil))
     ·intro rest
      refine SOps.move rfl ?_
      exact SOps.nil rfl
     apply DOk.cons 25 
     ·rfl
     ·exact (NeedIs.inl 4 _ _ rfl rfl (NeedIs.inr _ rfl NeedIs.nil))
     ·intro rest
      refine SOps.move rfl ?_
      exact SOps.nil rfl
     apply DOk.cons 26 
     ·rfl
     ·exact (NeedIs.inl 5 _ _ rfl rfl (NeedIs.inl 1 _ _ rfl rfl (NeedIs.inl 0 _ _ rfl rfl NeedIs.nil)))
     ·intro rest
      refine SOps.indexM (i) rfl rfl sliceB_22_28_2 (by first | omega | (simp only [lenB]; omega)) (by first | omega | (simp only [lenB]; omega)) ?_
      exact SOps.nil rfl
     apply DOk.cons 27 
     ·rfl
     ·exact (NeedIs.inl 6 _ _ rfl rfl (NeedIs.inl 0 _ _ rfl rfl NeedIs.nil))
     ·intro rest
      refine SOps.fieldPin rfl fieldB_28_0_0 ?_
      exact SOps.nil rfl
     apply DOk.cons 28 
     ·rfl
     ·exact (NeedIs.inl 7 _ _ rfl rfl (NeedIs.inl 0 _ _ rfl rfl NeedIs.nil))
     ·intro rest
      refine SOps.loadPin rfl flatB_21 ?_
      exact SOps.nil rfl
     apply DOk.cons 29 
     ·rfl
     ·exact (NeedIs.inl 8 _ _ rfl rfl (NeedIs.inl 5 _ _ rfl rfl (NeedIs.inl 0 _ _ rfl rfl NeedIs.nil)))
     ·intro rest
      refine SOps.callP (q6Index _ _) rfl ?_
      rintro _ rfl
      exact SOps.nil rfl
     apply DOk.cons 30 
     ·rfl
     ·exact (NeedIs.inl 9 _ _ rfl rfl (NeedIs.inl 0 _ _ rfl rfl NeedIs.nil))
     ·intro rest
      refine SOps.bin rfl rfl rfl ?_
      exact SOps.nil rfl
     apply DOk.cons 31 
     ·rfl
     ·exact (NeedIs.inl 10 _ _ rfl rfl (NeedIs.inl 0 _ _ rfl rfl NeedIs.nil))
     ·intro rest
      refine SOps.pick rfl rfl ?_
      exact SOps.nil rfl
     exact DOk.nil
    ·rfl
    ·show SCode _ _ _ _
     refine SCode.cond rfl (fun hc3 => ?_) (fun hc3 => ?_)
     ·try simp only [nmL] at hc3
      refine SCode.seqR (SOps.assign rfl (SOps.nil (SCode.ret ?_)))
      exact ⟨_, Res.one (.tmp rfl), congrArg (fun b => DV.v (.bool b)) (Eq.symm (Bool.eq_false_iff.2 (fun h => by have := ((nodup_snoc (show i < a.length by omega)).1 (properB_take (by simp only [Bool.and_eq_true] at h; exact h.1) (i + 1)).2).2; rw [idxI_none this] at hc3; omega))), rfl⟩
     ·try simp only [nmL] at hc3
      refine SCode.skip ?_
      show SCode _ _ _ _
      refine SCode.region (SOps.move rfl (SOps.addI rfl rfl (by first | omega | (simp only [lenB]; omega)) (by first | omega | (simp only [lenB]; omega)) (SOps.assign rfl (SOps.nil ?_))))
      exact ⟨i + 1, by exact ⟨by omega, take_more hf.1 (by omega) hg, (nodup_snoc (by omega)).2 ⟨hf.2, by cases h : idx (a.take i) (a[i]).rune with | none => rfl | some k => rw [idxI_some h] at hc3; omega⟩⟩, by omega, (St.Le.of ⟨(by first | rfl | (show some _ = some _; simp)), (by first | rfl | (show some _ = some _; simp)), trivial⟩ rfl (by first | rfl | (simp)))⟩
  ·try simp only [nmL] at hc2
   refine SCode.exit ?_
   show SCode _ _ _ _
   refine SCode.seqR (SOps.assign rfl (SOps.nil (SCode.ret ?_)))
   exact ⟨_, Res.one (.tmp rfl), congrArg (fun b => DV.v (.bool b)) (Eq.symm (by rw [List.take_of_length_le (by omega)] at hf; rw [properB_iff.2 hf, decide_eq_true (by omega)]; rfl)), rfl⟩
theorem q10Alphabet (a : List Letter)  : GCall Tryd.prog E 35 [DLs a] [] (fun d H => d = .v (.bool (validA a)) ∧ H = []) := by
 refine GCall.body (C := ⟨Tryd.prog, E, true⟩) Tryd.func35 rfl (fun _ => rfl) (by kernel_rfl) rfl ?_
 refine SCode.seqR (SOps.assign rfl (SOps.nil (SCode.seqR ?_)))
 refine SOps.fact (isl_len (t := 0) rfl) (fun hB => ?_)
 simp only [List.length_map, lenB] at hB
 refine SOps.move rfl (SOps.lenM rfl sliceB_22_28_2 (SOps.bin rfl rfl rfl (SOps.move rfl ?_)))
 refine SOps.caseB 6 rfl (fun hb1 => ?_) (fun hb1 => ?_)
 ·try simp only [nmL] at hb1
  refine SOps.move rfl (SOps.lenM rfl sliceB_22_28_2 (SOps.bin rfl rfl rfl (SOps.pick rfl rfl (SOps.move rfl ?_))))
  refine SOps.caseB 11 rfl (fun hb2 => ?_) (fun hb2 => ?_)
  ·try simp only [nmL] at hb2
   refine SOps.move rfl (SOps.callP (q6Proper _) rfl ?_)
   rintro _ rfl
   refine SOps.pick rfl rfl (SOps.assign rfl (SOps.nil (SCode.ret ?_)))
   exact ⟨_, Res.one (.tmp rfl), congrArg (fun b => DV.v (.bool b)) (by rw [validA_proper]; first | (rw [decide_eq_false (show ¬ 1 ≤ a.length by omega)]; rfl) | (rw [decide_eq_true (show 1 ≤ a.length by omega), decide_eq_false (show ¬ a.length ≤ 64 by omega)]; rfl) | (rw [decide_eq_true (show 1 ≤ a.length by omega), decide_eq_true (show a.length ≤ 64 by omega)]; rfl)), rfl⟩
  ·try simp only [nmL] at hb2
   refine SOps.skip rfl (SOps.skip rfl (SOps.pick rfl rfl (SOps.assign rfl (SOps.nil (SCode.ret ?_)))))
   exact ⟨_, Res.one (.tmp rfl), congrArg (fun b => DV.v (.bool b)) (by rw [validA_proper]; first | (rw [decide_eq_false (show ¬ 1 ≤ a.length by omega)]; rfl) | (rw [decide_eq_true (show 1 ≤ a.length by omega), decide_eq_false (show ¬ a.length ≤ 64 by omega)]; rfl) | (rw [decide_eq_true (show 1 ≤ a.length by omega), decide_eq_true (show a.length ≤ 64 by omega)]; rfl)), rfl⟩
 ·try simp only [nmL] at hb1
  refine SOps.skip rfl (SOps.skip rfl (SOps.skip rfl (SOps.pick rfl rfl (SOps.move rfl (SOps.skip rfl (SOps.skip rfl (SOps.pick rfl rfl (SOps.assign rfl (SOps.nil (SCode.ret ?_))))))))))
  exact ⟨_, Res.one (.tmp rfl), congrArg (fun b => DV.v (.bool b)) (by rw [validA_proper]; first | (rw [decide_eq_false (show ¬ 1 ≤ a.length by omega)]; rfl) | (rw [decide_eq_true (show 1 ≤ a.length by omega), decide_eq_false (show ¬ a.length ≤ 64 by omega)]; rfl) | (rw [decide_eq_true (show 1 ≤ a.length by omega), decide_eq_true (show a.length ≤ 64 by omega)]; rfl)), rfl⟩
theorem q10Word (a : List Letter) (s : ByteArray) (hs : s.size ≤ 1048576) : GCall Tryd.prog E 17 [DLs a, .v (.string s)] [] (fun d H => d = .v (.bool (isWordA a s)) ∧ H = []) := by
 have hil := idxs_len a s
 have hir := idxs_runes a s
 refine GCall.body (C := ⟨Tryd.prog, E, true⟩) Tryd.func17 rfl (fun _ => rfl) (by kernel_rfl) rfl ?_
 refine SCode.seqR (SOps.assign rfl (SOps.nil (SCode.seqR (SOps.move rfl (SOps.move rfl ?_)))))
 rcases hal : (runes s).all (fun r => (idx a r).isSome) with _ | _
 ·refine SOps.callP (q6Over a s hs) rfl ?_
  rintro _ rfl
  rw [if_neg (by rw [hal]; simp)]
  refine SOps.move rfl (SOps.extract rfl rfl (SOps.extract rfl rfl (SOps.assign rfl (SOps.assign rfl (SOps.nil (SCode.seqR (SOps.move rfl (SOps.move rfl (SOps.skip rfl (SOps.skip rfl (SOps.skip rfl (SOps.pick rfl rfl (SOps.assign rfl (SOps.nil (SCode.ret ?_)))))))))))))))
  exact ⟨_, Res.one (.tmp rfl), congrArg (fun b => DV.v (.bool b)) (by unfold isWordA overA; rw [hal]; first | (simp; done) | (rw [Bool.eq_iff_iff]; simp_all; done) | (rw [Bool.eq_iff_iff]; simp_all; omega)), rfl⟩
 ·refine SOps.callP (q6Over a s hs) rfl ?_
  rintro _ rfl
  rw [if_pos hal]
  refine SOps.move rfl (SOps.extract rfl rfl (SOps.extract rfl rfl (SOps.assign rfl (SOps.assign rfl (SOps.nil (SCode.seqR (SOps.move rfl (SOps.move rfl ?_))))))))
  refine SOps.caseB 14 rfl (fun hb1 => ?_) (fun hb1 => ?_)
  ·try simp only [nmL] at hb1
   refine SOps.move rfl (SOps.lenM rfl sliceB_43_3_1 (SOps.bin rfl rfl rfl (SOps.pick rfl rfl (SOps.assign rfl (SOps.nil (SCode.ret ?_))))))
   exact ⟨_, Res.one (.tmp rfl), congrArg (fun b => DV.v (.bool b)) (by unfold isWordA overA; rw [hal]; first | (simp; done) | (rw [Bool.eq_iff_iff]; simp_all; done) | (rw [Bool.eq_iff_iff]; simp_all; omega)), rfl⟩
  ·try simp only [nmL] at hb1
   refine SOps.skip rfl (SOps.skip rfl (SOps.skip rfl (SOps.pick rfl rfl (SOps.assign rfl (SOps.nil (SCode.ret ?_))))))
   exact ⟨_, Res.one (.tmp rfl), congrArg (fun b => DV.v (.bool b)) (by unfold isWordA overA; rw [hal]; first | (simp; done) | (rw [Bool.eq_iff_iff]; simp_all; done) | (rw [Bool.eq_iff_iff]; simp_all; omega)), rfl⟩
theorem q14Extended (a : List Letter) (ha : a.length ≤ 1000000) : GCall Tryd.prog E 37 [DLs a] [] (fun d H => d = DLs (extA a) ∧ H = []) := by
 refine GCall.body (C := ⟨Tryd.prog, E, true⟩) Tryd.func37 rfl (fun _ => rfl) (by kernel_rfl) rfl ?_
 refine SCode.seqR (SOps.assign rfl (SOps.nil (SCode.seqR ?_)))
 refine SOps.litO sliceB_22_28_2 zeroIs_28 rfl (fun b0 hb_0 => ?_)
 refine SOps.move rfl ?_
 refine SOps.appendOwnE 0 sliceB_22_28_2 elemB_28_2_8 rfl rfl rfl (by simp) SrcD.isl (by simp [lenB]; omega) (by simp; omega) (fun bC => ?_)
 refine SOps.buildM placesB_28 zeroIs_28 rfl rfl (SOps.litF rfl sliceB_22_28_2 zeroIs_28 rfl ?_)
 refine SOps.appendOwn 0 sliceB_22_28_2 elemB_28_2_8 rfl rfl rfl (by simp) SrcD.isl (by simp) (by simp [lenB]; omega) (by simp; omega) (fun bA _ => ?_)
 refine SOps.freezeS (t := 8) 0 rfl rfl rfl (by simp) (SOps.assign rfl (SOps.nil (SCode.ret ?_)))
 exact ⟨_, Res.one (.tmp rfl), by show DV.isl false 2 ([] ++ a.map encL ++ [encL eqL]) = DV.isl false 2 ((a ++ [eqL]).map encL); rw [List.map_append, List.nil_append]; rfl, rfl⟩
theorem q14Valid (hV : VS E) (a : List Letter) (l : List Rule) (hr : ∀ r ∈ l, SmR r) : GCall Tryd.prog E 14 [DLs a, DRs l] [] (fun d H => d = .v (.bool (validS a l)) ∧ H = []) := by
 refine GCall.body (C := ⟨Tryd.prog, E, true⟩) Tryd.func14 rfl (fun _ => rfl) (by kernel_rfl) rfl ?_
 refine SCode.seqR (SOps.assign rfl (SOps.nil (SCode.seq (SCode.seqR (SOps.move rfl (SOps.callP (q10Alphabet _) rfl ?_))))))
 rintro _ rfl
 refine SOps.un rfl rfl (SOps.move rfl ?_)
 refine SOps.caseB 12 rfl (fun hb1 => ?_) (fun hb1 => ?_)
 ·try simp only [nmL] at hb1
  refine SOps.skip rfl (SOps.skip rfl (SOps.skip rfl (SOps.pick rfl rfl (SOps.move rfl (SOps.skip rfl (SOps.skip rfl (SOps.skip rfl (SOps.pick rfl rfl (SOps.nil ?_)))))))))
  refine SCode.cond rfl (fun _ => ?_) (fun h => by cases h)
  refine SCode.seqR (SOps.assign rfl (SOps.nil (SCode.ret ?_)))
  exact ⟨_, Res.one (.tmp rfl), congrArg (fun b => DV.v (.bool b)) (Eq.symm (Bool.eq_false_iff.2 (fun h => by obtain ⟨v1, v2, v3, v4⟩ := validS_iff.1 h; have v5 := idxI_none v2; first | omega | simp_all))), rfl⟩
 ·try simp only [nmL] at hb1
  refine SOps.move rfl (SOps.callP (qIndex _ _) rfl ?_)
  rintro _ rfl
  refine SOps.bin rfl rfl rfl (SOps.pick rfl rfl (SOps.move rfl ?_))
  refine SOps.caseB 17 rfl (fun hb2 => ?_) (fun hb2 => ?_)
  ·try simp only [nmL] at hb2
   refine SOps.skip rfl (SOps.skip rfl (SOps.skip rfl (SOps.pick rfl rfl (SOps.nil ?_))))
   refine SCode.cond rfl (fun _ => ?_) (fun h => by cases h)
   refine SCode.seqR (SOps.assign rfl (SOps.nil (SCode.ret ?_)))
   exact ⟨_, Res.one (.tmp rfl), congrArg (fun b => DV.v (.bool b)) (Eq.symm (Bool.eq_false_iff.2 (fun h => by obtain ⟨v1, v2, v3, v4⟩ := validS_iff.1 h; have v5 := idxI_none v2; first | omega | simp_all))), rfl⟩
  ·try simp only [nmL] at hb2
   refine SOps.move rfl (SOps.lenM rfl sliceB_23_47_6 (SOps.bin rfl rfl rfl (SOps.pick rfl rfl (SOps.nil ?_))))
   refine SCode.cond rfl (fun hc3 => ?_) (fun hc3 => ?_)
   ·try simp only [nmL] at hc3
    refine SCode.seqR (SOps.assign rfl (SOps.nil (SCode.ret ?_)))
    exact ⟨_, Res.one (.tmp rfl), congrArg (fun b => DV.v (.bool b)) (Eq.symm (Bool.eq_false_iff.2 (fun h => by obtain ⟨v1, v2, v3, v4⟩ := validS_iff.1 h; have v5 := idxI_none v2; first | omega | simp_all))), rfl⟩
   ·try simp only [nmL] at hc3
    refine SCode.skip ?_
    show SCode _ _ _ _
    refine SCode.seqR ?_
    have hal : a.length ≤ 64 := by have := validA_iff.1 (show validA a = true by simp_all); omega
    refine SOps.move rfl (SOps.callP (q14Extended _ (by omega)) rfl ?_)
    rintro _ rfl
    refine SOps.assign rfl (SOps.nil (SCode.seq (SCode.seqR (SOps.assign rfl (SOps.nil (SCode.block (SCode.loop1 (fun (i : Nat) => (⟨55, [(0, DLs a), (1, DRs l), (5, DLs (extA a)), (6, .v (.int .i64 (i : Int)))], []⟩ : St)) (fun (i : Nat) => i ≤ l.length ∧ ∀ r ∈ l.take i, r.fr ≠ 61 ∧ hasEq r.«to» = false ∧ validR (extA a) r = true) (fun (i : Nat) => l.length - i) (0) (by simp) (St.Le.of ⟨(by first | rfl | (show some _ = some _; simp)), (by first | rfl | (show some _ = some _; simp)), (by first | rfl | (show some _ = some _; simp)), (by first | rfl | (show some _ = some _; simp)), trivial⟩ rfl (by first | rfl | (simp))) ?_)))))))
    rintro i ⟨hi, hf⟩
    refine SCode.seq (SCode.seqR (SOps.move rfl (SOps.move rfl (SOps.lenM rfl sliceB_23_47_6 (SOps.bin rfl rfl rfl (SOps.nil ?_))))))
    refine SCode.cond rfl (fun hc4 => ?_) (fun hc4 => ?_)
    ·try simp only [nmL] at hc4
     refine SCode.skip ?_
     show SCode _ _ _ _
     refine SCode.seq (SCode.block (SCode.seqR ?_))
     have hil : i < l.length := by omega
     have hri := hr _ (List.getElem_mem hil)
     have hri1 := hri.1
     refine SOps.move rfl (SOps.move rfl (SOps.indexM (i) rfl rfl sliceB_23_47_6 (by first | omega | (simp only [lenB]; omega)) (by first | omega | (simp only [lenB]; omega)) (SOps.loadPinA rfl aggB_47_6 (Nat.le_of_ble_eq_true rfl) ?_)))
     refine SOps.alloc (sz := 6) zeroIs_47 (fun b0 hb_0 => ?_)
     refine SOps.storeAM 0 rfl rfl aggB_47_6 rfl (SOps.freezeRef (t := 7) 0 0 rfl rfl rfl rfl rfl (SOps.nil (SCode.seq (SCode.seqR (SOps.move rfl (SOps.loadPinA rfl aggB_47_6 (Nat.le_of_ble_eq_true rfl) (SOps.callP (qValid hV _ _) rfl ?_)))))))
     rintro _ rfl
     refine SOps.un rfl rfl (SOps.move rfl ?_)
     refine SOps.caseB 38 rfl (fun hb5 => ?_) (fun hb5 => ?_)
     ·try simp only [nmL] at hb5
      refine SOps.skip rfl (SOps.skip rfl (SOps.skip rfl (SOps.pick rfl rfl (SOps.nil ?_))))
      refine SCode.cond rfl (fun _ => ?_) (fun h => by cases h)
      refine SCode.seqR (SOps.assign rfl (SOps.nil (SCode.ret ?_)))
      exact ⟨_, Res.one (.tmp rfl), congrArg (fun b => DV.v (.bool b)) (Eq.symm (Bool.eq_false_iff.2 (fun h => by obtain ⟨v1, v2, v3, v4⟩ := validS_iff.1 h; obtain ⟨v5, v6, v7⟩ := v4 _ (List.getElem_mem (show i < l.length by omega)); simp_all))), rfl⟩
     ·try simp only [nmL] at hb5
      refine SOps.fieldPin rfl fieldB_47_0_0 (SOps.loadPin rfl flatB_21 (SOps.bin rfl rfl rfl (SOps.pick rfl rfl (SOps.nil ?_))))
      refine SCode.cond rfl (fun hc6 => ?_) (fun hc6 => ?_)
      ·try simp only [nmL] at hc6
       refine SCode.seqR (SOps.assign rfl (SOps.nil (SCode.ret ?_)))
       exact ⟨_, Res.one (.tmp rfl), congrArg (fun b => DV.v (.bool b)) (Eq.symm (Bool.eq_false_iff.2 (fun h => by obtain ⟨v1, v2, v3, v4⟩ := validS_iff.1 h; obtain ⟨v5, v6, v7⟩ := v4 _ (List.getElem_mem (show i < l.length by omega)); simp_all))), rfl⟩
      ·try simp only [nmL] at hc6
       refine SCode.skip ?_
       show SCode _ _ _ _
       refine SCode.seqR (SOps.assign rfl (SOps.nil (SCode.block (SCode.loop1 (fun (j : Nat) => (⟨55, [(0, DLs a), (1, DRs l), (5, DLs (extA a)), (6, .v (.int .i64 (i : Int))), (7, .ipin (encR (l[i]))), (8, .v (.int .i64 (j : Int)))], []⟩ : St)) (fun (j : Nat) => j ≤ (l[i]).«to».size ∧ ((l[i]).«to».data.toList.take j).any (fun b => b == 61) = false) (fun (j : Nat) => (l[i]).«to».size - j) (0) (by exact ⟨Nat.zero_le _, rfl⟩) (St.Le.of ⟨(by first | rfl | (show some _ = some _; simp)), (by first | rfl | (show some _ = some _; simp)), (by first | rfl | (show some _ = some _; simp)), (by first | rfl | (show some _ = some _; simp)), (by first | rfl | (show some _ = some _; simp)), (by first | rfl | (show some _ = some _; simp)), trivial⟩ rfl (by first | rfl | (simp))) ?_))))
       rintro j ⟨hj, hg2⟩
       have hsl : (l[i]).«to».data.toList.length = (l[i]).«to».size := by simp
       refine SCode.seq (SCode.seqR (SOps.move rfl (SOps.fieldPin rfl fieldB_47_1_1 (SOps.loadPin rfl flatB_9 (SOps.lenStr rfl strB_9 (SOps.bin rfl rfl rfl (SOps.nil ?_)))))))
       refine SCode.cond rfl (fun hc7 => ?_) (fun hc7 => ?_)
       ·try simp only [nmL] at hc7
        refine SCode.skip ?_
        show SCode _ _ _ _
        refine SCode.seq (SCode.block (SCode.seqR (SOps.fieldPin rfl fieldB_47_1_1 (SOps.loadPin rfl flatB_9 (SOps.move rfl (SOps.strIndexM (j) rfl rfl strB_9 (by first | omega | (simp only [lenB]; omega)) (by first | omega | (simp only [lenB]; omega)) (SOps.bin rfl rfl rfl (SOps.nil ?_))))))))
        refine SCode.cond rfl (fun hc8 => ?_) (fun hc8 => ?_)
        ·try simp only [nmL] at hc8
         refine SCode.seqR (SOps.assign rfl (SOps.nil (SCode.ret ?_)))
         exact ⟨_, Res.one (.tmp rfl), congrArg (fun b => DV.v (.bool b)) (Eq.symm (Bool.eq_false_iff.2 (fun h => by obtain ⟨v1, v2, v3, v4⟩ := validS_iff.1 h; obtain ⟨v5, v6, v7⟩ := v4 _ (List.getElem_mem (show i < l.length by omega)); rw [eq_here (show j < (l[i]).«to».size by omega) hc8] at v6; cases v6))), rfl⟩
        ·try simp only [nmL] at hc8
         refine SCode.skip ?_
         show SCode _ _ _ _
         refine SCode.region (SOps.move rfl (SOps.addI rfl rfl (by first | omega | (simp only [lenB]; omega)) (by first | omega | (simp only [lenB]; omega)) (SOps.assign rfl (SOps.nil ?_))))
         exact ⟨j + 1, by exact ⟨by omega, eq_next (show j < (l[i]).«to».size by omega) hc8 hg2⟩, by omega, (St.Le.of ⟨(by first | rfl | (show some _ = some _; simp)), (by first | rfl | (show some _ = some _; simp)), (by first | rfl | (show some _ = some _; simp)), (by first | rfl | (show some _ = some _; simp)), (by first | rfl | (show some _ = some _; simp)), (by first | rfl | (show some _ = some _; simp)), trivial⟩ rfl (by first | rfl | (simp)))⟩
       ·try simp only [nmL] at hc7
        refine SCode.exit ?_
        show SCode _ _ _ _
        refine SCode.region (SOps.move rfl (SOps.addI rfl rfl (by first | omega | (simp only [lenB]; omega)) (by first | omega | (simp only [lenB]; omega)) (SOps.assign rfl (SOps.nil ?_))))
        exact ⟨i + 1, by exact ⟨by omega, take_more hf (by omega) ⟨by simp_all, by rw [hasEq, ← hg2, List.take_of_length_le (by rw [hsl]; omega)], by simp_all⟩⟩, by omega, (St.Le.of ⟨(by first | rfl | (show some _ = some _; simp)), (by first | rfl | (show some _ = some _; simp)), (by first | rfl | (show some _ = some _; simp)), (by first | rfl | (show some _ = some _; simp)), trivial⟩ rfl (by first | rfl | (simp)))⟩
    ·try simp only [nmL] at hc4
     refine SCode.exit ?_
     show SCode _ _ _ _
     refine SCode.seqR (SOps.assign rfl (SOps.nil (SCode.ret ?_)))
     exact ⟨_, Res.one (.tmp rfl), congrArg (fun b => DV.v (.bool b)) (Eq.symm (validS_iff.2 ⟨by simp_all, by cases hx : idx a 61 with | none => rfl | some k => (have := idxI_some hx; omega), by omega, all_of (by omega) hf⟩)), rfl⟩
end Go.GH
namespace Go.GH
open Go Go.Proofs
variable {E : Env}
theorem placesB_47 : placesB Tryd.prog 47 [(0, 1), (1, 1), (2, 1), (3, 1), (4, 1), (5, 1)] = true := by kernel_rfl
theorem placesB_87 : placesB Tryd.prog 87 [(0, 1), (1, 1), (2, 1), (3, 1)] = true := by kernel_rfl
theorem l14Letters   : GCall Tryd.prog E 28 [] [] (fun d H => d = DLs aw14A ∧ H = []) := by
 refine GCall.body (C := ⟨Tryd.prog, E, true⟩) Tryd.func28 rfl (fun _ => rfl) (by kernel_rfl) rfl ?_
 refine SCode.seqR (SOps.assign rfl (SOps.nil (SCode.seqR (SOps.buildM placesB_28 zeroIs_28 rfl rfl (SOps.buildM placesB_28 zeroIs_28 rfl rfl (SOps.buildM placesB_28 zeroIs_28 rfl rfl (SOps.buildM placesB_28 zeroIs_28 rfl rfl (SOps.litF rfl sliceB_22_28_2 zeroIs_28 rfl (SOps.assign rfl (SOps.nil (SCode.ret ?_)))))))))))
 exact ⟨_, Res.one (.tmp rfl), rfl, rfl⟩
theorem l14Rules   : GCall Tryd.prog E 29 [] [] (fun d H => d = DRs aw14R ∧ H = []) := by
 refine GCall.body (C := ⟨Tryd.prog, E, true⟩) Tryd.func29 rfl (fun _ => rfl) (by kernel_rfl) rfl ?_
 refine SCode.seqR (SOps.assign rfl (SOps.nil (SCode.seqR (SOps.buildM placesB_87 zeroIs_87 rfl rfl (SOps.litF rfl sliceB_45_87_4 zeroIs_87 rfl (SOps.buildM placesB_87 zeroIs_87 rfl rfl (SOps.buildM placesB_87 zeroIs_87 rfl rfl (SOps.litF rfl sliceB_45_87_4 zeroIs_87 rfl (SOps.buildM placesB_47 zeroIs_47 rfl rfl (SOps.buildM placesB_87 zeroIs_87 rfl rfl (SOps.buildM placesB_87 zeroIs_87 rfl rfl (SOps.litF rfl sliceB_45_87_4 zeroIs_87 rfl (SOps.buildM placesB_47 zeroIs_47 rfl rfl (SOps.relab (t := 10) (d' := .agg (encR (aw14R[1]'(by decide)))) rfl (fun w F v hv => rep_aggNil (sz := 4) 2 hv rfl) (SOps.litF rfl sliceB_23_47_6 zeroIs_47 rfl (SOps.assign rfl (SOps.nil (SCode.ret ?_))))))))))))))))))
 exact ⟨_, Res.one (.tmp rfl), rfl, rfl⟩
def fewB (a : List Letter) (l : List Rule) : Bool := decide (a.length ≤ 6) && decide (l.length ≤ 5)
theorem l14Few (a : List Letter) (l : List Rule)  : GCall Tryd.prog E 15 [DLs a, DRs l] [] (fun d H => d = .v (.bool (fewB a l)) ∧ H = []) := by
 refine GCall.body (C := ⟨Tryd.prog, E, true⟩) Tryd.func15 rfl (fun _ => rfl) (by kernel_rfl) rfl ?_
 refine SCode.seqR (SOps.assign rfl (SOps.nil (SCode.seqR (SOps.move rfl (SOps.lenM rfl sliceB_22_28_2 (SOps.bin rfl rfl rfl (SOps.move rfl ?_)))))))
 refine SOps.caseB 8 rfl (fun hb1 => ?_) (fun hb1 => ?_)
 ·try simp only [nmL] at hb1
  refine SOps.move rfl (SOps.lenM rfl sliceB_23_47_6 (SOps.bin rfl rfl rfl (SOps.pick rfl rfl (SOps.assign rfl (SOps.nil (SCode.ret ?_))))))
  exact ⟨_, Res.one (.tmp rfl), congrArg (fun b => DV.v (.bool b)) (by unfold fewB; rw [Bool.eq_iff_iff]; simp only [Bool.and_eq_true, decide_eq_true_eq, Bool.false_eq_true]; first | omega | (simp only [false_iff]; omega)), rfl⟩
 ·try simp only [nmL] at hb1
  refine SOps.skip rfl (SOps.skip rfl (SOps.skip rfl (SOps.pick rfl rfl (SOps.assign rfl (SOps.nil (SCode.ret ?_))))))
  exact ⟨_, Res.one (.tmp rfl), congrArg (fun b => DV.v (.bool b)) (by unfold fewB; rw [Bool.eq_iff_iff]; simp only [Bool.and_eq_true, decide_eq_true_eq, Bool.false_eq_true]; first | omega | (simp only [false_iff]; omega)), rfl⟩
theorem a14Att1 (hV : VS E) : GCall Tryd.prog E 16 [DLs aw14A, DRs aw14R, .v (.string sTat), .v (.string sE)] [] (fun d H => d = .tup [.v (.string sTade), .v (.int .i64 0)] ∧ H = []) := GCall.mono (cAttach hV aw14A aw14R sTat sE aw14_sm) (fun d H h => ⟨h.1.trans (by rw [aw14_att1]; rfl), h.2⟩)
theorem a14Att2 (hV : VS E) : GCall Tryd.prog E 16 [DLs aw14A, DRs aw14R, .v (.string sTa), .v (.string sAt)] [] (fun d H => d = .tup [.v (.string sTat), .v (.int .i64 0)] ∧ H = []) := GCall.mono (cAttach hV aw14A aw14R sTa sAt aw14_sm) (fun d H h => ⟨h.1.trans (by rw [aw14_att2]; rfl), h.2⟩)
theorem a14Valid (hV : VS E) : GCall Tryd.prog E 13 [DLs aw14A, DRs aw14R] [] (fun d H => d = .v (.bool true) ∧ H = []) := GCall.mono (cValid hV aw14A aw14R aw14_sm) (fun d H h => ⟨h.1.trans (by rw [aw14_valid]), h.2⟩)
theorem a14Split (hV : VS E) : GCall Tryd.prog E 19 [DLs aw14A, DRs aw14R, DStrs [sTat, sTa], DStrs [sAt, sT], .v (.string sTat)] [] (fun d H => d = .tup [DSgs (splitR aw14A aw14R [sTat, sTa] [sAt, sT] sTat).1, .v (.int .i64 0)] ∧ H = []) := GCall.mono (cSplit hV aw14A aw14R [sTat, sTa] [sAt, sT] sTat aw14_sm (by decide) (by decide)) (fun d H h => ⟨h.1.trans (by rw [aw14_split.2]), h.2⟩)
theorem awake14 (hV : VS E)  : GCall Tryd.prog E 11 [] [] (fun d H => d = .v (.bool true) ∧ H = []) := by
 refine GCall.body (C := ⟨Tryd.prog, E, true⟩) Tryd.func11 rfl (fun _ => rfl) (by kernel_rfl) rfl ?_
 refine SCode.seqR (SOps.assign rfl (SOps.nil (SCode.seqR (SOps.callP (l14Letters) rfl ?_))))
 rintro _ rfl
 refine SOps.callP (l14Rules) rfl ?_
 rintro _ rfl
 refine SOps.callP (a14Att1 hV) rfl ?_
 rintro _ rfl
 refine SOps.move rfl (SOps.extract rfl rfl (SOps.extract rfl rfl (SOps.assign rfl (SOps.assign rfl (SOps.nil (SCode.seqR (SOps.callP (l14Letters) rfl ?_)))))))
 rintro _ rfl
 refine SOps.callP (l14Rules) rfl ?_
 rintro _ rfl
 refine SOps.callP (a14Att2 hV) rfl ?_
 rintro _ rfl
 refine SOps.move rfl (SOps.extract rfl rfl (SOps.extract rfl rfl (SOps.assign rfl (SOps.assign rfl (SOps.nil (SCode.seqR (SOps.callP (l14Letters) rfl ?_)))))))
 rintro _ rfl
 refine SOps.callP (l14Rules) rfl ?_
 rintro _ rfl
 refine SOps.litF rfl sliceB_35_9_1 zeroIs_9 rfl (SOps.litF rfl sliceB_35_9_1 zeroIs_9 rfl (SOps.callP (a14Split hV) rfl ?_))
 rintro _ rfl
 refine SOps.move rfl (SOps.extract rfl rfl (SOps.extract rfl rfl (SOps.assign rfl (SOps.assign rfl (SOps.nil (SCode.seqR (SOps.callP (l14Letters) rfl ?_)))))))
 rintro _ rfl
 refine SOps.callP (l14Rules) rfl ?_
 rintro _ rfl
 refine SOps.callP (a14Valid hV) rfl ?_
 rintro _ rfl
 refine SOps.move rfl (SOps.move rfl (SOps.bin rfl rfl rfl (SOps.reSlot (t := 32) rfl (show _ = DV.v (.bool true) from by rfl) (SOps.pick rfl rfl (SOps.move rfl (SOps.move rfl (SOps.bin rfl rfl rfl (SOps.reSlot (t := 36) rfl (show _ = DV.v (.bool true) from by rfl) (SOps.pick rfl rfl (SOps.move rfl (SOps.move rfl (SOps.bin rfl rfl rfl (SOps.reSlot (t := 40) rfl (show _ = DV.v (.bool true) from by rfl) (SOps.pick rfl rfl (SOps.move rfl (SOps.move rfl (SOps.bin rfl rfl rfl (SOps.reSlot (t := 44) rfl (show _ = DV.v (.bool true) from by rfl) (SOps.pick rfl rfl (SOps.move rfl (SOps.move rfl (SOps.lenM rfl sliceB_36_50_2 (SOps.bin rfl rfl rfl (SOps.reSlot (t := 49) rfl (show _ = DV.v (.bool true) from congrArg (fun b => DV.v (.bool b)) (by simp [aw14_split.1])) (SOps.pick rfl rfl (SOps.move rfl (SOps.move rfl (SOps.bin rfl rfl rfl (SOps.reSlot (t := 53) rfl (show _ = DV.v (.bool true) from by rfl) (SOps.pick rfl rfl (SOps.assign rfl (SOps.nil (SCode.ret ?_)))))))))))))))))))))))))))))))))
 exact ⟨_, Res.one (.tmp rfl), rfl, rfl⟩
def AW14 (E : Env) : Prop := GCall Tryd.prog E 11 [] [] (fun d H => d = .v (.bool true) ∧ H = [])
end Go.GH
namespace Go.GH
open Go Go.Lib Go.Proofs Go.Proofs.YtmmdhmlbbajjiaaDoor
theorem u8Extra : U8Extra Tryd.prog Tryd.laysValid_ren :=
  ⟨by kernel_rfl, by kernel_rfl, by kernel_rfl, by kernel_rfl, by kernel_rfl, by kernel_rfl, by kernel_rfl⟩
theorem laid_E0 (W : World) (h : laidMetH Tryd.prog Rows.cliticValidRow.laid W) : E0.holds W (AllF W) := by
  have h' : laidMet Tryd.prog [("unicode/utf8.acceptRanges", Rows.laid_unicode_utf8_acceptRanges), ("unicode/utf8.first", Rows.laid_unicode_utf8_first)] W := h
  have e1 : Rows.laid_unicode_utf8_first = firstData := by kernel_rfl
  have e2 : (Rows.laid_unicode_utf8_acceptRanges : DataW Unit) = acceptData := by kernel_rfl
  rw [e1, e2] at h'
  exact tabE_all (utf8Tabs_of_readsT (U8Types.of196 Tryd.laysValid) u8Extra (laidMet.reads h' (.tail _ (.head _))) (laidMet.reads h' (.head _)))
theorem vsE0 : VS E0 := vs_ok
theorem awE0 : AW14 E0 := awake14 vsE0
end Go.GH
namespace Go.GH
open Go

theorem map_of {α β : Type} {f : α → β} : ∀ {es : List β}, (∀ e ∈ es, ∃ x, e = f x) → ∃ xs : List α, es = xs.map f
  | [], _ => ⟨[], rfl⟩
  | e :: es, h => by
    obtain ⟨x, rfl⟩ := h e (List.mem_cons_self ..)
    obtain ⟨xs, rfl⟩ := map_of (fun e he => h e (List.mem_cons_of_mem _ he))
    exact ⟨x :: xs, rfl⟩
def ElemIs (L : List DTy) (e : List DV) : Prop := e.length = L.length ∧ ∀ (j : Nat) d ty, e[j]? = some d → L[j]? = some ty → HasD ty d
theorem HasD.slice {α : Type} {L : List DTy} {f : α → List DV} {d : DV} (h : HasD (.sl L) d) (hf : ∀ e, ElemIs L e → ∃ x, e = f x) : ∃ xs : List α, d = .isl false L.length (xs.map f) := by
  cases h with
  | @sl L es hl hd =>
    obtain ⟨xs, rfl⟩ := map_of (f := f) (es := es) (fun e he => by
      obtain ⟨i, hi⟩ := List.mem_iff_getElem?.1 he
      exact hf e ⟨hl i e hi, fun j d ty hj ht => hd i e j d ty hi hj ht⟩)
    exact ⟨xs, rfl⟩
theorem ElemIs.one {ty : DTy} {e : List DV} (h : ElemIs [ty] e) : ∃ d, e = [d] ∧ HasD ty d := by
  obtain ⟨h1, h2⟩ := h
  match e, h1 with
  | [d], _ => exact ⟨d, rfl, h2 0 d ty rfl rfl⟩
theorem ElemIs.two {t1 t2 : DTy} {e : List DV} (h : ElemIs [t1, t2] e) : ∃ d1 d2, e = [d1, d2] ∧ HasD t1 d1 ∧ HasD t2 d2 := by
  obtain ⟨h1, h2⟩ := h
  match e, h1 with
  | [d1, d2], _ => exact ⟨d1, d2, rfl, h2 0 d1 t1 rfl rfl, h2 1 d2 t2 rfl rfl⟩
theorem ElemIs.three {t1 t2 t3 : DTy} {e : List DV} (h : ElemIs [t1, t2, t3] e) : ∃ d1 d2 d3, e = [d1, d2, d3] ∧ HasD t1 d1 ∧ HasD t2 d2 ∧ HasD t3 d3 := by
  obtain ⟨h1, h2⟩ := h
  match e, h1 with
  | [d1, d2, d3], _ => exact ⟨d1, d2, d3, rfl, h2 0 d1 t1 rfl rfl, h2 1 d2 t2 rfl rfl, h2 2 d3 t3 rfl rfl⟩
theorem HasD.int_inv {k : IntKind} {d : DV} (h : HasD (.int k) d) : ∃ n, d = .v (.int k n) ∧ k.has n := by cases h with | int h => exact ⟨_, rfl, h⟩
theorem HasD.str_inv {d : DV} (h : HasD .str d) : ∃ s, d = .v (.string s) := by cases h; exact ⟨_, rfl⟩
theorem HasD.bool_inv {d : DV} (h : HasD .bool d) : ∃ b, d = .v (.bool b) := by cases h; exact ⟨_, rfl⟩
theorem HasD.letters {d : DV} (h : HasD (.sl [.int .i32, .int .u32]) d) : ∃ a, d = DLs a :=
  h.slice (f := encL) (fun e he => by
    obtain ⟨d1, d2, rfl, h1, h2⟩ := he.two
    obtain ⟨r, rfl, _⟩ := h1.int_inv
    obtain ⟨c, rfl, _⟩ := h2.int_inv
    exact ⟨⟨r, c⟩, rfl⟩)
theorem HasD.ints {d : DV} (h : HasD (.sl [.int .i64]) d) : ∃ l, d = DInts l :=
  h.slice (f := encI) (fun e he => by
    obtain ⟨d1, rfl, h1⟩ := he.one
    obtain ⟨r, rfl, _⟩ := h1.int_inv
    exact ⟨r, rfl⟩)
theorem HasD.masks {d : DV} (h : HasD (.sl [.int .u32]) d) : ∃ l, d = DMasks l :=
  h.slice (f := encU) (fun e he => by
    obtain ⟨d1, rfl, h1⟩ := he.one
    obtain ⟨r, rfl, _⟩ := h1.int_inv
    exact ⟨r, rfl⟩)
theorem HasD.strs {d : DV} (h : HasD (.sl [.str]) d) : ∃ l, d = DStrs l :=
  h.slice (f := encS) (fun e he => by
    obtain ⟨d1, rfl, h1⟩ := he.one
    obtain ⟨r, rfl⟩ := h1.str_inv
    exact ⟨r, rfl⟩)

end Go.GH
namespace Go.GH
open Go Go.RowKit Go.Proofs.YtmmdhmlbbajjiaaDoor

inductive SmallD (N : Nat) : DV → Prop
  | v {x : Value} (h : ∀ s, x = .string s → s.size ≤ N) : SmallD N (.v x)
  | isl {nn : Bool} {sz : Nat} {es : List (List DV)} (hl : es.length ≤ N) (h : ∀ (i : Nat) e (j : Nat) d, es[i]? = some e → e[j]? = some d → SmallD N d) : SmallD N (.isl nn sz es)
theorem bulk_one {H : Type} (d : DataW H) : 1 ≤ Rows.uptoBulk d := by
  cases d with
  | lit l => cases l <;> simp [Rows.uptoBulk]
  | _ => simp [Rows.uptoBulk]
theorem bulk_part {H : Type} {d : DataW H} : ∀ {l : List (DataW H)}, d ∈ l → Rows.uptoBulk d ≤ Rows.uptoBulkAll l
  | [], h => by cases h
  | x :: l, h => by
    rw [Rows.uptoBulkAll]
    rcases List.mem_cons.1 h with rfl | h
    · omega
    · have := bulk_part h; omega
theorem bulk_len {H : Type} : ∀ (l : List (DataW H)), l.length ≤ Rows.uptoBulkAll l
  | [] => Nat.zero_le _
  | x :: l => by
    rw [Rows.uptoBulkAll, List.length_cons]
    have := bulk_len l
    have := bulk_one x
    omega
theorem bulk_elems {H : Type} (a b : List (DataW H)) : Rows.uptoBulkAll a ≤ Rows.uptoBulk (.slice a b) := by
  rw [Rows.uptoBulk]; omega
theorem bulk_agg {H : Type} (a : List (DataW H)) : Rows.uptoBulkAll a ≤ Rows.uptoBulk (.agg a) := by
  rw [Rows.uptoBulk]; omega
theorem bulk_str {H : Type} (s : ByteArray) : Rows.uptoBulk (DataW.lit (H := H) (.string s.data.toList)) = s.size + 1 := by
  rw [Rows.uptoBulk]; simp
def CellsS (N : Nat) (w : World) (cs : List Value) (L : List DTy) (ds : List DV) : Prop :=
  cs.length = L.length ∧ ds.length = L.length ∧ ∀ (j : Nat) v d ty, cs[j]? = some v → ds[j]? = some d → L[j]? = some ty → Rep w (AllF w) v d ∧ HasD ty d ∧ v.oneCell' = true ∧ SmallD N d
def PWS (N : Nat) (w : World) (cs : List Value) (L : List DTy) : Prop :=
  cs.length = L.length ∧ ∀ (j : Nat) v ty, cs[j]? = some v → L[j]? = some ty → ∃ d, Rep w (AllF w) v d ∧ HasD ty d ∧ v.oneCell' = true ∧ SmallD N d
theorem PWS.cells {N : Nat} {w : World} {cs : List Value} {L : List DTy} (h : PWS N w cs L) : ∃ ds, CellsS N w cs L ds := by
  have key : ∀ j, ∃ d, ∀ v ty, cs[j]? = some v → L[j]? = some ty → Rep w (AllF w) v d ∧ HasD ty d ∧ v.oneCell' = true ∧ SmallD N d := fun j => by
    by_cases hj : j < L.length
    · obtain ⟨d, hd⟩ := h.2 j _ _ (List.getElem?_eq_getElem (show j < cs.length by rw [h.1]; exact hj)) (List.getElem?_eq_getElem hj)
      refine ⟨d, fun v ty hv ht => ?_⟩
      rw [List.getElem?_eq_getElem (show j < cs.length by rw [h.1]; exact hj)] at hv
      rw [List.getElem?_eq_getElem hj] at ht
      obtain rfl := Option.some.inj hv
      obtain rfl := Option.some.inj ht
      exact hd
    · exact ⟨.any, fun v ty _ ht => absurd (List.getElem?_eq_some_iff.1 ht).1 hj⟩
  refine ⟨(List.range L.length).map (fun j => (key j).choose), h.1, by simp, fun j v d ty hv hd ht => ?_⟩
  rw [List.getElem?_map] at hd
  obtain ⟨q, hq, rfl⟩ := Option.map_eq_some_iff.1 hd
  have hlt : j < L.length := (List.getElem?_eq_some_iff.1 ht).1
  rw [List.getElem?_range hlt] at hq
  obtain rfl := Option.some.inj hq
  exact (key j).choose_spec v ty hv ht
theorem PWS.one {N : Nat} {w : World} {v : Value} {ty : DTy} {d : DV} (h1 : Rep w (AllF w) v d) (h2 : HasD ty d) (h3 : v.oneCell' = true) (h4 : SmallD N d) : PWS N w [v] [ty] :=
  ⟨rfl, fun j u t hv ht => by
    match j, hv, ht with
    | 0, hv, ht => simp at hv ht; subst hv; subst ht; exact ⟨d, h1, h2, h3, h4⟩
    | j + 1, hv, ht => simp at hv⟩
theorem pws_trod {N : Nat} {H : Type} {enc : TypeId × Value → H} {P : Program} {w : World} {sp : Nat → Bool} {held : Bool} {t : TypeId} {L : List DTy} (h : TyIs P t L) :
    ∀ (fuel : Nat) (cs : List Value) (x : DataW H × List MemPlace), DataW.trod enc P w 0 sp held fuel t cs = some x → Rows.uptoBulk x.1 ≤ N → PWS N w cs L := by
  induction h with
  | @int t k h =>
    intro fuel cs x hx hb0
    obtain ⟨n, rfl, hxe, hwf⟩ := DataW.trod_int h hx
    exact .one (d := .v (.int k n)) (.v (show k.has n from lit_int_wf hwf)) (.int (lit_int_wf hwf)) rfl (.v (fun s e => by cases e))
  | @str t h =>
    intro fuel cs x hx hb0
    obtain ⟨s, rfl, hxe, hs⟩ := DataW.trod_string h hx
    have hs : s.size ≤ lenB := by
      have e : maxLen = lenB := by decide
      omega
    exact .one (d := .v (.string s)) (.v hs) (.str hs) rfl (.v (fun s' e => by cases e; rw [hxe, bulk_str] at hb0; omega))
  | @bool t h =>
    intro fuel cs x hx hb0
    obtain ⟨b, rfl, _⟩ := DataW.trod_bool h hx
    exact .one (d := .v (.bool b)) (.v trivial) .bool rfl (.v (fun s e => by cases e))
  | @sl t e L h he hc hne ih =>
    intro fuel cs x hx hb0
    rcases DataW.trod_slice h hx with ⟨rfl, _⟩ | ⟨a, len, cap, elems, rest, n, rfl, rfl, hxe, hb, hl, hm, hlen, hel, _, _⟩
    · exact .one (d := .isl false L.length []) (.isl (b := 0) (o := 0) (fun _ _ => undef) rfl (by omega) (by simp [lenB]) (fun h => by cases h) (fun h => absurd rfl h) (fun i e h => by simp at h) (fun i e j d h => by simp at h) (fun i e j d h => by simp at h))
        (.sl (fun i e h => by simp at h) (fun i e j d ty h => by simp at h)) rfl (.isl (by simp) (fun i e j d h => by simp at h))
    · have key : ∀ i, ∃ p : List Value × List DV, i < len → w.cells? 0 (a.add (i * L.length)) L.length = some p.1 ∧ CellsS N w p.1 L p.2 := fun i => by
        by_cases hi : i < len
        · have h1 := hel i hi
          rw [List.getElem?_eq_getElem (by omega)] at h1
          obtain ⟨cs', h2, h3⟩ := Option.bind_eq_some_iff.1 h1
          have hbe : Rows.uptoBulk (elems[i]'(by omega)).1 ≤ N := by
            rw [hxe] at hb0
            exact Nat.le_trans (bulk_part (List.mem_map.2 ⟨_, List.getElem_mem _, rfl⟩)) (Nat.le_trans (bulk_elems _ _) hb0)
          obtain ⟨ds, hds⟩ := (ih n cs' _ h3 hbe).cells
          exact ⟨(cs', ds), fun _ => ⟨by rw [← hc]; exact h2, hds⟩⟩
        · exact ⟨([], []), fun h => absurd h hi⟩
      have hpos : 0 < L.length := List.length_pos_iff.2 hne
      have hspot : 0 < len → a.spot = none ∧ a.block < w.heap.size := fun h0 => by
        obtain ⟨h1, h2, _⟩ := (key 0).choose_spec h0
        obtain ⟨_, _, h4⟩ := World.cells?_some h1
        have h5 := h4 0 hpos
        rw [List.getElem?_eq_getElem (by omega)] at h5
        simp only [Nat.zero_mul] at h5
        have h6 := cell?_lt h5
        simp [Addr.add] at h6
        exact ⟨h6.2, h6.1⟩
      have hadd : 0 < len → ∀ q, a.add q = ⟨a.block, a.off + q, none⟩ := fun h0 q => by
        have := (hspot h0).1
        obtain ⟨b, o, s⟩ := a
        simp only at this
        subst this
        exact add_plain' b o q
      let es : List (List DV) := (List.range len).map (fun i => (key i).choose.2)
      have hes : ∀ (i : Nat) e, es[i]? = some e → i < len ∧ e = (key i).choose.2 := fun i e hi => by
        simp only [es, List.getElem?_map] at hi
        obtain ⟨q, hq, rfl⟩ := Option.map_eq_some_iff.1 hi
        have hlt : i < len := by have := (List.getElem?_eq_some_iff.1 hq).1; simpa using this
        rw [List.getElem?_range hlt] at hq
        obtain rfl := Option.some.inj hq
        exact ⟨hlt, rfl⟩
      have hcell : ∀ (i : Nat) e (j : Nat) d, es[i]? = some e → e[j]? = some d → ∃ v ty, L[j]? = some ty ∧ w.cell? ⟨a.block, a.off + (i * L.length + j), none⟩ = some v ∧ ((key i).choose.1)[j]? = some v ∧ Rep w (AllF w) v d ∧ HasD ty d ∧ v.oneCell' = true ∧ SmallD N d := fun i e j d hi hj => by
        obtain ⟨hlt, rfl⟩ := hes i e hi
        obtain ⟨h1, h2, h3, h4⟩ := (key i).choose_spec hlt
        obtain ⟨_, _, h5⟩ := World.cells?_some h1
        have hjl : j < L.length := by rw [← h3]; exact (List.getElem?_eq_some_iff.1 hj).1
        have hv := List.getElem?_eq_getElem (show j < ((key i).choose.1).length by omega)
        refine ⟨_, _, List.getElem?_eq_getElem hjl, ?_, hv, h4 j _ d _ hv hj (List.getElem?_eq_getElem hjl)⟩
        rw [← hv, ← h5 j hjl, hadd (by omega), add_plain', Nat.add_assoc]
      have hesl : es.length = len := by simp [es]
      have hmx : maxLen = lenB := by decide
      refine .one (d := .isl false L.length es) (.isl (b := a.block) (o := a.off) (fun i j => (((key i).choose.1)[j]?).getD undef) hesl.symm hl (by omega) (fun h => by cases h) (fun hne' => ?_) (fun i e hi => ?_) (fun i e j d hi hj => ?_) (fun i e j d hi hj => ?_)) (.sl (fun i e hi => ?_) (fun i e j d ty hi hj hty => ?_)) rfl (.isl (by rw [hesl, ← hlen]; rw [hxe] at hb0; exact Nat.le_trans (by simpa using bulk_len (elems.map (·.1))) (Nat.le_trans (bulk_elems _ _) hb0)) (fun i e j d hi hj => by obtain ⟨_, _, _, _, _, _, _, _, h7⟩ := hcell i e j d hi hj; exact h7))
      · have h0 : 0 < len := by
          rcases Nat.eq_zero_or_pos len with h | h
          · exact absurd (by simp [es, h]) hne'
          · exact h
        refine ⟨?_, (hspot h0).2⟩
        have := (hspot h0).1
        obtain ⟨b, o, s⟩ := a
        simp only at this
        subst this
        rfl
      · obtain ⟨hlt, rfl⟩ := hes i e hi; exact ((key i).choose_spec hlt).2.2.1
      · obtain ⟨v, ty, _, h2, h3, _, _, h6, _⟩ := hcell i e j d hi hj
        simp only [h3, Option.getD_some]
        exact ⟨h2, h6⟩
      · obtain ⟨v, ty, _, _, h3, h4, _⟩ := hcell i e j d hi hj
        simp only [h3, Option.getD_some]
        exact h4
      · obtain ⟨hlt, rfl⟩ := hes i e hi; exact ((key i).choose_spec hlt).2.2.1
      · obtain ⟨v, ty', h1, _, _, _, h5, _⟩ := hcell i e j d hi hj
        rw [h1] at hty
        obtain rfl := Option.some.inj hty
        exact h5
  | @struct t fs Ls h hc hl hf ho ih =>
    intro fuel cs x hx hb0
    obtain ⟨xs, n, rfl, hxe, hlen, hxl, hx⟩ := DataW.trod_struct h hx
    refine ⟨hlen.trans hc, fun j v ty hv hty => ?_⟩
    obtain ⟨i, Li, q, h1, h2, rfl⟩ := flatten_find Ls j ty hty
    have hi : i < fs.size := by rw [← hl]; exact (List.getElem?_eq_some_iff.1 h1).1
    have hfi := Array.getElem?_eq_getElem hi
    obtain ⟨o1, o2⟩ := ho i _ Li hfi h1
    have h3 := hx i _ hfi
    rw [List.getElem?_eq_getElem (show i < xs.length by omega)] at h3
    have hbe : Rows.uptoBulk (xs[i]'(by omega)).1 ≤ N := by
      rw [hxe] at hb0
      exact Nat.le_trans (bulk_part (List.mem_map.2 ⟨_, List.getElem_mem _, rfl⟩)) (Nat.le_trans (bulk_agg _) hb0)
    obtain ⟨_, h4⟩ := ih i _ Li hfi h1 n _ _ h3 hbe
    have hql : q < Li.length := (List.getElem?_eq_some_iff.1 h2).1
    exact h4 q v ty (by rw [List.getElem?_take, if_pos (by omega), List.getElem?_drop, o1]; exact hv) h2

/-- An argument of one cell. -/
theorem arg_repS {N : Nat} {H : Type} {enc : TypeId × Value → H} {P : Program} {w : World} {sp : Nat → Bool} {held : Bool} {t : TypeId} {ty : DTy} {v : Value} {d : DataW H} {p : List MemPlace} (hT : TyIs P t [ty]) (h : DataW.Trod enc P w 0 sp held t v d p) (hv : v.cells = #[v]) (hb : Rows.uptoBulk d ≤ N) : ∃ dv, Rep w (AllF w) v dv ∧ HasD ty dv ∧ SmallD N dv := by
  obtain ⟨fuel, h⟩ := h
  rw [hv] at h
  obtain ⟨ds, h1, h2, h3⟩ := (pws_trod hT fuel _ _ h hb).cells
  match ds, h2 with
  | [dv], _ => exact ⟨dv, (h3 0 v dv ty rfl rfl rfl).1, (h3 0 v dv ty rfl rfl rfl).2.1, (h3 0 v dv ty rfl rfl rfl).2.2.2⟩
end Go.GH
namespace Go.GH
open Go
abbrev TIt : List DTy := [.int .u32, .str, .bool, .bool]
abbrev TRu : List DTy := [.int .i32, .str, .sl TIt, .sl TIt, .bool, .bool]
theorem ElemIs.item {e : List DV} (h : ElemIs TIt e) : ∃ x : Item, e = encIt x := by
  obtain ⟨h1, h2⟩ := h
  match e, h1 with
  | [d0, d1, d2, d3], _ =>
    obtain ⟨n, rfl, _⟩ := (h2 0 d0 _ rfl rfl).int_inv
    obtain ⟨s, rfl⟩ := (h2 1 d1 _ rfl rfl).str_inv
    obtain ⟨b, rfl⟩ := (h2 2 d2 _ rfl rfl).bool_inv
    obtain ⟨c, rfl⟩ := (h2 3 d3 _ rfl rfl).bool_inv
    exact ⟨⟨n, s, b, c⟩, rfl⟩
theorem HasD.items {d : DV} (h : HasD (.sl TIt) d) : ∃ p, d = DIts p := h.slice (f := encIt) (fun e he => he.item)
theorem ElemIs.rule {e : List DV} (h : ElemIs TRu e) : ∃ r : Rule, e = encR r := by
  obtain ⟨h1, h2⟩ := h
  match e, h1 with
  | [d0, d1, d2, d3, d4, d5], _ =>
    obtain ⟨n, rfl, _⟩ := (h2 0 d0 _ rfl rfl).int_inv
    obtain ⟨s, rfl⟩ := (h2 1 d1 _ rfl rfl).str_inv
    obtain ⟨p, rfl⟩ := (h2 2 d2 _ rfl rfl).items
    obtain ⟨q, rfl⟩ := (h2 3 d3 _ rfl rfl).items
    obtain ⟨b, rfl⟩ := (h2 4 d4 _ rfl rfl).bool_inv
    obtain ⟨c, rfl⟩ := (h2 5 d5 _ rfl rfl).bool_inv
    exact ⟨⟨n, s, p, q, b, c⟩, rfl⟩
theorem HasD.rules {d : DV} (h : HasD (.sl TRu) d) : ∃ l, d = DRs l := h.slice (f := encR) (fun e he => he.rule)
theorem SmallD.str {N : Nat} {s : ByteArray} (h : SmallD N (.v (.string s))) : s.size ≤ N := by cases h with | v h => exact h s rfl
theorem SmallD.items {N : Nat} {p : List Item} (h : SmallD N (DIts p)) : ∀ x ∈ p, x.lets.size ≤ N := fun x hx => by
  obtain ⟨i, hi⟩ := List.mem_iff_getElem?.1 hx
  cases h with
  | isl hl h => exact (h i (encIt x) 1 (.v (.string x.lets)) (by rw [List.getElem?_map, hi]; rfl) rfl).str
theorem SmallD.len {N : Nat} {nn : Bool} {sz : Nat} {es : List (List DV)} (h : SmallD N (.isl nn sz es)) : es.length ≤ N := by cases h with | isl hl _ => exact hl
theorem SmallD.ruleE {r : Rule} (h : ∀ d ∈ encR r, SmallD 1048576 d) : SmR r :=
  ⟨(h (.v (.string r.«to»)) (by simp [encR])).str, (h (DIts r.left) (by simp [encR])).items, (h (DIts r.right) (by simp [encR])).items⟩
theorem SmallD.rules {l : List Rule} (h : SmallD 1048576 (DRs l)) : ∀ r ∈ l, SmR r := fun r hr => by
  obtain ⟨i, hi⟩ := List.mem_iff_getElem?.1 hr
  cases h with
  | isl hl h =>
    refine SmallD.ruleE (fun d hd => ?_)
    obtain ⟨j, hj⟩ := List.mem_iff_getElem?.1 hd
    exact h i (encR r) j d (by rw [List.getElem?_map, hi]; rfl) hj
end Go.GH
namespace Go.GH
open Go
theorem SmallD.strs {N : Nat} {l : List ByteArray} (h : SmallD N (DStrs l)) : ∀ s ∈ l, s.size ≤ N := fun s hs => by
  obtain ⟨i, hi⟩ := List.mem_iff_getElem?.1 hs
  cases h with
  | isl hl h => exact (h i (encS s) 0 (.v (.string s)) (by rw [List.getElem?_map, hi]; rfl) rfl).str
end Go.GH
namespace Go.GH
open Go Go.Proofs
variable {E : Env} {st : St} {ops : Array Oper} {rest : List Oper} {R : St → Prop} {t : Tmp} {ty : TypeId} {pos : String} {aft : Array Edge} {g : Option (Nat × Bool)} {pu : Bool}
end Go.GH
namespace Go.GH
open Go
def dropTo (s : ByteArray) (i : Nat) : ByteArray := ⟨((s.data.toList.take i).filter (fun b => !(b == 61))).toArray⟩
theorem dropTo_size (s : ByteArray) (i : Nat) : (dropTo s i).size ≤ i := by
  show ((s.data.toList.take i).filter _).toArray.size ≤ i
  rw [List.size_toArray]
  exact Nat.le_trans (List.length_filter_le _ _) (by rw [List.length_take]; omega)
theorem one_byte {s : ByteArray} {i : Nat} (h : i < s.size) : (s.extract i (i + 1)).data.toList = [s[i]] := by
  rw [ByteArray.data_extract]
  have h2 : i < s.data.toList.length := by simpa using h
  rw [Array.toList_extract, List.extract_eq_drop_take, List.drop_eq_getElem_cons h2]
  rw [show i + 1 - i = 1 by omega]
  simp only [List.take_succ_cons, List.take_zero]
  rw [list_at h h2]
theorem ba_ext {x y : ByteArray} (h : x.data.toList = y.data.toList) : x = y := ByteArray.ext (Array.toList_inj.1 h)
theorem drop_yes {s : ByteArray} {i : Nat} (h : i < s.size) (hn : ¬ ((s[i]).toNat : Int) = 61) : dropTo s (i + 1) = dropTo s i ++ s.extract i (i + 1) := by
  have h2 : i < s.data.toList.length := by simpa using h
  apply ba_ext
  rw [ByteArray.data_append, Array.toList_append, one_byte h]
  show ((s.data.toList.take (i + 1)).filter _).toArray.toList = ((s.data.toList.take i).filter _).toArray.toList ++ _
  rw [take_next h2, List.filter_append, List.filter_cons, List.filter_nil, list_at h h2, byte61, decide_eq_false hn]
  rfl
theorem drop_no {s : ByteArray} {i : Nat} (h : i < s.size) (hn : ((s[i]).toNat : Int) = 61) : dropTo s (i + 1) = dropTo s i := by
  have h2 : i < s.data.toList.length := by simpa using h
  unfold dropTo
  rw [take_next h2, List.filter_append, List.filter_cons, List.filter_nil, list_at h h2, byte61, decide_eq_true hn]
  simp
theorem drop_all {s : ByteArray} {i : Nat} (h : s.size ≤ i) : dropTo s i = dropB s := by
  unfold dropTo dropB
  rw [List.take_of_length_le (by simpa using h)]
theorem casc_bad {x : List ByteArray × Int} (h : ¬ (cascX x).2 = 0) : (cascX x).1 = ⟨#[]⟩ := by
  unfold cascX at h ⊢
  split
  · rename_i h2; rw [if_pos h2] at h; exact absurd rfl h
  · rfl
theorem casc_size (a : List Letter) (l : List Rule) (h c : ByteArray) : (cascE a l h c).1.size ≤ 160 := by
  by_cases h0 : (cascE a l h c).2 = 0
  · have := casc_word (show (cascX (traceR (extA a) l (joinE h c))).2 = 0 from h0)
    have h2 := utf8_size this.2
    show (cascX (traceR (extA a) l (joinE h c))).1.size ≤ 160
    omega
  · have := casc_bad (show ¬ (cascX (traceR (extA a) l (joinE h c))).2 = 0 from h0)
    show (cascX (traceR (extA a) l (joinE h c))).1.size ≤ 160
    rw [this]; decide
theorem att_ref {a : List Letter} {l : List Rule} {h c : ByteArray} (h40 : ¬ 40 < (runes h).length + 1 + (runes c).length) : attE a l h c = (dropB (cascE a l h c).1, (cascE a l h c).2) := by
  unfold attE
  rw [if_neg h40]
  by_cases h0 : (cascE a l h c).2 = 0
  · have := casc_word (show (cascX (traceR (extA a) l (joinE h c))).2 = 0 from h0)
    rw [if_pos h0, h0, dropE_eq (show utf8R (cascE a l h c).1 = true from this.2)]
  · have := casc_bad (show ¬ (cascX (traceR (extA a) l (joinE h c))).2 = 0 from h0)
    rw [if_neg h0, show (cascE a l h c).1 = ⟨#[]⟩ from this]
    rfl
end Go.GH
namespace Go.GH
open Go Go.Proofs
variable {E : Env}
theorem q14Words (a : List Letter) (l : List ByteArray) (hz : ∀ s ∈ l, s.size ≤ 1048576) : GCall Tryd.prog E 26 [DLs a, DStrs l] [] (fun d H => d = .v (.bool (l.all (isWordA a))) ∧ H = []) := by
 refine GCall.body (C := ⟨Tryd.prog, E, true⟩) Tryd.func26 rfl (fun _ => rfl) (by kernel_rfl) rfl ?_
 refine SCode.seqR (SOps.assign rfl (SOps.nil (SCode.seq (SCode.seqR (SOps.assign rfl (SOps.nil (SCode.block (SCode.loop1 (fun (i : Nat) => (⟨19, [(0, DLs a), (1, DStrs l), (5, .v (.int .i64 (i : Int)))], []⟩ : St)) (fun (i : Nat) => i ≤ l.length ∧ ∀ s ∈ l.take i, isWordA a s = true) (fun (i : Nat) => l.length - i) (0) (by simp) (St.Le.of ⟨(by first | rfl | (show some _ = some _; simp)), (by first | rfl | (show some _ = some _; simp)), (by first | rfl | (show some _ = some _; simp)), trivial⟩ rfl (by first | rfl | (simp))) ?_))))))))
 rintro i ⟨hi, hf⟩
 refine SCode.fact (isl_len (t := 1) rfl) (fun hB => ?_)
 simp only [List.length_map, lenB] at hB
 refine SCode.seq (SCode.seqR (SOps.move rfl (SOps.move rfl (SOps.lenM rfl sliceB_35_9_1 (SOps.bin rfl rfl rfl (SOps.nil ?_))))))
 refine SCode.cond rfl (fun hc1 => ?_) (fun hc1 => ?_)
 ·try simp only [nmL] at hc1
  refine SCode.skip ?_
  show SCode _ _ _ _
  refine SCode.seq (SCode.block (SCode.seqR ?_))
  have hzi := hz _ (List.getElem_mem (show i < l.length by omega))
  refine SOps.move rfl (SOps.move rfl (SOps.move rfl (SOps.indexM (i) rfl rfl sliceB_35_9_1 (by first | omega | (simp only [lenB]; omega)) (by first | omega | (simp only [lenB]; omega)) (SOps.loadPin rfl flatB_9 (SOps.callP (q10Word _ _ hzi) rfl ?_)))))
  rintro _ rfl
  refine SOps.un rfl rfl (SOps.nil ?_)
  refine SCode.cond rfl (fun hc2 => ?_) (fun hc2 => ?_)
  ·try simp only [nmL] at hc2
   refine SCode.seqR (SOps.assign rfl (SOps.nil (SCode.ret ?_)))
   exact ⟨_, Res.one (.tmp rfl), congrArg (fun b => DV.v (.bool b)) (Eq.symm (Bool.eq_false_iff.2 (fun h => by rw [List.all_eq_true] at h; have := h _ (List.getElem_mem (show i < l.length by omega)); simp_all))), rfl⟩
  ·try simp only [nmL] at hc2
   refine SCode.skip ?_
   show SCode _ _ _ _
   refine SCode.region (SOps.move rfl (SOps.addI rfl rfl (by first | omega | (simp only [lenB]; omega)) (by first | omega | (simp only [lenB]; omega)) (SOps.assign rfl (SOps.nil ?_))))
   exact ⟨i + 1, by exact ⟨by omega, take_more hf (by omega) (by simp_all)⟩, by omega, (St.Le.of ⟨(by first | rfl | (show some _ = some _; simp)), (by first | rfl | (show some _ = some _; simp)), (by first | rfl | (show some _ = some _; simp)), trivial⟩ rfl (by first | rfl | (simp)))⟩
 ·try simp only [nmL] at hc1
  refine SCode.exit ?_
  show SCode _ _ _ _
  refine SCode.seqR (SOps.assign rfl (SOps.nil (SCode.ret ?_)))
  exact ⟨_, Res.one (.tmp rfl), congrArg (fun b => DV.v (.bool b)) (Eq.symm (List.all_eq_true.2 (all_of (by omega) hf))), rfl⟩
theorem q14Without (s : ByteArray) (hs : s.size ≤ 1048576) : GCall Tryd.prog E 44 [.v (.string s)] [] (fun d H => d = .v (.string (dropB s)) ∧ H = []) := by
 refine GCall.body (C := ⟨Tryd.prog, E, true⟩) Tryd.func44 rfl (fun _ => rfl) (by kernel_rfl) rfl ?_
 refine SCode.seqR (SOps.assign rfl (SOps.nil (SCode.seqR (SOps.assign rfl (SOps.nil (SCode.seq (SCode.seqR (SOps.assign rfl (SOps.nil (SCode.block (SCode.loop1 (fun (i : Nat) => (⟨23, [(0, .v (.string s)), (3, .v (.string (dropTo s i))), (4, .v (.int .i64 (i : Int)))], []⟩ : St)) (fun (i : Nat) => i ≤ s.size) (fun (i : Nat) => s.size - i) (0) (by exact Nat.zero_le _) (St.Le.of ⟨(by first | rfl | (show some _ = some _; simp)), (by first | rfl | (show some _ = some _; simp)), (by first | rfl | (show some _ = some _; simp)), trivial⟩ rfl (by first | rfl | (simp))) ?_)))))))))))
 rintro i hi
 refine SCode.seq (SCode.seqR (SOps.move rfl (SOps.move rfl (SOps.lenStr rfl strB_9 (SOps.bin rfl rfl rfl (SOps.nil ?_))))))
 refine SCode.cond rfl (fun hc1 => ?_) (fun hc1 => ?_)
 ·try simp only [nmL] at hc1
  refine SCode.skip ?_
  show SCode _ _ _ _
  refine SCode.seq (SCode.block (SCode.seqR (SOps.move rfl (SOps.move rfl (SOps.strIndexM (i) rfl rfl strB_9 (by first | omega | (simp only [lenB]; omega)) (by first | omega | (simp only [lenB]; omega)) (SOps.bin rfl rfl rfl (SOps.nil ?_)))))))
  refine SCode.cond rfl (fun hc2 => ?_) (fun hc2 => ?_)
  ·try simp only [nmL] at hc2
   refine SCode.region (SOps.move rfl (SOps.move rfl (SOps.move rfl (SOps.move rfl (SOps.addI rfl rfl (by first | omega | (simp only [lenB]; omega)) (by first | omega | (simp only [lenB]; omega)) (SOps.sliceStr (i) ((i + 1)) strB_9 rfl (.at (i) rfl (by first | omega | (simp only [lenB]; omega))) (.at ((i + 1)) rfl (by first | omega | (simp only [lenB]; omega))) (by first | omega | (simp only [lenB]; omega)) (by first | omega | (simp only [lenB]; omega)) (SOps.concat rfl rfl (by simp only [lenB, ByteArray.size_append, ByteArray.size_extract]; have := dropTo_size s i; omega) (SOps.assign rfl (SOps.nil ?_)))))))))
   show SCode _ _ _ _
   refine SCode.region (SOps.move rfl (SOps.addI rfl rfl (by first | omega | (simp only [lenB]; omega)) (by first | omega | (simp only [lenB]; omega)) (SOps.assign rfl (SOps.nil ?_))))
   first
    | exact ⟨i + 1, by omega, by omega, St.Le.of ⟨rfl, (by rw [drop_yes (show i < s.size by omega) hc2]; rfl), rfl, trivial⟩⟩
    | exact ⟨i + 1, by omega, by omega, St.Le.of ⟨rfl, (by rw [drop_no (show i < s.size by omega) hc2]; rfl), rfl, trivial⟩⟩
    | exact ⟨i + 1, by omega, by omega, St.Le.of ⟨rfl, (by rw [drop_no (show i < s.size by omega) (by omega)]; rfl), rfl, trivial⟩⟩
  ·try simp only [nmL] at hc2
   refine SCode.skip ?_
   show SCode _ _ _ _
   refine SCode.region (SOps.move rfl (SOps.addI rfl rfl (by first | omega | (simp only [lenB]; omega)) (by first | omega | (simp only [lenB]; omega)) (SOps.assign rfl (SOps.nil ?_))))
   first
    | exact ⟨i + 1, by omega, by omega, St.Le.of ⟨rfl, (by rw [drop_yes (show i < s.size by omega) hc2]; rfl), rfl, trivial⟩⟩
    | exact ⟨i + 1, by omega, by omega, St.Le.of ⟨rfl, (by rw [drop_no (show i < s.size by omega) hc2]; rfl), rfl, trivial⟩⟩
    | exact ⟨i + 1, by omega, by omega, St.Le.of ⟨rfl, (by rw [drop_no (show i < s.size by omega) (by omega)]; rfl), rfl, trivial⟩⟩
 ·try simp only [nmL] at hc1
  refine SCode.exit ?_
  show SCode _ _ _ _
  refine SCode.seqR (SOps.move rfl (SOps.assign rfl (SOps.nil (SCode.ret ?_))))
  exact ⟨_, Res.one (.tmp rfl), by rw [drop_all (by omega)], rfl⟩
theorem q14Attach (hV : VS E) (a : List Letter) (l : List Rule) (h c : ByteArray) (hr : ∀ r ∈ l, SmR r) (h1 : isWordA a h = true) (h2 : isWordA a c = true) (ha : a.length ≤ 64) : GCall Tryd.prog E 18 [DLs a, DRs l, .v (.string h), .v (.string c)] [] (fun d H => d = tupA (attE a l h c) ∧ H = []) := by
 have hq1 := word_facts h1
 have hq2 := word_facts h2
 have hjw := join_word hq1.1 hq2.1
 have hcz := casc_size a l h c
 have hjs : (joinE h c).size ≤ 1048576 := by show (h ++ eqB ++ c).size ≤ _; rw [ByteArray.size_append, ByteArray.size_append, show eqB.size = 1 from rfl]; omega
 refine GCall.body (C := ⟨Tryd.prog, E, true⟩) Tryd.func18 rfl (fun _ => rfl) (by kernel_rfl) rfl ?_
 refine SCode.seqR (SOps.assign rfl (SOps.assign rfl (SOps.nil (SCode.seqR (SOps.move rfl (SOps.callP (q14Extended _ (by omega)) rfl ?_))))))
 rintro _ rfl
 refine SOps.assign rfl (SOps.nil (SCode.seqR (SOps.move rfl (SOps.concat rfl rfl (by simp only [lenB, ByteArray.size_append]; have : (ByteArray.mk #[61]).size = 1 := rfl; omega) (SOps.move rfl (SOps.concat rfl rfl (by simp only [lenB, ByteArray.size_append]; have : (ByteArray.mk #[61]).size = 1 := rfl; omega) (SOps.assign rfl (SOps.nil (SCode.seq (SCode.seqR (SOps.move rfl (SOps.move rfl (SOps.callP (qWord hV _ (joinE h c)) rfl ?_)))))))))))))
 rintro _ rfl
 refine SOps.un rfl rfl (SOps.nil ?_)
 refine SCode.cond rfl (fun hc1 => ?_) (fun hc1 => ?_)
 ·try simp only [nmL] at hc1
  refine SCode.seqR (SOps.assign rfl (SOps.assign rfl (SOps.nil (SCode.ret ?_))))
  exact ⟨_, Res.two (.tmp rfl) (.tmp rfl), (by unfold attE; rw [if_pos (by have h9 := hc1; rw [hjw] at h9; have := of_decide_eq_false h9; omega)]; rfl), rfl⟩
 ·try simp only [nmL] at hc1
  refine SCode.skip ?_
  show SCode _ _ _ _
  refine SCode.seqR (SOps.move rfl (SOps.move rfl (SOps.move rfl (SOps.callP (qCascade' hV (extA a) l (joinE h c) hr hjs) rfl ?_))))
  rintro _ rfl
  refine SOps.move rfl (SOps.extract rfl rfl (SOps.extract rfl rfl (SOps.assign rfl (SOps.assign rfl (SOps.nil (SCode.seqR (SOps.move rfl (SOps.callP (q14Without (cascE a l h c).1 (by omega)) rfl ?_))))))))
  rintro _ rfl
  refine SOps.move rfl (SOps.assign rfl (SOps.assign rfl (SOps.nil (SCode.ret ?_))))
  exact ⟨_, Res.two (.tmp rfl) (.tmp rfl), (by rw [att_ref (by have h9 := hc1; rw [hjw] at h9; have := of_decide_eq_true h9; omega)]; rfl), rfl⟩
end Go.GH
namespace Go.GH
open Go
end Go.GH
namespace Go.GH
open Go
instance sgDec : DecidableEq Sg := fun x y => if h : x.host = y.host ∧ x.cls = y.cls then .isTrue (by cases x; cases y; simp_all) else .isFalse (fun e => h (by subst e; exact ⟨rfl, rfl⟩))
theorem sg_ext {x y : Sg} (h1 : x.host = y.host) (h2 : x.cls = y.cls) : x = y := by cases x; cases y; simp_all
theorem memS_next {l : List ByteArray} {k : Nat} (hk : k < l.length) (s : ByteArray) : memS s (l.take (k + 1)) = (memS s (l.take k) || decide (l[k] = s)) := by
  rw [take_next hk, memS_snoc]
def sqA (cs : List ByteArray) (i : Nat) : List (List ByteArray) := [] :: (cs.take i).map (fun c => [c])
def sqB (cs : List ByteArray) (i : Nat) : List (List ByteArray) := [] :: (cs.map (fun c => [c]) ++ (cs.take i).flatMap (fun c => cs.map (fun d => [c, d])))
def sqC (cs : List ByteArray) (i k : Nat) : List (List ByteArray) := sqB cs i ++ (cs.take k).map (fun d => [cs.getD i .empty, d])
theorem getD_at {l : List ByteArray} {i : Nat} (h : i < l.length) : l.getD i .empty = l[i] := by rw [List.getD_eq_getElem?_getD, List.getElem?_eq_getElem h]; rfl
theorem sqA_next {cs : List ByteArray} {i : Nat} (h : i < cs.length) : sqA cs (i + 1) = sqA cs i ++ [[cs[i]]] := by
  unfold sqA
  rw [take_next h, List.map_append, List.cons_append]; rfl
theorem sqA_all {cs : List ByteArray} {i : Nat} (h : cs.length ≤ i) : sqA cs i = sqB cs 0 := by
  unfold sqA sqB
  rw [List.take_of_length_le h, List.take_zero, List.flatMap_nil, List.append_nil]
theorem sqC_zero (cs : List ByteArray) (i : Nat) : sqC cs i 0 = sqB cs i := by unfold sqC; rw [List.take_zero, List.map_nil, List.append_nil]
theorem sqC_next {cs : List ByteArray} {i k : Nat} (hi : i < cs.length) (hk : k < cs.length) : sqC cs i (k + 1) = sqC cs i k ++ [[cs[i], cs[k]]] := by
  unfold sqC
  rw [take_next hk, List.map_append, List.append_assoc, getD_at hi]; rfl
theorem sqC_all {cs : List ByteArray} {i k : Nat} (hi : i < cs.length) (hk : cs.length ≤ k) : sqC cs i k = sqB cs (i + 1) := by
  unfold sqC sqB
  rw [take_next hi, List.take_of_length_le hk, List.flatMap_append, getD_at hi, List.cons_append, List.append_assoc]
  simp
theorem sqB_all {cs : List ByteArray} {i : Nat} (h : cs.length ≤ i) : sqB cs i = seqL cs := by
  unfold sqB seqL
  rw [List.take_of_length_le h]
theorem sqA_len (cs : List ByteArray) (i : Nat) : (sqA cs i).length ≤ 1 + cs.length := by
  unfold sqA
  rw [List.length_cons, List.length_map, List.length_take]; omega
theorem flatm_len {α : Type} (cs : List ByteArray) (xs : List α) (f : α → ByteArray → List ByteArray) : (xs.flatMap (fun c => cs.map (f c))).length = xs.length * cs.length := by
  induction xs with
  | nil => simp
  | cons x xs ih => rw [List.flatMap_cons, List.length_append, ih, List.length_map, List.length_cons, Nat.add_mul]; omega
theorem sqB_len (cs : List ByteArray) (i : Nat) : (sqB cs i).length ≤ 1 + cs.length + cs.length * cs.length := by
  unfold sqB
  rw [List.length_cons, List.length_append, List.length_map, flatm_len cs (cs.take i) (fun c d => [c, d]), List.length_take]
  have : min i cs.length * cs.length ≤ cs.length * cs.length := Nat.mul_le_mul_right _ (Nat.min_le_right ..)
  omega
theorem sqC_len (cs : List ByteArray) (i k : Nat) : (sqC cs i k).length ≤ 1 + cs.length + cs.length * cs.length + cs.length := by
  unfold sqC
  rw [List.length_append, List.length_map, List.length_take]
  have := sqB_len cs i
  omega
theorem once_few {l : List ByteArray} {n : Nat} (h : l.length ≤ n) : (onceL l).length ≤ n := Nat.le_trans (onceN_len l l.length) h
/-! segments with a form, host by host -/
def spA (a : List Letter) (l : List Rule) (w : ByteArray) (hs : List ByteArray) (qs : List (List ByteArray)) (i : Nat) : List Sg := ((hs.take i).flatMap (fun h => qs.map (fun q => (⟨h, q⟩ : Sg)))).filter (okSg a l w)
def spB (a : List Letter) (l : List Rule) (w : ByteArray) (hs : List ByteArray) (qs : List (List ByteArray)) (i k : Nat) : List Sg := spA a l w hs qs i ++ ((qs.take k).map (fun q => (⟨hs.getD i .empty, q⟩ : Sg))).filter (okSg a l w)
theorem spB_zero (a : List Letter) (l : List Rule) (w : ByteArray) (hs : List ByteArray) (qs : List (List ByteArray)) (i : Nat) : spB a l w hs qs i 0 = spA a l w hs qs i := by
  unfold spB
  rw [List.take_zero, List.map_nil, List.filter_nil, List.append_nil]
theorem spB_next {a : List Letter} {l : List Rule} {w : ByteArray} {hs : List ByteArray} {qs : List (List ByteArray)} {i k : Nat} (hi : i < hs.length) (hk : k < qs.length) :
    spB a l w hs qs i (k + 1) = if okSg a l w ⟨hs[i], qs[k]⟩ = true then spB a l w hs qs i k ++ [⟨hs[i], qs[k]⟩] else spB a l w hs qs i k := by
  unfold spB
  rw [take_next hk, List.map_append, List.filter_append, getD_at hi, List.map_cons, List.map_nil, List.filter_cons, List.filter_nil]
  split <;> simp
theorem spB_all {a : List Letter} {l : List Rule} {w : ByteArray} {hs : List ByteArray} {qs : List (List ByteArray)} {i k : Nat} (hi : i < hs.length) (hk : qs.length ≤ k) : spB a l w hs qs i k = spA a l w hs qs (i + 1) := by
  unfold spB spA
  rw [take_next hi, List.take_of_length_le hk, List.flatMap_append, List.filter_append, getD_at hi]
  simp
theorem spA_all {a : List Letter} {l : List Rule} {w : ByteArray} {hs cs : List ByteArray} {i : Nat} (h : (onceL hs).length ≤ i) : spA a l w (onceL hs) (seqL (onceL cs)) i = splitL a l hs cs w := by
  unfold spA splitL candL
  rw [List.take_of_length_le h]
theorem spA_len (a : List Letter) (l : List Rule) (w : ByteArray) (hs : List ByteArray) (qs : List (List ByteArray)) (i : Nat) : (spA a l w hs qs i).length ≤ hs.length * qs.length := by
  refine Nat.le_trans (List.length_filter_le _ _) ?_
  have key : ∀ xs : List ByteArray, (xs.flatMap (fun h => qs.map (fun q => (⟨h, q⟩ : Sg)))).length = xs.length * qs.length := fun xs => by
    induction xs with
    | nil => simp
    | cons x xs ih => rw [List.flatMap_cons, List.length_append, ih, List.length_map, List.length_cons, Nat.add_mul]; omega
  rw [key, List.length_take]
  exact Nat.mul_le_mul_right _ (Nat.min_le_right ..)
theorem spB_len (a : List Letter) (l : List Rule) (w : ByteArray) (hs : List ByteArray) (qs : List (List ByteArray)) (i k : Nat) : (spB a l w hs qs i k).length ≤ hs.length * qs.length + qs.length := by
  have h1 := spA_len a l w hs qs i
  have h2 := List.length_filter_le (okSg a l w) ((qs.take k).map (fun q => (⟨hs.getD i .empty, q⟩ : Sg)))
  rw [List.length_map, List.length_take] at h2
  unfold spB
  rw [List.length_append]
  omega
theorem split_few {a : List Letter} {l : List Rule} {w : ByteArray} {hs cs : List ByteArray} (h5 : hs.length ≤ 5) (h4 : cs.length ≤ 4) : (splitL a l hs cs w).length ≤ 105 := by
  refine Nat.le_trans (List.length_filter_le _ _) ?_
  exact cand_few h5 h4
theorem split_small {a : List Letter} {l : List Rule} {w : ByteArray} {hs cs : List ByteArray} (h5 : hs.length ≤ 5) (h4 : cs.length ≤ 4) : (splitR a l hs cs w).1.length ≤ 1048576 ∧ ∀ s ∈ (splitR a l hs cs w).1, s.cls.length ≤ 1048576 := by
  have hf := split_few (a := a) (l := l) (w := w) h5 h4
  unfold splitR
  split
  · rw [if_neg (by omega)]
    refine ⟨by show (splitL a l hs cs w).length ≤ _; omega, fun s hs => ?_⟩
    unfold splitL at hs
    have := (candL_mem (List.mem_filter.1 hs).1).2.1
    omega
  · exact ⟨Nat.zero_le _, fun s hs => by cases hs⟩
/-! what Split finds -/
/-! without rules -/
end Go.GH
namespace Go.GH
open Go Go.Proofs
variable {E : Env}
theorem elemB_35_1_24 : elemB Tryd.prog 35 1 24 = true := by kernel_rfl
theorem q14All (hV : VS E) (a : List Letter) (l : List Rule) (sg : Sg) (hr : ∀ r ∈ l, SmR r) (hh : isWordA a sg.host = true) (hc : ∀ c ∈ sg.cls, isWordA a c = true) (ha : a.length ≤ 64) (hcl : sg.cls.length ≤ 1000) : GCall Tryd.prog E 27 [DLs a, DRs l, .agg (encSg sg)] [] (fun d H => d = tupA (allE a l sg.host sg.cls) ∧ H = []) := by
 refine GCall.body (C := ⟨Tryd.prog, E, true⟩) Tryd.func27 rfl (fun _ => rfl) (by kernel_rfl) rfl ?_
 refine SCode.seqR (SOps.boxAM rfl rfl (SOps.assign rfl (SOps.assign rfl (SOps.nil (SCode.seqR (SOps.fieldPin rfl fieldB_50_0_0 (SOps.loadPin rfl flatB_9 (SOps.assign rfl (SOps.nil (SCode.seq (SCode.seqR (SOps.assign rfl (SOps.nil (SCode.block (SCode.loop2 (fun (i : Nat) (f : ByteArray) => (⟨38, [(0, DLs a), (1, DRs l), (5, .ipin (encSg sg)), (8, .v (.string f)), (9, .v (.int .i64 (i : Int)))], []⟩ : St)) (fun (i : Nat) (f : ByteArray) => i ≤ sg.cls.length ∧ isWordA a f = true ∧ allE a l f (sg.cls.drop i) = allE a l sg.host sg.cls) (fun (i : Nat) (f : ByteArray) => sg.cls.length - i) (0) (sg.host) (by exact ⟨Nat.zero_le _, hh, rfl⟩) (St.Le.of ⟨(by first | rfl | (show some _ = some _; simp)), (by first | rfl | (show some _ = some _; simp)), (by first | rfl | (show some _ = some _; simp)), (by first | rfl | (show some _ = some _; simp)), (by first | rfl | (show some _ = some _; simp)), trivial⟩ rfl (by first | rfl | (simp))) ?_)))))))))))))))
 rintro i f ⟨hi, hfw, hf⟩
 refine SCode.seq (SCode.seqR (SOps.move rfl (SOps.fieldPin rfl fieldB_50_1_1 (SOps.loadPin rfl flatB_35 (SOps.lenM rfl sliceB_35_9_1 (SOps.bin rfl rfl rfl (SOps.nil ?_)))))))
 refine SCode.cond rfl (fun hc1 => ?_) (fun hc1 => ?_)
 ·try simp only [nmL] at hc1
  refine SCode.skip ?_
  show SCode _ _ _ _
  refine SCode.seq (SCode.block (SCode.seqR ?_))
  have hil : i < sg.cls.length := by omega
  have hci := hc _ (List.getElem_mem hil)
  have hdr : sg.cls.drop i = sg.cls[i] :: sg.cls.drop (i + 1) := List.drop_eq_getElem_cons hil
  refine SOps.move rfl (SOps.move rfl (SOps.move rfl (SOps.fieldPin rfl fieldB_50_1_1 (SOps.loadPin rfl flatB_35 (SOps.move rfl (SOps.indexM (i) rfl rfl sliceB_35_9_1 (by first | omega | (simp only [lenB]; omega)) (by first | omega | (simp only [lenB]; omega)) (SOps.loadPin rfl flatB_9 (SOps.callP (q14Attach hV _ _ _ _ hr hfw hci ha) rfl ?_))))))))
  rintro _ rfl
  refine SOps.move rfl (SOps.extract rfl rfl (SOps.extract rfl rfl (SOps.assign rfl (SOps.assign rfl (SOps.nil (SCode.seq (SCode.seqR (SOps.move rfl (SOps.bin rfl rfl rfl (SOps.nil ?_))))))))))
  refine SCode.cond rfl (fun hc2 => ?_) (fun hc2 => ?_)
  ·try simp only [nmL] at hc2
   refine SCode.seqR (SOps.move rfl (SOps.assign rfl (SOps.assign rfl (SOps.nil (SCode.ret ?_)))))
   exact ⟨_, Res.two (.tmp rfl) (.tmp rfl), (by rw [← hf, hdr, allE, if_neg hc2]; rfl), rfl⟩
  ·try simp only [nmL] at hc2
   refine SCode.skip ?_
   show SCode _ _ _ _
   refine SCode.region (SOps.move rfl (SOps.assign rfl (SOps.nil ?_)))
   show SCode _ _ _ _
   refine SCode.region (SOps.move rfl (SOps.addI rfl rfl (by first | omega | (simp only [lenB]; omega)) (by first | omega | (simp only [lenB]; omega)) (SOps.assign rfl (SOps.nil ?_))))
   exact ⟨i + 1, (attE a l f (sg.cls[i])).1, ⟨by omega, att_word hfw hci hc2, by rw [← hf, hdr, allE, if_pos hc2]⟩, by omega, St.Le.of ⟨rfl, rfl, rfl, rfl, rfl, trivial⟩⟩
 ·try simp only [nmL] at hc1
  refine SCode.exit ?_
  show SCode _ _ _ _
  refine SCode.seqR (SOps.move rfl (SOps.assign rfl (SOps.assign rfl (SOps.nil (SCode.ret ?_)))))
  exact ⟨_, Res.two (.tmp rfl) (.tmp rfl), (by rw [← hf, List.drop_eq_nil_of_le (by omega)]; rfl), rfl⟩
theorem q14Once (l : List ByteArray) (hl : l.length ≤ 1048576) : GCall Tryd.prog E 51 [DStrs l] [] (fun d H => d = DStrs (onceL l) ∧ H = []) := by
 refine GCall.body (C := ⟨Tryd.prog, E, true⟩) Tryd.func51 rfl (fun _ => rfl) (by kernel_rfl) rfl ?_
 refine SCode.seqR (SOps.assign rfl (SOps.nil (SCode.seqR ?_)))
 refine SOps.litO sliceB_35_9_1 zeroIs_9 rfl (fun b0 hb_0 => ?_)
 refine SOps.assign rfl (SOps.nil (SCode.seq (SCode.seqR (SOps.assign rfl (SOps.nil (SCode.block (SCode.loop2 (fun (i : Nat) (k : Nat) => (⟨41, [(0, DStrs l), (3, .sl k 1 0 (onceN l i).length), (4, .v (.int .i64 (i : Int)))], [(k, .row 9 1 ((onceN l i).map encS))]⟩ : St)) (fun (i : Nat) (k : Nat) => i ≤ l.length) (fun (i : Nat) (k : Nat) => l.length - i) (0) (b0) (by exact Nat.zero_le _) (St.Le.of ⟨(by first | rfl | (show some _ = some _; simp)), (by first | rfl | (show some _ = some _; simp)), (by first | rfl | (show some _ = some _; simp)), trivial⟩ rfl (by first | rfl | (simp))) ?_)))))))
 rintro i k hi
 have hol := onceN_len l i
 refine SCode.seq (SCode.seqR (SOps.move rfl (SOps.move rfl (SOps.lenM rfl sliceB_35_9_1 (SOps.bin rfl rfl rfl (SOps.nil ?_))))))
 refine SCode.cond rfl (fun hc1 => ?_) (fun hc1 => ?_)
 ·try simp only [nmL] at hc1
  refine SCode.skip ?_
  show SCode _ _ _ _
  refine SCode.seq (SCode.block (SCode.seqR (SOps.assign rfl (SOps.nil (SCode.seq (SCode.seqR (SOps.assign rfl (SOps.nil (SCode.block ?_)))))))))
  have hil : i < l.length := by omega
  have hon : onceN l (i + 1) = if memS (l[i]) (l.take i) then onceN l i else onceN l i ++ [l[i]] := by rw [onceN, getD_at hil]
  refine SCode.loop1 (fun (j : Nat) => (⟨41, [(0, DStrs l), (3, .sl k 1 0 (onceN l i).length), (4, .v (.int .i64 (i : Int))), (5, .v (.bool (memS (l[i]) (l.take j)))), (6, .v (.int .i64 (j : Int)))], [(k, .row 9 1 ((onceN l i).map encS))]⟩ : St)) (fun (j : Nat) => j ≤ i) (fun (j : Nat) => i - j) (0) (by exact Nat.zero_le _) (St.Le.of ⟨(by first | rfl | (show some _ = some _; simp)), (by first | rfl | (show some _ = some _; simp)), (by first | rfl | (show some _ = some _; simp)), (by first | rfl | (show some _ = some _; simp)), (by first | rfl | (show some _ = some _; simp)), trivial⟩ rfl (by first | rfl | (simp))) ?_
  rintro j hj
  refine SCode.seq (SCode.seqR (SOps.move rfl (SOps.move rfl (SOps.bin rfl rfl rfl (SOps.nil ?_)))))
  refine SCode.cond rfl (fun hc2 => ?_) (fun hc2 => ?_)
  ·try simp only [nmL] at hc2
   refine SCode.skip ?_
   show SCode _ _ _ _
   refine SCode.seq (SCode.block ?_)
   have hjl : j < l.length := by omega
   rcases hm : memS (l[i]) (l.take j) with _ | _
   ·apply SCode.drawAuto mixed_ [19, 20, 21, 22, 23, 24, 25, 26, 27, 28, 29, 30, 5] [[.inr 5], [.inl 0], [.inl 1, .inr 0], [.inl 1, .inr 6], [.inl 1, .inl 2, .inl 3], [.inl 1, .inl 4], [.inl 1, .inr 0], [.inl 1, .inr 4], [.inl 1, .inl 6, .inl 7], [.inl 1, .inl 8], [.inl 1, .inl 5, .inl 9], [.inl 1, .inl 10], [.inl 11]]
    ·kernel_rfl
    ·kernel_rfl
    ·apply DOk.cons 19 (.v (.bool false))
     ·rfl
     ·exact (NeedIs.inr _ rfl NeedIs.nil)
     ·intro rest
      refine SOps.move rfl ?_
      exact SOps.nil (congrArg (fun b => St.put _ 19 (.v (.bool b))) (rfl))
     apply DOk.cons 20 
     ·rfl
     ·exact (NeedIs.inl 0 _ _ rfl rfl NeedIs.nil)
     ·intro rest
      refine SOps.move rfl ?_
      exact SOps.nil rfl
     apply DOk.cons 21 
     ·rfl
     ·exact (NeedIs.inl 0 _ _ rfl rfl (NeedIs.inr _ rfl NeedIs.nil))
     ·intro rest
      refine SOps.move rfl ?_
      exact SOps.nil rfl
     apply DOk.cons 22 
     ·rfl
     ·exact (NeedIs.inl 1 _ _ rfl rfl (NeedIs.inr _ rfl NeedIs.nil))
     ·intro rest
      refine SOps.move rfl ?_
      exact SOps.nil rfl
     apply DOk.cons 23 
     ·rfl
     ·exact (NeedIs.inl 2 _ _ rfl rfl (NeedIs.inl 1 _ _ rfl rfl (NeedIs.inl 0 _ _ rfl rfl NeedIs.nil)))
     ·intro rest
      refine SOps.indexM (j) rfl rfl sliceB_35_9_1 (by first | omega | (simp only [lenB]; omega)) (by first | omega | (simp only [lenB]; omega)) ?_
      exact SOps.nil rfl
     apply DOk.cons 24 
     ·rfl
     ·exact (NeedIs.inl 3 _ _ rfl rfl (NeedIs.inl 0 _ _ rfl rfl NeedIs.nil))
     ·intro rest
      refine SOps.loadPin rfl flatB_9 ?_
      exact SOps.nil rfl
     apply DOk.cons 25 
     ·rfl
     ·exact (NeedIs.inl 4 _ _ rfl rfl (NeedIs.inr _ rfl NeedIs.nil))
     ·intro rest
      refine SOps.move rfl ?_
      exact SOps.nil rfl
     apply DOk.cons 26 
     ·rfl
     ·exact (NeedIs.inl 5 _ _ rfl rfl (NeedIs.inr _ rfl NeedIs.nil))
     ·intro rest
      refine SOps.move rfl ?_
      exact SOps.nil rfl
     apply DOk.cons 27 
     ·rfl
     ·exact (NeedIs.inl 6 _ _ rfl rfl (NeedIs.inl 1 _ _ rfl rfl (NeedIs.inl 0 _ _ rfl rfl NeedIs.nil)))
     ·intro rest
      refine SOps.indexM (i) rfl rfl sliceB_35_9_1 (by first | omega | (simp only [lenB]; omega)) (by first | omega | (simp only [lenB]; omega)) ?_
      exact SOps.nil rfl
     apply DOk.cons 28 
     ·rfl
     ·exact (NeedIs.inl 7 _ _ rfl rfl (NeedIs.inl 0 _ _ rfl rfl NeedIs.nil))
     ·intro rest
      refine SOps.loadPin rfl flatB_9 ?_
      exact SOps.nil rfl
     apply DOk.cons 29 
     ·rfl
     ·exact (NeedIs.inl 8 _ _ rfl rfl (NeedIs.inl 4 _ _ rfl rfl (NeedIs.inl 0 _ _ rfl rfl NeedIs.nil)))
     ·intro rest
      refine SOps.bin rfl rfl rfl ?_
      exact SOps.nil rfl
     apply DOk.cons 30 
     ·rfl
     ·exact (NeedIs.inl 9 _ _ rfl rfl (NeedIs.inl 0 _ _ rfl rfl NeedIs.nil))
     ·intro rest
      refine SOps.pick rfl rfl ?_
      exact SOps.nil rfl
     apply DOk.cons 5 
     ·rfl
     ·exact (NeedIs.inl 0 _ _ rfl rfl NeedIs.nil)
     ·intro rest
      refine SOps.assign rfl ?_
      exact SOps.nil rfl
     exact DOk.nil
    ·rfl
    ·show SCode _ _ _ _
     refine SCode.region (SOps.move rfl (SOps.addI rfl rfl (by first | omega | (simp only [lenB]; omega)) (by first | omega | (simp only [lenB]; omega)) (SOps.assign rfl (SOps.nil ?_))))
     exact ⟨j + 1, by omega, by omega, St.Le.of ⟨rfl, rfl, rfl, (by rw [memS_next hjl, hm]; rfl), rfl, trivial⟩⟩
   ·apply SCode.drawAuto mixed_ [19, 20, 21, 22, 23, 24, 25, 26, 27, 28, 29, 30, 5] [[.inr 5], [.inl 0], [.inl 1], [.inl 1], [.inl 1], [.inl 1], [.inl 1], [.inl 1], [.inl 1], [.inl 1], [.inl 1], [.inl 1, .inl 10], [.inl 11]]
    ·kernel_rfl
    ·kernel_rfl
    ·apply DOk.cons 19 (.v (.bool true))
     ·rfl
     ·exact (NeedIs.inr _ rfl NeedIs.nil)
     ·intro rest
      refine SOps.move rfl ?_
      exact SOps.nil (congrArg (fun b => St.put _ 19 (.v (.bool b))) (rfl))
     apply DOk.cons 20 
     ·rfl
     ·exact (NeedIs.inl 0 _ _ rfl rfl NeedIs.nil)
     ·intro rest
      refine SOps.move rfl ?_
      exact SOps.nil rfl
     apply DOk.cons 21 
     ·rfl
     ·exact (NeedIs.inl 0 _ _ rfl rfl NeedIs.nil)
     ·intro rest
      refine SOps.skip rfl ?_
      exact SOps.nil rfl
     apply DOk.cons 22 
     ·rfl
     ·exact (NeedIs.inl 1 _ _ rfl rfl NeedIs.nil)
     ·intro rest
      refine SOps.skip rfl ?_
      exact SOps.nil rfl
     apply DOk.cons 23 
     ·rfl
     ·exact (NeedIs.inl 2 _ _ rfl rfl NeedIs.nil)
     ·intro rest
      refine SOps.skip rfl ?_
      exact SOps.nil rfl
     apply DOk.cons 24 
     ·rfl
     ·exact (NeedIs.inl 3 _ _ rfl rfl NeedIs.nil)
     ·intro rest
      refine SOps.skip rfl ?_
      exact SOps.nil rfl
     apply DOk.cons 25 
     ·rfl
     ·exact (NeedIs.inl 4 _ _ rfl rfl NeedIs.nil)
     ·intro rest
      refine SOps.skip rfl ?_
      exact SOps.nil rfl
     apply DOk.cons 26 
     ·rfl
     ·exact (NeedIs.inl 5 _ _ rfl rfl NeedIs.nil)
     ·intro rest
      refine SOps.skip rfl ?_
      exact SOps.nil rfl
     apply DOk.cons 27 
     ·rfl
     ·exact (NeedIs.inl 6 _ _ rfl rfl NeedIs.nil)
     ·intro rest
      refine SOps.skip rfl ?_
      exact SOps.nil rfl
     apply DOk.cons 28 
     ·rfl
     ·exact (NeedIs.inl 7 _ _ rfl rfl NeedIs.nil)
     ·intro rest
      refine SOps.skip rfl ?_
      exact SOps.nil rfl
     apply DOk.cons 29 
     ·rfl
     ·exact (NeedIs.inl 8 _ _ rfl rfl NeedIs.nil)
     ·intro rest
      refine SOps.skip rfl ?_
      exact SOps.nil rfl
     apply DOk.cons 30 
     ·rfl
     ·exact (NeedIs.inl 9 _ _ rfl rfl (NeedIs.inl 0 _ _ rfl rfl NeedIs.nil))
     ·intro rest
      refine SOps.pick rfl rfl ?_
      exact SOps.nil rfl
     apply DOk.cons 5 
     ·rfl
     ·exact (NeedIs.inl 0 _ _ rfl rfl NeedIs.nil)
     ·intro rest
      refine SOps.assign rfl ?_
      exact SOps.nil rfl
     exact DOk.nil
    ·rfl
    ·show SCode _ _ _ _
     refine SCode.region (SOps.move rfl (SOps.addI rfl rfl (by first | omega | (simp only [lenB]; omega)) (by first | omega | (simp only [lenB]; omega)) (SOps.assign rfl (SOps.nil ?_))))
     exact ⟨j + 1, by omega, by omega, St.Le.of ⟨rfl, rfl, rfl, (by rw [memS_next hjl, hm]; rfl), rfl, trivial⟩⟩
  ·try simp only [nmL] at hc2
   refine SCode.exit ?_
   show SCode _ _ _ _
   refine SCode.seqR ?_
   obtain rfl : i = j := by omega
   refine SOps.move rfl (SOps.un rfl rfl (SOps.nil ?_))
   refine SCode.cond rfl (fun hc3 => ?_) (fun hc3 => ?_)
   ·try simp only [nmL] at hc3
    refine SCode.region (SOps.move rfl (SOps.move rfl (SOps.move rfl (SOps.indexM (i) rfl rfl sliceB_35_9_1 (by first | omega | (simp only [lenB]; omega)) (by first | omega | (simp only [lenB]; omega)) (SOps.loadPin rfl flatB_9 (SOps.litF rfl sliceB_35_9_1 zeroIs_9 rfl ?_))))))
    refine SOps.appendOwn 0 sliceB_35_9_1 elemB_9_1_16 rfl rfl rfl (by simp) SrcD.isl (by simp) (by first | (simp [lenB] <;> (first | omega | (simp only [lenB]; omega))) | (simp only [lenB]; (first | omega | (simp only [lenB]; omega)))) (by first | (simp <;> (first | omega | (simp only [lenB]; omega))) | (first | omega | (simp only [lenB]; omega))) (fun b1 hb_1 => ?_)
    refine SOps.assign rfl (SOps.nil ?_)
    show SCode _ _ _ _
    refine SCode.region (SOps.move rfl (SOps.addI rfl rfl (by first | omega | (simp only [lenB]; omega)) (by first | omega | (simp only [lenB]; omega)) (SOps.assign rfl (SOps.nil ?_))))
    first
     | exact ⟨i + 1, b1, by omega, by omega, St.Le.of ⟨rfl, (by show some _ = some _; rw [hon, if_neg (by simp_all)]; simp), rfl, trivial⟩ rfl (by rw [hon, if_neg (by simp_all), List.map_append]; rfl)⟩
     | exact ⟨i + 1, k, by omega, by omega, St.Le.of ⟨rfl, (by rw [hon, if_pos (by simp_all)]; rfl), rfl, trivial⟩ rfl (by rw [hon, if_pos (by simp_all)]; rfl)⟩
   ·try simp only [nmL] at hc3
    refine SCode.skip ?_
    show SCode _ _ _ _
    refine SCode.region (SOps.move rfl (SOps.addI rfl rfl (by first | omega | (simp only [lenB]; omega)) (by first | omega | (simp only [lenB]; omega)) (SOps.assign rfl (SOps.nil ?_))))
    first
     | exact ⟨i + 1, b1, by omega, by omega, St.Le.of ⟨rfl, (by show some _ = some _; rw [hon, if_neg (by simp_all)]; simp), rfl, trivial⟩ rfl (by rw [hon, if_neg (by simp_all), List.map_append]; rfl)⟩
     | exact ⟨i + 1, k, by omega, by omega, St.Le.of ⟨rfl, (by rw [hon, if_pos (by simp_all)]; rfl), rfl, trivial⟩ rfl (by rw [hon, if_pos (by simp_all)]; rfl)⟩
 ·try simp only [nmL] at hc1
  refine SCode.exit ?_
  show SCode _ _ _ _
  refine SCode.seqR (SOps.freezeS (t := 3) 0 rfl rfl rfl (by simp) (SOps.move rfl (SOps.assign rfl (SOps.nil (SCode.drop (SCode.ret ?_))))))
  exact ⟨_, Res.one (.tmp rfl), by unfold onceL; rw [show l.length = i by omega], rfl⟩
theorem q14Seq (cs : List ByteArray) (h4 : cs.length ≤ 100) : GCall Tryd.prog E 52 [DStrs cs] [] (fun d H => d = .isl false 1 ((seqL cs).map encSS) ∧ H = []) := by
 have hcc : cs.length * cs.length ≤ 100 * 100 := Nat.mul_le_mul h4 h4
 refine GCall.body (C := ⟨Tryd.prog, E, true⟩) Tryd.func52 rfl (fun _ => rfl) (by kernel_rfl) rfl ?_
 refine SCode.seqR (SOps.assign rfl (SOps.nil (SCode.seqR (SOps.litF rfl sliceB_35_9_1 zeroIs_9 rfl ?_))))
 refine SOps.litO sliceB_73_35_1 zeroIs_35 rfl (fun b0 hb_0 => ?_)
 refine SOps.assign rfl (SOps.nil (SCode.seq (SCode.seqR (SOps.assign rfl (SOps.nil (SCode.block (SCode.loop2 (fun (i : Nat) (k : Nat) => (⟨48, [(0, DStrs cs), (3, .sl k 1 0 (sqA cs i).length), (4, .v (.int .i64 (i : Int)))], [(k, .row 35 1 ((sqA cs i).map encSS))]⟩ : St)) (fun (i : Nat) (k : Nat) => i ≤ cs.length) (fun (i : Nat) (k : Nat) => cs.length - i) (0) (b0) (by exact Nat.zero_le _) (St.Le.of ⟨(by first | rfl | (show some _ = some _; simp)), (by first | rfl | (show some _ = some _; simp)), (by first | rfl | (show some _ = some _; simp)), trivial⟩ rfl (by first | rfl | (simp))) ?_)))))))
 rintro i k hi
 have hol := sqA_len cs i
 refine SCode.seq (SCode.seqR (SOps.move rfl (SOps.move rfl (SOps.lenM rfl sliceB_35_9_1 (SOps.bin rfl rfl rfl (SOps.nil ?_))))))
 refine SCode.cond rfl (fun hc1 => ?_) (fun hc1 => ?_)
 ·try simp only [nmL] at hc1
  refine SCode.skip ?_
  show SCode _ _ _ _
  refine SCode.seq (SCode.block (SCode.region (SOps.move rfl (SOps.move rfl (SOps.move rfl (SOps.indexM (i) rfl rfl sliceB_35_9_1 (by first | omega | (simp only [lenB]; omega)) (by first | omega | (simp only [lenB]; omega)) (SOps.loadPin rfl flatB_9 (SOps.litF rfl sliceB_35_9_1 zeroIs_9 rfl (SOps.litF rfl sliceB_73_35_1 zeroIs_35 rfl ?_)))))))))
  refine SOps.appendOwn 0 sliceB_73_35_1 elemB_35_1_24 rfl rfl rfl (by simp) SrcD.isl (by simp) (by first | (simp [lenB] <;> (first | omega | (simp only [lenB]; omega))) | (simp only [lenB]; (first | omega | (simp only [lenB]; omega)))) (by first | (simp <;> (first | omega | (simp only [lenB]; omega))) | (first | omega | (simp only [lenB]; omega))) (fun b1 hb_1 => ?_)
  refine SOps.assign rfl (SOps.nil ?_)
  show SCode _ _ _ _
  refine SCode.region (SOps.move rfl (SOps.addI rfl rfl (by first | omega | (simp only [lenB]; omega)) (by first | omega | (simp only [lenB]; omega)) (SOps.assign rfl (SOps.nil ?_))))
  exact ⟨i + 1, b1, by omega, by omega, St.Le.of ⟨rfl, (by show some _ = some _; rw [sqA_next (show i < cs.length by omega)]; simp), rfl, trivial⟩ rfl (by rw [sqA_next (show i < cs.length by omega), List.map_append]; rfl)⟩
 ·try simp only [nmL] at hc1
  refine SCode.exit ?_
  show SCode _ _ _ _
  refine SCode.seq (SCode.seqR (SOps.assign rfl (SOps.nil (SCode.block (SCode.loop2 (fun (i : Nat) (k : Nat) => (⟨48, [(0, DStrs cs), (3, .sl k 1 0 (sqB cs i).length), (5, .v (.int .i64 (i : Int)))], [(k, .row 35 1 ((sqB cs i).map encSS))]⟩ : St)) (fun (i : Nat) (k : Nat) => i ≤ cs.length) (fun (i : Nat) (k : Nat) => cs.length - i) (0) (k) (by exact Nat.zero_le _) (St.Le.of ⟨rfl, (by rw [← sqA_all (cs := cs) (i := i) (by omega)]; rfl), rfl, trivial⟩ rfl (by rw [← sqA_all (cs := cs) (i := i) (by omega)]; try rfl)) ?_)))))
  rintro i k hi
  refine SCode.seq (SCode.seqR (SOps.move rfl (SOps.move rfl (SOps.lenM rfl sliceB_35_9_1 (SOps.bin rfl rfl rfl (SOps.nil ?_))))))
  refine SCode.cond rfl (fun hc2 => ?_) (fun hc2 => ?_)
  ·try simp only [nmL] at hc2
   refine SCode.skip ?_
   show SCode _ _ _ _
   refine SCode.seq (SCode.block (SCode.seqR (SOps.assign rfl (SOps.nil (SCode.block (SCode.loop2 (fun (j : Nat) (k : Nat) => (⟨48, [(0, DStrs cs), (3, .sl k 1 0 (sqC cs i j).length), (5, .v (.int .i64 (i : Int))), (6, .v (.int .i64 (j : Int)))], [(k, .row 35 1 ((sqC cs i j).map encSS))]⟩ : St)) (fun (j : Nat) (k : Nat) => j ≤ cs.length) (fun (j : Nat) (k : Nat) => cs.length - j) (0) (k) (by exact Nat.zero_le _) (St.Le.of ⟨rfl, (by rw [sqC_zero]; rfl), rfl, rfl, trivial⟩ rfl (by rw [sqC_zero]; try rfl)) ?_))))))
   rintro j k hj
   have hol := sqC_len cs i j
   refine SCode.seq (SCode.seqR (SOps.move rfl (SOps.move rfl (SOps.lenM rfl sliceB_35_9_1 (SOps.bin rfl rfl rfl (SOps.nil ?_))))))
   refine SCode.cond rfl (fun hc3 => ?_) (fun hc3 => ?_)
   ·try simp only [nmL] at hc3
    refine SCode.skip ?_
    show SCode _ _ _ _
    refine SCode.seq (SCode.block ?_)
    have hil : i < cs.length := by omega
    have hjl : j < cs.length := by omega
    apply SCode.drawG 14 [some 35, some 36, some 37, some 38, some 39, some 40, some 41, some 42, some 43, some 44, some 45, some 46, some 3] [[.inr 3], [.inr 0], [.inr 5], [.inl 1, .inl 2], [.inl 3], [.inr 0], [.inr 6], [.inl 5, .inl 6], [.inl 7], [.inl 4, .inl 8], [.inl 9], [.inl 0, .inl 10], [.inl 11]] [[11]] [none, none, none, none, none, none, none, none, none, none, none, some (0, 0), none] [[], [], [], [], [], [], [], [], [], [], [], [11], [11]] ([]) [⟨[11], fun ids c => match c with | 0 => [(k, .row 35 1 (((sqC cs i j)).map encSS))] | _ => [((ids.getD 0 0), .row 35 1 ((sqC cs i j).map encSS ++ [[DStrs [cs[i], cs[j]]]]))]⟩] mixed_
    ·kernel_rfl
    ·rfl
    ·exact fun _ => .refl _
    ·apply GOk.pure [] (fun ids => some (35, .sl k 1 0 ((sqC cs i j)).length))
     ·rfl
     ·exact fun b => (NeedG.inr _ rfl NeedG.nil)
     ·intro b rest ext
      refine SOps.move rfl ?_
      exact SOps.nil rfl
     apply GOk.rd 36
     ·rfl
     ·exact fun b => (NeedG.inr _ rfl NeedG.nil)
     ·intro b rest ext
      refine SOps.move rfl ?_
      exact SOps.nil rfl
     apply GOk.rd 37
     ·rfl
     ·exact fun b => (NeedG.inr _ rfl NeedG.nil)
     ·intro b rest ext
      refine SOps.move rfl ?_
      exact SOps.nil rfl
     apply GOk.rd 38
     ·rfl
     ·exact fun b => (NeedG.inl 1 _ _ rfl rfl rfl (NeedG.inl 0 _ _ rfl rfl rfl NeedG.nil))
     ·intro b rest ext
      refine SOps.indexM (i) rfl rfl sliceB_35_9_1 (by first | omega | (simp only [lenB]; omega)) (by first | omega | (simp only [lenB]; omega)) ?_
      exact SOps.nil rfl
     apply GOk.rd 39
     ·rfl
     ·exact fun b => (NeedG.inl 0 _ _ rfl rfl rfl NeedG.nil)
     ·intro b rest ext
      refine SOps.loadPin rfl flatB_9 ?_
      exact SOps.nil rfl
     apply GOk.rd 40
     ·rfl
     ·exact fun b => (NeedG.inr _ rfl NeedG.nil)
     ·intro b rest ext
      refine SOps.move rfl ?_
      exact SOps.nil rfl
     apply GOk.rd 41
     ·rfl
     ·exact fun b => (NeedG.inr _ rfl NeedG.nil)
     ·intro b rest ext
      refine SOps.move rfl ?_
      exact SOps.nil rfl
     apply GOk.rd 42
     ·rfl
     ·exact fun b => (NeedG.inl 1 _ _ rfl rfl rfl (NeedG.inl 0 _ _ rfl rfl rfl NeedG.nil))
     ·intro b rest ext
      refine SOps.indexM (j) rfl rfl sliceB_35_9_1 (by first | omega | (simp only [lenB]; omega)) (by first | omega | (simp only [lenB]; omega)) ?_
      exact SOps.nil rfl
     apply GOk.rd 43
     ·rfl
     ·exact fun b => (NeedG.inl 0 _ _ rfl rfl rfl NeedG.nil)
     ·intro b rest ext
      refine SOps.loadPin rfl flatB_9 ?_
      exact SOps.nil rfl
     apply GOk.rd 44
     ·rfl
     ·exact fun b => (NeedG.inl 4 _ _ rfl rfl rfl (NeedG.inl 0 _ _ rfl rfl rfl NeedG.nil))
     ·intro b rest ext
      refine SOps.litF rfl sliceB_35_9_1 zeroIs_9 rfl ?_
      exact SOps.nil rfl
     apply GOk.rd 45
     ·rfl
     ·exact fun b => (NeedG.inl 0 _ _ rfl rfl rfl NeedG.nil)
     ·intro b rest ext
      refine SOps.litF rfl sliceB_73_35_1 zeroIs_35 rfl ?_
      exact SOps.nil rfl
     apply GOk.act [11] (fun ids => some (46, .sl (ids.getD 0 0) 1 0 ((sqC cs i j).length + 1)))
     ·rfl
     ·rfl
     ·rfl
     ·exact fun b => (NeedG.inl 10 _ _ rfl rfl rfl (NeedG.inl 0 _ _ rfl rfl rfl NeedG.nil))
     ·intro b rest ext
      refine SOps.appendOwn 0 sliceB_73_35_1 elemB_35_1_24 rfl rfl rfl (by simp) SrcD.isl (by simp) (by first | (simp [lenB] <;> (first | omega | (simp only [lenB]; omega))) | (simp only [lenB]; (first | omega | (simp only [lenB]; omega)))) (by first | (simp <;> (first | omega | (simp only [lenB]; omega))) | (first | omega | (simp only [lenB]; omega))) (fun b2 hb_2 => ?_)
      exact SOps.nil ⟨fun k => if k = 11 then b2 else b k, fun k hk => if_neg hk, ⟨rfl, fun t d h => .inl h, _, .refl _, .refl _⟩⟩
     apply GOk.pure [11] (fun ids => some (3, .sl (ids.getD 0 0) 1 0 ((sqC cs i j).length + 1)))
     ·rfl
     ·exact fun b => (NeedG.inl 0 _ _ rfl rfl rfl NeedG.nil)
     ·intro b rest ext
      refine SOps.assign rfl ?_
      exact SOps.nil rfl
     exact GOk.nil
    ·exact fun _ => rfl
    ·intro ids
     show SCode _ _ _ _
     refine SCode.region (SOps.move rfl (SOps.addI rfl rfl (by first | omega | (simp only [lenB]; omega)) (by first | omega | (simp only [lenB]; omega)) (SOps.assign rfl (SOps.nil ?_))))
     exact ⟨j + 1, ids 11, by omega, by omega, St.Le.of ⟨rfl, (by show some _ = some _; rw [sqC_next (show i < cs.length by omega) (show j < cs.length by omega)]; simp), rfl, rfl, trivial⟩ rfl (by rw [sqC_next (show i < cs.length by omega) (show j < cs.length by omega), List.map_append]; rfl)⟩
   ·try simp only [nmL] at hc3
    refine SCode.exit ?_
    show SCode _ _ _ _
    refine SCode.region (SOps.move rfl (SOps.addI rfl rfl (by first | omega | (simp only [lenB]; omega)) (by first | omega | (simp only [lenB]; omega)) (SOps.assign rfl (SOps.nil ?_))))
    exact ⟨i + 1, k, by omega, by omega, St.Le.of ⟨rfl, (by rw [← sqC_all (show i < cs.length by omega) (show cs.length ≤ j by omega)]; rfl), rfl, trivial⟩ rfl (by rw [← sqC_all (show i < cs.length by omega) (show cs.length ≤ j by omega)]; try rfl)⟩
  ·try simp only [nmL] at hc2
   refine SCode.exit ?_
   show SCode _ _ _ _
   refine SCode.seqR ?_
   have hsl := sqB_len cs i
   refine SOps.freezeS (t := 3) 0 rfl rfl rfl (by simp) (SOps.move rfl (SOps.assign rfl (SOps.nil (SCode.drop (SCode.ret ?_)))))
   exact ⟨_, Res.one (.tmp rfl), by rw [sqB_all (by omega)], rfl⟩
theorem q14Strings (x y : List ByteArray) (hx : x.length ≤ 1048576) : GCall Tryd.prog E 53 [DStrs x, DStrs y] [] (fun d H => d = .v (.bool (decide (x = y))) ∧ H = []) := by
 refine GCall.body (C := ⟨Tryd.prog, E, true⟩) Tryd.func53 rfl (fun _ => rfl) (by kernel_rfl) rfl ?_
 refine SCode.seqR (SOps.assign rfl (SOps.nil (SCode.seq (SCode.seqR (SOps.move rfl (SOps.lenM rfl sliceB_35_9_1 (SOps.move rfl (SOps.lenM rfl sliceB_35_9_1 (SOps.bin rfl rfl rfl (SOps.nil ?_))))))))))
 refine SCode.cond rfl (fun hc1 => ?_) (fun hc1 => ?_)
 ·try simp only [nmL] at hc1
  refine SCode.seqR (SOps.assign rfl (SOps.nil (SCode.ret ?_)))
  exact ⟨_, Res.one (.tmp rfl), congrArg (fun b => DV.v (.bool b)) (Eq.symm (Bool.eq_false_iff.2 (fun h => by have h := congrArg List.length (of_decide_eq_true h); omega))), rfl⟩
 ·try simp only [nmL] at hc1
  refine SCode.skip ?_
  show SCode _ _ _ _
  refine SCode.seq (SCode.seqR (SOps.assign rfl (SOps.nil (SCode.block ?_))))
  have hxy : x.length = y.length := by first | omega | simp_all
  refine SCode.loop1 (fun (i : Nat) => (⟨26, [(0, DStrs x), (1, DStrs y), (5, .v (.int .i64 (i : Int)))], []⟩ : St)) (fun (i : Nat) => i ≤ x.length ∧ ∀ (j : Nat) (h1 : j < i) (h2 : j < x.length) (h3 : j < y.length), x[j] = y[j]) (fun (i : Nat) => x.length - i) (0) (by exact ⟨Nat.zero_le _, fun j h1 => by omega⟩) (St.Le.of ⟨(by first | rfl | (show some _ = some _; simp)), (by first | rfl | (show some _ = some _; simp)), (by first | rfl | (show some _ = some _; simp)), trivial⟩ rfl (by first | rfl | (simp))) ?_
  rintro i ⟨hi, hf⟩
  refine SCode.seq (SCode.seqR (SOps.move rfl (SOps.move rfl (SOps.lenM rfl sliceB_35_9_1 (SOps.bin rfl rfl rfl (SOps.nil ?_))))))
  refine SCode.cond rfl (fun hc2 => ?_) (fun hc2 => ?_)
  ·try simp only [nmL] at hc2
   refine SCode.skip ?_
   show SCode _ _ _ _
   refine SCode.seq (SCode.block (SCode.seq ?_))
   apply SCode.drawAuto mixed_ [17, 18, 19, 20, 21, 22, 23, 24, 25] [[.inr 0], [.inr 5], [.inl 0, .inl 1], [.inl 2], [.inr 1], [.inr 5], [.inl 4, .inl 5], [.inl 6], [.inl 3, .inl 7]]
   ·kernel_rfl
   ·kernel_rfl
   ·apply DOk.cons 17 
    ·rfl
    ·exact (NeedIs.inr _ rfl NeedIs.nil)
    ·intro rest
     refine SOps.move rfl ?_
     exact SOps.nil rfl
    apply DOk.cons 18 
    ·rfl
    ·exact (NeedIs.inr _ rfl NeedIs.nil)
    ·intro rest
     refine SOps.move rfl ?_
     exact SOps.nil rfl
    apply DOk.cons 19 
    ·rfl
    ·exact (NeedIs.inl 1 _ _ rfl rfl (NeedIs.inl 0 _ _ rfl rfl NeedIs.nil))
    ·intro rest
     refine SOps.indexM (i) rfl rfl sliceB_35_9_1 (by first | omega | (simp only [lenB]; omega)) (by first | omega | (simp only [lenB]; omega)) ?_
     exact SOps.nil rfl
    apply DOk.cons 20 
    ·rfl
    ·exact (NeedIs.inl 0 _ _ rfl rfl NeedIs.nil)
    ·intro rest
     refine SOps.loadPin rfl flatB_9 ?_
     exact SOps.nil rfl
    apply DOk.cons 21 
    ·rfl
    ·exact (NeedIs.inr _ rfl NeedIs.nil)
    ·intro rest
     refine SOps.move rfl ?_
     exact SOps.nil rfl
    apply DOk.cons 22 
    ·rfl
    ·exact (NeedIs.inr _ rfl NeedIs.nil)
    ·intro rest
     refine SOps.move rfl ?_
     exact SOps.nil rfl
    apply DOk.cons 23 
    ·rfl
    ·exact (NeedIs.inl 1 _ _ rfl rfl (NeedIs.inl 0 _ _ rfl rfl NeedIs.nil))
    ·intro rest
     refine SOps.indexM (i) rfl rfl sliceB_35_9_1 (by first | omega | (simp only [lenB]; omega)) (by first | omega | (simp only [lenB]; omega)) ?_
     exact SOps.nil rfl
    apply DOk.cons 24 
    ·rfl
    ·exact (NeedIs.inl 0 _ _ rfl rfl NeedIs.nil)
    ·intro rest
     refine SOps.loadPin rfl flatB_9 ?_
     exact SOps.nil rfl
    apply DOk.cons 25 
    ·rfl
    ·exact (NeedIs.inl 4 _ _ rfl rfl (NeedIs.inl 0 _ _ rfl rfl NeedIs.nil))
    ·intro rest
     refine SOps.bin rfl rfl rfl ?_
     exact SOps.nil rfl
    exact DOk.nil
   ·rfl
   ·show SCode _ _ _ _
    refine SCode.cond rfl (fun hc3 => ?_) (fun hc3 => ?_)
    ·try simp only [nmL] at hc3
     refine SCode.seqR (SOps.assign rfl (SOps.nil (SCode.ret ?_)))
     exact ⟨_, Res.one (.tmp rfl), congrArg (fun b => DV.v (.bool b)) (Eq.symm (Bool.eq_false_iff.2 (fun h => by have h := of_decide_eq_true h; subst h; simp_all))), rfl⟩
    ·try simp only [nmL] at hc3
     refine SCode.skip ?_
     show SCode _ _ _ _
     refine SCode.region (SOps.move rfl (SOps.addI rfl rfl (by first | omega | (simp only [lenB]; omega)) (by first | omega | (simp only [lenB]; omega)) (SOps.assign rfl (SOps.nil ?_))))
     exact ⟨i + 1, by exact ⟨by omega, fun j h1 h2 h3 => by by_cases hj : j = i; subst hj; simp_all; exact hf j (by omega) h2 h3⟩, by omega, (St.Le.of ⟨(by first | rfl | (show some _ = some _; simp)), (by first | rfl | (show some _ = some _; simp)), (by first | rfl | (show some _ = some _; simp)), trivial⟩ rfl (by first | rfl | (simp)))⟩
  ·try simp only [nmL] at hc2
   refine SCode.exit ?_
   show SCode _ _ _ _
   refine SCode.seqR (SOps.assign rfl (SOps.nil (SCode.ret ?_)))
   exact ⟨_, Res.one (.tmp rfl), congrArg (fun b => DV.v (.bool b)) (Eq.symm (decide_eq_true (List.ext_getElem hxy (fun j h2 h3 => hf j (by omega) h2 h3)))), rfl⟩
theorem q14Same (x y : List Sg) (hx : x.length ≤ 1048576) (hz : ∀ s ∈ x, s.cls.length ≤ 1048576) : GCall Tryd.prog E 21 [DSgs x, DSgs y] [] (fun d H => d = .v (.bool (decide (x = y))) ∧ H = []) := by
 refine GCall.body (C := ⟨Tryd.prog, E, true⟩) Tryd.func21 rfl (fun _ => rfl) (by kernel_rfl) rfl ?_
 refine SCode.seqR (SOps.assign rfl (SOps.nil (SCode.seq (SCode.seqR (SOps.move rfl (SOps.lenM rfl sliceB_36_50_2 (SOps.move rfl (SOps.lenM rfl sliceB_36_50_2 (SOps.bin rfl rfl rfl (SOps.nil ?_))))))))))
 refine SCode.cond rfl (fun hc1 => ?_) (fun hc1 => ?_)
 ·try simp only [nmL] at hc1
  refine SCode.seqR (SOps.assign rfl (SOps.nil (SCode.ret ?_)))
  exact ⟨_, Res.one (.tmp rfl), congrArg (fun b => DV.v (.bool b)) (Eq.symm (Bool.eq_false_iff.2 (fun h => by have h := congrArg List.length (of_decide_eq_true h); omega))), rfl⟩
 ·try simp only [nmL] at hc1
  refine SCode.skip ?_
  show SCode _ _ _ _
  refine SCode.seq (SCode.seqR (SOps.assign rfl (SOps.nil (SCode.block ?_))))
  have hxy : x.length = y.length := by first | omega | simp_all
  refine SCode.loop1 (fun (i : Nat) => (⟨42, [(0, DSgs x), (1, DSgs y), (5, .v (.int .i64 (i : Int)))], []⟩ : St)) (fun (i : Nat) => i ≤ x.length ∧ ∀ (j : Nat) (h1 : j < i) (h2 : j < x.length) (h3 : j < y.length), x[j] = y[j]) (fun (i : Nat) => x.length - i) (0) (by exact ⟨Nat.zero_le _, fun j h1 => by omega⟩) (St.Le.of ⟨(by first | rfl | (show some _ = some _; simp)), (by first | rfl | (show some _ = some _; simp)), (by first | rfl | (show some _ = some _; simp)), trivial⟩ rfl (by first | rfl | (simp))) ?_
  rintro i ⟨hi, hf⟩
  refine SCode.seq (SCode.seqR (SOps.move rfl (SOps.move rfl (SOps.lenM rfl sliceB_36_50_2 (SOps.bin rfl rfl rfl (SOps.nil ?_))))))
  refine SCode.cond rfl (fun hc2 => ?_) (fun hc2 => ?_)
  ·try simp only [nmL] at hc2
   refine SCode.skip ?_
   show SCode _ _ _ _
   refine SCode.seq (SCode.block (SCode.seq ?_))
   have hil : i < x.length := by omega
   have hjl : i < y.length := by omega
   have hxl := hz _ (List.getElem_mem hil)
   rcases Classical.em ((x[i]).host = (y[i]).host) with hh | hh
   ·apply SCode.drawAuto mixed_ [17, 18, 19, 20, 21, 22, 23, 24, 25, 26, 27, 28, 29, 30, 31, 32, 33, 34, 35, 36, 37, 38, 39, 40, 41] [[.inr 0], [.inr 5], [.inl 0, .inl 1], [.inl 2], [.inl 3], [.inr 1], [.inr 5], [.inl 5, .inl 6], [.inl 7], [.inl 8], [.inl 4, .inl 9], [.inl 10], [.inl 11, .inr 0], [.inl 11, .inr 5], [.inl 11, .inl 12, .inl 13], [.inl 11, .inl 14], [.inl 11, .inl 15], [.inl 11, .inr 1], [.inl 11, .inr 5], [.inl 11, .inl 17, .inl 18], [.inl 11, .inl 19], [.inl 11, .inl 20], [.inl 11, .inl 16, .inl 21], [.inl 11, .inl 22], [.inl 11, .inl 23]]
    ·kernel_rfl
    ·kernel_rfl
    ·apply DOk.cons 17 
     ·rfl
     ·exact (NeedIs.inr _ rfl NeedIs.nil)
     ·intro rest
      refine SOps.move rfl ?_
      exact SOps.nil rfl
     apply DOk.cons 18 
     ·rfl
     ·exact (NeedIs.inr _ rfl NeedIs.nil)
     ·intro rest
      refine SOps.move rfl ?_
      exact SOps.nil rfl
     apply DOk.cons 19 
     ·rfl
     ·exact (NeedIs.inl 1 _ _ rfl rfl (NeedIs.inl 0 _ _ rfl rfl NeedIs.nil))
     ·intro rest
      refine SOps.indexM (i) rfl rfl sliceB_36_50_2 (by first | omega | (simp only [lenB]; omega)) (by first | omega | (simp only [lenB]; omega)) ?_
      exact SOps.nil rfl
     apply DOk.cons 20 
     ·rfl
     ·exact (NeedIs.inl 0 _ _ rfl rfl NeedIs.nil)
     ·intro rest
      refine SOps.fieldPin rfl fieldB_50_0_0 ?_
      exact SOps.nil rfl
     apply DOk.cons 21 
     ·rfl
     ·exact (NeedIs.inl 0 _ _ rfl rfl NeedIs.nil)
     ·intro rest
      refine SOps.loadPin rfl flatB_9 ?_
      exact SOps.nil rfl
     apply DOk.cons 22 
     ·rfl
     ·exact (NeedIs.inr _ rfl NeedIs.nil)
     ·intro rest
      refine SOps.move rfl ?_
      exact SOps.nil rfl
     apply DOk.cons 23 
     ·rfl
     ·exact (NeedIs.inr _ rfl NeedIs.nil)
     ·intro rest
      refine SOps.move rfl ?_
      exact SOps.nil rfl
     apply DOk.cons 24 
     ·rfl
     ·exact (NeedIs.inl 1 _ _ rfl rfl (NeedIs.inl 0 _ _ rfl rfl NeedIs.nil))
     ·intro rest
      refine SOps.indexM (i) rfl rfl sliceB_36_50_2 (by first | omega | (simp only [lenB]; omega)) (by first | omega | (simp only [lenB]; omega)) ?_
      exact SOps.nil rfl
     apply DOk.cons 25 
     ·rfl
     ·exact (NeedIs.inl 0 _ _ rfl rfl NeedIs.nil)
     ·intro rest
      refine SOps.fieldPin rfl fieldB_50_0_0 ?_
      exact SOps.nil rfl
     apply DOk.cons 26 
     ·rfl
     ·exact (NeedIs.inl 0 _ _ rfl rfl NeedIs.nil)
     ·intro rest
      refine SOps.loadPin rfl flatB_9 ?_
      exact SOps.nil rfl
     apply DOk.cons 27 (.v (.bool false))
     ·rfl
     ·exact (NeedIs.inl 5 _ _ rfl rfl (NeedIs.inl 0 _ _ rfl rfl NeedIs.nil))
     ·intro rest
      refine SOps.bin rfl rfl rfl ?_
      exact SOps.nil (congrArg (fun b => St.put _ 27 (.v (.bool b))) (by simp [hh]))
     apply DOk.cons 28 
     ·rfl
     ·exact (NeedIs.inl 0 _ _ rfl rfl NeedIs.nil)
     ·intro rest
      refine SOps.move rfl ?_
      exact SOps.nil rfl
     apply DOk.cons 29 
     ·rfl
     ·exact (NeedIs.inl 0 _ _ rfl rfl (NeedIs.inr _ rfl NeedIs.nil))
     ·intro rest
      refine SOps.move rfl ?_
      exact SOps.nil rfl
     apply DOk.cons 30 
     ·rfl
     ·exact (NeedIs.inl 1 _ _ rfl rfl (NeedIs.inr _ rfl NeedIs.nil))
     ·intro rest
      refine SOps.move rfl ?_
      exact SOps.nil rfl
     apply DOk.cons 31 
     ·rfl
     ·exact (NeedIs.inl 2 _ _ rfl rfl (NeedIs.inl 1 _ _ rfl rfl (NeedIs.inl 0 _ _ rfl rfl NeedIs.nil)))
     ·intro rest
      refine SOps.indexM (i) rfl rfl sliceB_36_50_2 (by first | omega | (simp only [lenB]; omega)) (by first | omega | (simp only [lenB]; omega)) ?_
      exact SOps.nil rfl
     apply DOk.cons 32 
     ·rfl
     ·exact (NeedIs.inl 3 _ _ rfl rfl (NeedIs.inl 0 _ _ rfl rfl NeedIs.nil))
     ·intro rest
      refine SOps.fieldPin rfl fieldB_50_1_1 ?_
      exact SOps.nil rfl
     apply DOk.cons 33 
     ·rfl
     ·exact (NeedIs.inl 4 _ _ rfl rfl (NeedIs.inl 0 _ _ rfl rfl NeedIs.nil))
     ·intro rest
      refine SOps.loadPin rfl flatB_35 ?_
      exact SOps.nil rfl
     apply DOk.cons 34 
     ·rfl
     ·exact (NeedIs.inl 5 _ _ rfl rfl (NeedIs.inr _ rfl NeedIs.nil))
     ·intro rest
      refine SOps.move rfl ?_
      exact SOps.nil rfl
     apply DOk.cons 35 
     ·rfl
     ·exact (NeedIs.inl 6 _ _ rfl rfl (NeedIs.inr _ rfl NeedIs.nil))
     ·intro rest
      refine SOps.move rfl ?_
      exact SOps.nil rfl
     apply DOk.cons 36 
     ·rfl
     ·exact (NeedIs.inl 7 _ _ rfl rfl (NeedIs.inl 1 _ _ rfl rfl (NeedIs.inl 0 _ _ rfl rfl NeedIs.nil)))
     ·intro rest
      refine SOps.indexM (i) rfl rfl sliceB_36_50_2 (by first | omega | (simp only [lenB]; omega)) (by first | omega | (simp only [lenB]; omega)) ?_
      exact SOps.nil rfl
     apply DOk.cons 37 
     ·rfl
     ·exact (NeedIs.inl 8 _ _ rfl rfl (NeedIs.inl 0 _ _ rfl rfl NeedIs.nil))
     ·intro rest
      refine SOps.fieldPin rfl fieldB_50_1_1 ?_
      exact SOps.nil rfl
     apply DOk.cons 38 
     ·rfl
     ·exact (NeedIs.inl 9 _ _ rfl rfl (NeedIs.inl 0 _ _ rfl rfl NeedIs.nil))
     ·intro rest
      refine SOps.loadPin rfl flatB_35 ?_
      exact SOps.nil rfl
     apply DOk.cons 39 
     ·rfl
     ·exact (NeedIs.inl 10 _ _ rfl rfl (NeedIs.inl 5 _ _ rfl rfl (NeedIs.inl 0 _ _ rfl rfl NeedIs.nil)))
     ·intro rest
      refine SOps.callP (q14Strings _ _ hxl) rfl ?_
      rintro _ rfl
      exact SOps.nil rfl
     apply DOk.cons 40 
     ·rfl
     ·exact (NeedIs.inl 11 _ _ rfl rfl (NeedIs.inl 0 _ _ rfl rfl NeedIs.nil))
     ·intro rest
      refine SOps.un rfl rfl ?_
      exact SOps.nil rfl
     apply DOk.cons 41 
     ·rfl
     ·exact (NeedIs.inl 12 _ _ rfl rfl (NeedIs.inl 0 _ _ rfl rfl NeedIs.nil))
     ·intro rest
      refine SOps.pick rfl rfl ?_
      exact SOps.nil rfl
     exact DOk.nil
    ·rfl
    ·show SCode _ _ _ _
     refine SCode.cond rfl (fun hc3 => ?_) (fun hc3 => ?_)
     ·try simp only [nmL] at hc3
      refine SCode.seqR (SOps.assign rfl (SOps.nil (SCode.ret ?_)))
      exact ⟨_, Res.one (.tmp rfl), congrArg (fun b => DV.v (.bool b)) (Eq.symm (Bool.eq_false_iff.2 (fun h => by have h := of_decide_eq_true h; subst h; simp_all))), rfl⟩
     ·try simp only [nmL] at hc3
      refine SCode.skip ?_
      show SCode _ _ _ _
      refine SCode.region (SOps.move rfl (SOps.addI rfl rfl (by first | omega | (simp only [lenB]; omega)) (by first | omega | (simp only [lenB]; omega)) (SOps.assign rfl (SOps.nil ?_))))
      exact ⟨i + 1, by exact ⟨by omega, fun j h1 h2 h3 => by by_cases hj : j = i; subst hj; exact sg_ext hh (by simp_all); exact hf j (by omega) h2 h3⟩, by omega, (St.Le.of ⟨(by first | rfl | (show some _ = some _; simp)), (by first | rfl | (show some _ = some _; simp)), (by first | rfl | (show some _ = some _; simp)), trivial⟩ rfl (by first | rfl | (simp)))⟩
   ·apply SCode.drawAuto mixed_ [17, 18, 19, 20, 21, 22, 23, 24, 25, 26, 27, 28, 29, 30, 31, 32, 33, 34, 35, 36, 37, 38, 39, 40, 41] [[.inr 0], [.inr 5], [.inl 0, .inl 1], [.inl 2], [.inl 3], [.inr 1], [.inr 5], [.inl 5, .inl 6], [.inl 7], [.inl 8], [.inl 4, .inl 9], [.inl 10], [.inl 11], [.inl 11], [.inl 11], [.inl 11], [.inl 11], [.inl 11], [.inl 11], [.inl 11], [.inl 11], [.inl 11], [.inl 11], [.inl 11], [.inl 11, .inl 23]]
    ·kernel_rfl
    ·kernel_rfl
    ·apply DOk.cons 17 
     ·rfl
     ·exact (NeedIs.inr _ rfl NeedIs.nil)
     ·intro rest
      refine SOps.move rfl ?_
      exact SOps.nil rfl
     apply DOk.cons 18 
     ·rfl
     ·exact (NeedIs.inr _ rfl NeedIs.nil)
     ·intro rest
      refine SOps.move rfl ?_
      exact SOps.nil rfl
     apply DOk.cons 19 
     ·rfl
     ·exact (NeedIs.inl 1 _ _ rfl rfl (NeedIs.inl 0 _ _ rfl rfl NeedIs.nil))
     ·intro rest
      refine SOps.indexM (i) rfl rfl sliceB_36_50_2 (by first | omega | (simp only [lenB]; omega)) (by first | omega | (simp only [lenB]; omega)) ?_
      exact SOps.nil rfl
     apply DOk.cons 20 
     ·rfl
     ·exact (NeedIs.inl 0 _ _ rfl rfl NeedIs.nil)
     ·intro rest
      refine SOps.fieldPin rfl fieldB_50_0_0 ?_
      exact SOps.nil rfl
     apply DOk.cons 21 
     ·rfl
     ·exact (NeedIs.inl 0 _ _ rfl rfl NeedIs.nil)
     ·intro rest
      refine SOps.loadPin rfl flatB_9 ?_
      exact SOps.nil rfl
     apply DOk.cons 22 
     ·rfl
     ·exact (NeedIs.inr _ rfl NeedIs.nil)
     ·intro rest
      refine SOps.move rfl ?_
      exact SOps.nil rfl
     apply DOk.cons 23 
     ·rfl
     ·exact (NeedIs.inr _ rfl NeedIs.nil)
     ·intro rest
      refine SOps.move rfl ?_
      exact SOps.nil rfl
     apply DOk.cons 24 
     ·rfl
     ·exact (NeedIs.inl 1 _ _ rfl rfl (NeedIs.inl 0 _ _ rfl rfl NeedIs.nil))
     ·intro rest
      refine SOps.indexM (i) rfl rfl sliceB_36_50_2 (by first | omega | (simp only [lenB]; omega)) (by first | omega | (simp only [lenB]; omega)) ?_
      exact SOps.nil rfl
     apply DOk.cons 25 
     ·rfl
     ·exact (NeedIs.inl 0 _ _ rfl rfl NeedIs.nil)
     ·intro rest
      refine SOps.fieldPin rfl fieldB_50_0_0 ?_
      exact SOps.nil rfl
     apply DOk.cons 26 
     ·rfl
     ·exact (NeedIs.inl 0 _ _ rfl rfl NeedIs.nil)
     ·intro rest
      refine SOps.loadPin rfl flatB_9 ?_
      exact SOps.nil rfl
     apply DOk.cons 27 (.v (.bool true))
     ·rfl
     ·exact (NeedIs.inl 5 _ _ rfl rfl (NeedIs.inl 0 _ _ rfl rfl NeedIs.nil))
     ·intro rest
      refine SOps.bin rfl rfl rfl ?_
      exact SOps.nil (congrArg (fun b => St.put _ 27 (.v (.bool b))) (by simp [hh]))
     apply DOk.cons 28 
     ·rfl
     ·exact (NeedIs.inl 0 _ _ rfl rfl NeedIs.nil)
     ·intro rest
      refine SOps.move rfl ?_
      exact SOps.nil rfl
     apply DOk.cons 29 
     ·rfl
     ·exact (NeedIs.inl 0 _ _ rfl rfl NeedIs.nil)
     ·intro rest
      refine SOps.skip rfl ?_
      exact SOps.nil rfl
     apply DOk.cons 30 
     ·rfl
     ·exact (NeedIs.inl 1 _ _ rfl rfl NeedIs.nil)
     ·intro rest
      refine SOps.skip rfl ?_
      exact SOps.nil rfl
     apply DOk.cons 31 
     ·rfl
     ·exact (NeedIs.inl 2 _ _ rfl rfl NeedIs.nil)
     ·intro rest
      refine SOps.skip rfl ?_
      exact SOps.nil rfl
     apply DOk.cons 32 
     ·rfl
     ·exact (NeedIs.inl 3 _ _ rfl rfl NeedIs.nil)
     ·intro rest
      refine SOps.skip rfl ?_
      exact SOps.nil rfl
     apply DOk.cons 33 
     ·rfl
     ·exact (NeedIs.inl 4 _ _ rfl rfl NeedIs.nil)
     ·intro rest
      refine SOps.skip rfl ?_
      exact SOps.nil rfl
     apply DOk.cons 34 
     ·rfl
     ·exact (NeedIs.inl 5 _ _ rfl rfl NeedIs.nil)
     ·intro rest
      refine SOps.skip rfl ?_
      exact SOps.nil rfl
     apply DOk.cons 35 
     ·rfl
     ·exact (NeedIs.inl 6 _ _ rfl rfl NeedIs.nil)
     ·intro rest
      refine SOps.skip rfl ?_
      exact SOps.nil rfl
     apply DOk.cons 36 
     ·rfl
     ·exact (NeedIs.inl 7 _ _ rfl rfl NeedIs.nil)
     ·intro rest
      refine SOps.skip rfl ?_
      exact SOps.nil rfl
     apply DOk.cons 37 
     ·rfl
     ·exact (NeedIs.inl 8 _ _ rfl rfl NeedIs.nil)
     ·intro rest
      refine SOps.skip rfl ?_
      exact SOps.nil rfl
     apply DOk.cons 38 
     ·rfl
     ·exact (NeedIs.inl 9 _ _ rfl rfl NeedIs.nil)
     ·intro rest
      refine SOps.skip rfl ?_
      exact SOps.nil rfl
     apply DOk.cons 39 
     ·rfl
     ·exact (NeedIs.inl 10 _ _ rfl rfl NeedIs.nil)
     ·intro rest
      refine SOps.skip rfl ?_
      exact SOps.nil rfl
     apply DOk.cons 40 
     ·rfl
     ·exact (NeedIs.inl 11 _ _ rfl rfl NeedIs.nil)
     ·intro rest
      refine SOps.skip rfl ?_
      exact SOps.nil rfl
     apply DOk.cons 41 
     ·rfl
     ·exact (NeedIs.inl 12 _ _ rfl rfl (NeedIs.inl 0 _ _ rfl rfl NeedIs.nil))
     ·intro rest
      refine SOps.pick rfl rfl ?_
      exact SOps.nil rfl
     exact DOk.nil
    ·rfl
    ·show SCode _ _ _ _
     refine SCode.cond rfl (fun _ => ?_) (fun h => by cases h)
     refine SCode.seqR (SOps.assign rfl (SOps.nil (SCode.ret ?_)))
     exact ⟨_, Res.one (.tmp rfl), congrArg (fun b => DV.v (.bool b)) (Eq.symm (Bool.eq_false_iff.2 (fun h => by have h := of_decide_eq_true h; subst h; simp_all))), rfl⟩
  ·try simp only [nmL] at hc2
   refine SCode.exit ?_
   show SCode _ _ _ _
   refine SCode.seqR (SOps.assign rfl (SOps.nil (SCode.ret ?_)))
   exact ⟨_, Res.one (.tmp rfl), congrArg (fun b => DV.v (.bool b)) (Eq.symm (decide_eq_true (List.ext_getElem hxy (fun j h2 h3 => hf j (by omega) h2 h3)))), rfl⟩
theorem q14Split (hV : VS E) (a : List Letter) (l : List Rule) (hs cs : List ByteArray) (w : ByteArray) (hr : ∀ r ∈ l, SmR r) (z1 : ∀ s ∈ hs, s.size ≤ 1048576) (z2 : ∀ s ∈ cs, s.size ≤ 1048576) (z3 : w.size ≤ 1048576) (h5 : hs.length ≤ 5) (h4 : cs.length ≤ 4) : GCall Tryd.prog E 20 [DLs a, DRs l, DStrs hs, DStrs cs, .v (.string w)] [] (fun d H => d = .tup [DSgs (splitR a l hs cs w).1, .v (.int .i64 (splitR a l hs cs w).2)] ∧ H = []) := by
 refine GCall.body (C := ⟨Tryd.prog, E, true⟩) Tryd.func20 rfl (fun _ => rfl) (by kernel_rfl) rfl ?_
 refine SCode.seqR (SOps.assign rfl (SOps.assign rfl (SOps.nil (SCode.seq (SCode.seqR (SOps.move rfl (SOps.move rfl (SOps.callP (q14Valid hV _ _ (by assumption)) rfl ?_))))))))
 rintro _ rfl
 refine SOps.un rfl rfl (SOps.move rfl ?_)
 refine SOps.caseB 24 rfl (fun hb1 => ?_) (fun hb1 => ?_)
 ·try simp only [nmL] at hb1
  refine SOps.skip rfl (SOps.skip rfl (SOps.skip rfl (SOps.skip rfl (SOps.pick rfl rfl (SOps.move rfl (SOps.skip rfl (SOps.skip rfl (SOps.skip rfl (SOps.skip rfl (SOps.pick rfl rfl (SOps.move rfl (SOps.skip rfl (SOps.skip rfl (SOps.skip rfl (SOps.skip rfl (SOps.pick rfl rfl (SOps.nil ?_)))))))))))))))))
  refine SCode.cond rfl (fun _ => ?_) (fun h => by cases h)
  refine SCode.seqR (SOps.assign rfl (SOps.assign rfl (SOps.nil (SCode.nilIsl (t := 10) (sz := 2) rfl (SCode.ret ?_)))))
  exact ⟨_, Res.two (.tmp rfl) (.tmp rfl), (by unfold splitR; rw [if_neg (fun h9 => by unfold argS at h9; simp only [Bool.and_eq_true] at h9; simp_all)]; rfl), rfl⟩
 ·try simp only [nmL] at hb1
  refine SOps.move rfl (SOps.move rfl (SOps.callP (q14Words _ _ (by assumption)) rfl ?_))
  rintro _ rfl
  refine SOps.un rfl rfl (SOps.pick rfl rfl (SOps.move rfl ?_))
  refine SOps.caseB 30 rfl (fun hb2 => ?_) (fun hb2 => ?_)
  ·try simp only [nmL] at hb2
   refine SOps.skip rfl (SOps.skip rfl (SOps.skip rfl (SOps.skip rfl (SOps.pick rfl rfl (SOps.move rfl (SOps.skip rfl (SOps.skip rfl (SOps.skip rfl (SOps.skip rfl (SOps.pick rfl rfl (SOps.nil ?_)))))))))))
   refine SCode.cond rfl (fun _ => ?_) (fun h => by cases h)
   refine SCode.seqR (SOps.assign rfl (SOps.assign rfl (SOps.nil (SCode.nilIsl (t := 10) (sz := 2) rfl (SCode.ret ?_)))))
   exact ⟨_, Res.two (.tmp rfl) (.tmp rfl), (by unfold splitR; rw [if_neg (fun h9 => by unfold argS at h9; simp only [Bool.and_eq_true] at h9; simp_all)]; rfl), rfl⟩
  ·try simp only [nmL] at hb2
   refine SOps.move rfl (SOps.move rfl (SOps.callP (q14Words _ _ (by assumption)) rfl ?_))
   rintro _ rfl
   refine SOps.un rfl rfl (SOps.pick rfl rfl (SOps.move rfl ?_))
   refine SOps.caseB 36 rfl (fun hb3 => ?_) (fun hb3 => ?_)
   ·try simp only [nmL] at hb3
    refine SOps.skip rfl (SOps.skip rfl (SOps.skip rfl (SOps.skip rfl (SOps.pick rfl rfl (SOps.nil ?_)))))
    refine SCode.cond rfl (fun _ => ?_) (fun h => by cases h)
    refine SCode.seqR (SOps.assign rfl (SOps.assign rfl (SOps.nil (SCode.nilIsl (t := 10) (sz := 2) rfl (SCode.ret ?_)))))
    exact ⟨_, Res.two (.tmp rfl) (.tmp rfl), (by unfold splitR; rw [if_neg (fun h9 => by unfold argS at h9; simp only [Bool.and_eq_true] at h9; simp_all)]; rfl), rfl⟩
   ·try simp only [nmL] at hb3
    refine SOps.move rfl (SOps.move rfl (SOps.callP (q10Word _ _ (by assumption)) rfl ?_))
    rintro _ rfl
    refine SOps.un rfl rfl (SOps.pick rfl rfl (SOps.nil ?_))
    refine SCode.cond rfl (fun hc4 => ?_) (fun hc4 => ?_)
    ·try simp only [nmL] at hc4
     refine SCode.seqR (SOps.assign rfl (SOps.assign rfl (SOps.nil (SCode.nilIsl (t := 10) (sz := 2) rfl (SCode.ret ?_)))))
     exact ⟨_, Res.two (.tmp rfl) (.tmp rfl), (by unfold splitR; rw [if_neg (fun h9 => by unfold argS at h9; simp only [Bool.and_eq_true] at h9; simp_all)]; rfl), rfl⟩
    ·try simp only [nmL] at hc4
     refine SCode.skip ?_
     show SCode _ _ _ _
     refine SCode.seqR ?_
     have harg : argS a l hs cs w = true := by unfold argS; simp_all
     have ho5 := once_few h5
     have ho4 := once_few h4
     have hq21 := seqL_len (onceL cs)
     have hmm : (onceL cs).length * (onceL cs).length ≤ 4 * 4 := Nat.mul_le_mul ho4 ho4
     have hmq : (onceL hs).length * (seqL (onceL cs)).length ≤ 5 * 21 := Nat.mul_le_mul ho5 (by omega)
     have hal : a.length ≤ 64 := by have h9 := harg; unfold argS at h9; simp only [Bool.and_eq_true] at h9; have := validA_iff.1 (validS_iff.1 h9.1.1.1).1; omega
     have hwh : ∀ s ∈ hs, isWordA a s = true := by have h9 := harg; unfold argS at h9; simp only [Bool.and_eq_true, List.all_eq_true] at h9; exact h9.1.1.2
     have hwc : ∀ s ∈ cs, isWordA a s = true := by have h9 := harg; unfold argS at h9; simp only [Bool.and_eq_true, List.all_eq_true] at h9; exact h9.1.2
     have hfew := split_few (a := a) (l := l) (w := w) h5 h4
     refine SOps.move rfl (SOps.callP (q14Once _ (by omega)) rfl ?_)
     rintro _ rfl
     refine SOps.move rfl (SOps.callP (q14Once _ (by omega)) rfl ?_)
     rintro _ rfl
     refine SOps.callP (q14Seq _ (by omega)) rfl ?_
     rintro _ rfl
     refine SOps.assign rfl (SOps.assign rfl (SOps.nil (SCode.seqR ?_)))
     refine SOps.litO sliceB_36_50_2 zeroIs_50 rfl (fun b0 hb_0 => ?_)
     refine SOps.assign rfl (SOps.nil (SCode.seq (SCode.seqR (SOps.assign rfl (SOps.nil (SCode.block (SCode.loop2 (fun (i : Nat) (k : Nat) => (⟨91, [(0, DLs a), (1, DRs l), (4, .v (.string w)), (12, DStrs (onceL hs)), (13, .isl false 1 ((seqL (onceL cs)).map encSS)), (14, .sl k 2 0 ((spA a l w (onceL hs) (seqL (onceL cs)) i)).length), (15, .v (.int .i64 (i : Int)))], [(k, .row 50 2 (((spA a l w (onceL hs) (seqL (onceL cs)) i)).map encSg))]⟩ : St)) (fun (i : Nat) (k : Nat) => i ≤ (onceL hs).length) (fun (i : Nat) (k : Nat) => (onceL hs).length - i) (0) (b0) (by exact Nat.zero_le _) (St.Le.of ⟨(by first | rfl | (show some _ = some _; simp)), (by first | rfl | (show some _ = some _; simp)), (by first | rfl | (show some _ = some _; simp)), (by first | rfl | (show some _ = some _; simp)), (by first | rfl | (show some _ = some _; simp)), (by first | rfl | (show some _ = some _; simp)), (by first | rfl | (show some _ = some _; simp)), trivial⟩ rfl (by first | rfl | (simp))) ?_)))))))
     rintro i k hi
     have hol := spA_len a l w (onceL hs) (seqL (onceL cs)) i
     refine SCode.seq (SCode.seqR (SOps.move rfl (SOps.move rfl (SOps.lenM rfl sliceB_35_9_1 (SOps.bin rfl rfl rfl (SOps.nil ?_))))))
     refine SCode.cond rfl (fun hc5 => ?_) (fun hc5 => ?_)
     ·try simp only [nmL] at hc5
      refine SCode.skip ?_
      show SCode _ _ _ _
      refine SCode.seq (SCode.block (SCode.seqR (SOps.assign rfl (SOps.nil (SCode.block ?_)))))
      have hil : i < (onceL hs).length := by omega
      refine SCode.loop2 (fun (j : Nat) (k : Nat) => (⟨91, [(0, DLs a), (1, DRs l), (4, .v (.string w)), (12, DStrs (onceL hs)), (13, .isl false 1 ((seqL (onceL cs)).map encSS)), (14, .sl k 2 0 ((spB a l w (onceL hs) (seqL (onceL cs)) i j)).length), (15, .v (.int .i64 (i : Int))), (16, .v (.int .i64 (j : Int)))], [(k, .row 50 2 (((spB a l w (onceL hs) (seqL (onceL cs)) i j)).map encSg))]⟩ : St)) (fun (j : Nat) (k : Nat) => j ≤ (seqL (onceL cs)).length) (fun (j : Nat) (k : Nat) => (seqL (onceL cs)).length - j) (0) (k) (by exact Nat.zero_le _) (St.Le.of ⟨rfl, rfl, rfl, rfl, rfl, (by rw [spB_zero]; rfl), rfl, rfl, trivial⟩ rfl (by rw [spB_zero]; try rfl)) ?_
      rintro j k hj
      have hol := spB_len a l w (onceL hs) (seqL (onceL cs)) i j
      refine SCode.seq (SCode.seqR (SOps.move rfl (SOps.move rfl (SOps.lenM rfl sliceB_73_35_1 (SOps.bin rfl rfl rfl (SOps.nil ?_))))))
      refine SCode.cond rfl (fun hc6 => ?_) (fun hc6 => ?_)
      ·try simp only [nmL] at hc6
       refine SCode.skip ?_
       show SCode _ _ _ _
       refine SCode.seq (SCode.block (SCode.seq ?_))
       have hjl : j < (seqL (onceL cs)).length := by omega
       have hmem : (⟨(onceL hs)[i], (seqL (onceL cs))[j]⟩ : Sg) ∈ candL (onceL hs) (onceL cs) := List.mem_flatMap.2 ⟨_, List.getElem_mem hil, List.mem_map.2 ⟨_, List.getElem_mem hjl, rfl⟩⟩
       have hcm := candL_mem hmem
       have hwi : isWordA a (⟨(onceL hs)[i], (seqL (onceL cs))[j]⟩ : Sg).host = true := hwh _ (onceL_mem hcm.1)
       have hwj : ∀ c ∈ (⟨(onceL hs)[i], (seqL (onceL cs))[j]⟩ : Sg).cls, isWordA a c = true := fun c hc => hwc _ (onceL_mem (hcm.2.2 c hc))
       have hnx := spB_next (a := a) (l := l) (w := w) hil hjl
       apply SCode.drawG 12 [some 60, some 61, some 62, some 63, some 64, some 65, some 66, some 67, some 68, some 17, none] [[.inr 12], [.inr 15], [.inl 0, .inl 1], [.inl 2], [.inr 13], [.inr 16], [.inl 4, .inl 5], [.inl 6], [.inl 3, .inl 7], [], [.inl 9, .inl 8]] [[9, 10]] [none, none, none, none, none, none, none, none, none, some (0, 0), some (0, 1)] [[], [], [], [], [], [], [], [], [], [9], []] ([(k, .row 50 2 (((spB a l w (onceL hs) (seqL (onceL cs)) i j)).map encSg))]) [⟨[9, 10], fun ids c => match c with | 0 => [] | 1 => [((ids.getD 0 0), .row 50 2 [[.v (.string .empty), .v (.slice none 0 0)]])] | _ => [((ids.getD 0 0), .row 50 2 [encSg (⟨(onceL hs)[i], (seqL (onceL cs))[j]⟩ : Sg)])]⟩] mixed_
       ·kernel_rfl
       ·rfl
       ·exact fun _ => .refl _
       ·apply GOk.rd 60
        ·rfl
        ·exact fun b => (NeedG.inr _ rfl NeedG.nil)
        ·intro b rest ext
         refine SOps.move rfl ?_
         exact SOps.nil rfl
        apply GOk.rd 61
        ·rfl
        ·exact fun b => (NeedG.inr _ rfl NeedG.nil)
        ·intro b rest ext
         refine SOps.move rfl ?_
         exact SOps.nil rfl
        apply GOk.rd 62
        ·rfl
        ·exact fun b => (NeedG.inl 1 _ _ rfl rfl rfl (NeedG.inl 0 _ _ rfl rfl rfl NeedG.nil))
        ·intro b rest ext
         refine SOps.indexM (i) rfl rfl sliceB_35_9_1 (by first | omega | (simp only [lenB]; omega)) (by first | omega | (simp only [lenB]; omega)) ?_
         exact SOps.nil rfl
        apply GOk.rd 63
        ·rfl
        ·exact fun b => (NeedG.inl 0 _ _ rfl rfl rfl NeedG.nil)
        ·intro b rest ext
         refine SOps.loadPin rfl flatB_9 ?_
         exact SOps.nil rfl
        apply GOk.rd 64
        ·rfl
        ·exact fun b => (NeedG.inr _ rfl NeedG.nil)
        ·intro b rest ext
         refine SOps.move rfl ?_
         exact SOps.nil rfl
        apply GOk.rd 65
        ·rfl
        ·exact fun b => (NeedG.inr _ rfl NeedG.nil)
        ·intro b rest ext
         refine SOps.move rfl ?_
         exact SOps.nil rfl
        apply GOk.rd 66
        ·rfl
        ·exact fun b => (NeedG.inl 1 _ _ rfl rfl rfl (NeedG.inl 0 _ _ rfl rfl rfl NeedG.nil))
        ·intro b rest ext
         refine SOps.indexM (j) rfl rfl sliceB_73_35_1 (by first | omega | (simp only [lenB]; omega)) (by first | omega | (simp only [lenB]; omega)) ?_
         exact SOps.nil rfl
        apply GOk.rd 67
        ·rfl
        ·exact fun b => (NeedG.inl 0 _ _ rfl rfl rfl NeedG.nil)
        ·intro b rest ext
         refine SOps.loadPin rfl flatB_35 ?_
         exact SOps.nil rfl
        apply GOk.rd 68
        ·rfl
        ·exact fun b => (NeedG.inl 4 _ _ rfl rfl rfl (NeedG.inl 0 _ _ rfl rfl rfl NeedG.nil))
        ·intro b rest ext
         refine SOps.buildM placesB_50 zeroIs_50 rfl rfl ?_
         exact SOps.nil rfl
        apply GOk.act [9] (fun ids => some (17, .ref (ids.getD 0 0) 0))
        ·rfl
        ·rfl
        ·rfl
        ·exact fun b => NeedG.nil
        ·intro b rest ext
         refine SOps.alloc (sz := 2) zeroIs_50 (fun b1 hb_1 => ?_)
         exact SOps.nil ⟨fun k => if k = 9 then b1 else b k, fun k hk => if_neg hk, ⟨rfl, fun t d h => .inl h, _, List.perm_middle, .refl _⟩⟩
        apply GOk.act [] (fun _ => none)
        ·rfl
        ·rfl
        ·rfl
        ·exact fun b => (NeedG.inl 0 _ _ rfl rfl rfl (NeedG.inl 1 _ _ rfl rfl rfl NeedG.nil))
        ·intro b rest ext
         refine SOps.storeAM 1 rfl rfl aggB_50_2 rfl ?_
         exact SOps.nil ⟨b, fun _ _ => rfl, ⟨rfl, fun t d h => .inl h, _, .refl _, .refl _⟩⟩
        exact GOk.nil
       ·exact fun _ => rfl
       ·intro ids
        show SCode _ _ _ _
        refine SCode.seqR (SOps.freezeRef (t := 17) 1 0 rfl rfl rfl rfl rfl (SOps.move rfl (SOps.move rfl (SOps.loadPinA rfl aggB_50_2 (Nat.le_of_ble_eq_true rfl) (SOps.callP (q14All hV a l (⟨(onceL hs)[i], (seqL (onceL cs))[j]⟩ : Sg) hr hwi hwj hal (by have := hcm.2.1; omega)) rfl ?_)))))
        rintro _ rfl
        refine SOps.move rfl (SOps.extract rfl rfl (SOps.extract rfl rfl (SOps.assign rfl (SOps.assign rfl (SOps.nil (SCode.seqR (SOps.move rfl (SOps.bin rfl rfl rfl (SOps.move rfl ?_)))))))))
        refine SOps.caseB 78 rfl (fun hb7 => ?_) (fun hb7 => ?_)
        ·try simp only [nmL] at hb7
         refine SOps.move rfl (SOps.move rfl (SOps.bin rfl rfl rfl (SOps.pick rfl rfl (SOps.nil ?_))))
         refine SCode.cond rfl (fun hc8 => ?_) (fun hc8 => ?_)
         ·try simp only [nmL] at hc8
          refine SCode.region (SOps.move rfl (SOps.loadPinA rfl aggB_50_2 (Nat.le_of_ble_eq_true rfl) (SOps.litF rfl sliceB_36_50_2 zeroIs_50 rfl ?_)))
          refine SOps.appendOwn 0 sliceB_36_50_2 elemB_50_2_40 rfl rfl rfl (by simp) SrcD.isl (by simp) (by first | (simp [lenB] <;> (first | omega | (simp only [lenB]; omega))) | (simp only [lenB]; (first | omega | (simp only [lenB]; omega)))) (by first | (simp <;> (first | omega | (simp only [lenB]; omega))) | (first | omega | (simp only [lenB]; omega))) (fun b2 hb_2 => ?_)
          refine SOps.assign rfl (SOps.nil ?_)
          show SCode _ _ _ _
          refine SCode.region (SOps.move rfl (SOps.addI rfl rfl (by first | omega | (simp only [lenB]; omega)) (by first | omega | (simp only [lenB]; omega)) (SOps.assign rfl (SOps.nil ?_))))
          exact ⟨j + 1, b2, by omega, by omega, St.Le.of ⟨rfl, rfl, rfl, rfl, rfl, (by show some _ = some _; rw [hnx, if_pos (by unfold okSg; simp_all)]; simp), rfl, rfl, trivial⟩ rfl (by rw [hnx, if_pos (by unfold okSg; simp_all), List.map_append]; rfl)⟩
         ·try simp only [nmL] at hc8
          refine SCode.skip ?_
          show SCode _ _ _ _
          refine SCode.region (SOps.move rfl (SOps.addI rfl rfl (by first | omega | (simp only [lenB]; omega)) (by first | omega | (simp only [lenB]; omega)) (SOps.assign rfl (SOps.nil ?_))))
          exact ⟨j + 1, k, by omega, by omega, St.Le.of ⟨rfl, rfl, rfl, rfl, rfl, (by rw [hnx, if_neg (by unfold okSg; simp_all)]; rfl), rfl, rfl, trivial⟩ rfl (by rw [hnx, if_neg (by unfold okSg; simp_all)]; try rfl)⟩
        ·try simp only [nmL] at hb7
         refine SOps.skip rfl (SOps.skip rfl (SOps.skip rfl (SOps.pick rfl rfl (SOps.nil ?_))))
         refine SCode.cond rfl (fun h => by cases h) (fun _ => ?_)
         refine SCode.skip ?_
         show SCode _ _ _ _
         refine SCode.region (SOps.move rfl (SOps.addI rfl rfl (by first | omega | (simp only [lenB]; omega)) (by first | omega | (simp only [lenB]; omega)) (SOps.assign rfl (SOps.nil ?_))))
         exact ⟨j + 1, k, by omega, by omega, St.Le.of ⟨rfl, rfl, rfl, rfl, rfl, (by rw [hnx, if_neg (by unfold okSg; simp_all)]; rfl), rfl, rfl, trivial⟩ rfl (by rw [hnx, if_neg (by unfold okSg; simp_all)]; try rfl)⟩
      ·try simp only [nmL] at hc6
       refine SCode.exit ?_
       show SCode _ _ _ _
       refine SCode.region (SOps.move rfl (SOps.addI rfl rfl (by first | omega | (simp only [lenB]; omega)) (by first | omega | (simp only [lenB]; omega)) (SOps.assign rfl (SOps.nil ?_))))
       exact ⟨i + 1, k, by omega, by omega, St.Le.of ⟨rfl, rfl, rfl, rfl, rfl, (by rw [← spB_all hil (show (seqL (onceL cs)).length ≤ j by omega)]; rfl), rfl, trivial⟩ rfl (by rw [← spB_all hil (show (seqL (onceL cs)).length ≤ j by omega)]; try rfl)⟩
     ·try simp only [nmL] at hc5
      refine SCode.exit ?_
      show SCode _ _ _ _
      refine SCode.seq (SCode.seqR (SOps.move rfl (SOps.lenSl rfl sliceB_36_50_2 (SOps.bin rfl rfl rfl (SOps.nil ?_)))))
      refine SCode.cond rfl (fun hc9 => ?_) (fun hc9 => ?_)
      ·try simp only [nmL] at hc9
       refine SCode.seqR (SOps.assign rfl (SOps.assign rfl (SOps.nil ?_)))
       exfalso
       have hfin := spA_all (a := a) (l := l) (w := w) (cs := cs) (show (onceL hs).length ≤ i by omega)
       have := congrArg List.length hfin
       omega
      ·try simp only [nmL] at hc9
       refine SCode.skip ?_
       show SCode _ _ _ _
       refine SCode.seqR (SOps.freezeS (t := 14) 0 rfl rfl rfl (by simp) (SOps.move rfl (SOps.assign rfl (SOps.assign rfl (SOps.nil (SCode.drop (SCode.ret ?_)))))))
       exact ⟨_, Res.two (.tmp rfl) (.tmp rfl), (by unfold splitR; rw [if_pos harg, if_neg (by omega), spA_all (show (onceL hs).length ≤ i by omega)]), rfl⟩
end Go.GH
namespace Go.GH
open Go Go.Proofs
variable {E : Env}
theorem l14Splits (hV : VS E) (hA : AW14 E) (a : List Letter) (l : List Rule) (hs cs : List ByteArray) (w : ByteArray) (hr : ∀ r ∈ l, SmR r) (z1 : ∀ s ∈ hs, s.size ≤ 1048576) (z2 : ∀ s ∈ cs, s.size ≤ 1048576) (z3 : w.size ≤ 1048576) : GCall Tryd.prog E 5 [DLs a, DRs l, DStrs hs, DStrs cs, .v (.string w)] [] (fun d H => d = .v (.bool true) ∧ H = []) := by
 refine GCall.body (C := ⟨Tryd.prog, E, true⟩) Tryd.func5 rfl (fun _ => rfl) (by kernel_rfl) rfl ?_
 refine SCode.seqR (SOps.assign rfl (SOps.nil (SCode.seq (SCode.seqR (SOps.callP hA rfl ?_)))))
 rintro _ rfl
 refine SOps.un rfl rfl (SOps.nil ?_)
 refine SCode.cond rfl (fun h => by cases h) (fun _ => ?_)
 refine SCode.skip ?_
 show SCode _ _ _ _
 refine SCode.seq (SCode.seqR (SOps.move rfl (SOps.move rfl (SOps.callP (l14Few _ _) rfl ?_))))
 rintro _ rfl
 refine SOps.un rfl rfl (SOps.move rfl ?_)
 refine SOps.caseB 21 rfl (fun hb1 => ?_) (fun hb1 => ?_)
 ·try simp only [nmL] at hb1
  refine SOps.skip rfl (SOps.skip rfl (SOps.skip rfl (SOps.pick rfl rfl (SOps.move rfl (SOps.skip rfl (SOps.skip rfl (SOps.skip rfl (SOps.pick rfl rfl (SOps.nil ?_)))))))))
  refine SCode.cond rfl (fun _ => ?_) (fun h => by cases h)
  refine SCode.seqR (SOps.assign rfl (SOps.nil (SCode.ret ?_)))
  exact ⟨_, Res.one (.tmp rfl), rfl, rfl⟩
 ·try simp only [nmL] at hb1
  refine SOps.move rfl (SOps.lenM rfl sliceB_35_9_1 (SOps.bin rfl rfl rfl (SOps.pick rfl rfl (SOps.move rfl ?_))))
  refine SOps.caseB 26 rfl (fun hb2 => ?_) (fun hb2 => ?_)
  ·try simp only [nmL] at hb2
   refine SOps.skip rfl (SOps.skip rfl (SOps.skip rfl (SOps.pick rfl rfl (SOps.nil ?_))))
   refine SCode.cond rfl (fun _ => ?_) (fun h => by cases h)
   refine SCode.seqR (SOps.assign rfl (SOps.nil (SCode.ret ?_)))
   exact ⟨_, Res.one (.tmp rfl), rfl, rfl⟩
  ·try simp only [nmL] at hb2
   refine SOps.move rfl (SOps.lenM rfl sliceB_35_9_1 (SOps.bin rfl rfl rfl (SOps.pick rfl rfl (SOps.nil ?_))))
   refine SCode.cond rfl (fun hc3 => ?_) (fun hc3 => ?_)
   ·try simp only [nmL] at hc3
    refine SCode.seqR (SOps.assign rfl (SOps.nil (SCode.ret ?_)))
    exact ⟨_, Res.one (.tmp rfl), rfl, rfl⟩
   ·try simp only [nmL] at hc3
    refine SCode.skip ?_
    show SCode _ _ _ _
    refine SCode.seqR (SOps.move rfl (SOps.move rfl (SOps.move rfl (SOps.move rfl (SOps.move rfl (SOps.callP (cSplit hV _ _ _ _ _ hr (by omega) (by omega)) rfl ?_))))))
    rintro _ rfl
    refine SOps.move rfl (SOps.extract rfl rfl (SOps.extract rfl rfl (SOps.assign rfl (SOps.assign rfl (SOps.nil (SCode.seqR (SOps.move rfl (SOps.move rfl (SOps.move rfl (SOps.move rfl (SOps.move rfl (SOps.callP (q14Split hV _ _ _ _ _ hr z1 z2 z3 (by omega) (by omega)) rfl ?_))))))))))))
    rintro _ rfl
    refine SOps.move rfl (SOps.extract rfl rfl (SOps.extract rfl rfl (SOps.assign rfl (SOps.assign rfl (SOps.nil (SCode.seqR ?_))))))
    have hfw := split_small (a := a) (l := l) (w := w) (show hs.length ≤ 5 by omega) (show cs.length ≤ 4 by omega)
    obtain ⟨hfw, hcw⟩ := hfw
    refine SOps.move rfl (SOps.move rfl (SOps.bin rfl rfl rfl (SOps.reSlot (t := 51) rfl (show _ = DV.v (.bool true) from congrArg (fun b => DV.v (.bool b)) (by simp)) (SOps.move rfl (SOps.move rfl (SOps.move rfl (SOps.callP (q14Same _ _ hfw hcw) rfl ?_)))))))
    rintro _ rfl
    refine SOps.reSlot (t := 55) rfl (show _ = DV.v (.bool true) from congrArg (fun b => DV.v (.bool b)) (decide_eq_true rfl)) (SOps.pick rfl rfl (SOps.assign rfl (SOps.nil (SCode.ret ?_))))
    exact ⟨_, Res.one (.tmp rfl), rfl, rfl⟩
end Go.GH
