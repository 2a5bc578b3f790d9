/-
  Part 4 of the texts behind the walks of this claim: an own layer over the kit's wp, plain laws, and walks. No conditions.
-/
import Derived.Test.YteodhhepbnehhaaGreatDoorMz3
import Derived.KernelRfl
set_option linter.unusedVariables false
set_option linter.unusedSimpArgs false
set_option linter.deprecated false
namespace Go.GH
open Go Go.Proofs
variable {E : Env}
theorem someB_21 : (Tryz.prog.underlying 21).isSome = true := by kernel_rfl
theorem wideW (w : Int)  : GCall Tryz.prog E 81 [.v (.int .i64 w)] [] (fun d H => d = .v (.bool (wideB w)) ∧ H = []) := by
 refine GCall.body (C := ⟨Tryz.prog, E, true⟩) Tryz.func81 rfl (fun _ => rfl) (by kernel_rfl) rfl ?_
 refine SCode.seqR (SOps.assign rfl (SOps.nil (SCode.seqR (SOps.move rfl (SOps.bin rfl rfl rfl (SOps.move rfl ?_))))))
 refine SOps.caseB 5 rfl (fun hb1 => ?_) (fun hb1 => ?_)
 ·try simp only [nmL] at hb1
  refine SOps.move rfl (SOps.bin rfl rfl rfl (SOps.pick rfl rfl (SOps.assign rfl (SOps.nil (SCode.ret ?_)))))
  exact ⟨_, Res.one (.tmp rfl), congrArg (fun b => DV.v (.bool b)) (by rw [Bool.eq_iff_iff]; simp only [wideB, Bool.and_eq_true, decide_eq_true_eq, Bool.false_eq_true, Bool.true_eq_false, beq_iff_eq]; first | omega | (simp; omega)), rfl⟩
 ·try simp only [nmL] at hb1
  refine SOps.skip rfl (SOps.skip rfl (SOps.pick rfl rfl (SOps.assign rfl (SOps.nil (SCode.ret ?_)))))
  exact ⟨_, Res.one (.tmp rfl), congrArg (fun b => DV.v (.bool b)) (by rw [Bool.eq_iff_iff]; simp only [wideB, Bool.and_eq_true, decide_eq_true_eq, Bool.false_eq_true, Bool.true_eq_false, beq_iff_eq]; first | omega | (simp; omega)), rfl⟩
theorem qWidth (w : Int)  : GCall Tryz.prog E 44 [.v (.int .i64 w)] [] (fun d H => d = .v (.bool (wideB w)) ∧ H = []) := by
 refine GCall.body (C := ⟨Tryz.prog, E, true⟩) Tryz.func44 rfl (fun _ => rfl) (by kernel_rfl) rfl ?_
 refine SCode.seqR (SOps.assign rfl (SOps.nil (SCode.seqR (SOps.move rfl (SOps.bin rfl rfl rfl (SOps.move rfl ?_))))))
 refine SOps.caseB 5 rfl (fun hb1 => ?_) (fun hb1 => ?_)
 ·try simp only [nmL] at hb1
  refine SOps.move rfl (SOps.bin rfl rfl rfl (SOps.pick rfl rfl (SOps.assign rfl (SOps.nil (SCode.ret ?_)))))
  exact ⟨_, Res.one (.tmp rfl), congrArg (fun b => DV.v (.bool b)) (by rw [Bool.eq_iff_iff]; simp only [wideB, Bool.and_eq_true, decide_eq_true_eq, Bool.false_eq_true, Bool.true_eq_false, beq_iff_eq]; first | omega | (simp; omega)), rfl⟩
 ·try simp only [nmL] at hb1
  refine SOps.skip rfl (SOps.skip rfl (SOps.pick rfl rfl (SOps.assign rfl (SOps.nil (SCode.ret ?_)))))
  exact ⟨_, Res.one (.tmp rfl), congrArg (fun b => DV.v (.bool b)) (by rw [Bool.eq_iff_iff]; simp only [wideB, Bool.and_eq_true, decide_eq_true_eq, Bool.false_eq_true, Bool.true_eq_false, beq_iff_eq]; first | omega | (simp; omega)), rfl⟩
theorem qPenalty (w : Int)  : GCall Tryz.prog E 56 [.v (.int .i64 w)] [] (fun d H => d = .v (.bool (penB w)) ∧ H = []) := by
 refine GCall.body (C := ⟨Tryz.prog, E, true⟩) Tryz.func56 rfl (fun _ => rfl) (by kernel_rfl) rfl ?_
 refine SCode.seqR (SOps.assign rfl (SOps.nil (SCode.seqR (SOps.move rfl (SOps.bin rfl rfl rfl (SOps.move rfl ?_))))))
 refine SOps.caseB 5 rfl (fun hb1 => ?_) (fun hb1 => ?_)
 ·try simp only [nmL] at hb1
  refine SOps.move rfl (SOps.bin rfl rfl rfl (SOps.pick rfl rfl (SOps.assign rfl (SOps.nil (SCode.ret ?_)))))
  exact ⟨_, Res.one (.tmp rfl), congrArg (fun b => DV.v (.bool b)) (by rw [Bool.eq_iff_iff]; simp only [penB, Bool.and_eq_true, decide_eq_true_eq, Bool.false_eq_true, Bool.true_eq_false, beq_iff_eq]; first | omega | (simp; omega)), rfl⟩
 ·try simp only [nmL] at hb1
  refine SOps.skip rfl (SOps.skip rfl (SOps.pick rfl rfl (SOps.assign rfl (SOps.nil (SCode.ret ?_)))))
  exact ⟨_, Res.one (.tmp rfl), congrArg (fun b => DV.v (.bool b)) (by rw [Bool.eq_iff_iff]; simp only [penB, Bool.and_eq_true, decide_eq_true_eq, Bool.false_eq_true, Bool.true_eq_false, beq_iff_eq]; first | omega | (simp; omega)), rfl⟩
theorem uRuneCountW (s : ByteArray)  : GCall Tryz.prog E 39 [.v (.string s)] [] (fun d H => d = .v (.int .i64 ((wlen s : Nat) : Int)) ∧ H = []) := by
 refine GCall.body (C := ⟨Tryz.prog, E, true⟩) Tryz.func39 rfl (fun _ => rfl) (by kernel_rfl) rfl ?_
 refine SCode.seqR (SOps.assign rfl (SOps.nil (SCode.seq (SCode.seqR (SOps.move rfl ?_)))))
 refine SOps.rangeStr rfl strB_9 (fun b0 hb_0 => ?_)
 refine SOps.nil (SCode.block ?_)
 refine SCode.fact (v_scal (t := 0) rfl) (fun hS => ?_)
 simp only [scal, lenB] at hS
 refine SCode.loop3 (fun (p : Nat) (n : Nat) (b : Nat) => (⟨10, [(2, .v (.int .i64 (n : Int))), (4, .it b)], [(b, .iter s p)]⟩ : St)) (fun (p : Nat) (n : Nat) (b : Nat) => n ≤ p ∧ n + (runesAt s p).length = (runes s).length) (fun (p : Nat) (n : Nat) (b : Nat) => s.size - p) (0) (0) (b0) (by exact ⟨Nat.le_refl _, by rw [Nat.zero_add]; rfl⟩) (St.Le.of ⟨(by first | rfl | (show some _ = some _; simp)), (by first | rfl | (show some _ = some _; simp)), trivial⟩ rfl (by first | rfl | (simp))) ?_
 rintro p n b ⟨hn, hl⟩
 refine SCode.seqR ?_
 refine SOps.next 0 rfl rfl (fun hn1 => ?_) (fun hn1 => ?_) (by first | omega | (simp only [lenB]; omega))
 ·refine SOps.extract rfl rfl (SOps.nil (SCode.seq ?_))
  refine SCode.cond rfl (fun _ => ?_) (fun h => by cases h)
  refine SCode.skip ?_
  show SCode _ _ _ _
  refine SCode.block (SCode.region (SOps.move rfl (SOps.addI rfl rfl (by first | omega | (simp only [lenB]; omega)) (by first | omega | (simp only [lenB]; omega)) (SOps.assign rfl (SOps.nil ?_)))))
  exact ⟨p + (Utf8.decode s p).2, n + 1, b, by exact ⟨by have := decode_w s p; omega, by rw [← hl, runes_len_step hn1]; omega⟩, by have := decode_w s p; omega, (St.Le.of ⟨(by first | rfl | (show some _ = some _; simp)), (by first | rfl | (show some _ = some _; simp)), trivial⟩ rfl (by first | rfl | (simp)))⟩
 ·refine SOps.extract rfl rfl (SOps.nil (SCode.seq ?_))
  refine SCode.cond rfl (fun h => by cases h) (fun _ => ?_)
  refine SCode.exit ?_
  show SCode _ _ _ _
  refine SCode.seqR (SOps.move rfl (SOps.assign rfl (SOps.nil (SCode.drop (SCode.ret ?_)))))
  exact ⟨_, Res.one (.tmp rfl), by rw [wlen, ← hl, runesAt_ge (by omega)]; rfl, rfl⟩
theorem isSp_wide {r : Int} (h : 128 ≤ r) : isSp r = false := by simp only [isSp, Bool.or_eq_false_iff, beq_eq_false_iff_ne]; omega
theorem enc_wide {r : Int} (hv : Utf8.valid r = true) (h : 128 ≤ r) : 2 ≤ (Utf8.encode r).size ∧ ∀ (i : Nat) (hi : i < (Utf8.encode r).size), 128 ≤ ((Utf8.encode r)[i]).toNat := by
  obtain ⟨c, rfl, hc⟩ := valid_cases hv
  have key : ∀ {b : ByteArray}, Utf8.encode (c : Int) = b → (2 ≤ b.size ∧ ∀ x ∈ b.data.toList, 128 ≤ x.toNat) → 2 ≤ (Utf8.encode (c : Int)).size ∧ ∀ (i : Nat) (hi : i < (Utf8.encode (c : Int)).size), 128 ≤ ((Utf8.encode (c : Int))[i]).toNat := by
    intro b e h
    rw [e]
    exact ⟨h.1, fun i hi => h.2 _ (by rw [Array.mem_toList_iff]; exact Array.getElem_mem hi)⟩
  have big : ∀ n : Nat, 128 ≤ n → n < 256 → 128 ≤ (UInt8.ofNat n).toNat := fun n h1 h2 => by rw [toNat_ofNat h2]; exact h1
  rcases Nat.lt_or_ge c 2048 with h2 | h2
  · exact key (enc_2 hv (by omega) h2) ⟨Nat.le_refl 2, fun x hx => by
      simp only [List.mem_cons, List.not_mem_nil, or_false] at hx
      rcases hx with rfl | rfl <;> exact big _ (by omega) (by omega)⟩
  · rcases Nat.lt_or_ge c 65536 with h3 | h3
    · exact key (enc_3 hv h2 h3) ⟨Nat.le_of_ble_eq_true rfl, fun x hx => by
        simp only [List.mem_cons, List.not_mem_nil, or_false] at hx
        rcases hx with rfl | rfl | rfl <;> exact big _ (by omega) (by omega)⟩
    · exact key (enc_4 hv h3) ⟨Nat.le_of_ble_eq_true rfl, fun x hx => by
        simp only [List.mem_cons, List.not_mem_nil, or_false] at hx
        rcases hx with rfl | rfl | rfl | rfl <;> exact big _ (by omega) (by omega)⟩
theorem spnl_dec {p : Nat} (h : p < spnl.size) : ((Utf8.decode spnl p).1 : Int) ≠ 65533 := by
  have h2 : p < 2 := h
  rcases (show p = 0 ∨ p = 1 by omega) with rfl | rfl <;> decide
theorem sIndexByteE (b : Int) (hb : IntKind.u8.has b) : GCall Tryz.prog E 165 [.v (.string ⟨#[]⟩), .v (.int .u8 b)] [] (fun d H => d = .v (.int .i64 (-1)) ∧ H = []) :=
  GCall.ofCalls (by kernel_rfl) (has_i64 (by decide) (by decide)) (fun w F vs hE hl hr => by
    obtain ⟨rfl, _, h2⟩ := arg2 hl hr
    have := Any.strings_IndexByte (P := Tryz.prog) (ρ := Tryz.laysAny_ren) { Tryz.laysAny with } ⟨#[]⟩ b w
    exact this.mono fun e w' ⟨h1, h2⟩ => ⟨h1, h2 ▸ RowKit.Below.refl _ _⟩)
theorem sIndexRuneW (r : Int) (hv : Utf8.valid r = true) (h1 : 128 ≤ r) : GCall Tryz.prog E 144 [.v (.string spnl), .v (.int .i32 r)] [] (fun d H => d = .v (.int .i64 (-1)) ∧ H = []) := by
 obtain ⟨he1, he2⟩ := enc_wide hv h1
 have he3 := encode_size r
 have hsz : spnl.size = 2 := rfl
 have hsp1 : ∀ (i : Nat) (hi : i < spnl.size), i = 1 → (spnl[i]).toNat = 10 := by intro i hi h; subst h; rfl
 have hv2 : runeOK r = true := by simp only [runeOK, Utf8.valid, Bool.or_eq_true, Bool.and_eq_true, decide_eq_true_eq] at hv ⊢; omega
 refine GCall.body (C := ⟨Tryz.prog, E, true⟩) Tryz.func144 rfl (fun _ => rfl) (by kernel_rfl) rfl ?_
 refine SCode.seqR (SOps.assign rfl (SOps.nil (SCode.block (SCode.seqR (SOps.move rfl (SOps.bin rfl rfl rfl (SOps.reSlot (t := 162) rfl (show _ = DV.v (.bool true) from congrArg (fun b => DV.v (.bool b)) (decide_eq_true (by omega))) (SOps.move rfl (SOps.move rfl (SOps.bin rfl rfl rfl (SOps.reSlot (t := 165) rfl (show _ = DV.v (.bool false) from congrArg (fun b => DV.v (.bool b)) (decide_eq_false (by omega))) (SOps.pick rfl rfl (SOps.assign rfl (SOps.nil ?_))))))))))))))
 refine SCode.cond rfl (fun h => by cases h) (fun _ => ?_)
 refine SCode.seqR (SOps.move rfl (SOps.bin rfl rfl rfl (SOps.assign rfl (SOps.nil ?_))))
 refine SCode.cond rfl (fun hc1 => ?_) (fun hc1 => ?_)
 ·try simp only [nmL] at hc1
  refine SCode.seq (SCode.seqR (SOps.move rfl ?_))
  refine SOps.rangeStr rfl strB_9 (fun b0 hb_0 => ?_)
  refine SOps.nil (SCode.block (SCode.loop2 (fun (p : Nat) (b : Nat) => (⟨187, [(0, .v (.string spnl)), (1, .v (.int .i32 r)), (175, .it b)], [(b, .iter spnl p)]⟩ : St)) (fun (p : Nat) (b : Nat) => True) (fun (p : Nat) (b : Nat) => spnl.size - p) (0) (b0) (by trivial) (St.Le.of ⟨(by first | rfl | (show some _ = some _; simp)), (by first | rfl | (show some _ = some _; simp)), (by first | rfl | (show some _ = some _; simp)), trivial⟩ rfl (by first | rfl | (simp))) ?_))
  rintro p b _
  refine SCode.seqR ?_
  refine SOps.next 0 rfl rfl (fun hn2 => ?_) (fun hn2 => ?_) (by first | omega | (simp only [lenB] <;> omega))
  ·refine SOps.extract rfl rfl (SOps.nil (SCode.seq ?_))
   refine SCode.cond rfl (fun _ => ?_) (fun h => by cases h)
   refine SCode.skip ?_
   show SCode _ _ _ _
   refine SCode.block (SCode.seqR (SOps.extract rfl rfl (SOps.extract rfl rfl (SOps.assign rfl (SOps.assign rfl (SOps.nil (SCode.seqR (SOps.move rfl (SOps.bin rfl rfl rfl (SOps.nil ?_))))))))))
   refine SCode.cond rfl (fun hc3 => ?_) (fun hc3 => ?_)
   ·try simp only [nmL] at hc3
    exact absurd hc3 (spnl_dec (by omega))
   ·try simp only [nmL] at hc3
    refine SCode.skip ?_
    exact ⟨p + (Utf8.decode spnl p).2, b, by trivial, by have := decode_w spnl p; omega, (St.Le.of ⟨(by first | rfl | (show some _ = some _; simp)), (by first | rfl | (show some _ = some _; simp)), (by first | rfl | (show some _ = some _; simp)), trivial⟩ rfl (by first | rfl | (simp)))⟩
  ·refine SOps.extract rfl rfl (SOps.nil (SCode.seq ?_))
   refine SCode.cond rfl (fun h => by cases h) (fun _ => ?_)
   refine SCode.exit ?_
   show SCode _ _ _ _
   refine SCode.seqR (SOps.assign rfl (SOps.nil (SCode.drop (SCode.ret ?_))))
   exact ⟨_, Res.one (.tmp rfl), rfl, rfl⟩
 ·try simp only [nmL] at hc1
  refine SCode.seqR (SOps.move rfl (SOps.callP (uValidRune _) rfl ?_))
  rintro _ rfl
  refine SOps.reSlot (t := 185) rfl (show _ = DV.v (.bool true) from congrArg (fun b => DV.v (.bool b)) (hv2)) (SOps.un rfl rfl (SOps.assign rfl (SOps.nil ?_)))
  refine SCode.cond rfl (fun h => by cases h) (fun _ => ?_)
  refine SCode.scope (SCode.seqR (SOps.move rfl (SOps.convIntStr rfl someB_21 strB_9 (SOps.assign rfl (SOps.nil (SCode.seqR (SOps.move rfl (SOps.lenStr rfl strB_9 (SOps.subI rfl rfl (by first | omega | (simp only [lenB] <;> omega)) (by first | omega | (simp only [lenB] <;> omega)) (SOps.assign rfl (SOps.nil (SCode.seqR (SOps.move rfl (SOps.assign rfl (SOps.nil (SCode.seqR (SOps.assign rfl (SOps.nil (SCode.seq (SCode.block (SCode.loop1 (fun (u : Nat) => (⟨187, [(0, .v (.string spnl)), (1, .v (.int .i32 r)), (7, .v (.string (Utf8.encode r))), (8, .v (.int .i64 (((Utf8.encode r).size : Int) - 1))), (9, .v (.int .i64 (((Utf8.encode r).size : Int) - 1)))], []⟩ : St)) (fun (u : Nat) => True) (fun (u : Nat) => u) (0) (by trivial) (St.Le.of ⟨(by first | rfl | (show some _ = some _; simp)), (by first | rfl | (show some _ = some _; simp)), (by first | rfl | (show some _ = some _; simp)), (by first | rfl | (show some _ = some _; simp)), (by first | rfl | (show some _ = some _; simp)), trivial⟩ rfl (by first | rfl | (simp))) ?_)))))))))))))))))))))
  rintro u _
  refine SCode.seq (SCode.seqR (SOps.move rfl (SOps.move rfl (SOps.lenStr rfl strB_9 (SOps.bin rfl rfl rfl (SOps.nil ?_))))))
  refine SCode.cond rfl (fun hc4 => ?_) (fun hc4 => ?_)
  ·try simp only [nmL] at hc4
   refine SCode.skip ?_
   show SCode _ _ _ _
   refine SCode.block (SCode.scope (SCode.seq (SCode.seq ?_)))
   have hs2 : (Utf8.encode r).size = 2 := by omega
   have hbyte : IntKind.u8.has ((((Utf8.encode r)[(Utf8.encode r).size - 1]).toNat : Nat) : Int) := by have := ((Utf8.encode r)[(Utf8.encode r).size - 1]).toNat_lt; simp only [IntKind.has, IntKind.min, IntKind.max, IntKind.signed, IntKind.bits]; simp; omega
   apply SCode.drawAuto mixed_ [27, 28, 29, 30, 31, 32, 33] [[.inr 0], [.inr 9], [.inl 0, .inl 1], [.inr 7], [.inr 8], [.inl 3, .inl 4], [.inl 2, .inl 5]]
   ·kernel_rfl
   ·kernel_rfl
   ·apply DOk.cons 27 
    ·rfl
    ·exact (NeedIs.inr _ rfl NeedIs.nil)
    ·intro rest
     refine SOps.move rfl ?_
     exact SOps.nil rfl
    apply DOk.cons 28 
    ·rfl
    ·exact (NeedIs.inr _ rfl NeedIs.nil)
    ·intro rest
     refine SOps.move rfl ?_
     exact SOps.nil rfl
    apply DOk.cons 29 
    ·rfl
    ·exact (NeedIs.inl 1 _ _ rfl rfl (NeedIs.inl 0 _ _ rfl rfl NeedIs.nil))
    ·intro rest
     refine SOps.strIndexM (((Utf8.encode r).size - 1)) rfl rfl strB_9 (by first | omega | (simp only [lenB] <;> omega)) (by first | omega | (simp only [lenB] <;> omega)) ?_
     exact SOps.nil rfl
    apply DOk.cons 30 
    ·rfl
    ·exact (NeedIs.inr _ rfl NeedIs.nil)
    ·intro rest
     refine SOps.move rfl ?_
     exact SOps.nil rfl
    apply DOk.cons 31 
    ·rfl
    ·exact (NeedIs.inr _ rfl NeedIs.nil)
    ·intro rest
     refine SOps.move rfl ?_
     exact SOps.nil rfl
    apply DOk.cons 32 
    ·rfl
    ·exact (NeedIs.inl 1 _ _ rfl rfl (NeedIs.inl 0 _ _ rfl rfl NeedIs.nil))
    ·intro rest
     refine SOps.strIndexM (((Utf8.encode r).size - 1)) rfl rfl strB_9 (by first | omega | (simp only [lenB] <;> omega)) (by first | omega | (simp only [lenB] <;> omega)) ?_
     exact SOps.nil rfl
    apply DOk.cons 33 (.v (.bool true))
    ·rfl
    ·exact (NeedIs.inl 3 _ _ rfl rfl (NeedIs.inl 0 _ _ rfl rfl NeedIs.nil))
    ·intro rest
     refine SOps.bin rfl rfl rfl ?_
     exact SOps.nil (congrArg (fun b => St.put _ 33 (.v (.bool b))) (bne_iff_ne.2 (by have h8 := he2 ((Utf8.encode r).size - 1) (by omega); have h9 := hsp1 ((Utf8.encode r).size - 1) (by omega) (by omega); omega)))
    exact DOk.nil
   ·rfl
   ·show SCode _ _ _ _
    refine SCode.cond rfl (fun _ => ?_) (fun h => by cases h)
    refine SCode.seq ?_
    apply SCode.drawAuto mixed_ [34, 35, 36, 37, 38, 39, 40, 41, 11] [[.inr 0], [.inr 9], [.inl 1], [.inl 0, .inl 2], [.inr 7], [.inr 8], [.inl 4, .inl 5], [.inl 3, .inl 6], [.inl 7]]
    ·kernel_rfl
    ·kernel_rfl
    ·apply DOk.cons 34 
     ·rfl
     ·exact (NeedIs.inr _ rfl NeedIs.nil)
     ·intro rest
      refine SOps.move rfl ?_
      exact SOps.nil rfl
     apply DOk.cons 35 
     ·rfl
     ·exact (NeedIs.inr _ rfl NeedIs.nil)
     ·intro rest
      refine SOps.move rfl ?_
      exact SOps.nil rfl
     apply DOk.cons 36 
     ·rfl
     ·exact (NeedIs.inl 0 _ _ rfl rfl NeedIs.nil)
     ·intro rest
      refine SOps.addI rfl rfl (by first | omega | (simp only [lenB] <;> omega)) (by first | omega | (simp only [lenB] <;> omega)) ?_
      exact SOps.nil rfl
     apply DOk.cons 37 
     ·rfl
     ·exact (NeedIs.inl 2 _ _ rfl rfl (NeedIs.inl 0 _ _ rfl rfl NeedIs.nil))
     ·intro rest
      refine SOps.sliceStr (2) (_) strB_9 rfl (.at (2) rfl (by first | omega | (simp only [lenB] <;> omega))) .none (by first | omega | (simp only [lenB] <;> omega)) (by first | omega | (simp only [lenB] <;> omega)) ?_
      exact SOps.nil rfl
     apply DOk.cons 38 
     ·rfl
     ·exact (NeedIs.inr _ rfl NeedIs.nil)
     ·intro rest
      refine SOps.move rfl ?_
      exact SOps.nil rfl
     apply DOk.cons 39 
     ·rfl
     ·exact (NeedIs.inr _ rfl NeedIs.nil)
     ·intro rest
      refine SOps.move rfl ?_
      exact SOps.nil rfl
     apply DOk.cons 40 
     ·rfl
     ·exact (NeedIs.inl 1 _ _ rfl rfl (NeedIs.inl 0 _ _ rfl rfl NeedIs.nil))
     ·intro rest
      refine SOps.strIndexM (((Utf8.encode r).size - 1)) rfl rfl strB_9 (by first | omega | (simp only [lenB] <;> omega)) (by first | omega | (simp only [lenB] <;> omega)) ?_
      exact SOps.nil rfl
     apply DOk.cons 41 
     ·rfl
     ·exact (NeedIs.inl 3 _ _ rfl rfl (NeedIs.inl 0 _ _ rfl rfl NeedIs.nil))
     ·intro rest
      refine SOps.callP (sIndexByteE _ hbyte) rfl ?_
      rintro _ rfl
      exact SOps.nil rfl
     apply DOk.cons 11 
     ·rfl
     ·exact (NeedIs.inl 0 _ _ rfl rfl NeedIs.nil)
     ·intro rest
      refine SOps.assign rfl ?_
      exact SOps.nil rfl
     exact DOk.nil
    ·rfl
    ·show SCode _ _ _ _
     refine SCode.seq (SCode.seqR (SOps.move rfl (SOps.bin rfl rfl rfl (SOps.reSlot (t := 43) rfl (show _ = DV.v (.bool true) from congrArg (fun b => DV.v (.bool b)) (decide_eq_true (by decide))) (SOps.nil ?_)))))
     refine SCode.cond rfl (fun _ => ?_) (fun h => by cases h)
     refine SCode.seqR (SOps.assign rfl (SOps.nil (SCode.ret ?_)))
     exact ⟨_, Res.one (.tmp rfl), rfl, rfl⟩
  ·try simp only [nmL] at hc4
   refine SCode.exit ?_
   show SCode _ _ _ _
   refine SCode.seq (SCode.seqR (SOps.assign rfl (SOps.nil (SCode.ret ?_))))
   exact ⟨_, Res.one (.tmp rfl), rfl, rfl⟩
theorem sIndexRune (r : Int) (hv : Utf8.valid r = true) : GCall Tryz.prog E 144 [.v (.string spnl), .v (.int .i32 r)] [] (fun d H => (∃ n : Int, d = .v (.int .i64 n) ∧ decide (0 ≤ n) = isSp r) ∧ H = []) := by
  obtain ⟨c, rfl, hc⟩ := valid_cases hv
  rcases (show (c : Int) < 128 ∨ 128 ≤ (c : Int) by omega) with h | h
  · exact (sIndexRuneAscii _ (by omega) h).mono (fun d H ⟨e, e2⟩ => ⟨⟨_, e, indexByte_sp (by omega) h⟩, e2⟩)
  · exact (sIndexRuneW _ hv h).mono (fun d H ⟨e, e2⟩ => ⟨⟨_, e, by rw [isSp_wide h]; rfl⟩, e2⟩)
theorem sUseSet (n : Int)  : GCall Tryz.prog E 145 [.v (.int .i64 n)] [] (fun d H => d = .v (.bool (decide (8 < n))) ∧ H = []) := by
 refine GCall.body (C := ⟨Tryz.prog, E, true⟩) Tryz.func145 rfl (fun _ => rfl) (by kernel_rfl) rfl ?_
 refine SCode.seqR (SOps.assign rfl (SOps.nil (SCode.seqR (SOps.move rfl (SOps.bin rfl rfl rfl (SOps.assign rfl (SOps.nil (SCode.ret ?_))))))))
 exact ⟨_, Res.one (.tmp rfl), rfl, rfl⟩
theorem sIndexAnyS (s : ByteArray) (h8 : s.size ≤ 8) : GCall Tryz.prog E 112 [.v (.string s), .v (.string spnl)] [] (fun d H => (∃ n : Int, d = .v (.int .i64 n) ∧ decide (0 ≤ n) = anySp s) ∧ H = []) := by
 refine GCall.body (C := ⟨Tryz.prog, E, true⟩) Tryz.func112 rfl (fun _ => rfl) (by kernel_rfl) rfl ?_
 refine SCode.seqR (SOps.assign rfl (SOps.nil (SCode.seq (SCode.seqR (SOps.move rfl (SOps.bin rfl rfl rfl (SOps.reSlot (t := 12) rfl (show _ = DV.v (.bool false) from congrArg (fun b => DV.v (.bool b)) (by rfl)) (SOps.nil ?_))))))))
 refine SCode.cond rfl (fun h => by cases h) (fun _ => ?_)
 refine SCode.skip ?_
 show SCode _ _ _ _
 refine SCode.seq (SCode.seqR (SOps.move rfl (SOps.lenStr rfl strB_9 (SOps.bin rfl rfl rfl (SOps.reSlot (t := 15) rfl (show _ = DV.v (.bool false) from congrArg (fun b => DV.v (.bool b)) (by rfl)) (SOps.nil ?_))))))
 refine SCode.cond rfl (fun h => by cases h) (fun _ => ?_)
 refine SCode.skip ?_
 show SCode _ _ _ _
 refine SCode.seq (SCode.seqR (SOps.move rfl (SOps.lenStr rfl strB_9 (SOps.callP (sUseSet _) rfl ?_))))
 rintro _ rfl
 refine SOps.reSlot (t := 26) rfl (show _ = DV.v (.bool false) from congrArg (fun b => DV.v (.bool b)) (decide_eq_false (by omega))) (SOps.nil ?_)
 refine SCode.cond rfl (fun h => by cases h) (fun _ => ?_)
 refine SCode.skip ?_
 show SCode _ _ _ _
 refine SCode.seq (SCode.seqR (SOps.move rfl ?_))
 refine SOps.rangeStr rfl strB_9 (fun b0 hb_0 => ?_)
 refine SOps.nil (SCode.block (SCode.loop2 (fun (p : Nat) (b : Nat) => (⟨55, [(0, .v (.string s)), (1, .v (.string spnl)), (45, .it b)], [(b, .iter s p)]⟩ : St)) (fun (p : Nat) (b : Nat) => anySp s = (runesAt s p).any isSp) (fun (p : Nat) (b : Nat) => s.size - p) (0) (b0) (by rfl) (St.Le.of ⟨(by first | rfl | (show some _ = some _; simp)), (by first | rfl | (show some _ = some _; simp)), (by first | rfl | (show some _ = some _; simp)), trivial⟩ rfl (by first | rfl | (simp))) ?_))
 rintro p b hf
 refine SCode.seqR ?_
 refine SOps.next 0 rfl rfl (fun hn1 => ?_) (fun hn1 => ?_) (by first | omega | (simp only [lenB] <;> omega))
 ·refine SOps.extract rfl rfl (SOps.nil (SCode.seq ?_))
  refine SCode.cond rfl (fun _ => ?_) (fun h => by cases h)
  refine SCode.skip ?_
  show SCode _ _ _ _
  refine SCode.block (SCode.seqR (SOps.extract rfl rfl (SOps.extract rfl rfl (SOps.assign rfl (SOps.assign rfl (SOps.nil (SCode.seqR (SOps.move rfl (SOps.move rfl (SOps.callP (sIndexRune ((Utf8.decode s p).1 : Int) (decode_valid s p)) rfl ?_))))))))))
  rintro _ ⟨n9, rfl, hn9⟩
  refine SOps.bin rfl rfl rfl (SOps.nil ?_)
  refine SCode.cond rfl (fun hc2 => ?_) (fun hc2 => ?_)
  ·try simp only [nmL] at hc2
   refine SCode.seqR (SOps.move rfl (SOps.assign rfl (SOps.nil (SCode.drop (SCode.ret ?_)))))
   exact ⟨_, Res.one (.tmp rfl), ⟨_, rfl, by rw [hf, runesAt_lt hn1, List.any_cons, show isSp ((Utf8.decode s p).1 : Int) = true from by rw [← hn9]; exact decide_eq_true (by omega)]; exact decide_eq_true (by omega)⟩, rfl⟩
  ·try simp only [nmL] at hc2
   refine SCode.skip ?_
   exact ⟨p + (Utf8.decode s p).2, b, by rw [hf, runesAt_lt hn1, List.any_cons, show isSp ((Utf8.decode s p).1 : Int) = false from by rw [← hn9]; exact decide_eq_false (by omega)]; rfl, by have := decode_w s p; omega, (St.Le.of ⟨(by first | rfl | (show some _ = some _; simp)), (by first | rfl | (show some _ = some _; simp)), (by first | rfl | (show some _ = some _; simp)), trivial⟩ rfl (by first | rfl | (simp)))⟩
 ·refine SOps.extract rfl rfl (SOps.nil (SCode.seq ?_))
  refine SCode.cond rfl (fun h => by cases h) (fun _ => ?_)
  refine SCode.exit ?_
  show SCode _ _ _ _
  refine SCode.seqR (SOps.assign rfl (SOps.nil (SCode.drop (SCode.ret ?_))))
  exact ⟨_, Res.one (.tmp rfl), ⟨_, rfl, by rw [hf, runesAt_ge (by omega)]; rfl⟩, rfl⟩
theorem sIndexAny (s : ByteArray) (hv : utf8R s = true) (hs : s.size ≤ 1048576) : GCall Tryz.prog E 112 [.v (.string s), .v (.string spnl)] [] (fun d H => (∃ n : Int, d = .v (.int .i64 n) ∧ decide (0 ≤ n) = anySp s) ∧ H = []) := by
  rcases Nat.lt_or_ge 8 s.size with h | h
  · exact (sIndexAnyLong s h hs).mono (fun d H ⟨e, e2⟩ => ⟨⟨_, e, any_long hv⟩, e2⟩)
  · exact sIndexAnyS s h
theorem sContainsAny (s : ByteArray) (hv : utf8R s = true) (hs : s.size ≤ 1048576) : GCall Tryz.prog E 78 [.v (.string s), .v (.string spnl)] [] (fun d H => d = .v (.bool (anySp s)) ∧ H = []) := by
 refine GCall.body (C := ⟨Tryz.prog, E, true⟩) Tryz.func78 rfl (fun _ => rfl) (by kernel_rfl) rfl ?_
 refine SCode.seqR (SOps.assign rfl (SOps.nil (SCode.seqR (SOps.move rfl (SOps.move rfl (SOps.callP (sIndexAny s hv hs) rfl ?_))))))
 rintro _ ⟨n9, rfl, hn9⟩
 refine SOps.bin rfl rfl rfl (SOps.assign rfl (SOps.nil (SCode.ret ?_)))
 exact ⟨_, Res.one (.tmp rfl), congrArg (fun b => DV.v (.bool b)) (hn9), rfl⟩
theorem sPrintable (hV : VS E) (s : ByteArray) (hs : s.size ≤ 1048576) : GCall Tryz.prog E 118 [.v (.string s)] [] (fun d H => d = .v (.bool (wordB s)) ∧ H = []) := by
 refine GCall.body (C := ⟨Tryz.prog, E, true⟩) Tryz.func118 rfl (fun _ => rfl) (by kernel_rfl) rfl ?_
 refine SCode.seqR (SOps.assign rfl (SOps.nil (SCode.seqR (SOps.move rfl (SOps.bin rfl rfl rfl (SOps.move rfl ?_))))))
 refine SOps.caseB 5 rfl (fun hb1 => ?_) (fun hb1 => ?_)
 ·try simp only [nmL] at hb1
  refine SOps.move rfl (SOps.callP (hV _) rfl ?_)
  rintro _ rfl
  refine SOps.pick rfl rfl (SOps.move rfl ?_)
  refine SOps.caseB 9 rfl (fun hb2 => ?_) (fun hb2 => ?_)
  ·try simp only [nmL] at hb2
   refine SOps.move rfl (SOps.callP (sContainsAny s (by assumption) hs) rfl ?_)
   rintro _ rfl
   refine SOps.un rfl rfl (SOps.pick rfl rfl (SOps.assign rfl (SOps.nil (SCode.ret ?_))))
   exact ⟨_, Res.one (.tmp rfl), congrArg (fun b => DV.v (.bool b)) (by simp only [wordB]; first | rfl | (simp_all; done)), rfl⟩
  ·try simp only [nmL] at hb2
   refine SOps.skip rfl (SOps.skip rfl (SOps.skip rfl (SOps.pick rfl rfl (SOps.assign rfl (SOps.nil (SCode.ret ?_))))))
   exact ⟨_, Res.one (.tmp rfl), congrArg (fun b => DV.v (.bool b)) (by simp only [wordB]; first | rfl | (simp_all; done)), rfl⟩
 ·try simp only [nmL] at hb1
  refine SOps.skip rfl (SOps.skip rfl (SOps.pick rfl rfl (SOps.move rfl (SOps.skip rfl (SOps.skip rfl (SOps.skip rfl (SOps.pick rfl rfl (SOps.assign rfl (SOps.nil (SCode.ret ?_))))))))))
  exact ⟨_, Res.one (.tmp rfl), congrArg (fun b => DV.v (.bool b)) (by simp only [wordB]; first | rfl | (simp_all; done)), rfl⟩
end Go.GH
namespace Go.GH
open Go Go.Proofs
variable {E : Env}
theorem aggB_111_2 : aggB Tryz.prog 111 2 = true := by kernel_rfl
theorem fieldB_111_0_0 : fieldB Tryz.prog 111 0 0 = true := by kernel_rfl
theorem fieldB_111_1_1 : fieldB Tryz.prog 111 1 1 = true := by kernel_rfl
theorem flatB_98 : flatB Tryz.prog 98 = true := by kernel_rfl
theorem sliceB_33_111_2 : sliceB Tryz.prog 33 111 2 = true := by kernel_rfl
theorem zeroIs_111 : zeroIs Tryz.prog 111 (.agg #[.string .empty, .slice none 0 0]) := by unfold zeroIs; kernel_rfl
theorem sBox (hV : VS E) (b : Bx) (hs : b.word.size ≤ 1048576) : GCall Tryz.prog E 84 [.agg (encBx b)] [] (fun d H => d = .v (.bool (boxB b)) ∧ H = []) := by
 refine GCall.body (C := ⟨Tryz.prog, E, true⟩) Tryz.func84 rfl (fun _ => rfl) (by kernel_rfl) rfl ?_
 refine SCode.seqR (SOps.boxAM rfl rfl (SOps.assign rfl (SOps.nil (SCode.seqR (SOps.fieldPin rfl fieldB_111_0_0 (SOps.loadPin rfl flatB_9 (SOps.callP (uRuneCountW _) rfl ?_)))))))
 rintro _ rfl
 refine SOps.assign rfl (SOps.nil (SCode.seq (SCode.seqR (SOps.fieldPin rfl fieldB_111_0_0 (SOps.loadPin rfl flatB_9 (SOps.callP (sPrintable hV _ (by assumption)) rfl ?_))))))
 rintro _ rfl
 refine SOps.un rfl rfl (SOps.move rfl ?_)
 refine SOps.caseB 13 rfl (fun hb1 => ?_) (fun hb1 => ?_)
 ·try simp only [nmL] at hb1
  refine SOps.skip rfl (SOps.skip rfl (SOps.pick rfl rfl (SOps.nil ?_)))
  refine SCode.cond rfl (fun _ => ?_) (fun h => by cases h)
  refine SCode.seqR (SOps.assign rfl (SOps.nil (SCode.ret ?_)))
  exact ⟨_, Res.one (.tmp rfl), congrArg (fun b => DV.v (.bool b)) (by first | exact Eq.symm (boxB_iff.2 ⟨by simp_all, by omega, fun j hj => hf j (by omega)⟩) | exact Eq.symm (Bool.eq_false_iff.2 (fun h => by have h9 := boxB_iff.1 h; first | omega | (simp_all; done) | (have h8 := (ptB_at hil).1 (h9.2.2 i hil); obtain ⟨h81, h82, h83⟩ := h8; first | omega | (rcases h83 with h83 | ⟨_, h83⟩ <;> omega))))), rfl⟩
 ·try simp only [nmL] at hb1
  refine SOps.move rfl (SOps.bin rfl rfl rfl (SOps.pick rfl rfl (SOps.nil ?_)))
  refine SCode.cond rfl (fun hc2 => ?_) (fun hc2 => ?_)
  ·try simp only [nmL] at hc2
   refine SCode.seqR (SOps.assign rfl (SOps.nil (SCode.ret ?_)))
   exact ⟨_, Res.one (.tmp rfl), congrArg (fun b => DV.v (.bool b)) (by first | exact Eq.symm (boxB_iff.2 ⟨by simp_all, by omega, fun j hj => hf j (by omega)⟩) | exact Eq.symm (Bool.eq_false_iff.2 (fun h => by have h9 := boxB_iff.1 h; first | omega | (simp_all; done) | (have h8 := (ptB_at hil).1 (h9.2.2 i hil); obtain ⟨h81, h82, h83⟩ := h8; first | omega | (rcases h83 with h83 | ⟨_, h83⟩ <;> omega))))), rfl⟩
  ·try simp only [nmL] at hc2
   refine SCode.skip ?_
   show SCode _ _ _ _
   refine SCode.seq (SCode.seqR (SOps.fieldPin rfl fieldB_111_1_1 (SOps.loadPin rfl flatB_98 (SOps.lenM rfl sliceB_98_3_1 (SOps.move rfl (SOps.nil (SCode.block (SCode.loop1 (fun (i : Nat) => (⟨47, [(1, .ipin (encBx b)), (3, .v (.int .i64 (((wlen b.word) : Nat) : Int))), (18, DInts b.pts), (19, .v (.int .i64 (b.pts.length : Int))), (20, .v (.int .i64 (i : Int)))], []⟩ : St)) (fun (i : Nat) => i ≤ b.pts.length ∧ ∀ j, j < i → ptB (wlen b.word) b.pts j = true) (fun (i : Nat) => b.pts.length - i) (0) (by exact ⟨Nat.zero_le _, fun j hj => absurd hj (Nat.not_lt_zero _)⟩) (St.Le.of ⟨(by first | rfl | (show some _ = some _; simp)), (by first | rfl | (show some _ = some _; simp)), (by first | rfl | (show some _ = some _; simp)), (by first | rfl | (show some _ = some _; simp)), (by first | rfl | (show some _ = some _; simp)), trivial⟩ rfl (by first | rfl | (simp))) ?_))))))))
   rintro i ⟨hi, hf⟩
   refine SCode.fact (isl_len (t := 18) rfl) (fun hB => ?_)
   simp only [List.length_map, lenB] at hB
   refine SCode.seqR (SOps.bin rfl rfl rfl (SOps.nil (SCode.seq ?_)))
   refine SCode.cond rfl (fun hc3 => ?_) (fun hc3 => ?_)
   ·try simp only [nmL] at hc3
    refine SCode.skip ?_
    show SCode _ _ _ _
    refine SCode.seq (SCode.block (SCode.seqR ?_))
    have hil : i < b.pts.length := by omega
    refine SOps.move rfl (SOps.indexM (i) rfl rfl sliceB_98_3_1 (by first | omega | (simp only [lenB] <;> omega)) (by first | omega | (simp only [lenB] <;> omega)) (SOps.loadPin rfl flatB_3 (SOps.assign rfl (SOps.assign rfl (SOps.nil (SCode.seqR (SOps.move rfl (SOps.bin rfl rfl rfl (SOps.move rfl ?_)))))))))
    refine SOps.caseB 27 rfl (fun hb4 => ?_) (fun hb4 => ?_)
    ·try simp only [nmL] at hb4
     refine SOps.skip rfl (SOps.skip rfl (SOps.skip rfl (SOps.pick rfl rfl (SOps.move rfl (SOps.skip rfl (SOps.skip rfl (SOps.skip rfl (SOps.skip rfl (SOps.skip rfl (SOps.skip rfl (SOps.skip rfl (SOps.skip rfl (SOps.skip rfl (SOps.skip rfl (SOps.skip rfl (SOps.skip rfl (SOps.pick rfl rfl (SOps.nil ?_))))))))))))))))))
     refine SCode.cond rfl (fun _ => ?_) (fun h => by cases h)
     refine SCode.seqR (SOps.assign rfl (SOps.nil (SCode.ret ?_)))
     exact ⟨_, Res.one (.tmp rfl), congrArg (fun b => DV.v (.bool b)) (by first | exact Eq.symm (boxB_iff.2 ⟨by simp_all, by omega, fun j hj => hf j (by omega)⟩) | exact Eq.symm (Bool.eq_false_iff.2 (fun h => by have h9 := boxB_iff.1 h; first | omega | (simp_all; done) | (have h8 := (ptB_at hil).1 (h9.2.2 i hil); obtain ⟨h81, h82, h83⟩ := h8; first | omega | (rcases h83 with h83 | ⟨_, h83⟩ <;> omega))))), rfl⟩
    ·try simp only [nmL] at hb4
     refine SOps.move rfl (SOps.move rfl (SOps.bin rfl rfl rfl (SOps.pick rfl rfl (SOps.move rfl ?_))))
     refine SOps.caseB 32 rfl (fun hb5 => ?_) (fun hb5 => ?_)
     ·try simp only [nmL] at hb5
      refine SOps.skip rfl (SOps.skip rfl (SOps.skip rfl (SOps.skip rfl (SOps.skip rfl (SOps.skip rfl (SOps.skip rfl (SOps.skip rfl (SOps.skip rfl (SOps.skip rfl (SOps.skip rfl (SOps.skip rfl (SOps.pick rfl rfl (SOps.nil ?_)))))))))))))
      refine SCode.cond rfl (fun _ => ?_) (fun h => by cases h)
      refine SCode.seqR (SOps.assign rfl (SOps.nil (SCode.ret ?_)))
      exact ⟨_, Res.one (.tmp rfl), congrArg (fun b => DV.v (.bool b)) (by first | exact Eq.symm (boxB_iff.2 ⟨by simp_all, by omega, fun j hj => hf j (by omega)⟩) | exact Eq.symm (Bool.eq_false_iff.2 (fun h => by have h9 := boxB_iff.1 h; first | omega | (simp_all; done) | (have h8 := (ptB_at hil).1 (h9.2.2 i hil); obtain ⟨h81, h82, h83⟩ := h8; first | omega | (rcases h83 with h83 | ⟨_, h83⟩ <;> omega))))), rfl⟩
     ·try simp only [nmL] at hb5
      refine SOps.move rfl (SOps.bin rfl rfl rfl (SOps.move rfl ?_))
      refine SOps.caseB 35 rfl (fun hb6 => ?_) (fun hb6 => ?_)
      ·try simp only [nmL] at hb6
       refine SOps.fieldPin rfl fieldB_111_1_1 (SOps.loadPin rfl flatB_98 (SOps.move rfl (SOps.subI rfl rfl (by first | omega | (simp only [lenB] <;> omega)) (by first | omega | (simp only [lenB] <;> omega)) (SOps.indexM ((i - 1)) rfl rfl sliceB_98_3_1 (by first | omega | (simp only [lenB] <;> omega)) (by first | omega | (simp only [lenB] <;> omega)) (SOps.loadPin rfl flatB_3 (SOps.move rfl (SOps.bin rfl rfl rfl (SOps.pick rfl rfl (SOps.pick rfl rfl (SOps.nil ?_))))))))))
       refine SCode.cond rfl (fun hc7 => ?_) (fun hc7 => ?_)
       ·try simp only [nmL] at hc7
        refine SCode.seqR (SOps.assign rfl (SOps.nil (SCode.ret ?_)))
        exact ⟨_, Res.one (.tmp rfl), congrArg (fun b => DV.v (.bool b)) (by first | exact Eq.symm (boxB_iff.2 ⟨by simp_all, by omega, fun j hj => hf j (by omega)⟩) | exact Eq.symm (Bool.eq_false_iff.2 (fun h => by have h9 := boxB_iff.1 h; first | omega | (simp_all; done) | (have h8 := (ptB_at hil).1 (h9.2.2 i hil); obtain ⟨h81, h82, h83⟩ := h8; first | omega | (rcases h83 with h83 | ⟨_, h83⟩ <;> omega))))), rfl⟩
       ·try simp only [nmL] at hc7
        refine SCode.skip ?_
        show SCode _ _ _ _
        refine SCode.region (SOps.addI rfl rfl (by first | omega | (simp only [lenB] <;> omega)) (by first | omega | (simp only [lenB] <;> omega)) (SOps.move rfl (SOps.nil ?_)))
        exact ⟨i + 1, ⟨by omega, pts_step hf hil (by omega) (by omega) (by first | (left; omega) | (right; exact ⟨by omega, by omega⟩))⟩, by omega, St.Le.of ⟨rfl, rfl, rfl, rfl, rfl, trivial⟩⟩
      ·try simp only [nmL] at hb6
       refine SOps.skip rfl (SOps.skip rfl (SOps.skip rfl (SOps.skip rfl (SOps.skip rfl (SOps.skip rfl (SOps.skip rfl (SOps.skip rfl (SOps.pick rfl rfl (SOps.pick rfl rfl (SOps.nil ?_))))))))))
       refine SCode.cond rfl (fun h => by cases h) (fun _ => ?_)
       refine SCode.skip ?_
       show SCode _ _ _ _
       refine SCode.region (SOps.addI rfl rfl (by first | omega | (simp only [lenB] <;> omega)) (by first | omega | (simp only [lenB] <;> omega)) (SOps.move rfl (SOps.nil ?_)))
       exact ⟨i + 1, ⟨by omega, pts_step hf hil (by omega) (by omega) (by first | (left; omega) | (right; exact ⟨by omega, by omega⟩))⟩, by omega, St.Le.of ⟨rfl, rfl, rfl, rfl, rfl, trivial⟩⟩
   ·try simp only [nmL] at hc3
    refine SCode.exit ?_
    show SCode _ _ _ _
    refine SCode.seqR (SOps.assign rfl (SOps.nil (SCode.ret ?_)))
    exact ⟨_, Res.one (.tmp rfl), congrArg (fun b => DV.v (.bool b)) (by first | exact Eq.symm (boxB_iff.2 ⟨by simp_all, by omega, fun j hj => hf j (by omega)⟩) | exact Eq.symm (Bool.eq_false_iff.2 (fun h => by have h9 := boxB_iff.1 h; first | omega | (simp_all; done) | (have h8 := (ptB_at hil).1 (h9.2.2 i hil); obtain ⟨h81, h82, h83⟩ := h8; first | omega | (rcases h83 with h83 | ⟨_, h83⟩ <;> omega))))), rfl⟩
theorem sValid1 (hV : VS E) (b : Bx) (hs : b.word.size ≤ 1048576) : GCall Tryz.prog E 83 [.agg (encBx b)] [] (fun d H => d = .v (.bool (!boxB b)) ∧ H = []) := by
 refine GCall.body (C := ⟨Tryz.prog, E, true⟩) Tryz.func83 rfl (fun _ => rfl) (by kernel_rfl) rfl ?_
 refine SCode.seqR (SOps.boxAM rfl rfl (SOps.assign rfl (SOps.nil (SCode.seqR (SOps.loadPinA rfl aggB_111_2 (Nat.le_of_ble_eq_true rfl) (SOps.callP (sBox hV _ (by assumption)) rfl ?_))))))
 rintro _ rfl
 refine SOps.un rfl rfl (SOps.assign rfl (SOps.nil (SCode.ret ?_)))
 exact ⟨_, Res.one (.tmp rfl), rfl, rfl⟩
theorem lIndexFuncB {f : FuncId} {cap : List DV} (q : Bx → Bool) (l : List Bx) (hf : ∀ x ∈ l, GCall Tryz.prog E f ([.agg (encBx x)] ++ cap) [] (fun d H => d = .v (.bool (q x)) ∧ H = [])) : GCall Tryz.prog E 117 [DBxs l, .fn f cap] [] (fun d H => d = .v (.int .i64 (findI q l)) ∧ H = []) := by
 refine GCall.body (C := ⟨Tryz.prog, E, true⟩) Tryz.func117 rfl (fun _ => rfl) (by kernel_rfl) rfl ?_
 refine SCode.seqR (SOps.assign rfl (SOps.nil (SCode.seq (SCode.seqR (SOps.move rfl (SOps.lenM rfl sliceB_33_111_2 (SOps.move rfl (SOps.nil (SCode.block (SCode.loop1 (fun (i : Nat) => (⟨19, [(0, DBxs l), (1, .fn f cap), (4, .v (.int .i64 0)), (7, .v (.int .i64 (l.length : Int))), (8, .v (.int .i64 (i : Int)))], []⟩ : St)) (fun (i : Nat) => i ≤ l.length ∧ ∀ x ∈ l.take i, q x = false) (fun (i : Nat) => l.length - i) (0) (by simp) (St.Le.of ⟨(by first | rfl | (show some _ = some _; simp)), (by first | rfl | (show some _ = some _; simp)), (by first | rfl | (show some _ = some _; simp)), (by first | rfl | (show some _ = some _; simp)), (by first | rfl | (show some _ = some _; simp)), trivial⟩ rfl (by first | rfl | (simp))) ?_))))))))))
 rintro i ⟨hi, hq⟩
 refine SCode.fact (isl_len (t := 0) rfl) (fun hB => ?_)
 simp only [List.length_map, lenB] at hB
 refine SCode.seqR (SOps.bin rfl rfl rfl (SOps.nil (SCode.seq ?_)))
 refine SCode.cond rfl (fun hc1 => ?_) (fun hc1 => ?_)
 ·try simp only [nmL] at hc1
  refine SCode.skip ?_
  show SCode _ _ _ _
  refine SCode.seq (SCode.block (SCode.seqR (SOps.move rfl (SOps.assign rfl (SOps.nil (SCode.seqR (SOps.move rfl (SOps.move rfl (SOps.move rfl (SOps.indexM (i) rfl rfl sliceB_33_111_2 (by omega) (by omega) (SOps.loadPinA rfl aggB_111_2 (Nat.le_of_ble_eq_true rfl) (SOps.callFn (ds := [_]) rfl (hf _ (List.getElem_mem (by omega))) rfl ?_))))))))))))
  rintro _ _ ⟨rfl, rfl⟩
  refine SOps.nil ?_
  refine SCode.cond rfl (fun hc2 => ?_) (fun hc2 => ?_)
  ·try simp only [nmL] at hc2
   refine SCode.seqR (SOps.move rfl (SOps.assign rfl (SOps.nil (SCode.ret ?_))))
   exact ⟨_, Res.one (.tmp rfl), by rw [findI_at hq (by omega) hc2], rfl⟩
  ·try simp only [nmL] at hc2
   refine SCode.skip ?_
   show SCode _ _ _ _
   refine SCode.region (SOps.addI rfl rfl (by omega) (by omega) (SOps.move rfl (SOps.nil ?_)))
   exact ⟨i + 1, by exact ⟨by omega, take_more hq (by omega) hc2⟩, by omega, (St.Le.of ⟨(by first | rfl | (show some _ = some _; simp)), (by first | rfl | (show some _ = some _; simp)), (by first | rfl | (show some _ = some _; simp)), (by first | rfl | (show some _ = some _; simp)), (by first | rfl | (show some _ = some _; simp)), trivial⟩ rfl (by first | rfl | (simp)))⟩
 ·try simp only [nmL] at hc1
  refine SCode.exit ?_
  show SCode _ _ _ _
  refine SCode.seqR (SOps.assign rfl (SOps.nil (SCode.ret ?_)))
  exact ⟨_, Res.one (.tmp rfl), by rw [findI_none (all_of (by omega) hq)], rfl⟩
theorem lContainsFuncB {f : FuncId} {cap : List DV} (q : Bx → Bool) (l : List Bx) (hf : ∀ x ∈ l, GCall Tryz.prog E f ([.agg (encBx x)] ++ cap) [] (fun d H => d = .v (.bool (q x)) ∧ H = [])) : GCall Tryz.prog E 82 [DBxs l, .fn f cap] [] (fun d H => d = .v (.bool (l.any q)) ∧ H = []) := by
 refine GCall.body (C := ⟨Tryz.prog, E, true⟩) Tryz.func82 rfl (fun _ => rfl) (by kernel_rfl) rfl ?_
 refine SCode.seqR (SOps.assign rfl (SOps.nil (SCode.seqR (SOps.move rfl (SOps.move rfl (SOps.callP (lIndexFuncB q l hf) rfl ?_))))))
 rintro _ rfl
 refine SOps.bin rfl rfl rfl (SOps.assign rfl (SOps.nil (SCode.ret ?_)))
 exact ⟨_, Res.one (.tmp rfl), congrArg (fun b => DV.v (.bool b)) findI_nonneg, rfl⟩
theorem not_any_box (l : List Bx) : (!l.any (fun b => !boxB b)) = l.all boxB := by
  rw [Bool.eq_iff_iff]; simp
theorem sValid (hV : VS E) (l : List Bx) (w : Int) (hb : ∀ x ∈ l, x.word.size ≤ 1048576) : GCall Tryz.prog E 48 [DBxs l, .v (.int .i64 w)] [] (fun d H => d = .v (.bool (validL l w)) ∧ H = []) := by
 refine GCall.body (C := ⟨Tryz.prog, E, true⟩) Tryz.func48 rfl (fun _ => rfl) (by kernel_rfl) rfl ?_
 refine SCode.seqR (SOps.assign rfl (SOps.nil (SCode.seqR (SOps.move rfl (SOps.callP (wideW _) rfl ?_)))))
 rintro _ rfl
 refine SOps.move rfl ?_
 refine SOps.caseB 7 rfl (fun hb1 => ?_) (fun hb1 => ?_)
 ·try simp only [nmL] at hb1
  refine SOps.move rfl (SOps.lenM rfl sliceB_33_111_2 (SOps.bin rfl rfl rfl (SOps.pick rfl rfl (SOps.move rfl ?_))))
  refine SOps.caseB 12 rfl (fun hb2 => ?_) (fun hb2 => ?_)
  ·try simp only [nmL] at hb2
   refine SOps.move rfl (SOps.callP (lContainsFuncB (fun b => !boxB b) l (fun x hx => sValid1 hV x (hb x hx))) rfl ?_)
   rintro _ rfl
   refine SOps.un rfl rfl (SOps.pick rfl rfl (SOps.assign rfl (SOps.nil (SCode.ret ?_))))
   exact ⟨_, Res.one (.tmp rfl), congrArg (fun b => DV.v (.bool b)) (by simp only [validL, boxesB]; first | (rw [not_any_box]; simp_all; done) | (simp_all; done) | (simp_all [not_any_box]; omega)), rfl⟩
  ·try simp only [nmL] at hb2
   refine SOps.skip rfl (SOps.skip rfl (SOps.skip rfl (SOps.pick rfl rfl (SOps.assign rfl (SOps.nil (SCode.ret ?_))))))
   exact ⟨_, Res.one (.tmp rfl), congrArg (fun b => DV.v (.bool b)) (by simp only [validL, boxesB]; first | (rw [not_any_box]; simp_all; done) | (simp_all; done) | (simp_all [not_any_box]; omega)), rfl⟩
 ·try simp only [nmL] at hb1
  refine SOps.skip rfl (SOps.skip rfl (SOps.skip rfl (SOps.pick rfl rfl (SOps.move rfl (SOps.skip rfl (SOps.skip rfl (SOps.skip rfl (SOps.pick rfl rfl (SOps.assign rfl (SOps.nil (SCode.ret ?_)))))))))))
  exact ⟨_, Res.one (.tmp rfl), congrArg (fun b => DV.v (.bool b)) (by simp only [validL, boxesB]; first | (rw [not_any_box]; simp_all; done) | (simp_all; done) | (simp_all [not_any_box]; omega)), rfl⟩
theorem wordB_iff {s : ByteArray} : wordB s = true ↔ s ≠ ⟨#[]⟩ ∧ utf8R s = true ∧ anySp s = false := by
  simp only [wordB, Bool.and_eq_true, decide_eq_true_eq, Bool.not_eq_true', and_assoc]
theorem qWordR (s : ByteArray) (hs : s.size ≤ 1048576) : GCall Tryz.prog E 55 [.v (.string s)] [] (fun d H => d = .v (.bool (wordB s)) ∧ H = []) := by
 refine GCall.body (C := ⟨Tryz.prog, E, true⟩) Tryz.func55 rfl (fun _ => rfl) (by kernel_rfl) rfl ?_
 refine SCode.seqR (SOps.assign rfl (SOps.nil (SCode.seq (SCode.seqR (SOps.move rfl ?_)))))
 refine SOps.rangeStr rfl strB_9 (fun b0 hb_0 => ?_)
 refine SOps.nil (SCode.block (SCode.loop2 (fun (p : Nat) (b : Nat) => (⟨25, [(0, .v (.string s)), (6, .it b)], [(b, .iter s p)]⟩ : St)) (fun (p : Nat) (b : Nat) => anySp s = (runesAt s p).any isSp) (fun (p : Nat) (b : Nat) => s.size - p) (0) (b0) (by rfl) (St.Le.of ⟨(by first | rfl | (show some _ = some _; simp)), (by first | rfl | (show some _ = some _; simp)), trivial⟩ rfl (by first | rfl | (simp))) ?_))
 rintro p b hf
 refine SCode.seqR ?_
 refine SOps.next 0 rfl rfl (fun hn1 => ?_) (fun hn1 => ?_) (by first | omega | (simp only [lenB] <;> omega))
 ·refine SOps.extract rfl rfl (SOps.nil (SCode.seq ?_))
  refine SCode.cond rfl (fun _ => ?_) (fun h => by cases h)
  refine SCode.skip ?_
  show SCode _ _ _ _
  refine SCode.block (SCode.seqR (SOps.extract rfl rfl (SOps.assign rfl (SOps.nil (SCode.seqR (SOps.move rfl (SOps.bin rfl rfl rfl (SOps.move rfl ?_))))))))
  refine SOps.caseB 12 rfl (fun hb2 => ?_) (fun hb2 => ?_)
  ·try simp only [nmL] at hb2
   refine SOps.skip rfl (SOps.skip rfl (SOps.pick rfl rfl (SOps.nil ?_)))
   refine SCode.cond rfl (fun _ => ?_) (fun h => by cases h)
   refine SCode.seqR (SOps.assign rfl (SOps.nil (SCode.drop (SCode.ret ?_))))
   exact ⟨_, Res.one (.tmp rfl), congrArg (fun b => DV.v (.bool b)) (by first | exact Eq.symm (Bool.eq_false_iff.2 (fun h => by have h9 := (wordB_iff.1 h).2.2; rw [hf, runesAt_lt hn1, List.any_cons, show isSp ((Utf8.decode s p).1 : Int) = true from by simp only [isSp, Bool.or_eq_true, beq_iff_eq]; omega] at h9; cases h9)) | (rw [Bool.eq_iff_iff, wordB_iff, utf8R_iff]; simp_all; done)), rfl⟩
  ·try simp only [nmL] at hb2
   refine SOps.move rfl (SOps.bin rfl rfl rfl (SOps.pick rfl rfl (SOps.nil ?_)))
   refine SCode.cond rfl (fun hc3 => ?_) (fun hc3 => ?_)
   ·try simp only [nmL] at hc3
    refine SCode.seqR (SOps.assign rfl (SOps.nil (SCode.drop (SCode.ret ?_))))
    exact ⟨_, Res.one (.tmp rfl), congrArg (fun b => DV.v (.bool b)) (by first | exact Eq.symm (Bool.eq_false_iff.2 (fun h => by have h9 := (wordB_iff.1 h).2.2; rw [hf, runesAt_lt hn1, List.any_cons, show isSp ((Utf8.decode s p).1 : Int) = true from by simp only [isSp, Bool.or_eq_true, beq_iff_eq]; omega] at h9; cases h9)) | (rw [Bool.eq_iff_iff, wordB_iff, utf8R_iff]; simp_all; done)), rfl⟩
   ·try simp only [nmL] at hc3
    refine SCode.skip ?_
    exact ⟨p + (Utf8.decode s p).2, b, by rw [hf, runesAt_lt hn1, List.any_cons, show isSp ((Utf8.decode s p).1 : Int) = false from by simp only [isSp, Bool.or_eq_false_iff, beq_eq_false_iff_ne]; omega]; rfl, by have := decode_w s p; omega, (St.Le.of ⟨(by first | rfl | (show some _ = some _; simp)), (by first | rfl | (show some _ = some _; simp)), trivial⟩ rfl (by first | rfl | (simp)))⟩
 ·refine SOps.extract rfl rfl (SOps.nil (SCode.seq ?_))
  refine SCode.cond rfl (fun h => by cases h) (fun _ => ?_)
  refine SCode.exit ?_
  show SCode _ _ _ _
  refine SCode.seqR ?_
  have hany : anySp s = false := by rw [hf, runesAt_ge (by omega)]; rfl
  have hrl := runes_len s
  refine SOps.move rfl (SOps.bin rfl rfl rfl (SOps.move rfl ?_))
  refine SOps.caseB 18 rfl (fun hb4 => ?_) (fun hb4 => ?_)
  ·try simp only [nmL] at hb4
   refine SOps.move rfl (SOps.runesF rfl rfl strB_9 sliceB_94_21_1 intB_21_i32 (SOps.convRunesStr rfl sliceB_94_21_1 intB_21_i32 strB_9 (by simp [lenB] <;> (first | omega | (simp only [lenB] <;> omega))) (SOps.move rfl (SOps.bin rfl rfl rfl (SOps.pick rfl rfl (SOps.assign rfl (SOps.nil (SCode.drop (SCode.ret ?_)))))))))
   exact ⟨_, Res.one (.tmp rfl), congrArg (fun b => DV.v (.bool b)) (by first | exact Eq.symm (Bool.eq_false_iff.2 (fun h => by have h9 := (wordB_iff.1 h).2.2; rw [hf, runesAt_lt hn1, List.any_cons, show isSp ((Utf8.decode s p).1 : Int) = true from by simp only [isSp, Bool.or_eq_true, beq_iff_eq]; omega] at h9; cases h9)) | (rw [Bool.eq_iff_iff, wordB_iff, utf8R_iff]; simp_all; done)), rfl⟩
  ·try simp only [nmL] at hb4
   refine SOps.skip rfl (SOps.skip rfl (SOps.skip rfl (SOps.skip rfl (SOps.skip rfl (SOps.pick rfl rfl (SOps.assign rfl (SOps.nil (SCode.drop (SCode.ret ?_)))))))))
   exact ⟨_, Res.one (.tmp rfl), congrArg (fun b => DV.v (.bool b)) (by first | exact Eq.symm (Bool.eq_false_iff.2 (fun h => by have h9 := (wordB_iff.1 h).2.2; rw [hf, runesAt_lt hn1, List.any_cons, show isSp ((Utf8.decode s p).1 : Int) = true from by simp only [isSp, Bool.or_eq_true, beq_iff_eq]; omega] at h9; cases h9)) | (rw [Bool.eq_iff_iff, wordB_iff, utf8R_iff]; simp_all; done)), rfl⟩
theorem qBoxes (l : List Bx) (hb : ∀ x ∈ l, x.word.size ≤ 1048576) : GCall Tryz.prog E 19 [DBxs l] [] (fun d H => d = .v (.bool (boxesB l)) ∧ H = []) := by
 refine GCall.body (C := ⟨Tryz.prog, E, true⟩) Tryz.func19 rfl (fun _ => rfl) (by kernel_rfl) rfl ?_
 refine SCode.seqR (SOps.assign rfl (SOps.nil (SCode.seq (SCode.seqR (SOps.move rfl (SOps.lenM rfl sliceB_33_111_2 (SOps.move rfl (SOps.nil (SCode.block (SCode.loop1 (fun (k : Nat) => (⟨60, [(0, DBxs l), (8, DBxs l), (9, .v (.int .i64 (l.length : Int))), (10, .v (.int .i64 (k : Int)))], []⟩ : St)) (fun (k : Nat) => k ≤ l.length ∧ ∀ x ∈ l.take k, boxB x = true) (fun (k : Nat) => l.length - k) (0) (by simp) (St.Le.of ⟨(by first | rfl | (show some _ = some _; simp)), (by first | rfl | (show some _ = some _; simp)), (by first | rfl | (show some _ = some _; simp)), (by first | rfl | (show some _ = some _; simp)), trivial⟩ rfl (by first | rfl | (simp))) ?_))))))))))
 rintro k ⟨hk, hg⟩
 refine SCode.fact (isl_len (t := 8) rfl) (fun hB => ?_)
 simp only [List.length_map, lenB] at hB
 refine SCode.seqR (SOps.bin rfl rfl rfl (SOps.nil (SCode.seq ?_)))
 refine SCode.cond rfl (fun hc1 => ?_) (fun hc1 => ?_)
 ·try simp only [nmL] at hc1
  refine SCode.skip ?_
  show SCode _ _ _ _
  refine SCode.seq (SCode.block (SCode.seqR (SOps.indexM (k) rfl rfl sliceB_33_111_2 (by first | omega | (simp only [lenB] <;> omega)) (by first | omega | (simp only [lenB] <;> omega)) (SOps.loadPinA rfl aggB_111_2 (Nat.le_of_ble_eq_true rfl) ?_))))
  refine SOps.alloc (sz := 2) zeroIs_111 (fun b0 hb_0 => ?_)
  refine SOps.storeAM 0 rfl rfl aggB_111_2 rfl (SOps.freezeRef (t := 4) 0 0 rfl rfl rfl rfl rfl (SOps.nil (SCode.seqR ?_)))
  have hkl : k < l.length := by omega
  have hrl := runes_len (l[k]).word
  have hbk := hb _ (List.getElem_mem hkl)
  refine SOps.fieldPin rfl fieldB_111_0_0 (SOps.loadPin rfl flatB_9 (SOps.runesF rfl rfl strB_9 sliceB_94_21_1 intB_21_i32 (SOps.lenM rfl sliceB_94_21_1 (SOps.assign rfl (SOps.nil (SCode.seq (SCode.seqR (SOps.fieldPin rfl fieldB_111_0_0 (SOps.loadPin rfl flatB_9 (SOps.callP (qWordR _ (hb _ (List.getElem_mem hkl))) rfl ?_))))))))))
  rintro _ rfl
  refine SOps.un rfl rfl (SOps.move rfl ?_)
  refine SOps.caseB 22 rfl (fun hb2 => ?_) (fun hb2 => ?_)
  ·try simp only [nmL] at hb2
   refine SOps.skip rfl (SOps.skip rfl (SOps.pick rfl rfl (SOps.nil ?_)))
   refine SCode.cond rfl (fun _ => ?_) (fun h => by cases h)
   refine SCode.seqR (SOps.assign rfl (SOps.nil (SCode.ret ?_)))
   exact ⟨_, Res.one (.tmp rfl), congrArg (fun b => DV.v (.bool b)) (by first | exact Eq.symm (Bool.eq_false_iff.2 (fun h => by have h9 := boxB_iff.1 ((boxesB_iff.1 h).2 _ (List.getElem_mem hkl)); first | (have := h9.2.1; rw [wlen] at this; omega) | (simp_all; done) | (have h8 := (ptB_at hil).1 (h9.2.2 i hil); obtain ⟨h81, h82, h83⟩ := h8; first | omega | (rcases h83 with h83 | ⟨_, h83⟩ <;> omega)))) | (rw [Bool.eq_iff_iff, boxesB_iff, decide_eq_true_eq]; have hall := all_of (show l.length ≤ k by omega) hg; exact ⟨fun h => ⟨by omega, hall⟩, fun h => by have := h.1; omega⟩)), rfl⟩
  ·try simp only [nmL] at hb2
   refine SOps.move rfl (SOps.bin rfl rfl rfl (SOps.pick rfl rfl (SOps.nil ?_)))
   refine SCode.cond rfl (fun hc3 => ?_) (fun hc3 => ?_)
   ·try simp only [nmL] at hc3
    refine SCode.seqR (SOps.assign rfl (SOps.nil (SCode.ret ?_)))
    exact ⟨_, Res.one (.tmp rfl), congrArg (fun b => DV.v (.bool b)) (by first | exact Eq.symm (Bool.eq_false_iff.2 (fun h => by have h9 := boxB_iff.1 ((boxesB_iff.1 h).2 _ (List.getElem_mem hkl)); first | (have := h9.2.1; rw [wlen] at this; omega) | (simp_all; done) | (have h8 := (ptB_at hil).1 (h9.2.2 i hil); obtain ⟨h81, h82, h83⟩ := h8; first | omega | (rcases h83 with h83 | ⟨_, h83⟩ <;> omega)))) | (rw [Bool.eq_iff_iff, boxesB_iff, decide_eq_true_eq]; have hall := all_of (show l.length ≤ k by omega) hg; exact ⟨fun h => ⟨by omega, hall⟩, fun h => by have := h.1; omega⟩)), rfl⟩
   ·try simp only [nmL] at hc3
    refine SCode.skip ?_
    show SCode _ _ _ _
    refine SCode.seqR (SOps.fieldPin rfl fieldB_111_1_1 (SOps.loadPin rfl flatB_98 (SOps.lenM rfl sliceB_98_3_1 (SOps.move rfl (SOps.nil (SCode.block (SCode.loop1 (fun (i : Nat) => (⟨60, [(0, DBxs l), (4, .ipin (encBx (l[k]))), (5, .v (.int .i64 (((wlen (l[k]).word) : Nat) : Int))), (8, DBxs l), (9, .v (.int .i64 (l.length : Int))), (10, .v (.int .i64 (k : Int))), (27, DInts (l[k]).pts), (28, .v (.int .i64 ((l[k]).pts.length : Int))), (29, .v (.int .i64 (i : Int)))], []⟩ : St)) (fun (i : Nat) => i ≤ (l[k]).pts.length ∧ ∀ j, j < i → ptB (wlen (l[k]).word) (l[k]).pts j = true) (fun (i : Nat) => (l[k]).pts.length - i) (0) (by exact ⟨Nat.zero_le _, fun j hj => absurd hj (Nat.not_lt_zero _)⟩) (St.Le.of ⟨(by first | rfl | (show some _ = some _; simp)), (by first | rfl | (show some _ = some _; simp)), (by first | rfl | (show some _ = some _; simp)), (by first | rfl | (show some _ = some _; simp)), (by first | rfl | (show some _ = some _; simp)), (by first | rfl | (show some _ = some _; simp)), (by first | rfl | (show some _ = some _; simp)), (by first | rfl | (show some _ = some _; simp)), (by first | rfl | (show some _ = some _; simp)), trivial⟩ rfl (by first | rfl | (simp))) ?_)))))))
    rintro i ⟨hi, hf⟩
    refine SCode.fact (isl_len (t := 27) rfl) (fun hB => ?_)
    simp only [List.length_map, lenB] at hB
    refine SCode.seqR (SOps.bin rfl rfl rfl (SOps.nil (SCode.seq ?_)))
    refine SCode.cond rfl (fun hc4 => ?_) (fun hc4 => ?_)
    ·try simp only [nmL] at hc4
     refine SCode.skip ?_
     show SCode _ _ _ _
     refine SCode.seq (SCode.block (SCode.seqR ?_))
     have hil : i < (l[k]).pts.length := by omega
     refine SOps.move rfl (SOps.indexM (i) rfl rfl sliceB_98_3_1 (by first | omega | (simp only [lenB] <;> omega)) (by first | omega | (simp only [lenB] <;> omega)) (SOps.loadPin rfl flatB_3 (SOps.assign rfl (SOps.assign rfl (SOps.nil (SCode.seqR (SOps.move rfl (SOps.bin rfl rfl rfl (SOps.move rfl ?_)))))))))
     refine SOps.caseB 36 rfl (fun hb5 => ?_) (fun hb5 => ?_)
     ·try simp only [nmL] at hb5
      refine SOps.skip rfl (SOps.skip rfl (SOps.skip rfl (SOps.pick rfl rfl (SOps.move rfl (SOps.skip rfl (SOps.skip rfl (SOps.skip rfl (SOps.skip rfl (SOps.skip rfl (SOps.skip rfl (SOps.skip rfl (SOps.skip rfl (SOps.skip rfl (SOps.skip rfl (SOps.skip rfl (SOps.skip rfl (SOps.pick rfl rfl (SOps.nil ?_))))))))))))))))))
      refine SCode.cond rfl (fun _ => ?_) (fun h => by cases h)
      refine SCode.seqR (SOps.assign rfl (SOps.nil (SCode.ret ?_)))
      exact ⟨_, Res.one (.tmp rfl), congrArg (fun b => DV.v (.bool b)) (by first | exact Eq.symm (Bool.eq_false_iff.2 (fun h => by have h9 := boxB_iff.1 ((boxesB_iff.1 h).2 _ (List.getElem_mem hkl)); first | (have := h9.2.1; rw [wlen] at this; omega) | (simp_all; done) | (have h8 := (ptB_at hil).1 (h9.2.2 i hil); obtain ⟨h81, h82, h83⟩ := h8; first | omega | (rcases h83 with h83 | ⟨_, h83⟩ <;> omega)))) | (rw [Bool.eq_iff_iff, boxesB_iff, decide_eq_true_eq]; have hall := all_of (show l.length ≤ k by omega) hg; exact ⟨fun h => ⟨by omega, hall⟩, fun h => by have := h.1; omega⟩)), rfl⟩
     ·try simp only [nmL] at hb5
      refine SOps.move rfl (SOps.move rfl (SOps.bin rfl rfl rfl (SOps.pick rfl rfl (SOps.move rfl ?_))))
      refine SOps.caseB 41 rfl (fun hb6 => ?_) (fun hb6 => ?_)
      ·try simp only [nmL] at hb6
       refine SOps.skip rfl (SOps.skip rfl (SOps.skip rfl (SOps.skip rfl (SOps.skip rfl (SOps.skip rfl (SOps.skip rfl (SOps.skip rfl (SOps.skip rfl (SOps.skip rfl (SOps.skip rfl (SOps.skip rfl (SOps.pick rfl rfl (SOps.nil ?_)))))))))))))
       refine SCode.cond rfl (fun _ => ?_) (fun h => by cases h)
       refine SCode.seqR (SOps.assign rfl (SOps.nil (SCode.ret ?_)))
       exact ⟨_, Res.one (.tmp rfl), congrArg (fun b => DV.v (.bool b)) (by first | exact Eq.symm (Bool.eq_false_iff.2 (fun h => by have h9 := boxB_iff.1 ((boxesB_iff.1 h).2 _ (List.getElem_mem hkl)); first | (have := h9.2.1; rw [wlen] at this; omega) | (simp_all; done) | (have h8 := (ptB_at hil).1 (h9.2.2 i hil); obtain ⟨h81, h82, h83⟩ := h8; first | omega | (rcases h83 with h83 | ⟨_, h83⟩ <;> omega)))) | (rw [Bool.eq_iff_iff, boxesB_iff, decide_eq_true_eq]; have hall := all_of (show l.length ≤ k by omega) hg; exact ⟨fun h => ⟨by omega, hall⟩, fun h => by have := h.1; omega⟩)), rfl⟩
      ·try simp only [nmL] at hb6
       refine SOps.move rfl (SOps.bin rfl rfl rfl (SOps.move rfl ?_))
       refine SOps.caseB 44 rfl (fun hb7 => ?_) (fun hb7 => ?_)
       ·try simp only [nmL] at hb7
        refine SOps.fieldPin rfl fieldB_111_1_1 (SOps.loadPin rfl flatB_98 (SOps.move rfl (SOps.subI rfl rfl (by first | omega | (simp only [lenB] <;> omega)) (by first | omega | (simp only [lenB] <;> omega)) (SOps.indexM ((i - 1)) rfl rfl sliceB_98_3_1 (by first | omega | (simp only [lenB] <;> omega)) (by first | omega | (simp only [lenB] <;> omega)) (SOps.loadPin rfl flatB_3 (SOps.move rfl (SOps.bin rfl rfl rfl (SOps.pick rfl rfl (SOps.pick rfl rfl (SOps.nil ?_))))))))))
        refine SCode.cond rfl (fun hc8 => ?_) (fun hc8 => ?_)
        ·try simp only [nmL] at hc8
         refine SCode.seqR (SOps.assign rfl (SOps.nil (SCode.ret ?_)))
         exact ⟨_, Res.one (.tmp rfl), congrArg (fun b => DV.v (.bool b)) (by first | exact Eq.symm (Bool.eq_false_iff.2 (fun h => by have h9 := boxB_iff.1 ((boxesB_iff.1 h).2 _ (List.getElem_mem hkl)); first | (have := h9.2.1; rw [wlen] at this; omega) | (simp_all; done) | (have h8 := (ptB_at hil).1 (h9.2.2 i hil); obtain ⟨h81, h82, h83⟩ := h8; first | omega | (rcases h83 with h83 | ⟨_, h83⟩ <;> omega)))) | (rw [Bool.eq_iff_iff, boxesB_iff, decide_eq_true_eq]; have hall := all_of (show l.length ≤ k by omega) hg; exact ⟨fun h => ⟨by omega, hall⟩, fun h => by have := h.1; omega⟩)), rfl⟩
        ·try simp only [nmL] at hc8
         refine SCode.skip ?_
         show SCode _ _ _ _
         refine SCode.region (SOps.addI rfl rfl (by first | omega | (simp only [lenB] <;> omega)) (by first | omega | (simp only [lenB] <;> omega)) (SOps.move rfl (SOps.nil ?_)))
         exact ⟨i + 1, ⟨by omega, pts_step hf hil (by omega) (by omega) (by first | (left; omega) | (right; exact ⟨by omega, by omega⟩))⟩, by omega, St.Le.of ⟨rfl, rfl, rfl, rfl, rfl, rfl, rfl, rfl, rfl, trivial⟩⟩
       ·try simp only [nmL] at hb7
        refine SOps.skip rfl (SOps.skip rfl (SOps.skip rfl (SOps.skip rfl (SOps.skip rfl (SOps.skip rfl (SOps.skip rfl (SOps.skip rfl (SOps.pick rfl rfl (SOps.pick rfl rfl (SOps.nil ?_))))))))))
        refine SCode.cond rfl (fun h => by cases h) (fun _ => ?_)
        refine SCode.skip ?_
        show SCode _ _ _ _
        refine SCode.region (SOps.addI rfl rfl (by first | omega | (simp only [lenB] <;> omega)) (by first | omega | (simp only [lenB] <;> omega)) (SOps.move rfl (SOps.nil ?_)))
        exact ⟨i + 1, ⟨by omega, pts_step hf hil (by omega) (by omega) (by first | (left; omega) | (right; exact ⟨by omega, by omega⟩))⟩, by omega, St.Le.of ⟨rfl, rfl, rfl, rfl, rfl, rfl, rfl, rfl, rfl, trivial⟩⟩
    ·try simp only [nmL] at hc4
     refine SCode.exit ?_
     show SCode _ _ _ _
     refine SCode.region (SOps.addI rfl rfl (by first | omega | (simp only [lenB] <;> omega)) (by first | omega | (simp only [lenB] <;> omega)) (SOps.move rfl (SOps.nil ?_)))
     exact ⟨k + 1, ⟨by omega, take_more hg hkl (boxB_iff.2 ⟨by simp_all, by rw [wlen]; omega, fun j hj => hf j (by omega)⟩)⟩, by omega, St.Le.of ⟨rfl, rfl, rfl, rfl, trivial⟩⟩
 ·try simp only [nmL] at hc1
  refine SCode.exit ?_
  show SCode _ _ _ _
  refine SCode.seqR (SOps.move rfl (SOps.lenM rfl sliceB_33_111_2 (SOps.bin rfl rfl rfl (SOps.assign rfl (SOps.nil (SCode.ret ?_))))))
  exact ⟨_, Res.one (.tmp rfl), congrArg (fun b => DV.v (.bool b)) (by first | exact Eq.symm (Bool.eq_false_iff.2 (fun h => by have h9 := boxB_iff.1 ((boxesB_iff.1 h).2 _ (List.getElem_mem hkl)); first | (have := h9.2.1; rw [wlen] at this; omega) | (simp_all; done) | (have h8 := (ptB_at hil).1 (h9.2.2 i hil); obtain ⟨h81, h82, h83⟩ := h8; first | omega | (rcases h83 with h83 | ⟨_, h83⟩ <;> omega)))) | (rw [Bool.eq_iff_iff, boxesB_iff, decide_eq_true_eq]; have hall := all_of (show l.length ≤ k by omega) hg; exact ⟨fun h => ⟨by omega, hall⟩, fun h => by have := h.1; omega⟩)), rfl⟩
end Go.GH
namespace Go.GH
open Go Go.Lib Go.Proofs Go.RowKit
variable {E : Env}
theorem GCall.ofCallsD {P : Program} {E : Env} {f : FuncId} {ds : List DV} {x : Value} {d0 : DV} (hb : hasBody P f = true) (hx : ∀ w F, Rep w F x d0)
    (h : ∀ w F (vs : Array Value), E.holds w F → (∀ b, F b → b < w.heap.size) → vs.size = ds.length → (∀ (j : Nat) (v : Value) (d : DV), vs[j]? = some v → ds[j]? = some d → Rep w F v d) → Calls P f vs w (fun e w' => e = .returned x ∧ Below w.heap.size w w')) :
    GCall P E f ds [] (fun d H => d = d0 ∧ H = []) :=
  ⟨hb, fun w F vs hE hF hl hr _ _ => (h w F vs hE hF hl hr).mono (fun e w' ⟨he, bel⟩ =>
    ⟨x, d0, [], F, he, ⟨rfl, rfl⟩, fun _ h => h, fun b h => ⟨Nat.lt_of_lt_of_le (hF b h) (Step.of_below bel).size, .inl h⟩, hx _ _, (fun p hp => by cases hp), List.nodup_nil, (Step.of_below bel).mono (fun _ _ h => h.elim)⟩)⟩
/-- A library's contract that hands back a new row of strings. -/
theorem GCall.ofRow {P : Program} {E : Env} {f : FuncId} {ds : List DV} {xs : List ByteArray} (hb : hasBody P f = true) (hx : ∀ x ∈ xs, x.size ≤ lenB) (hn : xs.length ≤ lenB)
    (h : ∀ w F (vs : Array Value), E.holds w F → (∀ b, F b → b < w.heap.size) → vs.size = ds.length → (∀ (j : Nat) (v : Value) (d : DV), vs[j]? = some v → ds[j]? = some d → Rep w F v d) →
      Calls P f vs w (fun e w' => (∃ A cap, e = .returned (.slice (some ⟨A, 0, none⟩) xs.length cap) ∧ xs.length ≤ cap ∧ w.heap.size ≤ A ∧ A < w'.heap.size ∧ ∀ (j : Nat) x, xs[j]? = some x → w'.cell? ⟨A, j, none⟩ = some (.string x)) ∧ Below w.heap.size w w')) :
    GCall P E f ds [] (fun d H => d = DStrs xs ∧ H = []) :=
  ⟨hb, fun w F vs hE hF hl hr _ _ => (h w F vs hE hF hl hr).mono (fun e w' ⟨⟨A, cap, he, hcap, hA, hA2, hc⟩, bel⟩ =>
    ⟨_, DStrs xs, [], fun b => F b ∨ b = A, he, ⟨rfl, rfl⟩, fun _ h => .inl h, (fun b h => by
      rcases h with h | rfl
      · exact ⟨Nat.lt_of_lt_of_le (hF b h) (Step.of_below bel).size, .inl h⟩
      · exact ⟨hA2, .inr hA⟩),
    .isl (b := A) (o := 0) (fun i _ => .string (xs.getD i .empty)) (by simp) hcap (by simpa using hn) (fun h => by cases h) (fun _ => ⟨rfl, .inr rfl⟩) (fun i e hi => by
        rw [List.getElem?_map] at hi
        obtain ⟨x, _, rfl⟩ := Option.map_eq_some_iff.1 hi
        rfl) (fun i e j d hi hj => by
        rw [List.getElem?_map] at hi
        obtain ⟨x, hx', rfl⟩ := Option.map_eq_some_iff.1 hi
        match j, hj with
        | 0, hj =>
          have hg : xs.getD i .empty = x := by rw [List.getD_eq_getElem?_getD, hx']; rfl
          rw [hg]
          exact ⟨by simpa using hc i x hx', rfl⟩
        | j + 1, hj => simp [encS] at hj) (fun i e j d hi hj => by
        rw [List.getElem?_map] at hi
        obtain ⟨x, hx', rfl⟩ := Option.map_eq_some_iff.1 hi
        match j, hj with
        | 0, hj =>
          simp [encS] at hj
          subst hj
          have hg : xs.getD i .empty = x := by rw [List.getD_eq_getElem?_getD, hx']; rfl
          rw [hg]
          exact .v (hx x (List.mem_of_getElem? hx'))
        | j + 1, hj => simp [encS] at hj),
    (fun p hp => by cases hp), List.nodup_nil, (Step.of_below bel).mono (fun _ _ h => h.elim)⟩)⟩
/-! #### suffixes -/
def trimB (s p : ByteArray) : ByteArray := ⟨(Lib.trimSuffix s.data.toList p.data.toList).toArray⟩
def sufB (s p : ByteArray) : Bool := Lib.hasSuffix s.data.toList p.data.toList
theorem sTrimSuffix (s p : ByteArray) : GCall Tryz.prog E 72 [.v (.string s), .v (.string p)] [] (fun d H => d = .v (.string (trimB s p)) ∧ H = []) :=
  ⟨by kernel_rfl, fun w F vs hE hF hl hr h5 h6 => by
    obtain ⟨rfl, h1, h2⟩ := arg2 hl hr
    have hs : (trimB s p).size ≤ lenB := by
      have : (Lib.trimSuffix s.data.toList p.data.toList).length ≤ s.data.toList.length := by unfold Lib.trimSuffix; split <;> simp
      have e : (trimB s p).size = (Lib.trimSuffix s.data.toList p.data.toList).length := by unfold trimB; simp [ByteArray.size]
      have e2 : s.data.toList.length = s.size := by simp
      exact Nat.le_trans (by omega) h1
    exact (GCall.ofCalls (E := E) (x := .string (trimB s p)) (ds := [.v (.string s), .v (.string p)]) (by kernel_rfl) hs (fun w F vs hE hl hr => by
      obtain ⟨rfl, h1, h2⟩ := arg2 hl hr
      exact (Any.strings_TrimSuffix Tryz.laysTrim s p w h1).mono fun e w' ⟨h3, h4⟩ => ⟨h3, h4 ▸ Below.refl _ _⟩)).2 w F #[.string s, .string p] hE hF hl hr h5 h6⟩
theorem sHasSuffix (s p : ByteArray) : GCall Tryz.prog E 73 [.v (.string s), .v (.string p)] [] (fun d H => d = .v (.bool (sufB s p)) ∧ H = []) :=
  GCall.ofCalls (by kernel_rfl) trivial (fun w F vs hE hl hr => by
    obtain ⟨rfl, h1, h2⟩ := arg2 hl hr
    exact (Any.strings_HasSuffix Tryz.laysHas s p w h1).mono fun e w' ⟨h3, h4⟩ => ⟨h3, h4 ▸ Below.refl _ _⟩)
/-! #### blanks -/
def blB (n : Nat) : ByteArray := ⟨(List.replicate n 32).toArray⟩
theorem blB_size (n : Nat) : (blB n).size = n := by unfold blB; simp [ByteArray.size]
theorem extraRep : Builder.Extra Tryz.prog Tryz.laysRep_ren where
  sizeBuilder := by kernel_rfl
  liesBuilder := by kernel_rfl
  t5 := Tryz.underlying5
  a5 := Tryz.isAgg5
  z5 := Tryz.sizeOf5
  v5 := Tryz.zeroValue5
  infoByte := by kernel_rfl
  cellsByte := by kernel_rfl
  sizeByte := by kernel_rfl
  neB5 := by decide
theorem sRepeat (n : Nat) (hn : n ≤ 1048576) : GCall Tryz.prog E 79 [.v (.string sp1), .v (.int .i64 (n : Int))] [] (fun d H => d = .v (.string (blB n)) ∧ H = []) :=
  GCall.ofCalls (by kernel_rfl) (show (blB n).size ≤ lenB by rw [blB_size]; unfold lenB; omega) (fun w F vs hE hl hr => by
    obtain ⟨rfl, h1, h2⟩ := arg2 hl hr
    have := Any.strings_Repeat Tryz.laysRep extraRep sp1 n w (by omega) (by show 1 * n ≤ _; omega)
    rw [show Lib.repeatL sp1.data.toList n = List.replicate n 32 from by
      have h := Lib.repeatL_replicate 32 1 n
      rw [Nat.mul_one] at h; exact h] at this
    exact this)
/-! #### Join -/
theorem extraJoin : Builder.Extra Tryz.prog Tryz.laysJoin_ren where
  sizeBuilder := by kernel_rfl
  liesBuilder := by kernel_rfl
  t5 := Tryz.underlying5
  a5 := Tryz.isAgg5
  z5 := Tryz.sizeOf5
  v5 := Tryz.zeroValue5
  infoByte := by kernel_rfl
  cellsByte := by kernel_rfl
  sizeByte := by kernel_rfl
  neB5 := by decide
theorem foldl_data (ws : List ByteArray) : ∀ a : ByteArray, (ws.foldl (fun a x => a ++ sp1 ++ x) a).data.toList = a.data.toList ++ Lib.joinTail [32] (ws.map (·.data.toList)) := by
  induction ws with
  | nil => intro a; simp [Lib.joinTail]
  | cons w ws ih =>
    intro a
    rw [List.foldl_cons, ih, ByteArray.data_append, ByteArray.data_append, Array.toList_append, Array.toList_append]
    show _ ++ [32] ++ _ ++ _ = _
    simp [Lib.joinTail]
theorem join_cat (ws : List ByteArray) : (⟨(Lib.join (ws.map (·.data.toList)) sp1.data.toList).toArray⟩ : ByteArray) = catW ws := by
  cases ws with
  | nil => rfl
  | cons w ws =>
    have h := foldl_data ws w
    rw [List.map_cons, Lib.join_cons, show sp1.data.toList = [32] from rfl, ← h]
    exact ba_list _
theorem args_row {w : World} {F : Nat → Prop} {vs : Array Value} {ws : List ByteArray} {x : Value} (hl : vs.size = 2) (hr : ∀ (j : Nat) (v : Value) (d : DV), vs[j]? = some v → [DStrs ws, DV.v x][j]? = some d → Rep w F v d) :
    ∃ A c, vs = #[.slice A ws.length c, x] ∧ ws.length ≤ c ∧ (ws ≠ [] → ∃ b o, A = some ⟨b, o, none⟩ ∧ F b ∧ ∀ (j : Nat) y, ws[j]? = some y → w.cell? ⟨b, o + j, none⟩ = some (.string y)) := by
  have h0 := hr 0 vs[0] _ (Array.getElem?_eq_getElem (by omega)) rfl
  have h1 := (hr 1 vs[1] _ (Array.getElem?_eq_getElem (by omega)) rfl).inv_v.1
  have hv : vs = #[vs[0], vs[1]] := by
    apply Array.ext
    · simpa using hl
    · intro i h2 h3
      rcases (show i = 0 ∨ i = 1 by omega) with rfl | rfl <;> rfl
  rw [hv, h1]
  generalize vs[0] = v0 at h0
  cases h0 with
  | @isl A len cap nn sz es b o xs hlen hcap hB hnn hA hsz hc hr =>
    rw [List.length_map] at hlen
    refine ⟨A, cap, by rw [hlen], by omega, fun hne => ?_⟩
    obtain ⟨rfl, hF⟩ := hA (by simpa using hne)
    refine ⟨b, o, rfl, hF, fun j y hy => ?_⟩
    have he : (ws.map encS)[j]? = some (encS y) := by rw [List.getElem?_map, hy]; rfl
    have h3 := (hc j _ 0 _ he rfl).1
    rw [(hr j _ 0 _ he rfl).inv_v.1] at h3
    simpa using h3
theorem catW_sz {M : Nat} {ws : List ByteArray} (h : ∀ w ∈ ws, w.size ≤ M) : (catW ws).size ≤ (M + 1) * ws.length := by
  have := catW_size (M := M) ws.length h (Nat.le_refl _)
  rwa [List.take_of_length_le (Nat.le_refl _)] at this
theorem sJoin (ws : List ByteArray) (hn : ws.length ≤ 1048576) (hw : ∀ w ∈ ws, w.size ≤ 1048576) : GCall Tryz.prog E 74 [DStrs ws, .v (.string sp1)] [] (fun d H => d = .v (.string (catW ws)) ∧ H = []) := by
  have hcl := catW_sz hw
  have hcs : (catW ws).size ≤ 140737488355328 := Nat.le_trans hcl (Nat.le_trans (Nat.mul_le_mul_left _ hn) (by decide))
  exact ⟨by kernel_rfl, fun w F vs hE hF hl hr h5 h6 => (GCall.ofCallsD (E := E) (x := .string (catW ws)) (d0 := .v (.string (catW ws))) (by kernel_rfl) (fun w F => .v (show (catW ws).size ≤ lenB by unfold lenB; omega)) (fun w F vs hE hF hl hr => by
    obtain ⟨A, c, rfl, hc, hA⟩ := args_row hl hr
    by_cases hne : ws = []
    · subst hne
      exact (Any.strings_Join_none Tryz.laysJoin extraJoin A c sp1 w).mono fun e w' ⟨h3, h4⟩ => ⟨h3, h4 ▸ Below.refl _ _⟩
    · obtain ⟨b, o, rfl, hFb, hcell⟩ := hA hne
      have := Any.strings_Join Tryz.laysJoin extraJoin b o c ws sp1 w hcell (hF b hFb) (by omega) hc (by
        have e := congrArg ByteArray.size (join_cat ws)
        have e2 : (⟨(Lib.join (ws.map (·.data.toList)) sp1.data.toList).toArray⟩ : ByteArray).size = (Lib.join (ws.map (·.data.toList)) sp1.data.toList).length := by simp [ByteArray.size]
        omega)
      rw [join_cat] at this
      exact this)).2 w F vs hE hF hl hr h5 h6⟩
end Go.GH
namespace Go.GH
open Go
def prB (l : Ln) : Bool := decide (0 < l.words.length) && l.words.all wordB
def gapN (m g i : Nat) : Nat := 1 + m / g + (if i < m % g then 1 else 0)
/-- The first words of a line with the gaps behind them. -/
def sprK (ws : List ByteArray) (g m : Nat) : Nat → ByteArray
  | 0 => .empty
  | k + 1 => if k < g then sprK ws g m k ++ ws.getD k .empty ++ blB (gapN m g k) else sprK ws g m k ++ ws.getD k .empty
def sprL (l : Ln) (m : Nat) : ByteArray := if l.hyph then sprK l.words (l.words.length - 1) m l.words.length ++ hy1 else sprK l.words (l.words.length - 1) m l.words.length
def spreadR (l : Ln) (w : Int) (last : Bool) : ByteArray × Int :=
  if wideB w && prB l then
    if w < (wlen (textL l) : Int) then (⟨#[]⟩, 2)
    else if last || decide (l.words.length = 1) then (textL l ++ blB (w - (wlen (textL l) : Int)).toNat, 0)
    else (sprL l (w - (wlen (textL l) : Int)).toNat, 0)
  else (⟨#[]⟩, 1)
theorem gapN_le {m g i : Nat} (h : m ≤ 200) : gapN m g i ≤ 202 := by
  unfold gapN
  have := Nat.div_le_self m g
  split <;> omega
theorem sprK_size {ws : List ByteArray} {g m M : Nat} (hm : m ≤ 200) (hw : ∀ w ∈ ws, w.size ≤ M) : ∀ k, (sprK ws g m k).size ≤ (M + 202) * k
  | 0 => Nat.zero_le _
  | k + 1 => by
    have ih := sprK_size (g := g) hm hw k
    have hg : (ws.getD k .empty).size ≤ M := by
      rw [List.getD_eq_getElem?_getD]
      by_cases h : k < ws.length
      · rw [List.getElem?_eq_getElem h]; exact hw _ (List.getElem_mem h)
      · rw [List.getElem?_eq_none (by omega)]; exact Nat.zero_le _
    have hl := gapN_le (m := m) (g := g) (i := k) hm
    rw [sprK, Nat.mul_add, Nat.mul_one]
    split
    · rw [ByteArray.size_append, ByteArray.size_append, blB_size]; omega
    · rw [ByteArray.size_append]; omega
theorem getD_w {l : List ByteArray} {i : Nat} (h : i < l.length) : l.getD i .empty = l[i] := by rw [List.getD_eq_getElem?_getD, List.getElem?_eq_getElem h]; rfl
theorem prB_iff {l : Ln} : prB l = true ↔ 0 < l.words.length ∧ ∀ w ∈ l.words, wordB w = true := by simp [prB]
theorem wideX_iff {w : Int} : wideB w = true ↔ 1 ≤ w ∧ w ≤ 200 := by simp [wideB]
theorem spread_bad {l : Ln} {w : Int} {last : Bool} (h : ¬ (wideB w && prB l) = true) : spreadR l w last = (⟨#[]⟩, 1) := by unfold spreadR; rw [if_neg h]
theorem spread_tight {l : Ln} {w : Int} {last : Bool} (h : (wideB w && prB l) = true) (h2 : w - (wlen (textL l) : Int) < 0) : spreadR l w last = (⟨#[]⟩, 2) := by unfold spreadR; rw [if_pos h, if_pos (by omega)]
theorem spread_last {l : Ln} {w : Int} {last : Bool} {m : Nat} (h : (wideB w && prB l) = true) (h2 : w - (wlen (textL l) : Int) = (m : Int)) (h3 : last = true ∨ l.words.length = 1) : spreadR l w last = (textL l ++ blB m, 0) := by
  unfold spreadR
  rw [if_pos h, if_neg (by omega), if_pos (by simpa using h3), h2]; rfl
theorem spread_gaps {l : Ln} {w : Int} {last : Bool} {m : Nat} (h : (wideB w && prB l) = true) (h2 : w - (wlen (textL l) : Int) = (m : Int)) (h3 : last = false) (h4 : ¬ l.words.length = 1) : spreadR l w last = (sprL l m, 0) := by
  unfold spreadR
  rw [if_pos h, if_neg (by omega), if_neg (by simp [h3, h4]), h2]; rfl
end Go.GH
namespace Go.GH
open Go Go.Proofs
variable {E : Env}
theorem fieldB_24_0_0 : fieldB Tryz.prog 24 0 0 = true := by kernel_rfl
theorem fieldB_24_1_1 : fieldB Tryz.prog 24 1 1 = true := by kernel_rfl
theorem flatB_22 : flatB Tryz.prog 22 = true := by kernel_rfl
theorem flatB_4 : flatB Tryz.prog 4 = true := by kernel_rfl
theorem qText (ln : Ln) (hw : ∀ w ∈ ln.words, w.size ≤ 1048576) (hl : ln.words.length ≤ 1048576) : GCall Tryz.prog E 45 [.agg (encLn ln)] [] (fun d H => d = .v (.string (textL ln)) ∧ H = []) := by
 refine GCall.body (C := ⟨Tryz.prog, E, true⟩) Tryz.func45 rfl (fun _ => rfl) (by kernel_rfl) rfl ?_
 refine SCode.seqR (SOps.boxAM rfl rfl (SOps.assign rfl (SOps.nil (SCode.seqR (SOps.assign rfl (SOps.nil (SCode.seq (SCode.seqR (SOps.fieldPin rfl fieldB_24_0_0 (SOps.loadPin rfl flatB_22 (SOps.lenM rfl sliceB_22_9_1 (SOps.move rfl (SOps.nil (SCode.block (SCode.loop1 (fun (i : Nat) => (⟨27, [(1, .ipin (encLn ln)), (3, .v (.string (catW (ln.words.take i)))), (7, DStrs ln.words), (8, .v (.int .i64 (ln.words.length : Int))), (9, .v (.int .i64 (i : Int)))], []⟩ : St)) (fun (i : Nat) => i ≤ ln.words.length) (fun (i : Nat) => ln.words.length - i) (0) (by exact Nat.zero_le _) (St.Le.of ⟨(by first | rfl | (show some _ = some _; simp)), (by first | rfl | (show some _ = some _; simp)), (by first | rfl | (show some _ = some _; simp)), (by first | rfl | (show some _ = some _; simp)), (by first | rfl | (show some _ = some _; simp)), trivial⟩ rfl (by first | rfl | (simp))) ?_)))))))))))))))
 rintro i hi
 have hcs := catW_size i hw hi
 refine SCode.seqR (SOps.bin rfl rfl rfl (SOps.nil (SCode.seq ?_)))
 refine SCode.cond rfl (fun hc1 => ?_) (fun hc1 => ?_)
 ·try simp only [nmL] at hc1
  refine SCode.skip ?_
  show SCode _ _ _ _
  refine SCode.seq (SCode.block (SCode.seqR ?_))
  have hil : i < ln.words.length := by omega
  have hwi := hw _ (List.getElem_mem hil)
  have hct := catW_take hil
  refine SOps.move rfl (SOps.indexM (i) rfl rfl sliceB_22_9_1 (by first | omega | (simp only [lenB] <;> omega)) (by first | omega | (simp only [lenB] <;> omega)) (SOps.loadPin rfl flatB_9 (SOps.assign rfl (SOps.assign rfl (SOps.nil (SCode.seq (SCode.seqR (SOps.move rfl (SOps.bin rfl rfl rfl (SOps.nil ?_))))))))))
  refine SCode.cond rfl (fun hc2 => ?_) (fun hc2 => ?_)
  ·try simp only [nmL] at hc2
   have h0 : ¬ i = 0 := by omega
   have hctA := hct
   rw [if_neg h0] at hctA
   refine SCode.region (SOps.move rfl (SOps.concat rfl rfl (by simp only [lenB, ByteArray.size_append]; have : sp1.size = 1 := rfl; have : (ByteArray.mk #[32]).size = 1 := rfl; have : (ByteArray.mk #[45]).size = 1 := rfl; omega) (SOps.assign rfl (SOps.nil ?_))))
   show SCode _ _ _ _
   refine SCode.region (SOps.move rfl (SOps.move rfl (SOps.concat rfl rfl (by simp only [lenB, ByteArray.size_append]; have : sp1.size = 1 := rfl; have : (ByteArray.mk #[32]).size = 1 := rfl; have : (ByteArray.mk #[45]).size = 1 := rfl; omega) (SOps.assign rfl (SOps.nil ?_)))))
   show SCode _ _ _ _
   refine SCode.region (SOps.addI rfl rfl (by first | omega | (simp only [lenB] <;> omega)) (by first | omega | (simp only [lenB] <;> omega)) (SOps.move rfl (SOps.nil ?_)))
   first
    | exact ⟨i + 1, by omega, by omega, St.Le.of ⟨rfl, congrArg (fun z => some (DV.v (.string z))) hctA.symm, rfl, rfl, rfl, trivial⟩⟩
    | exact ⟨i + 1, by omega, by omega, St.Le.of ⟨rfl, congrArg (fun z => some (DV.v (.string z))) hctB.symm, rfl, rfl, rfl, trivial⟩⟩
  ·try simp only [nmL] at hc2
   have h0 : i = 0 := by omega
   have hctB : (catW (ln.words.take (i + 1))) = (catW (ln.words.take i)) ++ ln.words[i] := by rw [hct, if_pos h0, show (catW (ln.words.take i)) = .empty from by rw [h0]; rfl, ByteArray.empty_append]
   refine SCode.skip ?_
   show SCode _ _ _ _
   refine SCode.region (SOps.move rfl (SOps.move rfl (SOps.concat rfl rfl (by simp only [lenB, ByteArray.size_append]; have : sp1.size = 1 := rfl; have : (ByteArray.mk #[32]).size = 1 := rfl; have : (ByteArray.mk #[45]).size = 1 := rfl; omega) (SOps.assign rfl (SOps.nil ?_)))))
   show SCode _ _ _ _
   refine SCode.region (SOps.addI rfl rfl (by first | omega | (simp only [lenB] <;> omega)) (by first | omega | (simp only [lenB] <;> omega)) (SOps.move rfl (SOps.nil ?_)))
   first
    | exact ⟨i + 1, by omega, by omega, St.Le.of ⟨rfl, congrArg (fun z => some (DV.v (.string z))) hctA.symm, rfl, rfl, rfl, trivial⟩⟩
    | exact ⟨i + 1, by omega, by omega, St.Le.of ⟨rfl, congrArg (fun z => some (DV.v (.string z))) hctB.symm, rfl, rfl, rfl, trivial⟩⟩
 ·try simp only [nmL] at hc1
  refine SCode.exit ?_
  show SCode _ _ _ _
  refine SCode.seq (SCode.seqR (SOps.fieldPin rfl fieldB_24_1_1 (SOps.loadPin rfl flatB_4 (SOps.nil ?_))))
  refine SCode.cond rfl (fun hc3 => ?_) (fun hc3 => ?_)
  ·try simp only [nmL] at hc3
   refine SCode.region (SOps.move rfl (SOps.concat rfl rfl (by simp only [lenB, ByteArray.size_append]; have : sp1.size = 1 := rfl; have : (ByteArray.mk #[32]).size = 1 := rfl; have : (ByteArray.mk #[45]).size = 1 := rfl; omega) (SOps.assign rfl (SOps.nil ?_))))
   show SCode _ _ _ _
   refine SCode.seqR (SOps.move rfl (SOps.assign rfl (SOps.nil (SCode.ret ?_))))
   exact ⟨_, Res.one (.tmp rfl), by rw [textL, List.take_of_length_le (show ln.words.length ≤ i by omega)]; simp_all [hy1], rfl⟩
  ·try simp only [nmL] at hc3
   refine SCode.skip ?_
   show SCode _ _ _ _
   refine SCode.seqR (SOps.move rfl (SOps.assign rfl (SOps.nil (SCode.ret ?_))))
   exact ⟨_, Res.one (.tmp rfl), by rw [textL, List.take_of_length_le (show ln.words.length ≤ i by omega)]; simp_all [hy1], rfl⟩
end Go.GH
namespace Go.GH
open Go Go.Proofs
variable {E : Env}
theorem sText (ln : Ln) (hw : ∀ w ∈ ln.words, w.size ≤ 1048576) (hl : ln.words.length ≤ 1048576) : GCall Tryz.prog E 38 [.agg (encLn ln)] [] (fun d H => d = .v (.string (textL ln)) ∧ H = []) := by
 refine GCall.body (C := ⟨Tryz.prog, E, true⟩) Tryz.func38 rfl (fun _ => rfl) (by kernel_rfl) rfl ?_
 refine SCode.seqR (SOps.boxAM rfl rfl (SOps.assign rfl (SOps.nil (SCode.seqR ?_))))
 refine SOps.allocV (sz := 2) zeroBld (fun b0 hb_0 => ?_)
 refine SOps.nil (SCode.seq (SCode.seqR (SOps.fieldPin rfl fieldB_24_0_0 (SOps.loadPin rfl flatB_22 (SOps.lenM rfl sliceB_22_9_1 (SOps.move rfl (SOps.nil (SCode.block (SCode.loop3 (fun (i : Nat) (g : Nat) (u : Bool) => (⟨24, [(1, .ipin (encLn ln)), (3, .vref b0 86 2), (7, DStrs ln.words), (8, .v (.int .i64 (ln.words.length : Int))), (9, .v (.int .i64 (i : Int)))], bldH b0 g u (catW (ln.words.take i)).data.toList⟩ : St)) (fun (i : Nat) (g : Nat) (u : Bool) => i ≤ ln.words.length) (fun (i : Nat) (g : Nat) (u : Bool) => ln.words.length - i) (0) (0) (false) (by exact Nat.zero_le _) (St.Le.of ⟨(by first | rfl | (show some _ = some _; simp)), (by first | rfl | (show some _ = some _; simp)), (by first | rfl | (show some _ = some _; simp)), (by first | rfl | (show some _ = some _; simp)), (by first | rfl | (show some _ = some _; simp)), trivial⟩ rfl (by first | rfl | (simp))) ?_)))))))))
 rintro i g u hi
 have hcs := catW_size i hw hi
 have hcl : (catW (ln.words.take i)).data.toList.length = (catW (ln.words.take i)).size := by simp
 refine SCode.seqR (SOps.bin rfl rfl rfl (SOps.nil (SCode.seq ?_)))
 refine SCode.cond rfl (fun hc1 => ?_) (fun hc1 => ?_)
 ·try simp only [nmL] at hc1
  refine SCode.skip ?_
  show SCode _ _ _ _
  refine SCode.seq (SCode.block (SCode.seqR ?_))
  have hil : i < ln.words.length := by omega
  have hwi := hw _ (List.getElem_mem hil)
  have hct := catW_take hil
  refine SOps.move rfl (SOps.indexM (i) rfl rfl sliceB_22_9_1 (by first | omega | (simp only [lenB] <;> omega)) (by first | omega | (simp only [lenB] <;> omega)) (SOps.loadPin rfl flatB_9 (SOps.assign rfl (SOps.assign rfl (SOps.nil (SCode.seq (SCode.seqR (SOps.move rfl (SOps.bin rfl rfl rfl (SOps.nil ?_))))))))))
  refine SCode.cond rfl (fun hc2 => ?_) (fun hc2 => ?_)
  ·try simp only [nmL] at hc2
   have h0 : ¬ i = 0 := by omega
   have hctA : (catW (ln.words.take (i + 1))).data.toList = (catW (ln.words.take i)).data.toList ++ [32] ++ (ln.words[i]).data.toList := by rw [hct, if_neg h0, data_app2, data_app2]; rfl
   refine SCode.region (SOps.callR (bldH _ _ _ _) [] (bWriteByte _ _ _ _ 32 (by first | (simp; omega) | (simp [ByteArray.size_append]; omega))) rfl rfl ?_)
   rintro _ _ ⟨g7, rfl, rfl⟩
   refine SOps.nil ?_
   show SCode _ _ _ _
   refine SCode.region (SOps.move rfl (SOps.callR (bldH _ _ _ _) [] (bWriteString _ _ _ _ _ (by first | (simp; omega) | (simp [ByteArray.size_append]; omega))) rfl rfl ?_))
   rintro _ _ ⟨g7, rfl, rfl⟩
   refine SOps.nil ?_
   show SCode _ _ _ _
   refine SCode.region (SOps.addI rfl rfl (by first | omega | (simp only [lenB] <;> omega)) (by first | omega | (simp only [lenB] <;> omega)) (SOps.move rfl (SOps.nil ?_)))
   first
    | exact ⟨i + 1, g7, true, by omega, by omega, St.Le.of ⟨rfl, rfl, rfl, rfl, rfl, trivial⟩ rfl (congrArg (bldH b0 g7 true) hctA)⟩
    | exact ⟨i + 1, g7, true, by omega, by omega, St.Le.of ⟨rfl, rfl, rfl, rfl, rfl, trivial⟩ rfl (congrArg (bldH b0 g7 true) hctB)⟩
  ·try simp only [nmL] at hc2
   have h0 : i = 0 := by omega
   have hctB : (catW (ln.words.take (i + 1))).data.toList = (catW (ln.words.take i)).data.toList ++ (ln.words[i]).data.toList := by rw [hct, if_pos h0, show (catW (ln.words.take i)) = .empty from by rw [h0]; rfl]; rfl
   refine SCode.skip ?_
   show SCode _ _ _ _
   refine SCode.region (SOps.move rfl (SOps.callR (bldH _ _ _ _) [] (bWriteString _ _ _ _ _ (by first | (simp; omega) | (simp [ByteArray.size_append]; omega))) rfl rfl ?_))
   rintro _ _ ⟨g7, rfl, rfl⟩
   refine SOps.nil ?_
   show SCode _ _ _ _
   refine SCode.region (SOps.addI rfl rfl (by first | omega | (simp only [lenB] <;> omega)) (by first | omega | (simp only [lenB] <;> omega)) (SOps.move rfl (SOps.nil ?_)))
   first
    | exact ⟨i + 1, g7, true, by omega, by omega, St.Le.of ⟨rfl, rfl, rfl, rfl, rfl, trivial⟩ rfl (congrArg (bldH b0 g7 true) hctA)⟩
    | exact ⟨i + 1, g7, true, by omega, by omega, St.Le.of ⟨rfl, rfl, rfl, rfl, rfl, trivial⟩ rfl (congrArg (bldH b0 g7 true) hctB)⟩
 ·try simp only [nmL] at hc1
  refine SCode.exit ?_
  show SCode _ _ _ _
  refine SCode.seq (SCode.seqR (SOps.fieldPin rfl fieldB_24_1_1 (SOps.loadPin rfl flatB_4 (SOps.nil ?_))))
  refine SCode.cond rfl (fun hc3 => ?_) (fun hc3 => ?_)
  ·try simp only [nmL] at hc3
   have hk9 : ln.words.take i = ln.words := List.take_of_length_le (by omega)
   have hx : textL ln = catW ln.words ++ hy1 := by rw [textL, if_pos hc3]
   refine SCode.region (SOps.callR (bldH _ _ _ _) [] (bWriteByte _ _ _ _ 45 (by first | (simp; omega) | (simp [ByteArray.size_append]; omega))) rfl rfl ?_)
   rintro _ _ ⟨g7, rfl, rfl⟩
   refine SOps.nil ?_
   show SCode _ _ _ _
   refine SCode.seqR (SOps.callR (bldH _ _ _ _) [] (bString _ _ _ _ (by first | (simp; omega) | (simp [ByteArray.size_append]; omega))) rfl rfl ?_)
   rintro _ _ ⟨rfl, rfl⟩
   refine SOps.assign rfl (SOps.nil (SCode.ret ?_))
   exact ⟨_, Res.one (.tmp rfl), (by rw [hx]; exact congrArg (fun z => DV.v (.string z)) (by rw [hk9]; exact ba_list (catW ln.words ++ hy1))), rfl⟩
  ·try simp only [nmL] at hc3
   have hk9 : ln.words.take i = ln.words := List.take_of_length_le (by omega)
   have hx : textL ln = catW ln.words := by rw [textL, if_neg (by rw [hc3]; simp)]
   refine SCode.skip ?_
   show SCode _ _ _ _
   refine SCode.seqR (SOps.callR (bldH _ _ _ _) [] (bString _ _ _ _ (by first | (simp; omega) | (simp [ByteArray.size_append]; omega))) rfl rfl ?_)
   rintro _ _ ⟨rfl, rfl⟩
   refine SOps.assign rfl (SOps.nil (SCode.ret ?_))
   exact ⟨_, Res.one (.tmp rfl), (by rw [hx]; exact congrArg (fun z => DV.v (.string z)) (by rw [hk9] <;> exact ba_list (catW ln.words))), rfl⟩
end Go.GH
namespace Go.GH
open Go Go.Lib
def bigB (n m : Nat) (b : Bx) : Bool := decide (n < b.word.size) || decide (m < b.pts.length)
def cntB (l : List Bx) : Nat := 1 + (l.map (fun b => 1 + b.pts.length)).sum
def manyB (l : List Bx) : Bool := l.any (bigB 100 20) || decide (40 < l.length)
theorem cntB_take {l : List Bx} {i : Nat} (h : i < l.length) : cntB (l.take (i + 1)) = cntB (l.take i) + (1 + (l[i]).pts.length) := by
  unfold cntB
  rw [List.take_add_one, List.getElem?_eq_getElem h, List.map_append, List.sum_append]
  show 1 + (_ + ([1 + (l[i]).pts.length]).sum) = _
  rw [List.sum_cons, List.sum_nil]
  omega
theorem bigB_iff {n m : Nat} {b : Bx} : bigB n m b = true ↔ n < b.word.size ∨ m < b.pts.length := by simp [bigB]
end Go.GH
namespace Go.GH
open Go Go.Proofs
variable {E : Env}
end Go.GH
namespace Go.GH
open Go Go.Lib
def freeL (w : Int) (l : Ln) : Int := w - (wlen (textL l) : Int)
def lnAt (l : List Ln) (i : Nat) : Ln := l.getD i ⟨[], false⟩
def costAt (l : List Ln) (w p : Int) (i : Nat) : Int := (if i + 1 < l.length then freeL w (lnAt l i) * freeL w (lnAt l i) else 0) + (if (lnAt l i).hyph then p else 0)
def sumK (l : List Ln) (w p : Int) : Nat → Int
  | 0 => 0
  | k + 1 => sumK l w p k + costAt l w p k
def sumL (l : List Ln) (w p : Int) : Int := sumK l w p l.length
/-- Lines of which no text is long. -/
def LnOK (l : Ln) : Prop := l.words.length ≤ 1000 ∧ ∀ w ∈ l.words, w.size ≤ 1000
theorem lnAt_lt {l : List Ln} {i : Nat} (h : i < l.length) : lnAt l i = l[i] := by
  unfold lnAt; rw [List.getD_eq_getElem?_getD, List.getElem?_eq_getElem h]; rfl
theorem LnOK.size {l : Ln} (h : LnOK l) : wlen (textL l) ≤ 1001001 := by
  have h1 := catW_size l.words.length h.2 (Nat.le_refl _)
  rw [List.take_length] at h1
  have h2 : (1000 + 1) * l.words.length ≤ 1001 * 1000 := Nat.mul_le_mul_left _ h.1
  have h3 : (textL l).size ≤ 1001001 := by
    unfold textL
    split
    · rw [ByteArray.size_append]; have : hy1.size = 1 := rfl; omega
    · omega
  have := runes_len (textL l)
  unfold wlen; omega
theorem LnOK.words {l : Ln} (h : LnOK l) : (∀ w ∈ l.words, w.size ≤ 1048576) ∧ l.words.length ≤ 1048576 :=
  ⟨fun w hw => by have := h.2 w hw; omega, by have := h.1; omega⟩
theorem freeL_bound {w : Int} {l : Ln} (h : LnOK l) (h1 : 0 ≤ w) (h2 : w ≤ 1000) : -1100000 ≤ freeL w l ∧ freeL w l ≤ 1100000 := by
  have := h.size
  unfold freeL; omega
theorem sq_bound {x : Int} (h1 : -1100000 ≤ x) (h2 : x ≤ 1100000) : 0 ≤ x * x ∧ x * x ≤ 1210000000000 := by
  rcases Int.le_total 0 x with h | h
  · exact ⟨Int.mul_nonneg h h, by have := Int.mul_le_mul h2 h2 h (by omega); omega⟩
  · have h3 : 0 ≤ -x := by omega
    have e : x * x = (-x) * (-x) := by rw [Int.neg_mul_neg]
    rw [e]
    exact ⟨Int.mul_nonneg h3 h3, by have := Int.mul_le_mul (show -x ≤ 1100000 by omega) (show -x ≤ 1100000 by omega) h3 (by omega); omega⟩
theorem costAt_bound {l : List Ln} {w p : Int} (h : ∀ x ∈ l, LnOK x) (h1 : 0 ≤ w) (h2 : w ≤ 1000) (h3 : 0 ≤ p) (h4 : p ≤ 1000000) {i : Nat} (hi : i < l.length) : 0 ≤ costAt l w p i ∧ costAt l w p i ≤ 1210001000000 := by
  have hx := h _ (List.getElem_mem hi)
  rw [← lnAt_lt hi] at hx
  have hf := freeL_bound hx h1 h2
  have hs := sq_bound hf.1 hf.2
  unfold costAt
  split <;> split <;> omega
theorem sumK_bound {l : List Ln} {w p : Int} (h : ∀ x ∈ l, LnOK x) (h1 : 0 ≤ w) (h2 : w ≤ 1000) (h3 : 0 ≤ p) (h4 : p ≤ 1000000) : ∀ (k : Nat), k ≤ l.length → 0 ≤ sumK l w p k ∧ sumK l w p k ≤ 1210001000000 * k
  | 0, _ => by simp [sumK]
  | k + 1, hk => by
    have ih := sumK_bound h h1 h2 h3 h4 k (by omega)
    have hc := costAt_bound h h1 h2 h3 h4 (i := k) (by omega)
    rw [sumK]
    omega
end Go.GH
namespace Go.GH
open Go Go.Proofs
variable {E : Env}
theorem aggB_24_2 : aggB Tryz.prog 24 2 = true := by kernel_rfl
theorem sliceB_36_24_2 : sliceB Tryz.prog 36 24 2 = true := by kernel_rfl
theorem zeroIs_24 : zeroIs Tryz.prog 24 (.agg #[.slice none 0 0, .bool false]) := by unfold zeroIs; kernel_rfl
theorem qFree (ln : Ln) (w : Int) (hk : LnOK ln) (h1 : 0 ≤ w) (h2 : w ≤ 1000) : GCall Tryz.prog E 120 [.agg (encLn ln), .v (.int .i64 w)] [] (fun d H => d = .v (.int .i64 (freeL w ln)) ∧ H = []) := by
 have hsz := hk.size
 obtain ⟨hw, hl⟩ := hk.words
 have hwl : (runes (textL ln)).length = wlen (textL ln) := rfl
 refine GCall.body (C := ⟨Tryz.prog, E, true⟩) Tryz.func120 rfl (fun _ => rfl) (by kernel_rfl) rfl ?_
 refine SCode.seqR (SOps.boxAM rfl rfl (SOps.assign rfl (SOps.nil (SCode.seqR (SOps.move rfl (SOps.loadPinA rfl aggB_24_2 (Nat.le_of_ble_eq_true rfl) (SOps.callP (qText _ (by assumption) (by assumption)) rfl ?_)))))))
 rintro _ rfl
 refine SOps.runesF rfl rfl strB_9 sliceB_94_21_1 intB_21_i32 (SOps.lenM rfl sliceB_94_21_1 (SOps.subI rfl rfl (by omega) (by omega) (SOps.assign rfl (SOps.nil (SCode.ret ?_)))))
 exact ⟨_, Res.one (.tmp rfl), rfl, rfl⟩
theorem qSum (l : List Ln) (w p : Int) (hk : ∀ x ∈ l, LnOK x) (hl : l.length ≤ 1000000) (h1 : 0 ≤ w) (h2 : w ≤ 1000) (h3 : 0 ≤ p) (h4 : p ≤ 1000000) : GCall Tryz.prog E 87 [DLns l, .v (.int .i64 w), .v (.int .i64 p)] [] (fun d H => d = .v (.int .i64 (sumL l w p)) ∧ H = []) := by
 refine GCall.body (C := ⟨Tryz.prog, E, true⟩) Tryz.func87 rfl (fun _ => rfl) (by kernel_rfl) rfl ?_
 refine SCode.seqR (SOps.assign rfl (SOps.nil (SCode.seqR (SOps.assign rfl (SOps.nil (SCode.seq (SCode.seqR (SOps.move rfl (SOps.lenM rfl sliceB_36_24_2 (SOps.move rfl (SOps.nil (SCode.block (SCode.loop1 (fun (k : Nat) => (⟨38, [(0, DLns l), (1, .v (.int .i64 w)), (2, .v (.int .i64 p)), (7, .v (.int .i64 (sumK l w p k))), (10, DLns l), (11, .v (.int .i64 (l.length : Int))), (12, .v (.int .i64 (k : Int)))], []⟩ : St)) (fun (k : Nat) => k ≤ l.length) (fun (k : Nat) => l.length - k) (0) (by exact Nat.zero_le _) (St.Le.of ⟨rfl, rfl, rfl, rfl, rfl, rfl, rfl, trivial⟩ rfl rfl) ?_)))))))))))))
 rintro k hkn
 refine SCode.seqR (SOps.bin rfl rfl rfl (SOps.nil (SCode.seq ?_)))
 refine SCode.cond rfl (fun hc1 => ?_) (fun hc1 => ?_)
 ·try simp only [nmL] at hc1
  refine SCode.skip ?_
  show SCode _ _ _ _
  refine SCode.seq (SCode.block (SCode.seqR (SOps.move rfl (SOps.indexM (k) rfl rfl sliceB_36_24_2 (by omega) (by omega) (SOps.loadPinA rfl aggB_24_2 (Nat.le_of_ble_eq_true rfl) ?_)))))
  refine SOps.alloc (sz := 2) zeroIs_24 (fun b0 hb_0 => ?_)
  refine SOps.assign rfl (SOps.storeAM 0 rfl rfl aggB_24_2 rfl (SOps.freezeRef (t := 9) 0 0 rfl rfl rfl rfl rfl (SOps.nil (SCode.seq (SCode.seqR ?_)))))
  have hkl : k < l.length := by omega
  have hkk := hk _ (List.getElem_mem hkl)
  have hfb := freeL_bound hkk h1 h2
  have hsq := sq_bound hfb.1 hfb.2
  have hsb := sumK_bound hk h1 h2 h3 h4 k (by omega)
  have hat := lnAt_lt hkl
  have hsk : sumK l w p (k + 1) = sumK l w p k + costAt l w p k := rfl
  unfold costAt at hsk
  rw [hat] at hsk
  refine SOps.move rfl (SOps.move rfl (SOps.lenM rfl sliceB_36_24_2 (SOps.subI rfl rfl (by omega) (by omega) (SOps.bin rfl rfl rfl (SOps.nil ?_)))))
  refine SCode.cond rfl (fun hc2 => ?_) (fun hc2 => ?_)
  ·try simp only [nmL] at hc2
   have hlt : k + 1 < l.length := by omega
   rw [if_pos hlt] at hsk
   apply SCode.drawAuto mixed_ [22, 23, 24, 25, 26, 27, 28, 29, 30, 7] [[.inr 7], [.inr 9], [.inr 1], [.inl 1, .inl 2], [.inr 9], [.inr 1], [.inl 4, .inl 5], [.inl 3, .inl 6], [.inl 0, .inl 7], [.inl 8]]
   ·kernel_rfl
   ·kernel_rfl
   ·apply DOk.cons 22 
    ·rfl
    ·exact (NeedIs.inr _ rfl NeedIs.nil)
    ·intro rest
     refine SOps.move rfl ?_
     exact SOps.nil rfl
    apply DOk.cons 23 
    ·rfl
    ·exact (NeedIs.inr _ rfl NeedIs.nil)
    ·intro rest
     refine SOps.loadPinA rfl aggB_24_2 (Nat.le_of_ble_eq_true rfl) ?_
     exact SOps.nil rfl
    apply DOk.cons 24 
    ·rfl
    ·exact (NeedIs.inr _ rfl NeedIs.nil)
    ·intro rest
     refine SOps.move rfl ?_
     exact SOps.nil rfl
    apply DOk.cons 25 
    ·rfl
    ·exact (NeedIs.inl 1 _ _ rfl rfl (NeedIs.inl 0 _ _ rfl rfl NeedIs.nil))
    ·intro rest
     refine SOps.callP (qFree _ _ hkk h1 h2) rfl ?_
     rintro _ rfl
     exact SOps.nil rfl
    apply DOk.cons 26 
    ·rfl
    ·exact (NeedIs.inr _ rfl NeedIs.nil)
    ·intro rest
     refine SOps.loadPinA rfl aggB_24_2 (Nat.le_of_ble_eq_true rfl) ?_
     exact SOps.nil rfl
    apply DOk.cons 27 
    ·rfl
    ·exact (NeedIs.inr _ rfl NeedIs.nil)
    ·intro rest
     refine SOps.move rfl ?_
     exact SOps.nil rfl
    apply DOk.cons 28 
    ·rfl
    ·exact (NeedIs.inl 1 _ _ rfl rfl (NeedIs.inl 0 _ _ rfl rfl NeedIs.nil))
    ·intro rest
     refine SOps.callP (qFree _ _ hkk h1 h2) rfl ?_
     rintro _ rfl
     exact SOps.nil rfl
    apply DOk.cons 29 (.v (.int .i64 ((freeL w (l[k])) * (freeL w (l[k])))))
    ·rfl
    ·exact (NeedIs.inl 3 _ _ rfl rfl (NeedIs.inl 0 _ _ rfl rfl NeedIs.nil))
    ·intro rest
     refine SOps.bin rfl rfl rfl ?_
     exact SOps.nil (congrArg (fun z => St.put _ 29 (.v (.int .i64 z))) (wrap_id (has_i64 (by omega) (by omega))))
    apply DOk.cons 30 
    ·rfl
    ·exact (NeedIs.inl 7 _ _ rfl rfl (NeedIs.inl 0 _ _ rfl rfl NeedIs.nil))
    ·intro rest
     refine SOps.addI rfl rfl (by omega) (by omega) ?_
     exact SOps.nil rfl
    apply DOk.cons 7 
    ·rfl
    ·exact (NeedIs.inl 0 _ _ rfl rfl NeedIs.nil)
    ·intro rest
     refine SOps.assign rfl ?_
     exact SOps.nil rfl
    exact DOk.nil
   ·rfl
   ·show SCode _ _ _ _
    refine SCode.seqR (SOps.fieldPin rfl fieldB_24_1_1 (SOps.loadPin rfl flatB_4 (SOps.nil ?_)))
    refine SCode.cond rfl (fun hc3 => ?_) (fun hc3 => ?_)
    ·try simp only [nmL] at hc3
     have hst : sumK l w p (k + 1) = sumK l w p k + (freeL w (l[k])) * (freeL w (l[k])) + p := by rw [hsk, if_pos hc3, ← Int.add_assoc]
     refine SCode.region (SOps.move rfl (SOps.move rfl (SOps.addI rfl rfl (by omega) (by omega) (SOps.assign rfl (SOps.nil ?_)))))
     show SCode _ _ _ _
     refine SCode.region (SOps.addI rfl rfl (by omega) (by omega) (SOps.move rfl (SOps.nil ?_)))
     exact ⟨k + 1, by omega, by omega, St.Le.of ⟨rfl, rfl, rfl, congrArg (fun z => some (DV.v (.int .i64 z))) hst.symm, rfl, rfl, rfl, trivial⟩⟩
    ·try simp only [nmL] at hc3
     have hst : sumK l w p (k + 1) = sumK l w p k + (freeL w (l[k])) * (freeL w (l[k])) := by rw [hsk, if_neg (by rw [hc3]; simp), Int.add_zero]
     refine SCode.skip ?_
     show SCode _ _ _ _
     refine SCode.region (SOps.addI rfl rfl (by omega) (by omega) (SOps.move rfl (SOps.nil ?_)))
     exact ⟨k + 1, by omega, by omega, St.Le.of ⟨rfl, rfl, rfl, congrArg (fun z => some (DV.v (.int .i64 z))) hst.symm, rfl, rfl, rfl, trivial⟩⟩
  ·try simp only [nmL] at hc2
   have hlt : ¬ k + 1 < l.length := by omega
   rw [if_neg hlt] at hsk
   refine SCode.skip ?_
   show SCode _ _ _ _
   refine SCode.seqR (SOps.fieldPin rfl fieldB_24_1_1 (SOps.loadPin rfl flatB_4 (SOps.nil ?_)))
   refine SCode.cond rfl (fun hc4 => ?_) (fun hc4 => ?_)
   ·try simp only [nmL] at hc4
    have hst : sumK l w p (k + 1) = sumK l w p k + p := by rw [hsk, if_pos hc4, Int.zero_add]
    refine SCode.region (SOps.move rfl (SOps.move rfl (SOps.addI rfl rfl (by omega) (by omega) (SOps.assign rfl (SOps.nil ?_)))))
    show SCode _ _ _ _
    refine SCode.region (SOps.addI rfl rfl (by omega) (by omega) (SOps.move rfl (SOps.nil ?_)))
    exact ⟨k + 1, by omega, by omega, St.Le.of ⟨rfl, rfl, rfl, congrArg (fun z => some (DV.v (.int .i64 z))) hst.symm, rfl, rfl, rfl, trivial⟩⟩
   ·try simp only [nmL] at hc4
    have hst : sumK l w p (k + 1) = sumK l w p k := by rw [hsk, if_neg (by rw [hc4]; simp), Int.zero_add, Int.add_zero]
    refine SCode.skip ?_
    show SCode _ _ _ _
    refine SCode.region (SOps.addI rfl rfl (by omega) (by omega) (SOps.move rfl (SOps.nil ?_)))
    exact ⟨k + 1, by omega, by omega, St.Le.of ⟨rfl, rfl, rfl, congrArg (fun z => some (DV.v (.int .i64 z))) hst.symm, rfl, rfl, rfl, trivial⟩⟩
 ·try simp only [nmL] at hc1
  refine SCode.exit ?_
  show SCode _ _ _ _
  refine SCode.seqR (SOps.move rfl (SOps.assign rfl (SOps.nil (SCode.ret ?_))))
  exact ⟨_, Res.one (.tmp rfl), by rw [sumL, show l.length = k by omega], rfl⟩
end Go.GH
namespace Go.GH
open Go Go.Lib
theorem penB_iff {p : Int} : penB p = true ↔ 0 ≤ p ∧ p ≤ 1000000 := by simp [penB]
theorem wideB_iff {p : Int} : wideB p = true ↔ 1 ≤ p ∧ p ≤ 200 := by simp [wideB]
end Go.GH
namespace Go.GH
open Go Go.Proofs
variable {E : Env}

end Go.GH
namespace Go.GH
open Go Go.Proofs
variable {E : Env}

end Go.GH
namespace Go.GH
open Go Go.Lib
def encK (k : Nat × Int) : List DV := [.v (.int .i64 (k.1 : Int)), .v (.int .i64 k.2)]
abbrev DKs (l : List (Nat × Int)) : DV := .isl false 2 (l.map encK)
def ptsF (l : List Bx) : List (Nat × Int) := (l.zipIdx.map (fun p => (p.2, 0) :: p.1.pts.map (fun q => (p.2, q)))).flatten
def pointsL (l : List Bx) : List (Nat × Int) := ptsF l ++ [(l.length, 0)]
theorem ptsF_take {l : List Bx} {k : Nat} (h : k < l.length) : ptsF (l.take (k + 1)) = ptsF (l.take k) ++ (k, 0) :: (l[k]).pts.map (fun q => (k, q)) := by
  unfold ptsF
  rw [List.take_add_one, List.getElem?_eq_getElem h, List.zipIdx_append, List.map_append, List.flatten_append]
  have : (l.take k).length = k := by simp; omega
  simp [this]
theorem ptsF_len (l : List Bx) : ∀ k, k ≤ l.length → (∀ b ∈ l, b.pts.length ≤ 1000) → (ptsF (l.take k)).length ≤ 1001 * k
  | 0, _, _ => by rw [List.take_zero]; exact Nat.zero_le _
  | k + 1, hk, h => by
    have ih := ptsF_len l k (by omega) h
    have hb := h _ (List.getElem_mem (show k < l.length by omega))
    rw [ptsF_take (by omega)]
    simp only [List.length_append, List.length_cons, List.length_map]
    omega
end Go.GH
namespace Go.GH
open Go Go.Proofs
variable {E : Env}
theorem elemB_113_2_16 : elemB Tryz.prog 113 2 16 = true := by kernel_rfl
theorem placesB_113 : placesB Tryz.prog 113 [(0, 1), (1, 1)] = true := by kernel_rfl
theorem sliceB_41_113_2 : sliceB Tryz.prog 41 113 2 = true := by kernel_rfl
theorem zeroIs_113 : zeroIs Tryz.prog 113 (.agg #[.int .i64 0, .int .i64 0]) := by unfold zeroIs; kernel_rfl
theorem qPoints (l : List Bx) (hp : ∀ b ∈ l, b.pts.length ≤ 1000) (hl : l.length ≤ 1000) : GCall Tryz.prog E 20 [DBxs l] [] (fun d H => d = DKs (pointsL l) ∧ H = []) := by
 refine GCall.body (C := ⟨Tryz.prog, E, true⟩) Tryz.func20 rfl (fun _ => rfl) (by kernel_rfl) rfl ?_
 refine SCode.seqR (SOps.assign rfl (SOps.nil (SCode.seqR (SOps.assign rfl (SOps.nil (SCode.seq (SCode.seqR (SOps.move rfl (SOps.lenM rfl sliceB_33_111_2 (SOps.move rfl (SOps.nil (SCode.block (SCode.loop2 (fun (k : Nat) (b : Nat) => (⟨41, [(0, DBxs l), (3, accD 2 b ((ptsF (l.take k)).map encK)), (8, DBxs l), (9, .v (.int .i64 (l.length : Int))), (10, .v (.int .i64 (k : Int)))], accH 113 2 b ((ptsF (l.take k)).map encK) ++ []⟩ : St)) (fun (k : Nat) (b : Nat) => k ≤ l.length) (fun (k : Nat) (b : Nat) => l.length - k) (0) (0) (by exact Nat.zero_le _) (St.Le.of ⟨rfl, rfl, rfl, rfl, rfl, trivial⟩ rfl rfl) ?_)))))))))))))
 rintro k b hkn
 refine SCode.seqR (SOps.bin rfl rfl rfl (SOps.nil (SCode.seq ?_)))
 refine SCode.cond rfl (fun hc1 => ?_) (fun hc1 => ?_)
 ·try simp only [nmL] at hc1
  refine SCode.skip ?_
  show SCode _ _ _ _
  refine SCode.seq (SCode.block (SCode.seqR (SOps.move rfl (SOps.indexM (k) rfl rfl sliceB_33_111_2 (by omega) (by omega) (SOps.loadPinA rfl aggB_111_2 (Nat.le_of_ble_eq_true rfl) ?_)))))
  refine SOps.alloc (sz := 2) zeroIs_111 (fun b0 hb_0 => ?_)
  refine SOps.assign rfl (SOps.storeAM 0 rfl rfl aggB_111_2 rfl (SOps.freezeRef (t := 5) 0 0 rfl rfl rfl rfl rfl (SOps.nil (SCode.seqR ?_))))
  have hkl : k < l.length := by omega
  have hln := ptsF_len l k (by omega) hp
  have hpk := hp _ (List.getElem_mem hkl)
  refine SOps.move rfl (SOps.move rfl (SOps.buildM placesB_113 zeroIs_113 rfl rfl (SOps.litF rfl sliceB_41_113_2 zeroIs_113 rfl ?_)))
  refine SOps.appendAcc [] [] sliceB_41_113_2 elemB_113_2_16 rfl rfl rfl SrcD.isl (by simp) (by first | (simp [lenB] <;> (first | omega | (simp only [lenB] <;> omega))) | (simp only [lenB]; (first | omega | (simp only [lenB] <;> omega)))) (by first | (simp <;> (first | omega | (simp only [lenB] <;> omega))) | (first | omega | (simp only [lenB] <;> omega))) (fun b1 => ?_)
  refine SOps.assign rfl (SOps.nil (SCode.seqR (SOps.fieldPin rfl fieldB_111_1_1 (SOps.loadPin rfl flatB_98 (SOps.lenM rfl sliceB_98_3_1 (SOps.move rfl (SOps.nil (SCode.block (SCode.loop2 (fun (i : Nat) (c : Nat) => (⟨41, [(0, DBxs l), (3, accD 2 c ((ptsF (l.take k) ++ (k, 0) :: ((l[k]).pts.take i).map (fun q => (k, q))).map encK)), (4, .v (.int .i64 (k : Int))), (8, DBxs l), (9, .v (.int .i64 (l.length : Int))), (10, .v (.int .i64 (k : Int))), (21, DInts (l[k]).pts), (22, .v (.int .i64 ((l[k]).pts.length : Int))), (23, .v (.int .i64 (i : Int)))], accH 113 2 c ((ptsF (l.take k) ++ (k, 0) :: ((l[k]).pts.take i).map (fun q => (k, q))).map encK) ++ []⟩ : St)) (fun (i : Nat) (c : Nat) => i ≤ (l[k]).pts.length) (fun (i : Nat) (c : Nat) => (l[k]).pts.length - i) (0) (b1) (by exact Nat.zero_le _) (St.Le.of ⟨(by first | rfl | (show some _ = some _; rw [List.map_append] <;> rfl)), (by first | rfl | (show some _ = some _; rw [List.map_append] <;> rfl)), (by first | rfl | (show some _ = some _; rw [List.map_append] <;> rfl)), (by first | rfl | (show some _ = some _; rw [List.map_append] <;> rfl)), (by first | rfl | (show some _ = some _; rw [List.map_append] <;> rfl)), (by first | rfl | (show some _ = some _; rw [List.map_append] <;> rfl)), (by first | rfl | (show some _ = some _; rw [List.map_append] <;> rfl)), (by first | rfl | (show some _ = some _; rw [List.map_append] <;> rfl)), (by first | rfl | (show some _ = some _; rw [List.map_append] <;> rfl)), trivial⟩ rfl (by first | rfl | (rw [List.map_append] <;> rfl))) ?_)))))))))
  rintro i c hi
  refine SCode.seqR (SOps.bin rfl rfl rfl (SOps.nil (SCode.seq ?_)))
  refine SCode.cond rfl (fun hc2 => ?_) (fun hc2 => ?_)
  ·try simp only [nmL] at hc2
   refine SCode.skip ?_
   show SCode _ _ _ _
   refine SCode.seq (SCode.block (SCode.seqR (SOps.indexM (i) rfl rfl sliceB_98_3_1 (by omega) (by omega) (SOps.loadPin rfl flatB_3 (SOps.assign rfl (SOps.nil (SCode.region ?_)))))))
   have hil : i < (l[k]).pts.length := by omega
   have hti : ((l[k]).pts.take i).length = i := by simp; omega
   refine SOps.move rfl (SOps.move rfl (SOps.move rfl (SOps.buildM placesB_113 zeroIs_113 rfl rfl (SOps.litF rfl sliceB_41_113_2 zeroIs_113 rfl ?_))))
   refine SOps.appendAcc [] [] sliceB_41_113_2 elemB_113_2_16 rfl rfl rfl SrcD.isl (by simp) (by first | (simp [lenB] <;> (first | omega | (simp only [lenB] <;> omega))) | (simp only [lenB]; (first | omega | (simp only [lenB] <;> omega)))) (by first | (simp <;> (first | omega | (simp only [lenB] <;> omega))) | (first | omega | (simp only [lenB] <;> omega))) (fun b2 => ?_)
   refine SOps.assign rfl (SOps.nil ?_)
   show SCode _ _ _ _
   refine SCode.region (SOps.addI rfl rfl (by omega) (by omega) (SOps.move rfl (SOps.nil ?_)))
   have hpe : ((ptsF (l.take k) ++ (k, 0) :: ((l[k]).pts.take (i + 1)).map (fun q => (k, q))).map encK) = ((ptsF (l.take k) ++ (k, 0) :: ((l[k]).pts.take i).map (fun q => (k, q))).map encK) ++ [encK (k, (l[k]).pts[i])] := by rw [show (((l[k]).pts.take (i + 1)).map (fun q => (k, q))) = ((l[k]).pts.take i).map (fun q => (k, q)) ++ [(k, (l[k]).pts[i])] from by rw [List.take_add_one, List.getElem?_eq_getElem hil, List.map_append]; rfl, ← List.cons_append, ← List.append_assoc, List.map_append]; rfl
   exact ⟨i + 1, b2, by omega, by omega, St.Le.of ⟨rfl, (by show some _ = some _; rw [hpe] <;> rfl), rfl, rfl, rfl, rfl, rfl, rfl, rfl, trivial⟩ rfl (by rw [hpe] <;> rfl)⟩
  ·try simp only [nmL] at hc2
   refine SCode.exit ?_
   show SCode _ _ _ _
   refine SCode.region (SOps.addI rfl rfl (by omega) (by omega) (SOps.move rfl (SOps.nil ?_)))
   have hpe : ((ptsF (l.take (k + 1))).map encK) = ((ptsF (l.take k) ++ (k, 0) :: ((l[k]).pts.take i).map (fun q => (k, q))).map encK) := by rw [ptsF_take hkl, List.take_of_length_le (show (l[k]).pts.length ≤ i by omega)]
   exact ⟨k + 1, c, by omega, by omega, St.Le.of ⟨rfl, (by show some _ = some _; rw [hpe]), rfl, rfl, rfl, trivial⟩ rfl (by rw [hpe] <;> rfl)⟩
 ·try simp only [nmL] at hc1
  refine SCode.exit ?_
  show SCode _ _ _ _
  refine SCode.seqR ?_
  have htk : l.take k = l := List.take_of_length_le (by omega)
  have hln := ptsF_len l k (by omega) hp
  have hpl : (pointsL l).map encK = ((ptsF (l.take k)).map encK) ++ [encK (l.length, 0)] := by rw [htk, pointsL, List.map_append]; rfl
  refine SOps.move rfl (SOps.move rfl (SOps.lenM rfl sliceB_33_111_2 (SOps.buildM placesB_113 zeroIs_113 rfl rfl (SOps.litF rfl sliceB_41_113_2 zeroIs_113 rfl ?_))))
  refine SOps.appendAcc [] [] sliceB_41_113_2 elemB_113_2_16 rfl rfl rfl SrcD.isl (by simp) (by first | (simp [lenB] <;> (first | omega | (simp only [lenB] <;> omega))) | (simp only [lenB]; (first | omega | (simp only [lenB] <;> omega)))) (by first | (simp <;> (first | omega | (simp only [lenB] <;> omega))) | (first | omega | (simp only [lenB] <;> omega))) (fun b3 => ?_)
  refine SOps.freezeAcc (t := 40) [] [] rfl rfl rfl (SOps.reSlot (t := 40) rfl (show _ = DKs (pointsL l) from congrArg (DV.isl false 2) hpl.symm) (SOps.assign rfl (SOps.nil (SCode.ret ?_))))
  exact ⟨_, Res.one (.tmp rfl), rfl, rfl⟩
end Go.GH
namespace Go.GH
open Go Go.Lib
def stB (l : List Bx) (k : Nat) : Nat := ((l.take k).map (fun b => wlen b.word + 1)).sum
def up3 (l : List Bx) (k : Nat × Int) : Nat × Int × Int := (k.1, k.2, (stB l k.1 : Int) + k.2)
def pts3 (l : List Bx) : List (Nat × Int × Int) := (pointsL l).map (up3 l)
def encP3 (x : Nat × Int × Int) : List DV := [.v (.int .i64 (x.1 : Int)), .v (.int .i64 x.2.1), .v (.int .i64 x.2.2)]
def encRw (b : Bx) : List DV := [DRunes (runes b.word)]
def encPar (l : List Bx) (w : Int) : List DV := [.isl false 1 (l.map encRw), .isl false 3 ((pts3 l).map encP3), .v (.int .i64 w)]
def ptN (l : List Bx) : Nat := (pts3 l).length
def pt3 (l : List Bx) (i : Nat) : Nat × Int × Int := (pts3 l).getD i (0, 0, 0)
theorem pt3_lt {l : List Bx} {i : Nat} (h : i < (pts3 l).length) : pt3 l i = (pts3 l)[i] := by
  unfold pt3; rw [List.getD_eq_getElem?_getD, List.getElem?_eq_getElem h]; rfl
def lenP (l : List Bx) (i j : Nat) : Int := (pt3 l j).2.2 - (pt3 l i).2.2 + (if 0 < (pt3 l j).2.1 then 1 else -1)
/-- No break point lies far. -/
def Near (l : List Bx) : Prop := ptN l ≤ 1000000 ∧ 0 < ptN l ∧ ∀ x ∈ pts3 l, -1000000000 ≤ x.2.2 ∧ x.2.2 ≤ 1000000000
theorem Near.at {l : List Bx} (h : Near l) {i : Nat} (hi : i < ptN l) : -1000000000 ≤ (pt3 l i).2.2 ∧ (pt3 l i).2.2 ≤ 1000000000 := by
  rw [pt3_lt hi]; exact h.2.2 _ (List.getElem_mem hi)
end Go.GH
namespace Go.GH
open Go Go.Proofs
variable {E : Env}
theorem fieldB_102_1_1 : fieldB Tryz.prog 102 1 1 = true := by kernel_rfl
theorem fieldB_107_1_1 : fieldB Tryz.prog 107 1 1 = true := by kernel_rfl
theorem fieldB_107_2_2 : fieldB Tryz.prog 107 2 2 = true := by kernel_rfl
theorem flatB_100 : flatB Tryz.prog 100 = true := by kernel_rfl
theorem sliceB_100_107_3 : sliceB Tryz.prog 100 107 3 = true := by kernel_rfl
theorem sLast (l : List Bx) (w : Int) (hn : Near l) : GCall Tryz.prog E 50 [.ipin (encPar l w)] [] (fun d H => d = .v (.int .i64 ((ptN l - 1 : Nat) : Int)) ∧ H = []) := by
 obtain ⟨hn1, hn2, hn3⟩ := hn
 unfold ptN at *
 refine GCall.body (C := ⟨Tryz.prog, E, true⟩) Tryz.func50 rfl (fun _ => rfl) (by kernel_rfl) rfl ?_
 refine SCode.seqR (SOps.assign rfl (SOps.nil (SCode.seqR (SOps.move rfl (SOps.nilCheck rfl rfl (SOps.fieldPin rfl fieldB_102_1_1 (SOps.loadPin rfl flatB_100 (SOps.lenM rfl sliceB_100_107_3 (SOps.subI rfl rfl (by omega) (by omega) (SOps.assign rfl (SOps.nil (SCode.ret ?_))))))))))))
 exact ⟨_, Res.one (.tmp rfl), congrArg (fun z => DV.v (.int .i64 z)) (by omega), rfl⟩
theorem sLength (l : List Bx) (w : Int) (i j : Nat) (hn : Near l) (hi : i < ptN l) (hj : j < ptN l) : GCall Tryz.prog E 53 [.ipin (encPar l w), .v (.int .i64 ((i : Nat) : Int)), .v (.int .i64 ((j : Nat) : Int))] [] (fun d H => d = .v (.int .i64 (lenP l i j)) ∧ H = []) := by
  have hbi := hn.at hi
  have hbj := hn.at hj
  have hni := pt3_lt hi
  have hnj := pt3_lt hj
  have hi2 : i < (pts3 l).length := hi
  have hj2 : j < (pts3 l).length := hj
  rw [hni] at hbi
  rw [hnj] at hbj
  refine GCall.body (C := ⟨Tryz.prog, E, true⟩) Tryz.func53 rfl (fun _ => rfl) (by kernel_rfl) rfl ?_
  refine SCode.seqR (SOps.assign rfl (SOps.nil (SCode.seq ?_)))
  apply SCode.drawAuto mixed_ [8, 9, 10, 11, 12, 13, 14, 15, 16, 17, 18, 19, 20, 21, 22, 23, 24, 7] [[.inr 0], [.inl 0], [.inl 1], [.inl 2], [.inr 2], [.inl 3, .inl 4], [.inl 5], [.inl 6], [.inr 0], [.inl 8], [.inl 9], [.inl 10], [.inr 1], [.inl 11, .inl 12], [.inl 13], [.inl 14], [.inl 7, .inl 15], [.inl 16]]
  · kernel_rfl
  · kernel_rfl
  · apply DOk.cons 8 
    · rfl
    · exact (NeedIs.inr _ rfl NeedIs.nil)
    · intro rest
      refine SOps.move rfl ?_
      exact SOps.nil rfl
    apply DOk.cons 9 
    · rfl
    · exact (NeedIs.inl 0 _ _ rfl rfl NeedIs.nil)
    · intro rest
      refine SOps.nilCheck rfl rfl ?_
      exact SOps.nil rfl
    apply DOk.cons 10 
    · rfl
    · exact (NeedIs.inl 0 _ _ rfl rfl NeedIs.nil)
    · intro rest
      refine SOps.fieldPin rfl fieldB_102_1_1 ?_
      exact SOps.nil rfl
    apply DOk.cons 11 
    · rfl
    · exact (NeedIs.inl 0 _ _ rfl rfl NeedIs.nil)
    · intro rest
      refine SOps.loadPin rfl flatB_100 ?_
      exact SOps.nil rfl
    apply DOk.cons 12 
    · rfl
    · exact (NeedIs.inr _ rfl NeedIs.nil)
    · intro rest
      refine SOps.move rfl ?_
      exact SOps.nil rfl
    apply DOk.cons 13 
    · rfl
    · exact (NeedIs.inl 1 _ _ rfl rfl (NeedIs.inl 0 _ _ rfl rfl NeedIs.nil))
    · intro rest
      refine SOps.indexM (j) rfl rfl sliceB_100_107_3 (by omega) (by omega) ?_
      exact SOps.nil rfl
    apply DOk.cons 14 
    · rfl
    · exact (NeedIs.inl 0 _ _ rfl rfl NeedIs.nil)
    · intro rest
      refine SOps.fieldPin rfl fieldB_107_2_2 ?_
      exact SOps.nil rfl
    apply DOk.cons 15 
    · rfl
    · exact (NeedIs.inl 0 _ _ rfl rfl NeedIs.nil)
    · intro rest
      refine SOps.loadPin rfl flatB_3 ?_
      exact SOps.nil rfl
    apply DOk.cons 16 
    · rfl
    · exact (NeedIs.inr _ rfl NeedIs.nil)
    · intro rest
      refine SOps.move rfl ?_
      exact SOps.nil rfl
    apply DOk.cons 17 
    · rfl
    · exact (NeedIs.inl 0 _ _ rfl rfl NeedIs.nil)
    · intro rest
      refine SOps.nilCheck rfl rfl ?_
      exact SOps.nil rfl
    apply DOk.cons 18 
    · rfl
    · exact (NeedIs.inl 0 _ _ rfl rfl NeedIs.nil)
    · intro rest
      refine SOps.fieldPin rfl fieldB_102_1_1 ?_
      exact SOps.nil rfl
    apply DOk.cons 19 
    · rfl
    · exact (NeedIs.inl 0 _ _ rfl rfl NeedIs.nil)
    · intro rest
      refine SOps.loadPin rfl flatB_100 ?_
      exact SOps.nil rfl
    apply DOk.cons 20 
    · rfl
    · exact (NeedIs.inr _ rfl NeedIs.nil)
    · intro rest
      refine SOps.move rfl ?_
      exact SOps.nil rfl
    apply DOk.cons 21 
    · rfl
    · exact (NeedIs.inl 1 _ _ rfl rfl (NeedIs.inl 0 _ _ rfl rfl NeedIs.nil))
    · intro rest
      refine SOps.indexM (i) rfl rfl sliceB_100_107_3 (by omega) (by omega) ?_
      exact SOps.nil rfl
    apply DOk.cons 22 
    · rfl
    · exact (NeedIs.inl 0 _ _ rfl rfl NeedIs.nil)
    · intro rest
      refine SOps.fieldPin rfl fieldB_107_2_2 ?_
      exact SOps.nil rfl
    apply DOk.cons 23 
    · rfl
    · exact (NeedIs.inl 0 _ _ rfl rfl NeedIs.nil)
    · intro rest
      refine SOps.loadPin rfl flatB_3 ?_
      exact SOps.nil rfl
    apply DOk.cons 24 
    · rfl
    · exact (NeedIs.inl 8 _ _ rfl rfl (NeedIs.inl 0 _ _ rfl rfl NeedIs.nil))
    · intro rest
      refine SOps.subI rfl rfl (by omega) (by omega) ?_
      exact SOps.nil rfl
    apply DOk.cons 7 
    · rfl
    · exact (NeedIs.inl 0 _ _ rfl rfl NeedIs.nil)
    · intro rest
      refine SOps.assign rfl ?_
      exact SOps.nil rfl
    exact DOk.nil
  · rfl
  · show SCode _ _ _ _
    refine SCode.seq (SCode.seqR (SOps.move rfl (SOps.nilCheck rfl rfl (SOps.fieldPin rfl fieldB_102_1_1 (SOps.loadPin rfl flatB_100 (SOps.move rfl (SOps.indexM (j) rfl rfl sliceB_100_107_3 (by omega) (by omega) (SOps.fieldPin rfl fieldB_107_1_1 (SOps.loadPin rfl flatB_3 (SOps.bin rfl rfl rfl (SOps.nil ?_)))))))))))
    refine SCode.cond rfl (fun hc1 => ?_) (fun hc1 => ?_)
    · try simp only [nmL] at hc1
      refine SCode.seqR (SOps.move rfl (SOps.addI rfl rfl (by omega) (by omega) (SOps.assign rfl (SOps.nil (SCode.ret ?_)))))
      exact ⟨_, Res.one (.tmp rfl), by rw [lenP, hni, hnj, if_pos (by assumption)] <;> rfl, rfl⟩
    · try simp only [nmL] at hc1
      refine SCode.skip ?_
      show SCode _ _ _ _
      refine SCode.seqR (SOps.move rfl (SOps.subI rfl rfl (by omega) (by omega) (SOps.assign rfl (SOps.nil (SCode.ret ?_)))))
      exact ⟨_, Res.one (.tmp rfl), congrArg (fun z => DV.v (.int .i64 z)) (by rw [lenP, hni, hnj, if_neg (by omega)]; omega), rfl⟩
end Go.GH
namespace Go.GH
open Go Go.Proofs
variable {E : Env}
theorem fieldB_102_2_2 : fieldB Tryz.prog 102 2 2 = true := by kernel_rfl
theorem sEnds (l : List Bx) (w : Int) (i m : Nat) {f : FuncId} {cap : List DV} (S : Nat → DHeap) (hn : Near l) (him : i < m) (hm : m ≤ ptN l) (hfit : ∀ n, i < n → n < m → lenP l i n ≤ w) (hstop : m = ptN l ∨ (m < ptN l ∧ ¬ lenP l i m ≤ w)) (hf : ∀ n, i < n → n < m → GCall Tryz.prog E f ([.v (.int .i64 ((n : Nat) : Int))] ++ cap) (S n) (fun d H => H = S (n + 1))) : GCall Tryz.prog E 51 [.ipin (encPar l w), .v (.int .i64 ((i : Nat) : Int)), .fn f cap] (S (i + 1)) (fun d H => H = S m) := by
 have hn1 := hn.1
 have hp3 : (pts3 l).length = ptN l := rfl
 refine GCall.body (C := ⟨Tryz.prog, E, false⟩) Tryz.func51 rfl (fun h => by cases h) (by kernel_rfl) rfl ?_
 refine SCode.seqR (SOps.move rfl (SOps.addI rfl rfl (by omega) (by omega) (SOps.assign rfl (SOps.nil (SCode.block (SCode.loop1 (fun (n : Nat) => (⟨32, [(0, .ipin (encPar l w)), (1, .v (.int .i64 ((i : Nat) : Int))), (2, .fn f cap), (6, .v (.int .i64 ((n : Nat) : Int)))], S n⟩ : St)) (fun (n : Nat) => i < n ∧ n ≤ m) (fun (n : Nat) => m - n) ((i + 1)) (by exact ⟨by omega, by omega⟩) (St.Le.of ⟨rfl, rfl, rfl, rfl, trivial⟩ rfl rfl) ?_))))))
 rintro n ⟨hin, hnm0⟩
 refine SCode.seq (SCode.seq ?_)
 rcases (show (n < m) ∨ (n = m ∧ m = ptN l) ∨ (n = m ∧ m < ptN l ∧ ¬ lenP l i m ≤ w) from by rcases Nat.lt_or_ge n m with h | h; exact .inl h; exact .inr (hstop.imp (fun h2 => ⟨by omega, h2⟩) (fun h2 => ⟨by omega, h2⟩))) with hnm | ⟨hnm, hst⟩ | ⟨hnm, hst, hst2⟩
 ·apply SCode.drawAuto mixed_ [9, 10, 11, 12, 13, 14, 15, 16, 17, 18, 19, 20, 21, 22, 23, 24, 25, 26] [[.inr 6], [.inr 0], [.inl 1], [.inl 2], [.inl 3], [.inl 4], [.inl 0, .inl 5], [.inl 6], [.inl 7, .inr 0], [.inl 7, .inr 1], [.inl 7, .inr 6], [.inl 7, .inl 8, .inl 9, .inl 10], [.inl 7, .inr 0], [.inl 7, .inl 12], [.inl 7, .inl 13], [.inl 7, .inl 14], [.inl 7, .inl 11, .inl 15], [.inl 7, .inl 16]]
  ·kernel_rfl
  ·kernel_rfl
  ·apply DOk.cons 9 
   ·rfl
   ·exact (NeedIs.inr _ rfl NeedIs.nil)
   ·intro rest
    refine SOps.move rfl ?_
    exact SOps.nil rfl
   apply DOk.cons 10 
   ·rfl
   ·exact (NeedIs.inr _ rfl NeedIs.nil)
   ·intro rest
    refine SOps.move rfl ?_
    exact SOps.nil rfl
   apply DOk.cons 11 
   ·rfl
   ·exact (NeedIs.inl 0 _ _ rfl rfl NeedIs.nil)
   ·intro rest
    refine SOps.nilCheck rfl rfl ?_
    exact SOps.nil rfl
   apply DOk.cons 12 
   ·rfl
   ·exact (NeedIs.inl 0 _ _ rfl rfl NeedIs.nil)
   ·intro rest
    refine SOps.fieldPin rfl fieldB_102_1_1 ?_
    exact SOps.nil rfl
   apply DOk.cons 13 
   ·rfl
   ·exact (NeedIs.inl 0 _ _ rfl rfl NeedIs.nil)
   ·intro rest
    refine SOps.loadPin rfl flatB_100 ?_
    exact SOps.nil rfl
   apply DOk.cons 14 
   ·rfl
   ·exact (NeedIs.inl 0 _ _ rfl rfl NeedIs.nil)
   ·intro rest
    refine SOps.lenM rfl sliceB_100_107_3 ?_
    exact SOps.nil rfl
   apply DOk.cons 15 (.v (.bool true))
   ·rfl
   ·exact (NeedIs.inl 5 _ _ rfl rfl (NeedIs.inl 0 _ _ rfl rfl NeedIs.nil))
   ·intro rest
    refine SOps.bin rfl rfl rfl ?_
    exact SOps.nil (congrArg (fun b => St.put _ 15 (.v (.bool b))) (decide_eq_true (by omega)))
   apply DOk.cons 16 
   ·rfl
   ·exact (NeedIs.inl 0 _ _ rfl rfl NeedIs.nil)
   ·intro rest
    refine SOps.move rfl ?_
    exact SOps.nil rfl
   apply DOk.cons 17 
   ·rfl
   ·exact (NeedIs.inl 0 _ _ rfl rfl (NeedIs.inr _ rfl NeedIs.nil))
   ·intro rest
    refine SOps.move rfl ?_
    exact SOps.nil rfl
   apply DOk.cons 18 
   ·rfl
   ·exact (NeedIs.inl 1 _ _ rfl rfl (NeedIs.inr _ rfl NeedIs.nil))
   ·intro rest
    refine SOps.move rfl ?_
    exact SOps.nil rfl
   apply DOk.cons 19 
   ·rfl
   ·exact (NeedIs.inl 2 _ _ rfl rfl (NeedIs.inr _ rfl NeedIs.nil))
   ·intro rest
    refine SOps.move rfl ?_
    exact SOps.nil rfl
   apply DOk.cons 20 
   ·rfl
   ·exact (NeedIs.inl 3 _ _ rfl rfl (NeedIs.inl 2 _ _ rfl rfl (NeedIs.inl 1 _ _ rfl rfl (NeedIs.inl 0 _ _ rfl rfl NeedIs.nil))))
   ·intro rest
    refine SOps.callP (sLength l w i n hn (by omega) (by omega)) rfl ?_
    rintro _ rfl
    exact SOps.nil rfl
   apply DOk.cons 21 
   ·rfl
   ·exact (NeedIs.inl 4 _ _ rfl rfl (NeedIs.inr _ rfl NeedIs.nil))
   ·intro rest
    refine SOps.move rfl ?_
    exact SOps.nil rfl
   apply DOk.cons 22 
   ·rfl
   ·exact (NeedIs.inl 5 _ _ rfl rfl (NeedIs.inl 0 _ _ rfl rfl NeedIs.nil))
   ·intro rest
    refine SOps.nilCheck rfl rfl ?_
    exact SOps.nil rfl
   apply DOk.cons 23 
   ·rfl
   ·exact (NeedIs.inl 6 _ _ rfl rfl (NeedIs.inl 0 _ _ rfl rfl NeedIs.nil))
   ·intro rest
    refine SOps.fieldPin rfl fieldB_102_2_2 ?_
    exact SOps.nil rfl
   apply DOk.cons 24 
   ·rfl
   ·exact (NeedIs.inl 7 _ _ rfl rfl (NeedIs.inl 0 _ _ rfl rfl NeedIs.nil))
   ·intro rest
    refine SOps.loadPin rfl flatB_3 ?_
    exact SOps.nil rfl
   apply DOk.cons 25 (.v (.bool true))
   ·rfl
   ·exact (NeedIs.inl 8 _ _ rfl rfl (NeedIs.inl 4 _ _ rfl rfl (NeedIs.inl 0 _ _ rfl rfl NeedIs.nil)))
   ·intro rest
    refine SOps.bin rfl rfl rfl ?_
    exact SOps.nil (congrArg (fun b => St.put _ 25 (.v (.bool b))) (decide_eq_true (hfit n hin hnm)))
   apply DOk.cons 26 
   ·rfl
   ·exact (NeedIs.inl 9 _ _ rfl rfl (NeedIs.inl 0 _ _ rfl rfl NeedIs.nil))
   ·intro rest
    refine SOps.pick rfl rfl ?_
    exact SOps.nil rfl
   exact DOk.nil
  ·rfl
  ·show SCode _ _ _ _
   refine SCode.cond rfl (fun _ => ?_) (fun h => by cases h)
   refine SCode.skip ?_
   show SCode _ _ _ _
   refine SCode.seq (SCode.block (SCode.region (SOps.move rfl (SOps.move rfl ?_))))
   refine SOps.callV (H := S n) (G := []) rfl rfl (hf n hin hnm) (List.append_nil _).symm (fun d H h => ?_)
   subst h
   rw [List.append_nil]
   refine SOps.nil ?_
   show SCode _ _ _ _
   refine SCode.region (SOps.move rfl (SOps.addI rfl rfl (by omega) (by omega) (SOps.assign rfl (SOps.nil ?_))))
   exact ⟨n + 1, ⟨by omega, by omega⟩, by omega, St.Le.of ⟨rfl, rfl, rfl, rfl, trivial⟩⟩
 ·apply SCode.drawAuto mixed_ [9, 10, 11, 12, 13, 14, 15, 16, 17, 18, 19, 20, 21, 22, 23, 24, 25, 26] [[.inr 6], [.inr 0], [.inl 1], [.inl 2], [.inl 3], [.inl 4], [.inl 0, .inl 5], [.inl 6], [.inl 7], [.inl 7], [.inl 7], [.inl 7], [.inl 7], [.inl 7], [.inl 7], [.inl 7], [.inl 7], [.inl 7, .inl 16]]
  ·kernel_rfl
  ·kernel_rfl
  ·apply DOk.cons 9 
   ·rfl
   ·exact (NeedIs.inr _ rfl NeedIs.nil)
   ·intro rest
    refine SOps.move rfl ?_
    exact SOps.nil rfl
   apply DOk.cons 10 
   ·rfl
   ·exact (NeedIs.inr _ rfl NeedIs.nil)
   ·intro rest
    refine SOps.move rfl ?_
    exact SOps.nil rfl
   apply DOk.cons 11 
   ·rfl
   ·exact (NeedIs.inl 0 _ _ rfl rfl NeedIs.nil)
   ·intro rest
    refine SOps.nilCheck rfl rfl ?_
    exact SOps.nil rfl
   apply DOk.cons 12 
   ·rfl
   ·exact (NeedIs.inl 0 _ _ rfl rfl NeedIs.nil)
   ·intro rest
    refine SOps.fieldPin rfl fieldB_102_1_1 ?_
    exact SOps.nil rfl
   apply DOk.cons 13 
   ·rfl
   ·exact (NeedIs.inl 0 _ _ rfl rfl NeedIs.nil)
   ·intro rest
    refine SOps.loadPin rfl flatB_100 ?_
    exact SOps.nil rfl
   apply DOk.cons 14 
   ·rfl
   ·exact (NeedIs.inl 0 _ _ rfl rfl NeedIs.nil)
   ·intro rest
    refine SOps.lenM rfl sliceB_100_107_3 ?_
    exact SOps.nil rfl
   apply DOk.cons 15 (.v (.bool false))
   ·rfl
   ·exact (NeedIs.inl 5 _ _ rfl rfl (NeedIs.inl 0 _ _ rfl rfl NeedIs.nil))
   ·intro rest
    refine SOps.bin rfl rfl rfl ?_
    exact SOps.nil (congrArg (fun b => St.put _ 15 (.v (.bool b))) (decide_eq_false (by omega)))
   apply DOk.cons 16 
   ·rfl
   ·exact (NeedIs.inl 0 _ _ rfl rfl NeedIs.nil)
   ·intro rest
    refine SOps.move rfl ?_
    exact SOps.nil rfl
   apply DOk.cons 17 
   ·rfl
   ·exact (NeedIs.inl 0 _ _ rfl rfl NeedIs.nil)
   ·intro rest
    refine SOps.skip rfl ?_
    exact SOps.nil rfl
   apply DOk.cons 18 
   ·rfl
   ·exact (NeedIs.inl 1 _ _ rfl rfl NeedIs.nil)
   ·intro rest
    refine SOps.skip rfl ?_
    exact SOps.nil rfl
   apply DOk.cons 19 
   ·rfl
   ·exact (NeedIs.inl 2 _ _ rfl rfl NeedIs.nil)
   ·intro rest
    refine SOps.skip rfl ?_
    exact SOps.nil rfl
   apply DOk.cons 20 
   ·rfl
   ·exact (NeedIs.inl 3 _ _ rfl rfl NeedIs.nil)
   ·intro rest
    refine SOps.skip rfl ?_
    exact SOps.nil rfl
   apply DOk.cons 21 
   ·rfl
   ·exact (NeedIs.inl 4 _ _ rfl rfl NeedIs.nil)
   ·intro rest
    refine SOps.skip rfl ?_
    exact SOps.nil rfl
   apply DOk.cons 22 
   ·rfl
   ·exact (NeedIs.inl 5 _ _ rfl rfl NeedIs.nil)
   ·intro rest
    refine SOps.skip rfl ?_
    exact SOps.nil rfl
   apply DOk.cons 23 
   ·rfl
   ·exact (NeedIs.inl 6 _ _ rfl rfl NeedIs.nil)
   ·intro rest
    refine SOps.skip rfl ?_
    exact SOps.nil rfl
   apply DOk.cons 24 
   ·rfl
   ·exact (NeedIs.inl 7 _ _ rfl rfl NeedIs.nil)
   ·intro rest
    refine SOps.skip rfl ?_
    exact SOps.nil rfl
   apply DOk.cons 25 
   ·rfl
   ·exact (NeedIs.inl 8 _ _ rfl rfl NeedIs.nil)
   ·intro rest
    refine SOps.skip rfl ?_
    exact SOps.nil rfl
   apply DOk.cons 26 
   ·rfl
   ·exact (NeedIs.inl 9 _ _ rfl rfl (NeedIs.inl 0 _ _ rfl rfl NeedIs.nil))
   ·intro rest
    refine SOps.pick rfl rfl ?_
    exact SOps.nil rfl
   exact DOk.nil
  ·rfl
  ·show SCode _ _ _ _
   refine SCode.cond rfl (fun h => by cases h) (fun _ => ?_)
   refine SCode.exit ?_
   exact ⟨_, Res.none, by rw [hnm]⟩
 ·apply SCode.drawAuto mixed_ [9, 10, 11, 12, 13, 14, 15, 16, 17, 18, 19, 20, 21, 22, 23, 24, 25, 26] [[.inr 6], [.inr 0], [.inl 1], [.inl 2], [.inl 3], [.inl 4], [.inl 0, .inl 5], [.inl 6], [.inl 7, .inr 0], [.inl 7, .inr 1], [.inl 7, .inr 6], [.inl 7, .inl 8, .inl 9, .inl 10], [.inl 7, .inr 0], [.inl 7, .inl 12], [.inl 7, .inl 13], [.inl 7, .inl 14], [.inl 7, .inl 11, .inl 15], [.inl 7, .inl 16]]
  ·kernel_rfl
  ·kernel_rfl
  ·apply DOk.cons 9 
   ·rfl
   ·exact (NeedIs.inr _ rfl NeedIs.nil)
   ·intro rest
    refine SOps.move rfl ?_
    exact SOps.nil rfl
   apply DOk.cons 10 
   ·rfl
   ·exact (NeedIs.inr _ rfl NeedIs.nil)
   ·intro rest
    refine SOps.move rfl ?_
    exact SOps.nil rfl
   apply DOk.cons 11 
   ·rfl
   ·exact (NeedIs.inl 0 _ _ rfl rfl NeedIs.nil)
   ·intro rest
    refine SOps.nilCheck rfl rfl ?_
    exact SOps.nil rfl
   apply DOk.cons 12 
   ·rfl
   ·exact (NeedIs.inl 0 _ _ rfl rfl NeedIs.nil)
   ·intro rest
    refine SOps.fieldPin rfl fieldB_102_1_1 ?_
    exact SOps.nil rfl
   apply DOk.cons 13 
   ·rfl
   ·exact (NeedIs.inl 0 _ _ rfl rfl NeedIs.nil)
   ·intro rest
    refine SOps.loadPin rfl flatB_100 ?_
    exact SOps.nil rfl
   apply DOk.cons 14 
   ·rfl
   ·exact (NeedIs.inl 0 _ _ rfl rfl NeedIs.nil)
   ·intro rest
    refine SOps.lenM rfl sliceB_100_107_3 ?_
    exact SOps.nil rfl
   apply DOk.cons 15 (.v (.bool true))
   ·rfl
   ·exact (NeedIs.inl 5 _ _ rfl rfl (NeedIs.inl 0 _ _ rfl rfl NeedIs.nil))
   ·intro rest
    refine SOps.bin rfl rfl rfl ?_
    exact SOps.nil (congrArg (fun b => St.put _ 15 (.v (.bool b))) (decide_eq_true (by omega)))
   apply DOk.cons 16 
   ·rfl
   ·exact (NeedIs.inl 0 _ _ rfl rfl NeedIs.nil)
   ·intro rest
    refine SOps.move rfl ?_
    exact SOps.nil rfl
   apply DOk.cons 17 
   ·rfl
   ·exact (NeedIs.inl 0 _ _ rfl rfl (NeedIs.inr _ rfl NeedIs.nil))
   ·intro rest
    refine SOps.move rfl ?_
    exact SOps.nil rfl
   apply DOk.cons 18 
   ·rfl
   ·exact (NeedIs.inl 1 _ _ rfl rfl (NeedIs.inr _ rfl NeedIs.nil))
   ·intro rest
    refine SOps.move rfl ?_
    exact SOps.nil rfl
   apply DOk.cons 19 
   ·rfl
   ·exact (NeedIs.inl 2 _ _ rfl rfl (NeedIs.inr _ rfl NeedIs.nil))
   ·intro rest
    refine SOps.move rfl ?_
    exact SOps.nil rfl
   apply DOk.cons 20 
   ·rfl
   ·exact (NeedIs.inl 3 _ _ rfl rfl (NeedIs.inl 2 _ _ rfl rfl (NeedIs.inl 1 _ _ rfl rfl (NeedIs.inl 0 _ _ rfl rfl NeedIs.nil))))
   ·intro rest
    refine SOps.callP (sLength l w i n hn (by omega) (by omega)) rfl ?_
    rintro _ rfl
    exact SOps.nil rfl
   apply DOk.cons 21 
   ·rfl
   ·exact (NeedIs.inl 4 _ _ rfl rfl (NeedIs.inr _ rfl NeedIs.nil))
   ·intro rest
    refine SOps.move rfl ?_
    exact SOps.nil rfl
   apply DOk.cons 22 
   ·rfl
   ·exact (NeedIs.inl 5 _ _ rfl rfl (NeedIs.inl 0 _ _ rfl rfl NeedIs.nil))
   ·intro rest
    refine SOps.nilCheck rfl rfl ?_
    exact SOps.nil rfl
   apply DOk.cons 23 
   ·rfl
   ·exact (NeedIs.inl 6 _ _ rfl rfl (NeedIs.inl 0 _ _ rfl rfl NeedIs.nil))
   ·intro rest
    refine SOps.fieldPin rfl fieldB_102_2_2 ?_
    exact SOps.nil rfl
   apply DOk.cons 24 
   ·rfl
   ·exact (NeedIs.inl 7 _ _ rfl rfl (NeedIs.inl 0 _ _ rfl rfl NeedIs.nil))
   ·intro rest
    refine SOps.loadPin rfl flatB_3 ?_
    exact SOps.nil rfl
   apply DOk.cons 25 (.v (.bool false))
   ·rfl
   ·exact (NeedIs.inl 8 _ _ rfl rfl (NeedIs.inl 4 _ _ rfl rfl (NeedIs.inl 0 _ _ rfl rfl NeedIs.nil)))
   ·intro rest
    refine SOps.bin rfl rfl rfl ?_
    exact SOps.nil (congrArg (fun b => St.put _ 25 (.v (.bool b))) (decide_eq_false (by rw [hnm]; exact hst2)))
   apply DOk.cons 26 
   ·rfl
   ·exact (NeedIs.inl 9 _ _ rfl rfl (NeedIs.inl 0 _ _ rfl rfl NeedIs.nil))
   ·intro rest
    refine SOps.pick rfl rfl ?_
    exact SOps.nil rfl
   exact DOk.nil
  ·rfl
  ·show SCode _ _ _ _
   refine SCode.cond rfl (fun h => by cases h) (fun _ => ?_)
   refine SCode.exit ?_
   exact ⟨_, Res.none, by rw [hnm]⟩
end Go.GH
namespace Go.GH
open Go Go.Proofs
variable {E : Env}

end Go.GH
namespace Go.GH
open Go Go.Lib
def lineC (l : List Bx) (w pen : Int) (i n : Nat) (bn : Int) : Int := bn + (if n < ptN l - 1 then (w - lenP l i n) * (w - lenP l i n) else 0) + (if 0 < (pt3 l n).2.1 then pen else 0)
def lineStep (l : List Bx) (w pen : Int) (i : Nat) (x : List Int × List Int) (n : Nat) : List Int × List Int :=
  if x.1.getD n 0 < 0 then x else if x.1.getD i 0 < 0 ∨ lineC l w pen i n (x.1.getD n 0) ≤ x.1.getD i 0 then (x.1.set i (lineC l w pen i n (x.1.getD n 0)), x.2.set i (n : Int)) else x
end Go.GH
namespace Go.GH
open Go Go.Proofs
variable {E : Env}
theorem flatB_96 : flatB Tryz.prog 96 = true := by kernel_rfl
theorem oneB_3 : oneB Tryz.prog 3 = true := by kernel_rfl
theorem sLines1 (l : List Bx) (w pen : Int) (bs nx : List Int) (bB bN i n : Nat) (hN : Near l) (hin : i < n) (hn : n < ptN l) (hlb : bs.length = ptN l) (hln : nx.length = ptN l) (hw0 : 0 ≤ w) (hw1 : w ≤ 1000) (hp0 : 0 ≤ pen) (hp1 : pen ≤ 1000000) (hd1 : -1000000 ≤ lenP l i n) (hd2 : lenP l i n ≤ w) (hb : bs[n]'(by omega) ≤ 1000000000000000000) : GCall Tryz.prog E 52 [.v (.int .i64 ((n : Nat) : Int)), .ipin [.sl bB 1 0 bs.length], .ipin [.ipin (encPar l w)], .ipin [.v (.int .i64 ((i : Nat) : Int))], .ipin [.v (.int .i64 pen)], .ipin [.sl bN 1 0 nx.length]] [(bB, .row 3 1 (bs.map encI)), (bN, .row 3 1 (nx.map encI))] (fun d H => H = [(bB, .row 3 1 ((lineStep l w pen i (bs, nx) n).1.map encI)), (bN, .row 3 1 ((lineStep l w pen i (bs, nx) n).2.map encI))]) := by
 have hi : i < bs.length := by omega
 have hnb : n < bs.length := by omega
 have hsq := sq_bound (x := (w - lenP l i n)) (by omega) (by omega)
 have hn1 := hN.1
 have hp3 : (pts3 l).length = ptN l := rfl
 have hpt := pt3_lt (l := l) (i := n) hn
 refine GCall.body (C := ⟨Tryz.prog, E, false⟩) Tryz.func52 rfl (fun h => by cases h) (by kernel_rfl) rfl ?_
 refine SCode.seq (SCode.seqR (SOps.loadPin rfl flatB_98 (SOps.move rfl (SOps.indexS (n) rfl rfl sliceB_98_3_1 (by omega) (by omega) (SOps.loadK 0 (n) rfl flatB_3 rfl (by omega) (by omega) rfl (SOps.bin rfl rfl rfl (SOps.nil ?_)))))))
 refine SCode.cond rfl (fun hc1 => ?_) (fun hc1 => ?_)
 ·try simp only [nmL] at hc1
  refine SCode.ret ?_
  exact ⟨_, Res.none, (by have e9 : (lineStep l w pen i (bs, nx) n) = (bs, nx) := (by unfold lineStep; rw [show (bs, nx).1.getD n 0 = bs[n] from getD_int hnb, if_pos (by omega)]); rw [e9]; exact rfl)⟩
 ·try simp only [nmL] at hc1
  refine SCode.skip ?_
  show SCode _ _ _ _
  refine SCode.seqR (SOps.loadPin rfl flatB_98 (SOps.move rfl (SOps.indexS (n) rfl rfl sliceB_98_3_1 (by omega) (by omega) (SOps.loadK 0 (n) rfl flatB_3 rfl (by omega) (by omega) rfl (SOps.assign rfl (SOps.nil (SCode.seq (SCode.seqR (SOps.move rfl (SOps.loadPin rfl flatB_96 (SOps.callP (sLast l w hN) rfl ?_)))))))))))
  rintro _ rfl
  refine SOps.bin rfl rfl rfl (SOps.nil ?_)
  refine SCode.cond rfl (fun hc2 => ?_) (fun hc2 => ?_)
  ·try simp only [nmL] at hc2
   refine SCode.seq ?_
   apply SCode.drawAuto mixed_ [22, 23, 24, 25, 26, 27, 28, 29, 30, 8] [[.inr 2], [.inl 0], [.inl 1], [.inl 2], [.inr 2], [.inr 3], [.inr 0], [.inl 4, .inl 5, .inl 6], [.inl 3, .inl 7], [.inl 8]]
   ·kernel_rfl
   ·kernel_rfl
   ·apply DOk.cons 22 
    ·rfl
    ·exact (NeedIs.inr _ rfl NeedIs.nil)
    ·intro rest
     refine SOps.loadPin rfl flatB_96 ?_
     exact SOps.nil rfl
    apply DOk.cons 23 
    ·rfl
    ·exact (NeedIs.inl 0 _ _ rfl rfl NeedIs.nil)
    ·intro rest
     refine SOps.nilCheck rfl rfl ?_
     exact SOps.nil rfl
    apply DOk.cons 24 
    ·rfl
    ·exact (NeedIs.inl 0 _ _ rfl rfl NeedIs.nil)
    ·intro rest
     refine SOps.fieldPin rfl fieldB_102_2_2 ?_
     exact SOps.nil rfl
    apply DOk.cons 25 
    ·rfl
    ·exact (NeedIs.inl 0 _ _ rfl rfl NeedIs.nil)
    ·intro rest
     refine SOps.loadPin rfl flatB_3 ?_
     exact SOps.nil rfl
    apply DOk.cons 26 
    ·rfl
    ·exact (NeedIs.inr _ rfl NeedIs.nil)
    ·intro rest
     refine SOps.loadPin rfl flatB_96 ?_
     exact SOps.nil rfl
    apply DOk.cons 27 
    ·rfl
    ·exact (NeedIs.inr _ rfl NeedIs.nil)
    ·intro rest
     refine SOps.loadPin rfl flatB_3 ?_
     exact SOps.nil rfl
    apply DOk.cons 28 
    ·rfl
    ·exact (NeedIs.inr _ rfl NeedIs.nil)
    ·intro rest
     refine SOps.move rfl ?_
     exact SOps.nil rfl
    apply DOk.cons 29 
    ·rfl
    ·exact (NeedIs.inl 2 _ _ rfl rfl (NeedIs.inl 1 _ _ rfl rfl (NeedIs.inl 0 _ _ rfl rfl NeedIs.nil)))
    ·intro rest
     refine SOps.callP (sLength l w i n hN (by omega) hn) rfl ?_
     rintro _ rfl
     exact SOps.nil rfl
    apply DOk.cons 30 
    ·rfl
    ·exact (NeedIs.inl 4 _ _ rfl rfl (NeedIs.inl 0 _ _ rfl rfl NeedIs.nil))
    ·intro rest
     refine SOps.subI rfl rfl (by omega) (by omega) ?_
     exact SOps.nil rfl
    apply DOk.cons 8 
    ·rfl
    ·exact (NeedIs.inl 0 _ _ rfl rfl NeedIs.nil)
    ·intro rest
     refine SOps.assign rfl ?_
     exact SOps.nil rfl
    exact DOk.nil
   ·rfl
   ·show SCode _ _ _ _
    refine SCode.region (SOps.move rfl (SOps.move rfl (SOps.move rfl (SOps.bin rfl rfl rfl (SOps.reSlot (t := 34) rfl (show _ = DV.v (.int .i64 ((w - lenP l i n) * (w - lenP l i n))) from congrArg (fun z => DV.v (.int .i64 z)) (wrap_id (has_i64 (by omega) (by omega)))) (SOps.addI rfl rfl (by omega) (by omega) (SOps.assign rfl (SOps.nil ?_))))))))
    show SCode _ _ _ _
    refine SCode.seq (SCode.seqR (SOps.loadPin rfl flatB_96 (SOps.nilCheck rfl rfl (SOps.fieldPin rfl fieldB_102_1_1 (SOps.loadPin rfl flatB_100 (SOps.move rfl (SOps.indexM (n) rfl rfl sliceB_100_107_3 (by omega) (by omega) (SOps.fieldPin rfl fieldB_107_1_1 (SOps.loadPin rfl flatB_3 (SOps.bin rfl rfl rfl (SOps.nil ?_)))))))))))
    refine SCode.cond rfl (fun hc3 => ?_) (fun hc3 => ?_)
    ·try simp only [nmL] at hc3
     refine SCode.region (SOps.move rfl (SOps.loadPin rfl flatB_3 (SOps.addI rfl rfl (by omega) (by omega) (SOps.assign rfl (SOps.nil ?_)))))
     show SCode _ _ _ _
     refine SCode.seqR ?_
     have hlc : (lineC l w pen i n bs[n]) = _ := rfl
     refine SOps.reSlot (t := 7) rfl (show _ = DV.v (.int .i64 (lineC l w pen i n bs[n])) from congrArg (fun z => DV.v (.int .i64 z)) (by unfold lineC; rw [hpt]; first | rw [if_pos (by omega), if_pos (by omega)] | (rw [if_pos (by omega), if_neg (by omega)]; omega) | (rw [if_neg (by omega), if_pos (by omega)]; omega) | (rw [if_neg (by omega), if_neg (by omega)]; omega))) ?_
     have hgi : bs.getD i 0 = bs[i] := getD_int hi
     have hgn : bs.getD n 0 = bs[n] := getD_int hnb
     refine SOps.loadPin rfl flatB_98 (SOps.loadPin rfl flatB_3 (SOps.indexS (i) rfl rfl sliceB_98_3_1 (by omega) (by omega) (SOps.loadK 0 (i) rfl flatB_3 rfl (by omega) (by omega) rfl (SOps.bin rfl rfl rfl (SOps.move rfl ?_)))))
     refine SOps.caseB 53 rfl (fun hb4 => ?_) (fun hb4 => ?_)
     ·try simp only [nmL] at hb4
      refine SOps.skip rfl (SOps.skip rfl (SOps.skip rfl (SOps.skip rfl (SOps.skip rfl (SOps.skip rfl (SOps.pick rfl rfl (SOps.nil ?_)))))))
      refine SCode.cond rfl (fun _ => ?_) (fun h => by cases h)
      apply SCode.drawG 11 [some 61, some 62, some 63, some 64, some 65, some 66, some 67, none, some 68, none] [[.inr 1], [.inr 3], [.inr 5], [.inr 3], [.inr 7], [.inr 0], [.inl 0, .inl 1], [.inl 6, .inl 4], [.inl 2, .inl 3], [.inl 8, .inl 5]] [[7], [9]] [none, none, none, none, none, none, none, some (0, 0), none, some (1, 0)] [[], [], [], [], [], [], [], [], [], []] ([]) [⟨[7], fun ids c => match c with | 0 => [(bB, .row 3 1 (bs.map encI))] | _ => [(bB, .row 3 1 ((bs.set i (lineC l w pen i n bs[n])).map encI))]⟩, ⟨[9], fun ids c => match c with | 0 => [(bN, .row 3 1 (nx.map encI))] | _ => [(bN, .row 3 1 ((nx.set i (n : Int)).map encI))]⟩] mixed_
      ·kernel_rfl
      ·rfl
      ·exact fun _ => .refl _
      ·apply GOk.rd 61
       ·rfl
       ·exact fun b => (NeedG.inr _ rfl NeedG.nil)
       ·intro b rest ext
        refine SOps.loadPin rfl flatB_98 ?_
        exact SOps.nil rfl
       apply GOk.rd 62
       ·rfl
       ·exact fun b => (NeedG.inr _ rfl NeedG.nil)
       ·intro b rest ext
        refine SOps.loadPin rfl flatB_3 ?_
        exact SOps.nil rfl
       apply GOk.rd 63
       ·rfl
       ·exact fun b => (NeedG.inr _ rfl NeedG.nil)
       ·intro b rest ext
        refine SOps.loadPin rfl flatB_98 ?_
        exact SOps.nil rfl
       apply GOk.rd 64
       ·rfl
       ·exact fun b => (NeedG.inr _ rfl NeedG.nil)
       ·intro b rest ext
        refine SOps.loadPin rfl flatB_3 ?_
        exact SOps.nil rfl
       apply GOk.rd 65
       ·rfl
       ·exact fun b => (NeedG.inr _ rfl NeedG.nil)
       ·intro b rest ext
        refine SOps.move rfl ?_
        exact SOps.nil rfl
       apply GOk.rd 66
       ·rfl
       ·exact fun b => (NeedG.inr _ rfl NeedG.nil)
       ·intro b rest ext
        refine SOps.move rfl ?_
        exact SOps.nil rfl
       apply GOk.rd 67
       ·rfl
       ·exact fun b => (NeedG.inl 5 _ _ rfl rfl rfl (NeedG.inl 4 _ _ rfl rfl rfl NeedG.nil))
       ·intro b rest ext
        refine SOps.indexS (i) rfl rfl sliceB_98_3_1 (by omega) (by omega) ?_
        exact SOps.nil rfl
       apply GOk.act [] (fun _ => none)
       ·rfl
       ·rfl
       ·rfl
       ·exact fun b => (NeedG.inl 0 _ _ rfl rfl rfl (NeedG.inl 2 _ _ rfl rfl rfl NeedG.nil))
       ·intro b rest ext
        refine SOps.storeK 0 (i) rfl rfl oneB_3 rfl (by omega) (by omega) rfl (fun _ => rfl) ?_
        exact SOps.nil ⟨b, fun _ _ => rfl, ⟨rfl, fun t d h => .inl h, _, .refl _, .refl _⟩⟩
       apply GOk.rd 68
       ·rfl
       ·exact fun b => (NeedG.inl 5 _ _ rfl rfl rfl (NeedG.inl 4 _ _ rfl rfl rfl NeedG.nil))
       ·intro b rest ext
        refine SOps.indexS (i) rfl rfl sliceB_98_3_1 (by omega) (by omega) ?_
        exact SOps.nil rfl
       apply GOk.act [] (fun _ => none)
       ·rfl
       ·rfl
       ·rfl
       ·exact fun b => (NeedG.inl 0 _ _ rfl rfl rfl (NeedG.inl 3 _ _ rfl rfl rfl NeedG.nil))
       ·intro b rest ext
        refine SOps.storeK 0 (i) rfl rfl oneB_3 rfl (by omega) (by omega) rfl (fun _ => rfl) ?_
        exact SOps.nil ⟨b, fun _ _ => rfl, ⟨rfl, fun t d h => .inl h, _, .refl _, .refl _⟩⟩
       exact GOk.nil
      ·exact fun _ => rfl
      ·intro ids
       exact ⟨_, Res.none, by unfold lineStep; dsimp only; rw [hgn, hgi, if_neg (by omega)]; first | (rw [if_pos (by omega)] <;> rfl) | (rw [if_neg (by omega)] <;> rfl)⟩
     ·try simp only [nmL] at hb4
      refine SOps.move rfl (SOps.loadPin rfl flatB_98 (SOps.loadPin rfl flatB_3 (SOps.indexS (i) rfl rfl sliceB_98_3_1 (by omega) (by omega) (SOps.loadK 0 (i) rfl flatB_3 rfl (by omega) (by omega) rfl (SOps.bin rfl rfl rfl (SOps.pick rfl rfl (SOps.nil ?_)))))))
      refine SCode.cond rfl (fun hc5 => ?_) (fun hc5 => ?_)
      ·try simp only [nmL] at hc5
       apply SCode.drawG 11 [some 61, some 62, some 63, some 64, some 65, some 66, some 67, none, some 68, none] [[.inr 1], [.inr 3], [.inr 5], [.inr 3], [.inr 7], [.inr 0], [.inl 0, .inl 1], [.inl 6, .inl 4], [.inl 2, .inl 3], [.inl 8, .inl 5]] [[7], [9]] [none, none, none, none, none, none, none, some (0, 0), none, some (1, 0)] [[], [], [], [], [], [], [], [], [], []] ([]) [⟨[7], fun ids c => match c with | 0 => [(bB, .row 3 1 (bs.map encI))] | _ => [(bB, .row 3 1 ((bs.set i (lineC l w pen i n bs[n])).map encI))]⟩, ⟨[9], fun ids c => match c with | 0 => [(bN, .row 3 1 (nx.map encI))] | _ => [(bN, .row 3 1 ((nx.set i (n : Int)).map encI))]⟩] mixed_
       ·kernel_rfl
       ·rfl
       ·exact fun _ => .refl _
       ·apply GOk.rd 61
        ·rfl
        ·exact fun b => (NeedG.inr _ rfl NeedG.nil)
        ·intro b rest ext
         refine SOps.loadPin rfl flatB_98 ?_
         exact SOps.nil rfl
        apply GOk.rd 62
        ·rfl
        ·exact fun b => (NeedG.inr _ rfl NeedG.nil)
        ·intro b rest ext
         refine SOps.loadPin rfl flatB_3 ?_
         exact SOps.nil rfl
        apply GOk.rd 63
        ·rfl
        ·exact fun b => (NeedG.inr _ rfl NeedG.nil)
        ·intro b rest ext
         refine SOps.loadPin rfl flatB_98 ?_
         exact SOps.nil rfl
        apply GOk.rd 64
        ·rfl
        ·exact fun b => (NeedG.inr _ rfl NeedG.nil)
        ·intro b rest ext
         refine SOps.loadPin rfl flatB_3 ?_
         exact SOps.nil rfl
        apply GOk.rd 65
        ·rfl
        ·exact fun b => (NeedG.inr _ rfl NeedG.nil)
        ·intro b rest ext
         refine SOps.move rfl ?_
         exact SOps.nil rfl
        apply GOk.rd 66
        ·rfl
        ·exact fun b => (NeedG.inr _ rfl NeedG.nil)
        ·intro b rest ext
         refine SOps.move rfl ?_
         exact SOps.nil rfl
        apply GOk.rd 67
        ·rfl
        ·exact fun b => (NeedG.inl 5 _ _ rfl rfl rfl (NeedG.inl 4 _ _ rfl rfl rfl NeedG.nil))
        ·intro b rest ext
         refine SOps.indexS (i) rfl rfl sliceB_98_3_1 (by omega) (by omega) ?_
         exact SOps.nil rfl
        apply GOk.act [] (fun _ => none)
        ·rfl
        ·rfl
        ·rfl
        ·exact fun b => (NeedG.inl 0 _ _ rfl rfl rfl (NeedG.inl 2 _ _ rfl rfl rfl NeedG.nil))
        ·intro b rest ext
         refine SOps.storeK 0 (i) rfl rfl oneB_3 rfl (by omega) (by omega) rfl (fun _ => rfl) ?_
         exact SOps.nil ⟨b, fun _ _ => rfl, ⟨rfl, fun t d h => .inl h, _, .refl _, .refl _⟩⟩
        apply GOk.rd 68
        ·rfl
        ·exact fun b => (NeedG.inl 5 _ _ rfl rfl rfl (NeedG.inl 4 _ _ rfl rfl rfl NeedG.nil))
        ·intro b rest ext
         refine SOps.indexS (i) rfl rfl sliceB_98_3_1 (by omega) (by omega) ?_
         exact SOps.nil rfl
        apply GOk.act [] (fun _ => none)
        ·rfl
        ·rfl
        ·rfl
        ·exact fun b => (NeedG.inl 0 _ _ rfl rfl rfl (NeedG.inl 3 _ _ rfl rfl rfl NeedG.nil))
        ·intro b rest ext
         refine SOps.storeK 0 (i) rfl rfl oneB_3 rfl (by omega) (by omega) rfl (fun _ => rfl) ?_
         exact SOps.nil ⟨b, fun _ _ => rfl, ⟨rfl, fun t d h => .inl h, _, .refl _, .refl _⟩⟩
        exact GOk.nil
       ·exact fun _ => rfl
       ·intro ids
        exact ⟨_, Res.none, by unfold lineStep; dsimp only; rw [hgn, hgi, if_neg (by omega)]; first | (rw [if_pos (by omega)] <;> rfl) | (rw [if_neg (by omega)] <;> rfl)⟩
      ·try simp only [nmL] at hc5
       refine SCode.skip ?_
       exact ⟨_, Res.none, by unfold lineStep; dsimp only; rw [hgn, hgi, if_neg (by omega)]; first | (rw [if_pos (by omega)] <;> rfl) | (rw [if_neg (by omega)] <;> rfl)⟩
    ·try simp only [nmL] at hc3
     refine SCode.skip ?_
     show SCode _ _ _ _
     refine SCode.seqR ?_
     have hlc : (lineC l w pen i n bs[n]) = _ := rfl
     refine SOps.reSlot (t := 7) rfl (show _ = DV.v (.int .i64 (lineC l w pen i n bs[n])) from congrArg (fun z => DV.v (.int .i64 z)) (by unfold lineC; rw [hpt]; first | rw [if_pos (by omega), if_pos (by omega)] | (rw [if_pos (by omega), if_neg (by omega)]; omega) | (rw [if_neg (by omega), if_pos (by omega)]; omega) | (rw [if_neg (by omega), if_neg (by omega)]; omega))) ?_
     have hgi : bs.getD i 0 = bs[i] := getD_int hi
     have hgn : bs.getD n 0 = bs[n] := getD_int hnb
     refine SOps.loadPin rfl flatB_98 (SOps.loadPin rfl flatB_3 (SOps.indexS (i) rfl rfl sliceB_98_3_1 (by omega) (by omega) (SOps.loadK 0 (i) rfl flatB_3 rfl (by omega) (by omega) rfl (SOps.bin rfl rfl rfl (SOps.move rfl ?_)))))
     refine SOps.caseB 53 rfl (fun hb6 => ?_) (fun hb6 => ?_)
     ·try simp only [nmL] at hb6
      refine SOps.skip rfl (SOps.skip rfl (SOps.skip rfl (SOps.skip rfl (SOps.skip rfl (SOps.skip rfl (SOps.pick rfl rfl (SOps.nil ?_)))))))
      refine SCode.cond rfl (fun _ => ?_) (fun h => by cases h)
      apply SCode.drawG 11 [some 61, some 62, some 63, some 64, some 65, some 66, some 67, none, some 68, none] [[.inr 1], [.inr 3], [.inr 5], [.inr 3], [.inr 7], [.inr 0], [.inl 0, .inl 1], [.inl 6, .inl 4], [.inl 2, .inl 3], [.inl 8, .inl 5]] [[7], [9]] [none, none, none, none, none, none, none, some (0, 0), none, some (1, 0)] [[], [], [], [], [], [], [], [], [], []] ([]) [⟨[7], fun ids c => match c with | 0 => [(bB, .row 3 1 (bs.map encI))] | _ => [(bB, .row 3 1 ((bs.set i (lineC l w pen i n bs[n])).map encI))]⟩, ⟨[9], fun ids c => match c with | 0 => [(bN, .row 3 1 (nx.map encI))] | _ => [(bN, .row 3 1 ((nx.set i (n : Int)).map encI))]⟩] mixed_
      ·kernel_rfl
      ·rfl
      ·exact fun _ => .refl _
      ·apply GOk.rd 61
       ·rfl
       ·exact fun b => (NeedG.inr _ rfl NeedG.nil)
       ·intro b rest ext
        refine SOps.loadPin rfl flatB_98 ?_
        exact SOps.nil rfl
       apply GOk.rd 62
       ·rfl
       ·exact fun b => (NeedG.inr _ rfl NeedG.nil)
       ·intro b rest ext
        refine SOps.loadPin rfl flatB_3 ?_
        exact SOps.nil rfl
       apply GOk.rd 63
       ·rfl
       ·exact fun b => (NeedG.inr _ rfl NeedG.nil)
       ·intro b rest ext
        refine SOps.loadPin rfl flatB_98 ?_
        exact SOps.nil rfl
       apply GOk.rd 64
       ·rfl
       ·exact fun b => (NeedG.inr _ rfl NeedG.nil)
       ·intro b rest ext
        refine SOps.loadPin rfl flatB_3 ?_
        exact SOps.nil rfl
       apply GOk.rd 65
       ·rfl
       ·exact fun b => (NeedG.inr _ rfl NeedG.nil)
       ·intro b rest ext
        refine SOps.move rfl ?_
        exact SOps.nil rfl
       apply GOk.rd 66
       ·rfl
       ·exact fun b => (NeedG.inr _ rfl NeedG.nil)
       ·intro b rest ext
        refine SOps.move rfl ?_
        exact SOps.nil rfl
       apply GOk.rd 67
       ·rfl
       ·exact fun b => (NeedG.inl 5 _ _ rfl rfl rfl (NeedG.inl 4 _ _ rfl rfl rfl NeedG.nil))
       ·intro b rest ext
        refine SOps.indexS (i) rfl rfl sliceB_98_3_1 (by omega) (by omega) ?_
        exact SOps.nil rfl
       apply GOk.act [] (fun _ => none)
       ·rfl
       ·rfl
       ·rfl
       ·exact fun b => (NeedG.inl 0 _ _ rfl rfl rfl (NeedG.inl 2 _ _ rfl rfl rfl NeedG.nil))
       ·intro b rest ext
        refine SOps.storeK 0 (i) rfl rfl oneB_3 rfl (by omega) (by omega) rfl (fun _ => rfl) ?_
        exact SOps.nil ⟨b, fun _ _ => rfl, ⟨rfl, fun t d h => .inl h, _, .refl _, .refl _⟩⟩
       apply GOk.rd 68
       ·rfl
       ·exact fun b => (NeedG.inl 5 _ _ rfl rfl rfl (NeedG.inl 4 _ _ rfl rfl rfl NeedG.nil))
       ·intro b rest ext
        refine SOps.indexS (i) rfl rfl sliceB_98_3_1 (by omega) (by omega) ?_
        exact SOps.nil rfl
       apply GOk.act [] (fun _ => none)
       ·rfl
       ·rfl
       ·rfl
       ·exact fun b => (NeedG.inl 0 _ _ rfl rfl rfl (NeedG.inl 3 _ _ rfl rfl rfl NeedG.nil))
       ·intro b rest ext
        refine SOps.storeK 0 (i) rfl rfl oneB_3 rfl (by omega) (by omega) rfl (fun _ => rfl) ?_
        exact SOps.nil ⟨b, fun _ _ => rfl, ⟨rfl, fun t d h => .inl h, _, .refl _, .refl _⟩⟩
       exact GOk.nil
      ·exact fun _ => rfl
      ·intro ids
       exact ⟨_, Res.none, by unfold lineStep; dsimp only; rw [hgn, hgi, if_neg (by omega)]; first | (rw [if_pos (by omega)] <;> rfl) | (rw [if_neg (by omega)] <;> rfl)⟩
     ·try simp only [nmL] at hb6
      refine SOps.move rfl (SOps.loadPin rfl flatB_98 (SOps.loadPin rfl flatB_3 (SOps.indexS (i) rfl rfl sliceB_98_3_1 (by omega) (by omega) (SOps.loadK 0 (i) rfl flatB_3 rfl (by omega) (by omega) rfl (SOps.bin rfl rfl rfl (SOps.pick rfl rfl (SOps.nil ?_)))))))
      refine SCode.cond rfl (fun hc7 => ?_) (fun hc7 => ?_)
      ·try simp only [nmL] at hc7
       apply SCode.drawG 11 [some 61, some 62, some 63, some 64, some 65, some 66, some 67, none, some 68, none] [[.inr 1], [.inr 3], [.inr 5], [.inr 3], [.inr 7], [.inr 0], [.inl 0, .inl 1], [.inl 6, .inl 4], [.inl 2, .inl 3], [.inl 8, .inl 5]] [[7], [9]] [none, none, none, none, none, none, none, some (0, 0), none, some (1, 0)] [[], [], [], [], [], [], [], [], [], []] ([]) [⟨[7], fun ids c => match c with | 0 => [(bB, .row 3 1 (bs.map encI))] | _ => [(bB, .row 3 1 ((bs.set i (lineC l w pen i n bs[n])).map encI))]⟩, ⟨[9], fun ids c => match c with | 0 => [(bN, .row 3 1 (nx.map encI))] | _ => [(bN, .row 3 1 ((nx.set i (n : Int)).map encI))]⟩] mixed_
       ·kernel_rfl
       ·rfl
       ·exact fun _ => .refl _
       ·apply GOk.rd 61
        ·rfl
        ·exact fun b => (NeedG.inr _ rfl NeedG.nil)
        ·intro b rest ext
         refine SOps.loadPin rfl flatB_98 ?_
         exact SOps.nil rfl
        apply GOk.rd 62
        ·rfl
        ·exact fun b => (NeedG.inr _ rfl NeedG.nil)
        ·intro b rest ext
         refine SOps.loadPin rfl flatB_3 ?_
         exact SOps.nil rfl
        apply GOk.rd 63
        ·rfl
        ·exact fun b => (NeedG.inr _ rfl NeedG.nil)
        ·intro b rest ext
         refine SOps.loadPin rfl flatB_98 ?_
         exact SOps.nil rfl
        apply GOk.rd 64
        ·rfl
        ·exact fun b => (NeedG.inr _ rfl NeedG.nil)
        ·intro b rest ext
         refine SOps.loadPin rfl flatB_3 ?_
         exact SOps.nil rfl
        apply GOk.rd 65
        ·rfl
        ·exact fun b => (NeedG.inr _ rfl NeedG.nil)
        ·intro b rest ext
         refine SOps.move rfl ?_
         exact SOps.nil rfl
        apply GOk.rd 66
        ·rfl
        ·exact fun b => (NeedG.inr _ rfl NeedG.nil)
        ·intro b rest ext
         refine SOps.move rfl ?_
         exact SOps.nil rfl
        apply GOk.rd 67
        ·rfl
        ·exact fun b => (NeedG.inl 5 _ _ rfl rfl rfl (NeedG.inl 4 _ _ rfl rfl rfl NeedG.nil))
        ·intro b rest ext
         refine SOps.indexS (i) rfl rfl sliceB_98_3_1 (by omega) (by omega) ?_
         exact SOps.nil rfl
        apply GOk.act [] (fun _ => none)
        ·rfl
        ·rfl
        ·rfl
        ·exact fun b => (NeedG.inl 0 _ _ rfl rfl rfl (NeedG.inl 2 _ _ rfl rfl rfl NeedG.nil))
        ·intro b rest ext
         refine SOps.storeK 0 (i) rfl rfl oneB_3 rfl (by omega) (by omega) rfl (fun _ => rfl) ?_
         exact SOps.nil ⟨b, fun _ _ => rfl, ⟨rfl, fun t d h => .inl h, _, .refl _, .refl _⟩⟩
        apply GOk.rd 68
        ·rfl
        ·exact fun b => (NeedG.inl 5 _ _ rfl rfl rfl (NeedG.inl 4 _ _ rfl rfl rfl NeedG.nil))
        ·intro b rest ext
         refine SOps.indexS (i) rfl rfl sliceB_98_3_1 (by omega) (by omega) ?_
         exact SOps.nil rfl
        apply GOk.act [] (fun _ => none)
        ·rfl
        ·rfl
        ·rfl
        ·exact fun b => (NeedG.inl 0 _ _ rfl rfl rfl (NeedG.inl 3 _ _ rfl rfl rfl NeedG.nil))
        ·intro b rest ext
         refine SOps.storeK 0 (i) rfl rfl oneB_3 rfl (by omega) (by omega) rfl (fun _ => rfl) ?_
         exact SOps.nil ⟨b, fun _ _ => rfl, ⟨rfl, fun t d h => .inl h, _, .refl _, .refl _⟩⟩
        exact GOk.nil
       ·exact fun _ => rfl
       ·intro ids
        exact ⟨_, Res.none, by unfold lineStep; dsimp only; rw [hgn, hgi, if_neg (by omega)]; first | (rw [if_pos (by omega)] <;> rfl) | (rw [if_neg (by omega)] <;> rfl)⟩
      ·try simp only [nmL] at hc7
       refine SCode.skip ?_
       exact ⟨_, Res.none, by unfold lineStep; dsimp only; rw [hgn, hgi, if_neg (by omega)]; first | (rw [if_pos (by omega)] <;> rfl) | (rw [if_neg (by omega)] <;> rfl)⟩
  ·try simp only [nmL] at hc2
   refine SCode.skip ?_
   show SCode _ _ _ _
   refine SCode.seq (SCode.seqR (SOps.loadPin rfl flatB_96 (SOps.nilCheck rfl rfl (SOps.fieldPin rfl fieldB_102_1_1 (SOps.loadPin rfl flatB_100 (SOps.move rfl (SOps.indexM (n) rfl rfl sliceB_100_107_3 (by omega) (by omega) (SOps.fieldPin rfl fieldB_107_1_1 (SOps.loadPin rfl flatB_3 (SOps.bin rfl rfl rfl (SOps.nil ?_)))))))))))
   refine SCode.cond rfl (fun hc8 => ?_) (fun hc8 => ?_)
   ·try simp only [nmL] at hc8
    refine SCode.region (SOps.move rfl (SOps.loadPin rfl flatB_3 (SOps.addI rfl rfl (by omega) (by omega) (SOps.assign rfl (SOps.nil ?_)))))
    show SCode _ _ _ _
    refine SCode.seqR ?_
    have hlc : (lineC l w pen i n bs[n]) = _ := rfl
    refine SOps.reSlot (t := 7) rfl (show _ = DV.v (.int .i64 (lineC l w pen i n bs[n])) from congrArg (fun z => DV.v (.int .i64 z)) (by unfold lineC; rw [hpt]; first | rw [if_pos (by omega), if_pos (by omega)] | (rw [if_pos (by omega), if_neg (by omega)]; omega) | (rw [if_neg (by omega), if_pos (by omega)]; omega) | (rw [if_neg (by omega), if_neg (by omega)]; omega))) ?_
    have hgi : bs.getD i 0 = bs[i] := getD_int hi
    have hgn : bs.getD n 0 = bs[n] := getD_int hnb
    refine SOps.loadPin rfl flatB_98 (SOps.loadPin rfl flatB_3 (SOps.indexS (i) rfl rfl sliceB_98_3_1 (by omega) (by omega) (SOps.loadK 0 (i) rfl flatB_3 rfl (by omega) (by omega) rfl (SOps.bin rfl rfl rfl (SOps.move rfl ?_)))))
    refine SOps.caseB 53 rfl (fun hb9 => ?_) (fun hb9 => ?_)
    ·try simp only [nmL] at hb9
     refine SOps.skip rfl (SOps.skip rfl (SOps.skip rfl (SOps.skip rfl (SOps.skip rfl (SOps.skip rfl (SOps.pick rfl rfl (SOps.nil ?_)))))))
     refine SCode.cond rfl (fun _ => ?_) (fun h => by cases h)
     apply SCode.drawG 11 [some 61, some 62, some 63, some 64, some 65, some 66, some 67, none, some 68, none] [[.inr 1], [.inr 3], [.inr 5], [.inr 3], [.inr 7], [.inr 0], [.inl 0, .inl 1], [.inl 6, .inl 4], [.inl 2, .inl 3], [.inl 8, .inl 5]] [[7], [9]] [none, none, none, none, none, none, none, some (0, 0), none, some (1, 0)] [[], [], [], [], [], [], [], [], [], []] ([]) [⟨[7], fun ids c => match c with | 0 => [(bB, .row 3 1 (bs.map encI))] | _ => [(bB, .row 3 1 ((bs.set i (lineC l w pen i n bs[n])).map encI))]⟩, ⟨[9], fun ids c => match c with | 0 => [(bN, .row 3 1 (nx.map encI))] | _ => [(bN, .row 3 1 ((nx.set i (n : Int)).map encI))]⟩] mixed_
     ·kernel_rfl
     ·rfl
     ·exact fun _ => .refl _
     ·apply GOk.rd 61
      ·rfl
      ·exact fun b => (NeedG.inr _ rfl NeedG.nil)
      ·intro b rest ext
       refine SOps.loadPin rfl flatB_98 ?_
       exact SOps.nil rfl
      apply GOk.rd 62
      ·rfl
      ·exact fun b => (NeedG.inr _ rfl NeedG.nil)
      ·intro b rest ext
       refine SOps.loadPin rfl flatB_3 ?_
       exact SOps.nil rfl
      apply GOk.rd 63
      ·rfl
      ·exact fun b => (NeedG.inr _ rfl NeedG.nil)
      ·intro b rest ext
       refine SOps.loadPin rfl flatB_98 ?_
       exact SOps.nil rfl
      apply GOk.rd 64
      ·rfl
      ·exact fun b => (NeedG.inr _ rfl NeedG.nil)
      ·intro b rest ext
       refine SOps.loadPin rfl flatB_3 ?_
       exact SOps.nil rfl
      apply GOk.rd 65
      ·rfl
      ·exact fun b => (NeedG.inr _ rfl NeedG.nil)
      ·intro b rest ext
       refine SOps.move rfl ?_
       exact SOps.nil rfl
      apply GOk.rd 66
      ·rfl
      ·exact fun b => (NeedG.inr _ rfl NeedG.nil)
      ·intro b rest ext
       refine SOps.move rfl ?_
       exact SOps.nil rfl
      apply GOk.rd 67
      ·rfl
      ·exact fun b => (NeedG.inl 5 _ _ rfl rfl rfl (NeedG.inl 4 _ _ rfl rfl rfl NeedG.nil))
      ·intro b rest ext
       refine SOps.indexS (i) rfl rfl sliceB_98_3_1 (by omega) (by omega) ?_
       exact SOps.nil rfl
      apply GOk.act [] (fun _ => none)
      ·rfl
      ·rfl
      ·rfl
      ·exact fun b => (NeedG.inl 0 _ _ rfl rfl rfl (NeedG.inl 2 _ _ rfl rfl rfl NeedG.nil))
      ·intro b rest ext
       refine SOps.storeK 0 (i) rfl rfl oneB_3 rfl (by omega) (by omega) rfl (fun _ => rfl) ?_
       exact SOps.nil ⟨b, fun _ _ => rfl, ⟨rfl, fun t d h => .inl h, _, .refl _, .refl _⟩⟩
      apply GOk.rd 68
      ·rfl
      ·exact fun b => (NeedG.inl 5 _ _ rfl rfl rfl (NeedG.inl 4 _ _ rfl rfl rfl NeedG.nil))
      ·intro b rest ext
       refine SOps.indexS (i) rfl rfl sliceB_98_3_1 (by omega) (by omega) ?_
       exact SOps.nil rfl
      apply GOk.act [] (fun _ => none)
      ·rfl
      ·rfl
      ·rfl
      ·exact fun b => (NeedG.inl 0 _ _ rfl rfl rfl (NeedG.inl 3 _ _ rfl rfl rfl NeedG.nil))
      ·intro b rest ext
       refine SOps.storeK 0 (i) rfl rfl oneB_3 rfl (by omega) (by omega) rfl (fun _ => rfl) ?_
       exact SOps.nil ⟨b, fun _ _ => rfl, ⟨rfl, fun t d h => .inl h, _, .refl _, .refl _⟩⟩
      exact GOk.nil
     ·exact fun _ => rfl
     ·intro ids
      exact ⟨_, Res.none, by unfold lineStep; dsimp only; rw [hgn, hgi, if_neg (by omega)]; first | (rw [if_pos (by omega)] <;> rfl) | (rw [if_neg (by omega)] <;> rfl)⟩
    ·try simp only [nmL] at hb9
     refine SOps.move rfl (SOps.loadPin rfl flatB_98 (SOps.loadPin rfl flatB_3 (SOps.indexS (i) rfl rfl sliceB_98_3_1 (by omega) (by omega) (SOps.loadK 0 (i) rfl flatB_3 rfl (by omega) (by omega) rfl (SOps.bin rfl rfl rfl (SOps.pick rfl rfl (SOps.nil ?_)))))))
     refine SCode.cond rfl (fun hc10 => ?_) (fun hc10 => ?_)
     ·try simp only [nmL] at hc10
      apply SCode.drawG 11 [some 61, some 62, some 63, some 64, some 65, some 66, some 67, none, some 68, none] [[.inr 1], [.inr 3], [.inr 5], [.inr 3], [.inr 7], [.inr 0], [.inl 0, .inl 1], [.inl 6, .inl 4], [.inl 2, .inl 3], [.inl 8, .inl 5]] [[7], [9]] [none, none, none, none, none, none, none, some (0, 0), none, some (1, 0)] [[], [], [], [], [], [], [], [], [], []] ([]) [⟨[7], fun ids c => match c with | 0 => [(bB, .row 3 1 (bs.map encI))] | _ => [(bB, .row 3 1 ((bs.set i (lineC l w pen i n bs[n])).map encI))]⟩, ⟨[9], fun ids c => match c with | 0 => [(bN, .row 3 1 (nx.map encI))] | _ => [(bN, .row 3 1 ((nx.set i (n : Int)).map encI))]⟩] mixed_
      ·kernel_rfl
      ·rfl
      ·exact fun _ => .refl _
      ·apply GOk.rd 61
       ·rfl
       ·exact fun b => (NeedG.inr _ rfl NeedG.nil)
       ·intro b rest ext
        refine SOps.loadPin rfl flatB_98 ?_
        exact SOps.nil rfl
       apply GOk.rd 62
       ·rfl
       ·exact fun b => (NeedG.inr _ rfl NeedG.nil)
       ·intro b rest ext
        refine SOps.loadPin rfl flatB_3 ?_
        exact SOps.nil rfl
       apply GOk.rd 63
       ·rfl
       ·exact fun b => (NeedG.inr _ rfl NeedG.nil)
       ·intro b rest ext
        refine SOps.loadPin rfl flatB_98 ?_
        exact SOps.nil rfl
       apply GOk.rd 64
       ·rfl
       ·exact fun b => (NeedG.inr _ rfl NeedG.nil)
       ·intro b rest ext
        refine SOps.loadPin rfl flatB_3 ?_
        exact SOps.nil rfl
       apply GOk.rd 65
       ·rfl
       ·exact fun b => (NeedG.inr _ rfl NeedG.nil)
       ·intro b rest ext
        refine SOps.move rfl ?_
        exact SOps.nil rfl
       apply GOk.rd 66
       ·rfl
       ·exact fun b => (NeedG.inr _ rfl NeedG.nil)
       ·intro b rest ext
        refine SOps.move rfl ?_
        exact SOps.nil rfl
       apply GOk.rd 67
       ·rfl
       ·exact fun b => (NeedG.inl 5 _ _ rfl rfl rfl (NeedG.inl 4 _ _ rfl rfl rfl NeedG.nil))
       ·intro b rest ext
        refine SOps.indexS (i) rfl rfl sliceB_98_3_1 (by omega) (by omega) ?_
        exact SOps.nil rfl
       apply GOk.act [] (fun _ => none)
       ·rfl
       ·rfl
       ·rfl
       ·exact fun b => (NeedG.inl 0 _ _ rfl rfl rfl (NeedG.inl 2 _ _ rfl rfl rfl NeedG.nil))
       ·intro b rest ext
        refine SOps.storeK 0 (i) rfl rfl oneB_3 rfl (by omega) (by omega) rfl (fun _ => rfl) ?_
        exact SOps.nil ⟨b, fun _ _ => rfl, ⟨rfl, fun t d h => .inl h, _, .refl _, .refl _⟩⟩
       apply GOk.rd 68
       ·rfl
       ·exact fun b => (NeedG.inl 5 _ _ rfl rfl rfl (NeedG.inl 4 _ _ rfl rfl rfl NeedG.nil))
       ·intro b rest ext
        refine SOps.indexS (i) rfl rfl sliceB_98_3_1 (by omega) (by omega) ?_
        exact SOps.nil rfl
       apply GOk.act [] (fun _ => none)
       ·rfl
       ·rfl
       ·rfl
       ·exact fun b => (NeedG.inl 0 _ _ rfl rfl rfl (NeedG.inl 3 _ _ rfl rfl rfl NeedG.nil))
       ·intro b rest ext
        refine SOps.storeK 0 (i) rfl rfl oneB_3 rfl (by omega) (by omega) rfl (fun _ => rfl) ?_
        exact SOps.nil ⟨b, fun _ _ => rfl, ⟨rfl, fun t d h => .inl h, _, .refl _, .refl _⟩⟩
       exact GOk.nil
      ·exact fun _ => rfl
      ·intro ids
       exact ⟨_, Res.none, by unfold lineStep; dsimp only; rw [hgn, hgi, if_neg (by omega)]; first | (rw [if_pos (by omega)] <;> rfl) | (rw [if_neg (by omega)] <;> rfl)⟩
     ·try simp only [nmL] at hc10
      refine SCode.skip ?_
      exact ⟨_, Res.none, by unfold lineStep; dsimp only; rw [hgn, hgi, if_neg (by omega)]; first | (rw [if_pos (by omega)] <;> rfl) | (rw [if_neg (by omega)] <;> rfl)⟩
   ·try simp only [nmL] at hc8
    refine SCode.skip ?_
    show SCode _ _ _ _
    refine SCode.seqR ?_
    have hlc : (lineC l w pen i n bs[n]) = _ := rfl
    refine SOps.reSlot (t := 7) rfl (show _ = DV.v (.int .i64 (lineC l w pen i n bs[n])) from congrArg (fun z => DV.v (.int .i64 z)) (by unfold lineC; rw [hpt]; first | rw [if_pos (by omega), if_pos (by omega)] | (rw [if_pos (by omega), if_neg (by omega)]; omega) | (rw [if_neg (by omega), if_pos (by omega)]; omega) | (rw [if_neg (by omega), if_neg (by omega)]; omega))) ?_
    have hgi : bs.getD i 0 = bs[i] := getD_int hi
    have hgn : bs.getD n 0 = bs[n] := getD_int hnb
    refine SOps.loadPin rfl flatB_98 (SOps.loadPin rfl flatB_3 (SOps.indexS (i) rfl rfl sliceB_98_3_1 (by omega) (by omega) (SOps.loadK 0 (i) rfl flatB_3 rfl (by omega) (by omega) rfl (SOps.bin rfl rfl rfl (SOps.move rfl ?_)))))
    refine SOps.caseB 53 rfl (fun hb11 => ?_) (fun hb11 => ?_)
    ·try simp only [nmL] at hb11
     refine SOps.skip rfl (SOps.skip rfl (SOps.skip rfl (SOps.skip rfl (SOps.skip rfl (SOps.skip rfl (SOps.pick rfl rfl (SOps.nil ?_)))))))
     refine SCode.cond rfl (fun _ => ?_) (fun h => by cases h)
     apply SCode.drawG 11 [some 61, some 62, some 63, some 64, some 65, some 66, some 67, none, some 68, none] [[.inr 1], [.inr 3], [.inr 5], [.inr 3], [.inr 7], [.inr 0], [.inl 0, .inl 1], [.inl 6, .inl 4], [.inl 2, .inl 3], [.inl 8, .inl 5]] [[7], [9]] [none, none, none, none, none, none, none, some (0, 0), none, some (1, 0)] [[], [], [], [], [], [], [], [], [], []] ([]) [⟨[7], fun ids c => match c with | 0 => [(bB, .row 3 1 (bs.map encI))] | _ => [(bB, .row 3 1 ((bs.set i (lineC l w pen i n bs[n])).map encI))]⟩, ⟨[9], fun ids c => match c with | 0 => [(bN, .row 3 1 (nx.map encI))] | _ => [(bN, .row 3 1 ((nx.set i (n : Int)).map encI))]⟩] mixed_
     ·kernel_rfl
     ·rfl
     ·exact fun _ => .refl _
     ·apply GOk.rd 61
      ·rfl
      ·exact fun b => (NeedG.inr _ rfl NeedG.nil)
      ·intro b rest ext
       refine SOps.loadPin rfl flatB_98 ?_
       exact SOps.nil rfl
      apply GOk.rd 62
      ·rfl
      ·exact fun b => (NeedG.inr _ rfl NeedG.nil)
      ·intro b rest ext
       refine SOps.loadPin rfl flatB_3 ?_
       exact SOps.nil rfl
      apply GOk.rd 63
      ·rfl
      ·exact fun b => (NeedG.inr _ rfl NeedG.nil)
      ·intro b rest ext
       refine SOps.loadPin rfl flatB_98 ?_
       exact SOps.nil rfl
      apply GOk.rd 64
      ·rfl
      ·exact fun b => (NeedG.inr _ rfl NeedG.nil)
      ·intro b rest ext
       refine SOps.loadPin rfl flatB_3 ?_
       exact SOps.nil rfl
      apply GOk.rd 65
      ·rfl
      ·exact fun b => (NeedG.inr _ rfl NeedG.nil)
      ·intro b rest ext
       refine SOps.move rfl ?_
       exact SOps.nil rfl
      apply GOk.rd 66
      ·rfl
      ·exact fun b => (NeedG.inr _ rfl NeedG.nil)
      ·intro b rest ext
       refine SOps.move rfl ?_
       exact SOps.nil rfl
      apply GOk.rd 67
      ·rfl
      ·exact fun b => (NeedG.inl 5 _ _ rfl rfl rfl (NeedG.inl 4 _ _ rfl rfl rfl NeedG.nil))
      ·intro b rest ext
       refine SOps.indexS (i) rfl rfl sliceB_98_3_1 (by omega) (by omega) ?_
       exact SOps.nil rfl
      apply GOk.act [] (fun _ => none)
      ·rfl
      ·rfl
      ·rfl
      ·exact fun b => (NeedG.inl 0 _ _ rfl rfl rfl (NeedG.inl 2 _ _ rfl rfl rfl NeedG.nil))
      ·intro b rest ext
       refine SOps.storeK 0 (i) rfl rfl oneB_3 rfl (by omega) (by omega) rfl (fun _ => rfl) ?_
       exact SOps.nil ⟨b, fun _ _ => rfl, ⟨rfl, fun t d h => .inl h, _, .refl _, .refl _⟩⟩
      apply GOk.rd 68
      ·rfl
      ·exact fun b => (NeedG.inl 5 _ _ rfl rfl rfl (NeedG.inl 4 _ _ rfl rfl rfl NeedG.nil))
      ·intro b rest ext
       refine SOps.indexS (i) rfl rfl sliceB_98_3_1 (by omega) (by omega) ?_
       exact SOps.nil rfl
      apply GOk.act [] (fun _ => none)
      ·rfl
      ·rfl
      ·rfl
      ·exact fun b => (NeedG.inl 0 _ _ rfl rfl rfl (NeedG.inl 3 _ _ rfl rfl rfl NeedG.nil))
      ·intro b rest ext
       refine SOps.storeK 0 (i) rfl rfl oneB_3 rfl (by omega) (by omega) rfl (fun _ => rfl) ?_
       exact SOps.nil ⟨b, fun _ _ => rfl, ⟨rfl, fun t d h => .inl h, _, .refl _, .refl _⟩⟩
      exact GOk.nil
     ·exact fun _ => rfl
     ·intro ids
      exact ⟨_, Res.none, by unfold lineStep; dsimp only; rw [hgn, hgi, if_neg (by omega)]; first | (rw [if_pos (by omega)] <;> rfl) | (rw [if_neg (by omega)] <;> rfl)⟩
    ·try simp only [nmL] at hb11
     refine SOps.move rfl (SOps.loadPin rfl flatB_98 (SOps.loadPin rfl flatB_3 (SOps.indexS (i) rfl rfl sliceB_98_3_1 (by omega) (by omega) (SOps.loadK 0 (i) rfl flatB_3 rfl (by omega) (by omega) rfl (SOps.bin rfl rfl rfl (SOps.pick rfl rfl (SOps.nil ?_)))))))
     refine SCode.cond rfl (fun hc12 => ?_) (fun hc12 => ?_)
     ·try simp only [nmL] at hc12
      apply SCode.drawG 11 [some 61, some 62, some 63, some 64, some 65, some 66, some 67, none, some 68, none] [[.inr 1], [.inr 3], [.inr 5], [.inr 3], [.inr 7], [.inr 0], [.inl 0, .inl 1], [.inl 6, .inl 4], [.inl 2, .inl 3], [.inl 8, .inl 5]] [[7], [9]] [none, none, none, none, none, none, none, some (0, 0), none, some (1, 0)] [[], [], [], [], [], [], [], [], [], []] ([]) [⟨[7], fun ids c => match c with | 0 => [(bB, .row 3 1 (bs.map encI))] | _ => [(bB, .row 3 1 ((bs.set i (lineC l w pen i n bs[n])).map encI))]⟩, ⟨[9], fun ids c => match c with | 0 => [(bN, .row 3 1 (nx.map encI))] | _ => [(bN, .row 3 1 ((nx.set i (n : Int)).map encI))]⟩] mixed_
      ·kernel_rfl
      ·rfl
      ·exact fun _ => .refl _
      ·apply GOk.rd 61
       ·rfl
       ·exact fun b => (NeedG.inr _ rfl NeedG.nil)
       ·intro b rest ext
        refine SOps.loadPin rfl flatB_98 ?_
        exact SOps.nil rfl
       apply GOk.rd 62
       ·rfl
       ·exact fun b => (NeedG.inr _ rfl NeedG.nil)
       ·intro b rest ext
        refine SOps.loadPin rfl flatB_3 ?_
        exact SOps.nil rfl
       apply GOk.rd 63
       ·rfl
       ·exact fun b => (NeedG.inr _ rfl NeedG.nil)
       ·intro b rest ext
        refine SOps.loadPin rfl flatB_98 ?_
        exact SOps.nil rfl
       apply GOk.rd 64
       ·rfl
       ·exact fun b => (NeedG.inr _ rfl NeedG.nil)
       ·intro b rest ext
        refine SOps.loadPin rfl flatB_3 ?_
        exact SOps.nil rfl
       apply GOk.rd 65
       ·rfl
       ·exact fun b => (NeedG.inr _ rfl NeedG.nil)
       ·intro b rest ext
        refine SOps.move rfl ?_
        exact SOps.nil rfl
       apply GOk.rd 66
       ·rfl
       ·exact fun b => (NeedG.inr _ rfl NeedG.nil)
       ·intro b rest ext
        refine SOps.move rfl ?_
        exact SOps.nil rfl
       apply GOk.rd 67
       ·rfl
       ·exact fun b => (NeedG.inl 5 _ _ rfl rfl rfl (NeedG.inl 4 _ _ rfl rfl rfl NeedG.nil))
       ·intro b rest ext
        refine SOps.indexS (i) rfl rfl sliceB_98_3_1 (by omega) (by omega) ?_
        exact SOps.nil rfl
       apply GOk.act [] (fun _ => none)
       ·rfl
       ·rfl
       ·rfl
       ·exact fun b => (NeedG.inl 0 _ _ rfl rfl rfl (NeedG.inl 2 _ _ rfl rfl rfl NeedG.nil))
       ·intro b rest ext
        refine SOps.storeK 0 (i) rfl rfl oneB_3 rfl (by omega) (by omega) rfl (fun _ => rfl) ?_
        exact SOps.nil ⟨b, fun _ _ => rfl, ⟨rfl, fun t d h => .inl h, _, .refl _, .refl _⟩⟩
       apply GOk.rd 68
       ·rfl
       ·exact fun b => (NeedG.inl 5 _ _ rfl rfl rfl (NeedG.inl 4 _ _ rfl rfl rfl NeedG.nil))
       ·intro b rest ext
        refine SOps.indexS (i) rfl rfl sliceB_98_3_1 (by omega) (by omega) ?_
        exact SOps.nil rfl
       apply GOk.act [] (fun _ => none)
       ·rfl
       ·rfl
       ·rfl
       ·exact fun b => (NeedG.inl 0 _ _ rfl rfl rfl (NeedG.inl 3 _ _ rfl rfl rfl NeedG.nil))
       ·intro b rest ext
        refine SOps.storeK 0 (i) rfl rfl oneB_3 rfl (by omega) (by omega) rfl (fun _ => rfl) ?_
        exact SOps.nil ⟨b, fun _ _ => rfl, ⟨rfl, fun t d h => .inl h, _, .refl _, .refl _⟩⟩
       exact GOk.nil
      ·exact fun _ => rfl
      ·intro ids
       exact ⟨_, Res.none, by unfold lineStep; dsimp only; rw [hgn, hgi, if_neg (by omega)]; first | (rw [if_pos (by omega)] <;> rfl) | (rw [if_neg (by omega)] <;> rfl)⟩
     ·try simp only [nmL] at hc12
      refine SCode.skip ?_
      exact ⟨_, Res.none, by unfold lineStep; dsimp only; rw [hgn, hgi, if_neg (by omega)]; first | (rw [if_pos (by omega)] <;> rfl) | (rw [if_neg (by omega)] <;> rfl)⟩
end Go.GH
namespace Go.GH
open Go Go.Lib
theorem stB_succ {l : List Bx} {k : Nat} (h : k < l.length) : stB l (k + 1) = stB l k + (wlen (l[k]).word + 1) := by
  unfold stB
  rw [List.take_add_one, List.getElem?_eq_getElem h, List.map_append, List.sum_append]
  show _ + ([wlen (l[k]).word + 1]).sum = _
  rw [List.sum_cons, List.sum_nil]; omega
theorem stB_le {l : List Bx} {M : Nat} (h : ∀ b ∈ l, wlen b.word ≤ M) : ∀ k, k ≤ l.length → stB l k ≤ (M + 1) * k
  | 0, _ => by simp [stB]
  | k + 1, hk => by
    have ih := stB_le h k (by omega)
    have hb := h _ (List.getElem_mem (show k < l.length by omega))
    rw [stB_succ (by omega), Nat.mul_add, Nat.mul_one]
    omega
def q3 (l : List Bx) (k : Nat) : List (Nat × Int × Int) := (ptsF (l.take k)).map (up3 l)
def q3i (l : List Bx) (k : Nat) (ps : List Int) : List (Nat × Int × Int) := q3 l k ++ (k, 0, (stB l k : Int)) :: ps.map (fun q => (k, q, (stB l k : Int) + q))
theorem q3_len (l : List Bx) (k : Nat) : (q3 l k).length = (ptsF (l.take k)).length := by simp [q3]
theorem q3i_len (l : List Bx) (k : Nat) (ps : List Int) : (q3i l k ps).length = (q3 l k).length + 1 + ps.length := by simp [q3i]; omega
theorem q3i_snoc {l : List Bx} {k i : Nat} {ps : List Int} (h : i < ps.length) : (q3i l k (ps.take (i + 1))).map encP3 = (q3i l k (ps.take i)).map encP3 ++ [encP3 (k, ps[i], (stB l k : Int) + ps[i])] := by
  have e : (ps.take (i + 1)).map (fun q => (k, q, (stB l k : Int) + q)) = (ps.take i).map (fun q => (k, q, (stB l k : Int) + q)) ++ [(k, ps[i], (stB l k : Int) + ps[i])] := by
    rw [List.take_add_one, List.getElem?_eq_getElem h, List.map_append]; rfl
  unfold q3i
  rw [e, ← List.cons_append, ← List.append_assoc, List.map_append]; rfl
theorem q3_succ {l : List Bx} {k : Nat} (h : k < l.length) : q3 l (k + 1) = q3i l k (l[k]).pts := by
  unfold q3 q3i
  rw [ptsF_take h, List.map_append]
  simp [up3, q3, List.map_map, Function.comp_def]
theorem pts3_eq (l : List Bx) : pts3 l = q3 l l.length ++ [(l.length, 0, (stB l l.length : Int))] := by
  unfold pts3 pointsL q3
  rw [List.map_append, List.take_length]
  simp [up3]
theorem rep_pinNil {w : World} {F : Nat → Prop} {v : Value} {ds : List DV} {sz : Nat} (i : Nat) (h : Rep w F v (.ipin ds)) (hi : ds[i]? = some (.v (.slice none 0 0))) : Rep w F v (.ipin (ds.set i (.isl false sz []))) := by
  cases h with
  | ipin xs hF hc hr =>
    have hlt := (List.getElem?_eq_some_iff.1 hi).1
    refine .ipin xs hF (fun j d hd => ?_) (fun j d hd => ?_)
    · rw [List.getElem?_set] at hd
      split at hd
      · rename_i e
        subst e
        exact ⟨(hc _ _ hi).1, (hc _ _ hi).2⟩
      · exact hc j d hd
    · rw [List.getElem?_set] at hd
      split at hd
      · rename_i e
        subst e
        obtain rfl := Option.some.inj hd
        exact nil_isl (hr _ _ hi)
      · exact hr j d hd
end Go.GH
namespace Go.GH
open Go Go.RowKit
section
variable {C : Ctx} {st : St} {ops : Array Oper} {R : St → Prop} {t : Tmp}
theorem SOps.pinNil {l : List Oper} {n sz : Nat} {slots : List (Nat × DV)} {heap : DHeap} {ds : List DV} (i : Nat) (hi : ds[i]? = some (.v (.slice none 0 0)))
    (h : SOps C ops l ⟨n, (t, .ipin (ds.set i (.isl false sz []))) :: slots, heap⟩ R) : SOps C ops l ⟨n, (t, .ipin ds) :: slots, heap⟩ R :=
  SOps.relab (t := t) (d := .ipin ds) (St.get_put_same ⟨n, slots, heap⟩ t _) (fun w F v hv => rep_pinNil i hv hi) (SOps.shadow h)
theorem SOps.freezePar {l : List Oper} {b0 kw kp T e1 e2 : Nat} {W Q : List (List DV)} {d : DV} (hp : C.pu = true) (hd : st.get t = some (.ref b0 0))
    (hh : st.heap = [(b0, .row T 3 [[accD 1 kw W, accD 3 kp Q, d]])] ++ (accH e1 1 kw W ++ (accH e2 3 kp Q ++ [])))
    (h : SOps C ops l ⟨st.n, (t, .ipin [.isl false 1 W, .isl false 3 Q, d]) :: st.slots, []⟩ R) : SOps C ops l st R := by
  obtain ⟨n, slots, heap⟩ := st
  dsimp only at hh
  subst hh
  cases W with
  | nil =>
    cases Q with
    | nil => exact SOps.freezeRef (t := t) 0 0 hp rfl hd rfl rfl (SOps.pinNil 0 rfl (SOps.pinNil 1 rfl h))
    | cons q Q =>
      refine SOps.freezeIn 1 0 0 1 hp rfl rfl rfl rfl ?_
      exact SOps.freezeRef (t := t) 0 0 hp rfl hd rfl rfl (SOps.pinNil 0 rfl h)
  | cons u W =>
    refine SOps.freezeIn 1 0 0 0 hp rfl rfl rfl rfl ?_
    cases Q with
    | nil => exact SOps.freezeRef (t := t) 0 0 hp rfl hd rfl rfl (SOps.pinNil 1 rfl h)
    | cons q Q =>
      refine SOps.freezeIn 1 0 0 1 hp rfl rfl rfl rfl ?_
      exact SOps.freezeRef (t := t) 0 0 hp rfl hd rfl rfl h
end
end Go.GH
namespace Go.GH
open Go Go.Proofs
variable {E : Env}
theorem elemB_107_3_24 : elemB Tryz.prog 107 3 24 = true := by kernel_rfl
theorem elemB_94_1_24 : elemB Tryz.prog 94 1 24 = true := by kernel_rfl
theorem fieldB_102_0_0 : fieldB Tryz.prog 102 0 0 = true := by kernel_rfl
theorem flatB_99 : flatB Tryz.prog 99 = true := by kernel_rfl
theorem oneB_100 : oneB Tryz.prog 100 = true := by kernel_rfl
theorem oneB_99 : oneB Tryz.prog 99 = true := by kernel_rfl
theorem placesB_102 : placesB Tryz.prog 102 [(0, 1), (1, 1), (2, 1)] = true := by kernel_rfl
theorem placesB_107 : placesB Tryz.prog 107 [(0, 1), (1, 1), (2, 1)] = true := by kernel_rfl
theorem sliceB_99_94_1 : sliceB Tryz.prog 99 94 1 = true := by kernel_rfl
theorem zeroIs_102 : zeroIs Tryz.prog 102 (.agg #[.slice none 0 0, .slice none 0 0, .int .i64 0]) := by unfold zeroIs; kernel_rfl
theorem zeroIs_107 : zeroIs Tryz.prog 107 (.agg #[.int .i64 0, .int .i64 0, .int .i64 0]) := by unfold zeroIs; kernel_rfl
theorem cons_cong {a b : Nat × DO} {l m : DHeap} (h1 : a = b) (h2 : l = m) : a :: l = b :: m := by rw [h1, h2]
theorem sOpen (l : List Bx) (w : Int) (hw1 : ∀ b ∈ l, b.word.size ≤ 1000000) (hp : ∀ b ∈ l, b.pts.length ≤ 1000) (hps : ∀ b ∈ l, ∀ q ∈ b.pts, -1000000 ≤ q ∧ q ≤ 1000000) (hl : l.length ≤ 1000) : GCall Tryz.prog E 49 [DBxs l, .v (.int .i64 w)] [] (fun d H => d = .ipin (encPar l w) ∧ H = []) := by
 refine GCall.body (C := ⟨Tryz.prog, E, true⟩) Tryz.func49 rfl (fun _ => rfl) (by kernel_rfl) rfl ?_
 refine SCode.seqR (SOps.assign rfl (SOps.nil (SCode.seqR (SOps.move rfl (SOps.buildM placesB_102 zeroIs_102 rfl rfl ?_)))))
 refine SOps.boxA rfl rfl (fun d hd => List.all_eq_true.1 (show List.all _ DV.one = true from rfl) d hd) (fun b0 hb_0 => ?_)
 refine SOps.assign rfl (SOps.nil (SCode.seqR (SOps.assign rfl (SOps.nil (SCode.seq (SCode.seqR (SOps.move rfl (SOps.lenM rfl sliceB_33_111_2 (SOps.move rfl (SOps.nil (SCode.block (SCode.loop3 (fun (k : Nat) (kw : Nat) (kp : Nat) => (⟨90, [(0, DBxs l), (5, .ref b0 0), (6, .v (.int .i64 (((stB l k) : Nat) : Int))), (15, DBxs l), (16, .v (.int .i64 (l.length : Int))), (17, .v (.int .i64 (k : Int)))], [(b0, DO.row 102 3 [[accD 1 kw ((l.take k).map encRw), accD 3 kp ((q3 l k).map encP3), .v (.int .i64 w)]])] ++ (accH 94 1 kw ((l.take k).map encRw) ++ (accH 107 3 kp ((q3 l k).map encP3) ++ []))⟩ : St)) (fun (k : Nat) (kw : Nat) (kp : Nat) => k ≤ l.length) (fun (k : Nat) (kw : Nat) (kp : Nat) => l.length - k) (0) (0) (0) (by exact Nat.zero_le _) (St.Le.of ⟨rfl, rfl, rfl, rfl, rfl, rfl, trivial⟩ rfl rfl) ?_))))))))))))
 rintro k kw kp hkn
 refine SCode.seqR (SOps.bin rfl rfl rfl (SOps.nil (SCode.seq ?_)))
 refine SCode.cond rfl (fun hc1 => ?_) (fun hc1 => ?_)
 ·try simp only [nmL] at hc1
  refine SCode.skip ?_
  show SCode _ _ _ _
  refine SCode.seq (SCode.block (SCode.seqR (SOps.move rfl (SOps.indexM (k) rfl rfl sliceB_33_111_2 (by omega) (by omega) (SOps.loadPinA rfl aggB_111_2 (Nat.le_of_ble_eq_true rfl) ?_)))))
  refine SOps.alloc (sz := 2) zeroIs_111 (fun b1 hb_1 => ?_)
  refine SOps.assign rfl (SOps.storeAM 0 rfl rfl aggB_111_2 rfl (SOps.freezeRef (t := 8) 0 0 rfl rfl rfl rfl rfl (SOps.nil (SCode.seqR ?_))))
  have hkl : k < l.length := by omega
  have hsb := stB_le (l := l) (M := 1000000) (fun b hb => by have := runes_len b.word; have := hw1 b hb; unfold wlen; omega) k (by omega)
  have hss := stB_succ hkl
  have hpk := hp _ (List.getElem_mem hkl)
  have hqk := hps _ (List.getElem_mem hkl)
  have hwk := hw1 _ (List.getElem_mem hkl)
  have hrk := runes_len (l[k]).word
  have hln := ptsF_len l k (by omega) hp
  have hq3l := q3_len l k
  have hq0 : ((q3i l k ((l[k]).pts.take 0)).map encP3) = ((q3 l k).map encP3) ++ [encP3 (k, 0, (stB l k : Int))] := by rw [q3i, List.take_zero, List.map_append]; rfl
  have hwk2 : ((l.take (k + 1)).map encRw) = ((l.take k).map encRw) ++ [encRw (l[k])] := by rw [List.take_add_one, List.getElem?_eq_getElem hkl, List.map_append]; rfl
  refine SOps.fieldPin rfl fieldB_111_0_0 (SOps.loadPin rfl flatB_9 (SOps.runesF rfl rfl strB_9 sliceB_94_21_1 intB_21_i32 (SOps.assign rfl (SOps.nil (SCode.seqR (SOps.move rfl (SOps.move rfl (SOps.nilCheck rfl rfl (SOps.fieldRef rfl fieldB_102_0_0 (SOps.loadRef 0 0 0 rfl flatB_99 rfl rfl rfl rfl (SOps.move rfl (SOps.litF rfl sliceB_99_94_1 zeroIs_94 rfl ?_))))))))))))
  refine SOps.appendAcc [_] _ sliceB_99_94_1 elemB_94_1_24 rfl rfl rfl SrcD.isl (by simp) (by first | (simp [lenB] <;> (first | omega | (simp only [lenB] <;> omega))) | (simp only [lenB]; (first | omega | (simp only [lenB] <;> omega)))) (by first | (simp <;> (first | omega | (simp only [lenB] <;> omega))) | (first | omega | (simp only [lenB] <;> omega))) (fun b2 => ?_)
  refine SOps.nilCheck rfl rfl (SOps.fieldRef rfl fieldB_102_0_0 (SOps.store 0 0 0 rfl rfl oneB_99 rfl rfl rfl (by decide) (by first | rfl | exact accD_one _ _ _) (SOps.nil (SCode.seqR (SOps.move rfl (SOps.move rfl (SOps.nilCheck rfl rfl (SOps.fieldRef rfl fieldB_102_1_1 (SOps.loadRef 0 0 1 rfl flatB_100 rfl rfl rfl rfl (SOps.move rfl (SOps.move rfl (SOps.buildM placesB_107 zeroIs_107 rfl rfl (SOps.litF rfl sliceB_100_107_3 zeroIs_107 rfl ?_)))))))))))))
  refine SOps.appendAcc ([_] ++ accH 94 1 _ _) [] sliceB_100_107_3 elemB_107_3_24 rfl rfl (by exact (List.append_assoc [_] _ _).symm) SrcD.isl (by simp) (by first | (simp [lenB] <;> (first | omega | (simp only [lenB] <;> omega))) | (simp only [lenB]; (first | omega | (simp only [lenB] <;> omega)))) (by first | (simp <;> (first | omega | (simp only [lenB] <;> omega))) | (first | omega | (simp only [lenB] <;> omega))) (fun b3 => ?_)
  refine SOps.nilCheck rfl rfl (SOps.fieldRef rfl fieldB_102_1_1 (SOps.store 0 0 1 rfl rfl oneB_100 rfl rfl rfl (by decide) (by first | rfl | exact accD_one _ _ _) (SOps.nil (SCode.seq (SCode.seqR (SOps.fieldPin rfl fieldB_111_1_1 (SOps.loadPin rfl flatB_98 (SOps.lenM rfl sliceB_98_3_1 (SOps.move rfl (SOps.nil (SCode.block (SCode.loop2 (fun (i : Nat) (kq : Nat) => (⟨90, [(0, DBxs l), (5, .ref b0 0), (6, .v (.int .i64 (((stB l k) : Nat) : Int))), (7, .v (.int .i64 (k : Int))), (9, DRunes (runes (l[k]).word)), (15, DBxs l), (16, .v (.int .i64 (l.length : Int))), (17, .v (.int .i64 (k : Int))), (48, DInts (l[k]).pts), (49, .v (.int .i64 ((l[k]).pts.length : Int))), (50, .v (.int .i64 (i : Int)))], [(b0, DO.row 102 3 [[accD 1 b2 ((l.take (k + 1)).map encRw), accD 3 kq ((q3i l k ((l[k]).pts.take i)).map encP3), .v (.int .i64 w)]])] ++ (accH 94 1 b2 ((l.take (k + 1)).map encRw) ++ (accH 107 3 kq ((q3i l k ((l[k]).pts.take i)).map encP3) ++ []))⟩ : St)) (fun (i : Nat) (kq : Nat) => i ≤ (l[k]).pts.length) (fun (i : Nat) (kq : Nat) => (l[k]).pts.length - i) (0) (b3) (by exact Nat.zero_le _) (St.Le.of ⟨(by first | rfl | (show some _ = some _; rw [hq0] <;> rfl)), (by first | rfl | (show some _ = some _; rw [hq0] <;> rfl)), (by first | rfl | (show some _ = some _; rw [hq0] <;> rfl)), (by first | rfl | (show some _ = some _; rw [hq0] <;> rfl)), (by first | rfl | (show some _ = some _; rw [hq0] <;> rfl)), (by first | rfl | (show some _ = some _; rw [hq0] <;> rfl)), (by first | rfl | (show some _ = some _; rw [hq0] <;> rfl)), (by first | rfl | (show some _ = some _; rw [hq0] <;> rfl)), (by first | rfl | (show some _ = some _; rw [hq0] <;> rfl)), (by first | rfl | (show some _ = some _; rw [hq0] <;> rfl)), (by first | rfl | (show some _ = some _; rw [hq0] <;> rfl)), trivial⟩ rfl (by first | rfl | (rw [hwk2, hq0]; exact cons_cong rfl rfl))) ?_))))))))))))
  rintro i kq hi
  refine SCode.seqR (SOps.bin rfl rfl rfl (SOps.nil (SCode.seq ?_)))
  refine SCode.cond rfl (fun hc2 => ?_) (fun hc2 => ?_)
  ·try simp only [nmL] at hc2
   refine SCode.skip ?_
   show SCode _ _ _ _
   refine SCode.seq (SCode.block (SCode.seqR ?_))
   have hil : i < (l[k]).pts.length := by omega
   have hqi := hqk _ (List.getElem_mem hil)
   have hq3i := q3i_len l k ((l[k]).pts.take i)
   have hti : ((l[k]).pts.take i).length = i := by simp; omega
   have hsn := q3i_snoc (l := l) (k := k) hil
   refine SOps.indexM (i) rfl rfl sliceB_98_3_1 (by omega) (by omega) (SOps.loadPin rfl flatB_3 (SOps.assign rfl (SOps.nil (SCode.region (SOps.move rfl (SOps.move rfl (SOps.nilCheck rfl rfl (SOps.fieldRef rfl fieldB_102_1_1 (SOps.loadRef 0 0 1 rfl flatB_100 rfl rfl rfl rfl (SOps.move rfl (SOps.move rfl (SOps.move rfl (SOps.move rfl (SOps.addI rfl rfl (by omega) (by omega) (SOps.buildM placesB_107 zeroIs_107 rfl rfl (SOps.litF rfl sliceB_100_107_3 zeroIs_107 rfl ?_))))))))))))))))
   refine SOps.appendAcc ([_] ++ accH 94 1 _ _) [] sliceB_100_107_3 elemB_107_3_24 rfl rfl (by exact (List.append_assoc [_] _ _).symm) SrcD.isl (by simp) (by first | (simp [lenB] <;> (first | omega | (simp only [lenB] <;> omega))) | (simp only [lenB]; (first | omega | (simp only [lenB] <;> omega)))) (by first | (simp <;> (first | omega | (simp only [lenB] <;> omega))) | (first | omega | (simp only [lenB] <;> omega))) (fun b4 => ?_)
   refine SOps.nilCheck rfl rfl (SOps.fieldRef rfl fieldB_102_1_1 (SOps.store 0 0 1 rfl rfl oneB_100 rfl rfl rfl (by decide) (by first | rfl | exact accD_one _ _ _) (SOps.nil ?_)))
   show SCode _ _ _ _
   refine SCode.region (SOps.addI rfl rfl (by omega) (by omega) (SOps.move rfl (SOps.nil ?_)))
   exact ⟨i + 1, b4, by omega, by omega, St.Le.of ⟨rfl, rfl, rfl, rfl, rfl, rfl, rfl, rfl, rfl, rfl, rfl, trivial⟩ rfl (by rw [hsn] <;> rfl)⟩
  ·try simp only [nmL] at hc2
   refine SCode.exit ?_
   show SCode _ _ _ _
   refine SCode.region (SOps.move rfl (SOps.move rfl (SOps.lenM rfl sliceB_94_21_1 (SOps.addI rfl rfl (by omega) (by omega) (SOps.addI rfl rfl (by omega) (by omega) (SOps.assign rfl (SOps.nil ?_)))))))
   show SCode _ _ _ _
   refine SCode.region (SOps.addI rfl rfl (by omega) (by omega) (SOps.move rfl (SOps.nil ?_)))
   have hq9 : q3i l k ((l[k]).pts.take i) = q3 l (k + 1) := by rw [List.take_of_length_le (show (l[k]).pts.length ≤ i by omega), q3_succ hkl]
   exact ⟨k + 1, b2, kq, by omega, by omega, St.Le.of ⟨rfl, rfl, congrArg (fun z => some (DV.v (.int .i64 z))) (by rw [hss]; unfold wlen; omega), rfl, rfl, rfl, trivial⟩ rfl (by rw [← hq9]; exact cons_cong rfl rfl)⟩
 ·try simp only [nmL] at hc1
  refine SCode.exit ?_
  show SCode _ _ _ _
  refine SCode.seqR ?_
  have hq3l := q3_len l k
  have hln := ptsF_len l k (by omega) hp
  refine SOps.move rfl (SOps.move rfl (SOps.nilCheck rfl rfl (SOps.fieldRef rfl fieldB_102_1_1 (SOps.loadRef 0 0 1 rfl flatB_100 rfl rfl rfl rfl (SOps.move rfl (SOps.lenM rfl sliceB_33_111_2 (SOps.move rfl (SOps.buildM placesB_107 zeroIs_107 rfl rfl (SOps.litF rfl sliceB_100_107_3 zeroIs_107 rfl ?_)))))))))
  refine SOps.appendAcc ([_] ++ accH 94 1 _ _) [] sliceB_100_107_3 elemB_107_3_24 rfl rfl (by exact (List.append_assoc [_] _ _).symm) SrcD.isl (by simp) (by first | (simp [lenB] <;> (first | omega | (simp only [lenB] <;> omega))) | (simp only [lenB]; (first | omega | (simp only [lenB] <;> omega)))) (by first | (simp <;> (first | omega | (simp only [lenB] <;> omega))) | (first | omega | (simp only [lenB] <;> omega))) (fun b5 => ?_)
  refine SOps.nilCheck rfl rfl (SOps.fieldRef rfl fieldB_102_1_1 (SOps.store 0 0 1 rfl rfl oneB_100 rfl rfl rfl (by decide) (by first | rfl | exact accD_one _ _ _) (SOps.nil (SCode.seqR (SOps.freezePar (t := 5) rfl rfl rfl (SOps.move rfl (SOps.assign rfl (SOps.nil (SCode.drop (SCode.ret ?_))))))))))
  have hkk : k = l.length := by omega
  subst hkk
  exact ⟨_, Res.one (.tmp rfl), by rw [encPar, pts3_eq, List.map_append, List.take_length]; rfl, rfl⟩
end Go.GH
namespace Go.GH
open Go Go.Lib
def wAt (l : List Bx) (j : Nat) : List Int := match l[j]? with
  | some b => runes b.word
  | none => []
theorem wAt_lt {l : List Bx} {j : Nat} (h : j < l.length) : wAt l j = runes (l[j]).word := by
  unfold wAt; rw [List.getElem?_eq_getElem h]
/-- Whole words, from a up to w. -/
def wsA (l : List Bx) (a w : Nat) : List ByteArray := ((l.take w).drop a).map (fun b => encs (runes b.word))
theorem wsA_zero {l : List Bx} {a : Nat} : wsA l a a = [] := by
  unfold wsA
  rw [List.drop_eq_nil_of_le (by simp; omega)]; rfl
theorem wsA_succ {l : List Bx} {a w : Nat} (h1 : a ≤ w) (h2 : w < l.length) : wsA l a (w + 1) = wsA l a w ++ [encs (runes (l[w]).word)] := by
  unfold wsA
  rw [List.take_add_one, List.getElem?_eq_getElem h2, List.drop_append, List.map_append]
  have : a - (l.take w).length = 0 := by simp; omega
  rw [this]; rfl
theorem wsA_len {l : List Bx} {a w : Nat} (h2 : w ≤ l.length) : (wsA l a w).length = w - a := by
  unfold wsA; simp; omega
def wsB (l : List Bx) (a b : Nat × Int × Int) : List ByteArray := if 0 < b.2.1 then wsA l a.1 b.1 ++ [encs ((wAt l b.1).take b.2.1.toNat)] else wsA l a.1 b.1
def wsC (l : List Bx) (a b : Nat × Int × Int) : List ByteArray := if 0 < a.2.1 then (wsB l a b).set 0 (encs ((runes ((wsB l a b).getD 0 .empty)).drop a.2.1.toNat)) else wsB l a b
def lineP (l : List Bx) (i k : Nat) : Ln := ⟨wsC l (pt3 l i) (pt3 l k), decide (0 < (pt3 l k).2.1)⟩
/-- Between these points there is a line. -/
structure LineOK (l : List Bx) (a b : Nat × Int × Int) : Prop where
  le : a.1 ≤ b.1
  len : b.1 ≤ l.length
  hy : 0 < b.2.1 → b.1 < l.length ∧ b.2.1 ≤ ((wAt l b.1).length : Int)
  cut : 0 < a.2.1 → 0 < (wsB l a b).length ∧ a.2.1 ≤ ((runes ((wsB l a b).getD 0 .empty)).length : Int) ∧ (runes ((wsB l a b).getD 0 .empty)).length ≤ 1000000
end Go.GH
namespace Go.GH
open Go Go.Proofs
variable {E : Env}
theorem aggB_107_3 : aggB Tryz.prog 107 3 = true := by kernel_rfl
theorem fieldB_107_0_0 : fieldB Tryz.prog 107 0 0 = true := by kernel_rfl
theorem oneB_22 : oneB Tryz.prog 22 = true := by kernel_rfl
theorem oneB_4 : oneB Tryz.prog 4 = true := by kernel_rfl
theorem oneB_9 : oneB Tryz.prog 9 = true := by kernel_rfl
theorem sLine0 (l : List Bx) (w : Int) (i k : Nat) (hw1 : ∀ b ∈ l, b.word.size ≤ 1000000) (hl : l.length ≤ 1000) (hi : i < ptN l) (hk : k < ptN l) (hok : LineOK l (pt3 l i) (pt3 l k)) : GCall Tryz.prog E 85 [.ipin (encPar l w), .v (.int .i64 ((i : Nat) : Int)), .v (.int .i64 ((k : Nat) : Int))] [] (fun d H => d = .agg (encLn (lineP l i k))) := by
 have hi2 : i < (pts3 l).length := hi
 have hk2 : k < (pts3 l).length := hk
 have hni := pt3_lt hi2
 have hnk := pt3_lt hk2
 refine GCall.body (C := ⟨Tryz.prog, E, true⟩) Tryz.func85 rfl (fun _ => rfl) (by kernel_rfl) rfl ?_
 refine SCode.seqR ?_
 refine SOps.alloc (sz := 2) zeroIs_24 (fun b0 hb_0 => ?_)
 refine SOps.nil (SCode.seq ?_)
 apply SCode.drawG 19 [some 12, some 13, some 14, some 15, some 16, some 17, some 18, some 19, some 20, some 21, some 22, some 23, some 24, some 25, some 7, some 8, none, none] [[.inr 0], [.inl 0], [.inl 1], [.inl 2], [.inr 1], [.inl 3, .inl 4], [.inl 5], [.inr 0], [.inl 7], [.inl 8], [.inl 9], [.inr 2], [.inl 10, .inl 11], [.inl 12], [], [], [.inl 14, .inl 6], [.inl 15, .inl 13]] [[14, 16], [15, 17]] [none, none, none, none, none, none, none, none, none, none, none, none, none, none, some (0, 0), some (1, 0), some (0, 1), some (1, 1)] [[], [], [], [], [], [], [], [], [], [], [], [], [], [], [14], [15], [], []] ([(b0, DO.row 24 2 [[.v (.slice none 0 0), .v (.bool false)]])]) [⟨[14, 16], fun ids c => match c with | 0 => [] | 1 => [((ids.getD 0 0), .row 107 3 [[.v (.int .i64 0), .v (.int .i64 0), .v (.int .i64 0)]])] | _ => [((ids.getD 0 0), .row 107 3 [encP3 ((pts3 l)[i])])]⟩, ⟨[15, 17], fun ids c => match c with | 0 => [] | 1 => [((ids.getD 0 0), .row 107 3 [[.v (.int .i64 0), .v (.int .i64 0), .v (.int .i64 0)]])] | _ => [((ids.getD 0 0), .row 107 3 [encP3 ((pts3 l)[k])])]⟩] mixed_
 ·kernel_rfl
 ·rfl
 ·exact fun _ => .refl _
 ·apply GOk.rd 12
  ·rfl
  ·exact fun b => (NeedG.inr _ rfl NeedG.nil)
  ·intro b rest ext
   refine SOps.move rfl ?_
   exact SOps.nil rfl
  apply GOk.rd 13
  ·rfl
  ·exact fun b => (NeedG.inl 0 _ _ rfl rfl rfl NeedG.nil)
  ·intro b rest ext
   refine SOps.nilCheck rfl rfl ?_
   exact SOps.nil rfl
  apply GOk.rd 14
  ·rfl
  ·exact fun b => (NeedG.inl 0 _ _ rfl rfl rfl NeedG.nil)
  ·intro b rest ext
   refine SOps.fieldPin rfl fieldB_102_1_1 ?_
   exact SOps.nil rfl
  apply GOk.rd 15
  ·rfl
  ·exact fun b => (NeedG.inl 0 _ _ rfl rfl rfl NeedG.nil)
  ·intro b rest ext
   refine SOps.loadPin rfl flatB_100 ?_
   exact SOps.nil rfl
  apply GOk.rd 16
  ·rfl
  ·exact fun b => (NeedG.inr _ rfl NeedG.nil)
  ·intro b rest ext
   refine SOps.move rfl ?_
   exact SOps.nil rfl
  apply GOk.rd 17
  ·rfl
  ·exact fun b => (NeedG.inl 1 _ _ rfl rfl rfl (NeedG.inl 0 _ _ rfl rfl rfl NeedG.nil))
  ·intro b rest ext
   refine SOps.indexM (i) rfl rfl sliceB_100_107_3 (by omega) (by omega) ?_
   exact SOps.nil rfl
  apply GOk.rd 18
  ·rfl
  ·exact fun b => (NeedG.inl 0 _ _ rfl rfl rfl NeedG.nil)
  ·intro b rest ext
   refine SOps.loadPinA rfl aggB_107_3 (Nat.le_of_ble_eq_true rfl) ?_
   exact SOps.nil rfl
  apply GOk.rd 19
  ·rfl
  ·exact fun b => (NeedG.inr _ rfl NeedG.nil)
  ·intro b rest ext
   refine SOps.move rfl ?_
   exact SOps.nil rfl
  apply GOk.rd 20
  ·rfl
  ·exact fun b => (NeedG.inl 0 _ _ rfl rfl rfl NeedG.nil)
  ·intro b rest ext
   refine SOps.nilCheck rfl rfl ?_
   exact SOps.nil rfl
  apply GOk.rd 21
  ·rfl
  ·exact fun b => (NeedG.inl 0 _ _ rfl rfl rfl NeedG.nil)
  ·intro b rest ext
   refine SOps.fieldPin rfl fieldB_102_1_1 ?_
   exact SOps.nil rfl
  apply GOk.rd 22
  ·rfl
  ·exact fun b => (NeedG.inl 0 _ _ rfl rfl rfl NeedG.nil)
  ·intro b rest ext
   refine SOps.loadPin rfl flatB_100 ?_
   exact SOps.nil rfl
  apply GOk.rd 23
  ·rfl
  ·exact fun b => (NeedG.inr _ rfl NeedG.nil)
  ·intro b rest ext
   refine SOps.move rfl ?_
   exact SOps.nil rfl
  apply GOk.rd 24
  ·rfl
  ·exact fun b => (NeedG.inl 1 _ _ rfl rfl rfl (NeedG.inl 0 _ _ rfl rfl rfl NeedG.nil))
  ·intro b rest ext
   refine SOps.indexM (k) rfl rfl sliceB_100_107_3 (by omega) (by omega) ?_
   exact SOps.nil rfl
  apply GOk.rd 25
  ·rfl
  ·exact fun b => (NeedG.inl 0 _ _ rfl rfl rfl NeedG.nil)
  ·intro b rest ext
   refine SOps.loadPinA rfl aggB_107_3 (Nat.le_of_ble_eq_true rfl) ?_
   exact SOps.nil rfl
  apply GOk.act [14] (fun ids => some (7, .ref (ids.getD 0 0) 0))
  ·rfl
  ·rfl
  ·rfl
  ·exact fun b => NeedG.nil
  ·intro b rest ext
   refine SOps.alloc (sz := 3) zeroIs_107 (fun b1 hb_1 => ?_)
   exact SOps.nil ⟨fun k => if k = 14 then b1 else b k, fun k hk => if_neg hk, ⟨rfl, fun t d h => .inl h, _, List.perm_middle, .refl _⟩⟩
  apply GOk.act [15] (fun ids => some (8, .ref (ids.getD 0 0) 0))
  ·rfl
  ·rfl
  ·rfl
  ·exact fun b => NeedG.nil
  ·intro b rest ext
   refine SOps.alloc (sz := 3) zeroIs_107 (fun b2 hb_2 => ?_)
   exact SOps.nil ⟨fun k => if k = 15 then b2 else b k, fun k hk => if_neg hk, ⟨rfl, fun t d h => .inl h, _, List.perm_middle, .refl _⟩⟩
  apply GOk.act [] (fun _ => none)
  ·rfl
  ·rfl
  ·rfl
  ·exact fun b => (NeedG.inl 1 _ _ rfl rfl rfl (NeedG.inl 9 _ _ rfl rfl rfl NeedG.nil))
  ·intro b rest ext
   refine SOps.storeAM 1 rfl rfl aggB_107_3 rfl ?_
   exact SOps.nil ⟨b, fun _ _ => rfl, ⟨rfl, fun t d h => .inl h, _, .refl _, .refl _⟩⟩
  apply GOk.act [] (fun _ => none)
  ·rfl
  ·rfl
  ·rfl
  ·exact fun b => (NeedG.inl 1 _ _ rfl rfl rfl (NeedG.inl 3 _ _ rfl rfl rfl NeedG.nil))
  ·intro b rest ext
   refine SOps.storeAM 1 rfl rfl aggB_107_3 rfl ?_
   exact SOps.nil ⟨b, fun _ _ => rfl, ⟨rfl, fun t d h => .inl h, _, .refl _, .refl _⟩⟩
  exact GOk.nil
 ·exact fun _ => rfl
 ·intro ids
  show SCode _ _ _ _
  refine SCode.seqR (SOps.freezeRef (t := 7) 1 0 rfl rfl rfl rfl rfl (SOps.freezeRef (t := 8) 1 0 rfl rfl rfl rfl rfl ?_))
  obtain ⟨pa, hpa⟩ : ∃ x, (pts3 l)[i] = x := ⟨_, rfl⟩
  obtain ⟨pb, hpb⟩ : ∃ x, (pts3 l)[k] = x := ⟨_, rfl⟩
  refine SOps.reSlot (t := 7) rfl (show _ = DV.ipin (encP3 pa) by rw [← hpa]) (SOps.reSlot (t := 8) rfl (show _ = DV.ipin (encP3 pb) by rw [← hpb]) ?_)
  have hlp : lineP l i k = ⟨wsC l pa pb, decide (0 < pb.2.1)⟩ := by rw [lineP, hni, hnk, hpa, hpb]
  rw [hni, hnk, hpa, hpb] at hok
  obtain ⟨hle, hlen, hhy, hcut⟩ := hok
  refine SOps.alloc (sz := 2) zeroIs_24 (fun b9 hb_9 => ?_)
  refine SOps.swap01 (SOps.nil (SCode.seq (SCode.seqR (SOps.fieldPin rfl fieldB_107_0_0 (SOps.loadPin rfl flatB_3 (SOps.assign rfl (SOps.nil (SCode.block (SCode.loop2 (fun (u : Nat) (kw : Nat) => (⟨85, [(0, .ipin (encPar l w)), (6, .ref b0 0), (7, .ipin (encP3 pa)), (8, .ipin (encP3 pb)), (9, .ref b9 0), (10, .v (.int .i64 (u : Int)))], [(b0, DO.row 24 2 [[.v (.slice none 0 0), .v (.bool false)]])] ++ (((b9, DO.row 24 2 [[accD 1 kw ((wsA l pa.1 u).map encS), .v (.bool false)]]) :: accH 9 1 kw ((wsA l pa.1 u).map encS)) ++ [])⟩ : St)) (fun (u : Nat) (kw : Nat) => pa.1 ≤ u ∧ u ≤ pb.1) (fun (u : Nat) (kw : Nat) => pb.1 - u) (pa.1) (0) (by exact ⟨Nat.le_refl _, by omega⟩) (St.Le.of ⟨rfl, rfl, rfl, rfl, rfl, rfl, trivial⟩ rfl (by first | rfl | (rw [wsA_zero] <;> rfl))) ?_)))))))))
  rintro u kw ⟨hu1, hu2⟩
  refine SCode.seq (SCode.seqR (SOps.move rfl (SOps.fieldPin rfl fieldB_107_0_0 (SOps.loadPin rfl flatB_3 (SOps.bin rfl rfl rfl (SOps.nil ?_))))))
  refine SCode.cond rfl (fun hc1 => ?_) (fun hc1 => ?_)
  ·try simp only [nmL] at hc1
   refine SCode.skip ?_
   show SCode _ _ _ _
   refine SCode.seq (SCode.block ?_)
   have hul : u < l.length := by omega
   have hwu := hw1 _ (List.getElem_mem hul)
   have hru := runes_len (l[u]).word
   have hwl9 := wsA_len (l := l) (a := pa.1) (w := u) (by omega)
   have hsu := wsA_succ (l := l) (a := pa.1) (w := u) (by omega) hul
   have hse : ((wsA l pa.1 (u + 1)).map encS) = ((wsA l pa.1 u).map encS) ++ [encS (encs (runes (l[u]).word))] := by rw [hsu, List.map_append]; rfl
   apply SCode.drawG 15 [some 34, some 35, some 36, some 37, some 38, some 39, some 40, some 41, some 42, some 43, some 44, some 45, some 46, none] [[.inr 9], [.inl 0], [.inr 0], [.inl 2], [.inl 3], [.inl 4], [.inr 10], [.inl 5, .inl 6], [.inl 7], [.inl 8], [.inl 9], [.inl 1, .inl 10], [.inr 9], [.inl 12, .inl 11]] [[1, 11, 13]] [none, some (0, 0), none, none, none, none, none, none, none, none, none, some (0, 1), none, some (0, 2)] [[], [], [], [], [], [], [], [], [], [], [], [11], [], []] ([(b0, DO.row 24 2 [[.v (.slice none 0 0), .v (.bool false)]])]) [⟨[1, 11, 13], fun ids c => match c with | 0 => (b9, DO.row 24 2 [[accD 1 kw ((wsA l pa.1 u).map encS), .v (.bool false)]]) :: accH 9 1 kw ((wsA l pa.1 u).map encS) | 1 => (b9, DO.row 24 2 [[accD 1 kw ((wsA l pa.1 u).map encS), .v (.bool false)]]) :: accH 9 1 kw ((wsA l pa.1 u).map encS) | 2 => (b9, DO.row 24 2 [[accD 1 kw ((wsA l pa.1 u).map encS), .v (.bool false)]]) :: accH 9 1 (ids.getD 1 0) (((wsA l pa.1 u).map encS) ++ [encS (encs (runes (l[u]).word))]) | _ => (b9, DO.row 24 2 [[accD 1 (ids.getD 1 0) (((wsA l pa.1 u).map encS) ++ [encS (encs (runes (l[u]).word))]), .v (.bool false)]]) :: accH 9 1 (ids.getD 1 0) (((wsA l pa.1 u).map encS) ++ [encS (encs (runes (l[u]).word))])⟩] mixed_
   ·kernel_rfl
   ·rfl
   ·exact fun _ => .refl _
   ·apply GOk.rd 34
    ·rfl
    ·exact fun b => (NeedG.inr _ rfl NeedG.nil)
    ·intro b rest ext
     refine SOps.fieldRef rfl fieldB_24_0_0 ?_
     exact SOps.nil rfl
    apply GOk.act [] (fun ids => some (35, accD 1 kw ((wsA l pa.1 u).map encS)))
    ·rfl
    ·rfl
    ·rfl
    ·exact fun b => (NeedG.inl 0 _ _ rfl rfl rfl NeedG.nil)
    ·intro b rest ext
     refine SOps.loadRef 1 0 0 rfl flatB_22 rfl rfl rfl rfl ?_
     exact SOps.nil ⟨b, fun _ _ => rfl, ⟨rfl, fun t d h => .inl h, _, .refl _, .refl _⟩⟩
    apply GOk.rd 36
    ·rfl
    ·exact fun b => (NeedG.inr _ rfl NeedG.nil)
    ·intro b rest ext
     refine SOps.move rfl ?_
     exact SOps.nil rfl
    apply GOk.rd 37
    ·rfl
    ·exact fun b => (NeedG.inl 0 _ _ rfl rfl rfl NeedG.nil)
    ·intro b rest ext
     refine SOps.nilCheck rfl rfl ?_
     exact SOps.nil rfl
    apply GOk.rd 38
    ·rfl
    ·exact fun b => (NeedG.inl 0 _ _ rfl rfl rfl NeedG.nil)
    ·intro b rest ext
     refine SOps.fieldPin rfl fieldB_102_0_0 ?_
     exact SOps.nil rfl
    apply GOk.rd 39
    ·rfl
    ·exact fun b => (NeedG.inl 0 _ _ rfl rfl rfl NeedG.nil)
    ·intro b rest ext
     refine SOps.loadPin rfl flatB_99 ?_
     exact SOps.nil rfl
    apply GOk.rd 40
    ·rfl
    ·exact fun b => (NeedG.inr _ rfl NeedG.nil)
    ·intro b rest ext
     refine SOps.move rfl ?_
     exact SOps.nil rfl
    apply GOk.rd 41
    ·rfl
    ·exact fun b => (NeedG.inl 1 _ _ rfl rfl rfl (NeedG.inl 0 _ _ rfl rfl rfl NeedG.nil))
    ·intro b rest ext
     refine SOps.indexM (u) rfl rfl sliceB_99_94_1 (by omega) (by omega) ?_
     exact SOps.nil rfl
    apply GOk.rd 42
    ·rfl
    ·exact fun b => (NeedG.inl 0 _ _ rfl rfl rfl NeedG.nil)
    ·intro b rest ext
     refine SOps.loadPin rfl flatB_94 ?_
     exact SOps.nil rfl
    apply GOk.rd 43
    ·rfl
    ·exact fun b => (NeedG.inl 0 _ _ rfl rfl rfl NeedG.nil)
    ·intro b rest ext
     refine SOps.convRunesStr rfl sliceB_94_21_1 intB_21_i32 strB_9 (by simp [lenB] <;> (first | omega | (simp only [lenB] <;> omega))) ?_
     exact SOps.nil rfl
    apply GOk.rd 44
    ·rfl
    ·exact fun b => (NeedG.inl 0 _ _ rfl rfl rfl NeedG.nil)
    ·intro b rest ext
     refine SOps.litF rfl sliceB_22_9_1 zeroIs_9 rfl ?_
     exact SOps.nil rfl
    apply GOk.act [11] (fun ids => some (45, accD 1 (ids.getD 0 0) (((wsA l pa.1 u).map encS) ++ [encS (encs (runes (l[u]).word))])))
    ·rfl
    ·rfl
    ·rfl
    ·exact fun b => (NeedG.inl 9 _ _ rfl rfl rfl (NeedG.inl 0 _ _ rfl rfl rfl NeedG.nil))
    ·intro b rest ext
     refine SOps.appendAcc [_, _] _ sliceB_22_9_1 elemB_9_1_16 rfl rfl rfl SrcD.isl (by simp) (by first | (simp [lenB] <;> (first | omega | (simp only [lenB] <;> omega))) | (simp only [lenB]; (first | omega | (simp only [lenB] <;> omega)))) (by first | (simp <;> (first | omega | (simp only [lenB] <;> omega))) | (first | omega | (simp only [lenB] <;> omega))) (fun b4 => ?_)
     exact SOps.nil ⟨fun k => if k = 11 then b4 else b k, fun k hk => if_neg hk, ⟨rfl, fun t d h => .inl h, _, .refl _, .refl _⟩⟩
    apply GOk.rd 46
    ·rfl
    ·exact fun b => (NeedG.inr _ rfl NeedG.nil)
    ·intro b rest ext
     refine SOps.fieldRef rfl fieldB_24_0_0 ?_
     exact SOps.nil rfl
    apply GOk.act [] (fun _ => none)
    ·rfl
    ·rfl
    ·rfl
    ·exact fun b => (NeedG.inl 0 _ _ rfl rfl rfl (NeedG.inl 1 _ _ rfl rfl rfl NeedG.nil))
    ·intro b rest ext
     refine SOps.store 1 0 0 rfl rfl oneB_22 rfl rfl rfl (by decide) (by first | rfl | exact accD_one _ _ _) ?_
     exact SOps.nil ⟨b, fun _ _ => rfl, ⟨rfl, fun t d h => .inl h, _, .refl _, .refl _⟩⟩
    exact GOk.nil
   ·exact fun _ => rfl
   ·intro ids
    show SCode _ _ _ _
    refine SCode.region (SOps.move rfl (SOps.addI rfl rfl (by omega) (by omega) (SOps.assign rfl (SOps.nil ?_))))
    exact ⟨u + 1, ids 11, ⟨by omega, by omega⟩, by omega, St.Le.of ⟨rfl, rfl, rfl, rfl, rfl, rfl, trivial⟩ rfl (by rw [hse] <;> rfl)⟩
  ·try simp only [nmL] at hc1
   refine SCode.exit ?_
   show SCode _ _ _ _
   refine SCode.seqJ (fun (kw : Nat) => (⟨85, [(0, .ipin (encPar l w)), (6, .ref b0 0), (7, .ipin (encP3 pa)), (8, .ipin (encP3 pb)), (9, .ref b9 0)], [(b0, DO.row 24 2 [[.v (.slice none 0 0), .v (.bool false)]])] ++ (((b9, DO.row 24 2 [[accD 1 kw ((wsB l pa pb).map encS), .v (.bool (decide (0 < pb.2.1)))]]) :: accH 9 1 kw ((wsB l pa pb).map encS)) ++ [])⟩ : St)) ?_ ?_
   ·refine SCode.seqR ?_
    obtain rfl : u = pb.1 := by omega
    refine SOps.fieldPin rfl fieldB_107_1_1 (SOps.loadPin rfl flatB_3 (SOps.bin rfl rfl rfl (SOps.nil ?_)))
    refine SCode.cond rfl (fun hc2 => ?_) (fun hc2 => ?_)
    ·try simp only [nmL] at hc2
     refine SCode.seq ?_
     obtain ⟨hbl, hbo⟩ := hhy (by omega)
     rw [wAt_lt hbl] at hbo
     have hwb9 := hw1 _ (List.getElem_mem hbl)
     have hrb9 := runes_len (l[pb.1]).word
     have hwl9 := wsA_len (l := l) (a := pa.1) (w := pb.1) (by omega)
     have hwB : ((wsB l pa pb).map encS) = (((wsA l pa.1 pb.1).map encS) ++ [encS (encs ((runes (l[pb.1]).word).take pb.2.1.toNat))]) := by rw [wsB, if_pos (by omega), wAt_lt hbl, List.map_append]; rfl
     have hyB : decide (0 < pb.2.1) = true := decide_eq_true (by omega)
     have htk9 : ((runes (l[pb.1]).word).take pb.2.1.toNat).length ≤ 1000000 := by simp; omega
     apply SCode.drawG 19 [some 50, some 51, some 52, some 53, some 54, some 55, some 56, some 57, some 58, some 59, some 60, some 61, some 62, some 63, some 64, some 65, some 66, none] [[.inr 9], [.inl 0], [.inr 0], [.inl 2], [.inl 3], [.inl 4], [.inr 8], [.inl 6], [.inl 5, .inl 7], [.inl 8], [.inr 8], [.inl 10], [.inl 9, .inl 11], [.inl 12], [.inl 13], [.inl 1, .inl 14], [.inr 9], [.inl 16, .inl 15]] [[1, 15, 17]] [none, some (0, 0), none, none, none, none, none, none, none, none, none, none, none, none, none, some (0, 1), none, some (0, 2)] [[], [], [], [], [], [], [], [], [], [], [], [], [], [], [], [15], [], []] ([(b0, DO.row 24 2 [[.v (.slice none 0 0), .v (.bool false)]])]) [⟨[1, 15, 17], fun ids c => match c with | 0 => (b9, DO.row 24 2 [[accD 1 kw ((wsA l pa.1 pb.1).map encS), .v (.bool false)]]) :: accH 9 1 kw ((wsA l pa.1 pb.1).map encS) | 1 => (b9, DO.row 24 2 [[accD 1 kw ((wsA l pa.1 pb.1).map encS), .v (.bool false)]]) :: accH 9 1 kw ((wsA l pa.1 pb.1).map encS) | 2 => (b9, DO.row 24 2 [[accD 1 kw ((wsA l pa.1 pb.1).map encS), .v (.bool false)]]) :: accH 9 1 (ids.getD 1 0) (((wsA l pa.1 pb.1).map encS) ++ [encS (encs ((runes (l[pb.1]).word).take pb.2.1.toNat))]) | _ => (b9, DO.row 24 2 [[accD 1 (ids.getD 1 0) (((wsA l pa.1 pb.1).map encS) ++ [encS (encs ((runes (l[pb.1]).word).take pb.2.1.toNat))]), .v (.bool false)]]) :: accH 9 1 (ids.getD 1 0) (((wsA l pa.1 pb.1).map encS) ++ [encS (encs ((runes (l[pb.1]).word).take pb.2.1.toNat))])⟩] mixed_
     ·kernel_rfl
     ·rfl
     ·exact fun _ => .refl _
     ·apply GOk.rd 50
      ·rfl
      ·exact fun b => (NeedG.inr _ rfl NeedG.nil)
      ·intro b rest ext
       refine SOps.fieldRef rfl fieldB_24_0_0 ?_
       exact SOps.nil rfl
      apply GOk.act [] (fun ids => some (51, accD 1 kw ((wsA l pa.1 pb.1).map encS)))
      ·rfl
      ·rfl
      ·rfl
      ·exact fun b => (NeedG.inl 0 _ _ rfl rfl rfl NeedG.nil)
      ·intro b rest ext
       refine SOps.loadRef 1 0 0 rfl flatB_22 rfl rfl rfl rfl ?_
       exact SOps.nil ⟨b, fun _ _ => rfl, ⟨rfl, fun t d h => .inl h, _, .refl _, .refl _⟩⟩
      apply GOk.rd 52
      ·rfl
      ·exact fun b => (NeedG.inr _ rfl NeedG.nil)
      ·intro b rest ext
       refine SOps.move rfl ?_
       exact SOps.nil rfl
      apply GOk.rd 53
      ·rfl
      ·exact fun b => (NeedG.inl 0 _ _ rfl rfl rfl NeedG.nil)
      ·intro b rest ext
       refine SOps.nilCheck rfl rfl ?_
       exact SOps.nil rfl
      apply GOk.rd 54
      ·rfl
      ·exact fun b => (NeedG.inl 0 _ _ rfl rfl rfl NeedG.nil)
      ·intro b rest ext
       refine SOps.fieldPin rfl fieldB_102_0_0 ?_
       exact SOps.nil rfl
      apply GOk.rd 55
      ·rfl
      ·exact fun b => (NeedG.inl 0 _ _ rfl rfl rfl NeedG.nil)
      ·intro b rest ext
       refine SOps.loadPin rfl flatB_99 ?_
       exact SOps.nil rfl
      apply GOk.rd 56
      ·rfl
      ·exact fun b => (NeedG.inr _ rfl NeedG.nil)
      ·intro b rest ext
       refine SOps.fieldPin rfl fieldB_107_0_0 ?_
       exact SOps.nil rfl
      apply GOk.rd 57
      ·rfl
      ·exact fun b => (NeedG.inl 0 _ _ rfl rfl rfl NeedG.nil)
      ·intro b rest ext
       refine SOps.loadPin rfl flatB_3 ?_
       exact SOps.nil rfl
      apply GOk.rd 58
      ·rfl
      ·exact fun b => (NeedG.inl 2 _ _ rfl rfl rfl (NeedG.inl 0 _ _ rfl rfl rfl NeedG.nil))
      ·intro b rest ext
       refine SOps.indexM (pb.1) rfl rfl sliceB_99_94_1 (by omega) (by omega) ?_
       exact SOps.nil rfl
      apply GOk.rd 59
      ·rfl
      ·exact fun b => (NeedG.inl 0 _ _ rfl rfl rfl NeedG.nil)
      ·intro b rest ext
       refine SOps.loadPin rfl flatB_94 ?_
       exact SOps.nil rfl
      apply GOk.rd 60
      ·rfl
      ·exact fun b => (NeedG.inr _ rfl NeedG.nil)
      ·intro b rest ext
       refine SOps.fieldPin rfl fieldB_107_1_1 ?_
       exact SOps.nil rfl
      apply GOk.rd 61
      ·rfl
      ·exact fun b => (NeedG.inl 0 _ _ rfl rfl rfl NeedG.nil)
      ·intro b rest ext
       refine SOps.loadPin rfl flatB_3 ?_
       exact SOps.nil rfl
      apply GOk.rd 62
      ·rfl
      ·exact fun b => (NeedG.inl 2 _ _ rfl rfl rfl (NeedG.inl 0 _ _ rfl rfl rfl NeedG.nil))
      ·intro b rest ext
       refine SOps.sliceT (n1 := 0) (pb.2.1.toNat) sliceB_94_21_1 rfl rfl (by omega) (by omega) ?_
       exact SOps.nil rfl
      apply GOk.rd 63
      ·rfl
      ·exact fun b => (NeedG.inl 0 _ _ rfl rfl rfl NeedG.nil)
      ·intro b rest ext
       refine SOps.convRunesStr rfl sliceB_94_21_1 intB_21_i32 strB_9 (by simp [lenB] <;> (first | omega | (simp only [lenB] <;> omega))) ?_
       exact SOps.nil rfl
      apply GOk.rd 64
      ·rfl
      ·exact fun b => (NeedG.inl 0 _ _ rfl rfl rfl NeedG.nil)
      ·intro b rest ext
       refine SOps.litF rfl sliceB_22_9_1 zeroIs_9 rfl ?_
       exact SOps.nil rfl
      apply GOk.act [15] (fun ids => some (65, accD 1 (ids.getD 0 0) (((wsA l pa.1 pb.1).map encS) ++ [encS (encs ((runes (l[pb.1]).word).take pb.2.1.toNat))])))
      ·rfl
      ·rfl
      ·rfl
      ·exact fun b => (NeedG.inl 13 _ _ rfl rfl rfl (NeedG.inl 0 _ _ rfl rfl rfl NeedG.nil))
      ·intro b rest ext
       refine SOps.appendAcc [_, _] _ sliceB_22_9_1 elemB_9_1_16 rfl rfl rfl SrcD.isl (by simp) (by first | (simp [lenB] <;> (first | omega | (simp only [lenB] <;> omega))) | (simp only [lenB]; (first | omega | (simp only [lenB] <;> omega)))) (by first | (simp <;> (first | omega | (simp only [lenB] <;> omega))) | (first | omega | (simp only [lenB] <;> omega))) (fun b5 => ?_)
       exact SOps.nil ⟨fun k => if k = 15 then b5 else b k, fun k hk => if_neg hk, ⟨rfl, fun t d h => .inl h, _, .refl _, .refl _⟩⟩
      apply GOk.rd 66
      ·rfl
      ·exact fun b => (NeedG.inr _ rfl NeedG.nil)
      ·intro b rest ext
       refine SOps.fieldRef rfl fieldB_24_0_0 ?_
       exact SOps.nil rfl
      apply GOk.act [] (fun _ => none)
      ·rfl
      ·rfl
      ·rfl
      ·exact fun b => (NeedG.inl 0 _ _ rfl rfl rfl (NeedG.inl 1 _ _ rfl rfl rfl NeedG.nil))
      ·intro b rest ext
       refine SOps.store 1 0 0 rfl rfl oneB_22 rfl rfl rfl (by decide) (by first | rfl | exact accD_one _ _ _) ?_
       exact SOps.nil ⟨b, fun _ _ => rfl, ⟨rfl, fun t d h => .inl h, _, .refl _, .refl _⟩⟩
      exact GOk.nil
     ·exact fun _ => rfl
     ·intro ids
      show SCode _ _ _ _
      refine SCode.region (SOps.fieldRef rfl fieldB_24_1_1 (SOps.store 1 0 1 rfl rfl oneB_4 rfl rfl rfl (by decide) (by first | rfl | exact accD_one _ _ _) (SOps.nil ?_)))
      first
       | exact ⟨ids 15, St.Le.of ⟨rfl, rfl, rfl, rfl, rfl, trivial⟩ rfl (by rw [hwB, hyB] <;> rfl)⟩
       | exact ⟨kw, St.Le.of ⟨rfl, rfl, rfl, rfl, rfl, trivial⟩ rfl (by rw [show wsB l pa pb = wsA l pa.1 pb.1 from if_neg (by omega), decide_eq_false (by omega)] <;> rfl)⟩
    ·try simp only [nmL] at hc2
     refine SCode.skip ?_
     first
      | exact ⟨ids 15, St.Le.of ⟨rfl, rfl, rfl, rfl, rfl, trivial⟩ rfl (by rw [hwB, hyB] <;> rfl)⟩
      | exact ⟨kw, St.Le.of ⟨rfl, rfl, rfl, rfl, rfl, trivial⟩ rfl (by rw [show wsB l pa pb = wsA l pa.1 pb.1 from if_neg (by omega), decide_eq_false (by omega)] <;> rfl)⟩
   ·intro kw
    refine SCode.seqJ (fun (_ : Nat) => (⟨85, [(6, .ref b0 0), (9, .ref b9 0)], [(b0, DO.row 24 2 [[.v (.slice none 0 0), .v (.bool false)]])] ++ (((b9, DO.row 24 2 [[accD 1 kw ((wsC l pa pb).map encS), .v (.bool (decide (0 < pb.2.1)))]]) :: accH 9 1 kw ((wsC l pa pb).map encS)) ++ [])⟩ : St)) ?_ ?_
    ·refine SCode.seqR (SOps.fieldPin rfl fieldB_107_1_1 (SOps.loadPin rfl flatB_3 (SOps.bin rfl rfl rfl (SOps.nil ?_))))
     refine SCode.cond rfl (fun hc3 => ?_) (fun hc3 => ?_)
     ·try simp only [nmL] at hc3
      refine SCode.seqR ?_
      obtain ⟨hcl, hco⟩ := hcut (by omega)
      obtain ⟨w0, ws9, hW⟩ : ∃ w0 ws9, wsB l pa pb = w0 :: ws9 := by cases hq : wsB l pa pb with | nil => (rw [hq] at hcl; simp at hcl) | cons a b => exact ⟨a, b, rfl⟩
      rw [hW] at hco
      have hco2 : pa.2.1 ≤ ((runes ((w0 :: ws9)[0])).length : Int) := hco.1
      have hco3 : (runes ((w0 :: ws9)[0])).length ≤ 1000000 := hco.2
      have hco5 : (runes w0).length ≤ 1000000 := hco.2
      have hco4 : ((runes ((w0 :: ws9)[0])).drop pa.2.1.toNat).length ≤ 1000000 := by rw [List.length_drop]; omega
      rw [hW]
      refine SOps.reHeap (H' := [(b0, DO.row 24 2 [[.v (.slice none 0 0), .v (.bool false)]]), (b9, DO.row 24 2 [[accD 1 kw ((w0 :: ws9).map encS), .v (.bool (decide (0 < pb.2.1)))]]), (kw, .row 9 1 ((w0 :: ws9).map encS))]) rfl (SOps.fieldRef rfl fieldB_24_0_0 (SOps.loadRef 1 0 0 rfl flatB_22 rfl rfl rfl rfl (SOps.indexS (0) rfl rfl sliceB_22_9_1 (by omega) (by omega) (SOps.loadK 2 (0) rfl flatB_9 rfl (by first | omega | (simp only [lenB] <;> omega)) (by first | omega | (simp; done) | (simp; omega)) rfl (SOps.runesF rfl rfl strB_9 sliceB_94_21_1 intB_21_i32 (SOps.assign rfl (SOps.nil ?_)))))))
      apply SCode.drawG 10 [some 76, some 77, some 78, some 79, some 80, some 81, some 82, some 83, none] [[.inr 9], [.inl 0], [.inr 11], [.inr 7], [.inl 3], [.inl 2, .inl 4], [.inl 5], [.inl 1], [.inl 7, .inl 6]] [[8]] [none, none, none, none, none, none, none, none, some (0, 0)] [[], [], [], [], [], [], [], [], []] ([(b0, DO.row 24 2 [[.v (.slice none 0 0), .v (.bool false)]]), (b9, DO.row 24 2 [[accD 1 kw ((w0 :: ws9).map encS), .v (.bool (decide (0 < pb.2.1)))]])]) [⟨[8], fun ids c => match c with | 0 => [(kw, .row 9 1 ((w0 :: ws9).map encS))] | _ => [(kw, .row 9 1 (((w0 :: ws9).set 0 (encs ((runes w0).drop pa.2.1.toNat))).map encS))]⟩] mixed_
      ·kernel_rfl
      ·rfl
      ·exact fun _ => .refl _
      ·apply GOk.rd 76
       ·rfl
       ·exact fun b => (NeedG.inr _ rfl NeedG.nil)
       ·intro b rest ext
        refine SOps.fieldRef rfl fieldB_24_0_0 ?_
        exact SOps.nil rfl
       apply GOk.rd 77
       ·rfl
       ·exact fun b => (NeedG.inl 0 _ _ rfl rfl rfl NeedG.nil)
       ·intro b rest ext
        refine SOps.loadRef 1 0 0 rfl flatB_22 rfl rfl rfl rfl ?_
        exact SOps.nil rfl
       apply GOk.rd 78
       ·rfl
       ·exact fun b => (NeedG.inr _ rfl NeedG.nil)
       ·intro b rest ext
        refine SOps.move rfl ?_
        exact SOps.nil rfl
       apply GOk.rd 79
       ·rfl
       ·exact fun b => (NeedG.inr _ rfl NeedG.nil)
       ·intro b rest ext
        refine SOps.fieldPin rfl fieldB_107_1_1 ?_
        exact SOps.nil rfl
       apply GOk.rd 80
       ·rfl
       ·exact fun b => (NeedG.inl 0 _ _ rfl rfl rfl NeedG.nil)
       ·intro b rest ext
        refine SOps.loadPin rfl flatB_3 ?_
        exact SOps.nil rfl
       apply GOk.rd 81
       ·rfl
       ·exact fun b => (NeedG.inl 2 _ _ rfl rfl rfl (NeedG.inl 0 _ _ rfl rfl rfl NeedG.nil))
       ·intro b rest ext
        refine SOps.sliceD (n1 := 0) (pa.2.1.toNat) sliceB_94_21_1 rfl rfl (by omega) (by omega) ?_
        exact SOps.nil rfl
       apply GOk.rd 82
       ·rfl
       ·exact fun b => (NeedG.inl 0 _ _ rfl rfl rfl NeedG.nil)
       ·intro b rest ext
        refine SOps.convRunesStr rfl sliceB_94_21_1 intB_21_i32 strB_9 (by simp [lenB] <;> (first | omega | (simp only [lenB] <;> omega))) ?_
        exact SOps.nil rfl
       apply GOk.rd 83
       ·rfl
       ·exact fun b => (NeedG.inl 5 _ _ rfl rfl rfl NeedG.nil)
       ·intro b rest ext
        refine SOps.indexS (0) rfl rfl sliceB_22_9_1 (by omega) (by omega) ?_
        exact SOps.nil rfl
       apply GOk.act [] (fun _ => none)
       ·rfl
       ·rfl
       ·rfl
       ·exact fun b => (NeedG.inl 0 _ _ rfl rfl rfl (NeedG.inl 1 _ _ rfl rfl rfl NeedG.nil))
       ·intro b rest ext
        refine SOps.storeK 2 (0) (v := (encs ((runes w0).drop pa.2.1.toNat))) rfl rfl oneB_9 rfl (by first | omega | (simp only [lenB] <;> omega)) (by first | omega | (simp; done) | (simp; omega)) rfl (fun _ => rfl) ?_
        exact SOps.nil ⟨b, fun _ _ => rfl, ⟨rfl, fun t d h => .inl h, _, .refl _, .refl _⟩⟩
       exact GOk.nil
      ·exact fun _ => rfl
      ·intro ids
       first
        | exact ⟨0, St.Le.of ⟨rfl, rfl, trivial⟩ rfl (by rw [show wsC l pa pb = wsB l pa pb from if_neg (by omega)] <;> rfl)⟩
        | exact ⟨0, St.Le.of ⟨rfl, rfl, trivial⟩ rfl (by rw [show wsC l pa pb = ((w0 :: ws9).set 0 (encs ((runes w0).drop pa.2.1.toNat))) from by rw [wsC, if_pos (by omega), hW]; rfl] <;> rfl)⟩
     ·try simp only [nmL] at hc3
      refine SCode.skip ?_
      first
       | exact ⟨0, St.Le.of ⟨rfl, rfl, trivial⟩ rfl (by rw [show wsC l pa pb = wsB l pa pb from if_neg (by omega)] <;> rfl)⟩
       | exact ⟨0, St.Le.of ⟨rfl, rfl, trivial⟩ rfl (by rw [show wsC l pa pb = ((w0 :: ws9).set 0 (encs ((runes w0).drop pa.2.1.toNat))) from by rw [wsC, if_pos (by omega), hW]; rfl] <;> rfl)⟩
    ·intro _
     refine SCode.seqR (SOps.freezeAccIn rfl rfl (SOps.loadRefA 1 0 0 rfl aggB_24_2 rfl rfl rfl (Nat.le_of_ble_eq_true rfl) (SOps.storeAM 0 rfl rfl aggB_24_2 rfl (SOps.nil (SCode.ret ?_)))))
     exact ⟨_, Res.one (.agg (i := 0) (k := 0) (j := 0) rfl aggB_24_2 rfl rfl rfl (Nat.le_of_ble_eq_true rfl)), by rw [hlp] <;> rfl⟩
end Go.GH
namespace Go.GH
open Go Go.Lib
def ltP (x y : Nat × Int) : Prop := x.1 < y.1 ∨ (x.1 = y.1 ∧ x.2 < y.2)
def PtOK (l : List Bx) (x : Nat × Int) : Prop := x.1 < l.length ∧ 0 ≤ x.2 ∧ x.2 < ((wAt l x.1).length : Int)
theorem encs_size4 (rs : List Int) : (encs rs).size ≤ 4 * rs.length := by
  induction rs with
  | nil => exact Nat.le_refl 0
  | cons r rs ih =>
    have := encode_size r
    show (Utf8.encode r ++ encs rs).size ≤ _
    rw [ByteArray.size_append, List.length_cons]
    omega
theorem boxB_pts {b : Bx} (h : boxB b = true) : (∀ q ∈ b.pts, 1 ≤ q ∧ q < (wlen b.word : Int)) ∧ b.pts.Pairwise (· < ·) := by
  obtain ⟨h1, h2, h3⟩ := boxB_iff.1 h
  refine ⟨fun q hq => ?_, ?_⟩
  · obtain ⟨i, hi, rfl⟩ := List.mem_iff_getElem.1 hq
    have := (ptB_at hi).1 (h3 i hi)
    exact ⟨this.1, this.2.1⟩
  · rw [List.pairwise_iff_getElem]
    intro i j hi hj hij
    induction j with
    | zero => omega
    | succ j ih =>
      have hj1 : j < b.pts.length := by omega
      have h5 := ((ptB_at hj).1 (h3 (j + 1) hj)).2.2
      have h6 : b.pts[j] < b.pts[j + 1] := by
        rcases h5 with h5 | ⟨h6, h5⟩
        · omega
        · exact h5
      rcases Nat.lt_or_ge i j with h7 | h7
      · have := ih hj1 h7; omega
      · obtain rfl : i = j := by omega
        exact h6
theorem pairwise_len {n : Int} : ∀ {l : List Int} {a : Int}, (∀ q ∈ l, a < q ∧ q < n) → l.Pairwise (· < ·) → a < n → (l.length : Int) < n - a
  | [], a, _, _, h => by simp; omega
  | q :: l, a, h1, h2, _ => by
    have hq := h1 q (List.mem_cons_self ..)
    have := pairwise_len (l := l) (a := q) (fun x hx => ⟨(List.pairwise_cons.1 h2).1 x hx, (h1 x (List.mem_cons_of_mem _ hx)).2⟩) (List.pairwise_cons.1 h2).2 hq.2
    rw [List.length_cons]; omega
/-- What is bounded in valid boxes. -/
structure Bnds (l : List Bx) : Prop where
  len : l.length ≤ 200
  word : ∀ b ∈ l, b.word.size ≤ 800
  wlen : ∀ b ∈ l, wlen b.word ≤ 200
  pts : ∀ b ∈ l, b.pts.length ≤ 200
  pos : ∀ b ∈ l, ∀ q ∈ b.pts, 1 ≤ q ∧ q ≤ 200
  cor : ∀ b ∈ l, encs (runes b.word) = b.word
theorem bnds_of {l : List Bx} (h : boxesB l = true) : Bnds l := by
  obtain ⟨h1, h2⟩ := boxesB_iff.1 h
  have hw : ∀ b ∈ l, encs (runes b.word) = b.word := fun b hb => (utf8R_iff _).1 (wordB_iff.1 (boxB_iff.1 (h2 b hb)).1).2.1
  refine ⟨h1, fun b hb => ?_, fun b hb => (boxB_iff.1 (h2 b hb)).2.1, fun b hb => ?_, fun b hb q hq => ?_, hw⟩
  · have h3 := encs_size4 (runes b.word)
    rw [hw b hb] at h3
    have := (boxB_iff.1 (h2 b hb)).2.1
    unfold Go.GH.wlen at this; omega
  · have h3 := boxB_pts (h2 b hb)
    have h4 := (boxB_iff.1 (h2 b hb)).2.1
    rcases Nat.eq_zero_or_pos b.pts.length with h0 | h0
    · omega
    · have h5 := h3.1 _ (List.getElem_mem h0)
      have := pairwise_len (a := 0) (fun q hq => ⟨by have := (h3.1 q hq).1; omega, (h3.1 q hq).2⟩) h3.2 (by omega)
      omega
  · have h3 := (boxB_pts (h2 b hb)).1 q hq
    have h4 := (boxB_iff.1 (h2 b hb)).2.1
    omega
theorem ptsF_ok {l : List Bx} (h : boxesB l = true) : ∀ k, k ≤ l.length → (∀ x ∈ ptsF (l.take k), x.1 < k ∧ PtOK l x) ∧ (ptsF (l.take k)).Pairwise ltP
  | 0, _ => by rw [List.take_zero]; exact ⟨fun x hx => by simp [ptsF] at hx, List.Pairwise.nil⟩
  | k + 1, hk => by
    have hkl : k < l.length := by omega
    obtain ⟨ih1, ih2⟩ := ptsF_ok h k (by omega)
    have hb := (boxesB_iff.1 h).2 _ (List.getElem_mem hkl)
    obtain ⟨hp1, hp2⟩ := boxB_pts hb
    have hne : 0 < wlen (l[k]).word := by
      rcases Nat.eq_zero_or_pos (wlen (l[k]).word) with h0 | h0
      · have h3 := (bnds_of h).cor _ (List.getElem_mem hkl)
        have h4 : runes (l[k]).word = [] := List.length_eq_zero_iff.1 h0
        rw [h4] at h3
        exact absurd h3.symm (wordB_iff.1 (boxB_iff.1 hb).1).1
      · exact h0
    rw [ptsF_take hkl]
    have hwk : wAt l k = runes (l[k]).word := wAt_lt hkl
    have hnew : ∀ x ∈ (k, (0 : Int)) :: (l[k]).pts.map (fun q => (k, q)), x.1 = k ∧ PtOK l x := fun x hx => by
      rcases List.mem_cons.1 hx with rfl | hx
      · exact ⟨rfl, hkl, Int.le_refl _, by rw [hwk]; unfold wlen at hne; show (0 : Int) < _; omega⟩
      · obtain ⟨q, hq, rfl⟩ := List.mem_map.1 hx
        have := hp1 q hq
        exact ⟨rfl, hkl, by show (0 : Int) ≤ q; omega, by rw [hwk]; exact this.2⟩
    refine ⟨fun x hx => ?_, ?_⟩
    · rcases List.mem_append.1 hx with hx | hx
      · exact ⟨by have := (ih1 x hx).1; omega, (ih1 x hx).2⟩
      · exact ⟨by have := (hnew x hx).1; omega, (hnew x hx).2⟩
    · refine List.pairwise_append.2 ⟨ih2, ?_, fun x hx y hy => .inl (by rw [(hnew y hy).1]; exact (ih1 x hx).1)⟩
      refine List.pairwise_cons.2 ⟨fun y hy => ?_, ?_⟩
      · obtain ⟨q, hq, rfl⟩ := List.mem_map.1 hy
        exact .inr ⟨rfl, by have := (hp1 q hq).1; show (0 : Int) < q; omega⟩
      · rw [List.pairwise_map]
        exact hp2.imp (fun h => .inr ⟨rfl, h⟩)
theorem pointsL_ok {l : List Bx} (h : boxesB l = true) : (∀ x ∈ pointsL l, PtOK l x ∨ x = (l.length, 0)) ∧ (pointsL l).Pairwise ltP := by
  have h1 := ptsF_ok h l.length (Nat.le_refl _)
  rw [List.take_length] at h1
  unfold pointsL
  refine ⟨fun x hx => ?_, List.pairwise_append.2 ⟨h1.2, List.pairwise_singleton .., fun x hx y hy => ?_⟩⟩
  · rcases List.mem_append.1 hx with hx | hx
    · exact .inl (h1.1 x hx).2
    · exact .inr (List.mem_singleton.1 hx)
  · rw [List.mem_singleton.1 hy]
    exact .inl (h1.1 x hx).1
theorem ptN_eq (l : List Bx) : ptN l = (pointsL l).length := by unfold ptN pts3; simp
def ptQ (l : List Bx) (i : Nat) : Nat × Int := (pointsL l).getD i (0, 0)
theorem ptQ_lt {l : List Bx} {i : Nat} (h : i < ptN l) : ptQ l i = (pointsL l)[i]'(by rw [← ptN_eq]; exact h) := by
  unfold ptQ; rw [List.getD_eq_getElem?_getD, List.getElem?_eq_getElem (by rw [← ptN_eq]; exact h)]; rfl
theorem pt3_eq {l : List Bx} {i : Nat} (h : i < ptN l) : pt3 l i = up3 l (ptQ l i) := by
  unfold pt3 pts3 ptQ
  have h2 : i < (pointsL l).length := by rw [← ptN_eq]; exact h
  rw [List.getD_eq_getElem?_getD, List.getD_eq_getElem?_getD, List.getElem?_map, List.getElem?_eq_getElem h2]
  rfl
theorem ptQ_ok {l : List Bx} {i : Nat} (h : boxesB l = true) (hi : i < ptN l) : PtOK l (ptQ l i) ∨ ptQ l i = (l.length, 0) := by
  rw [ptQ_lt hi]; exact (pointsL_ok h).1 _ (List.getElem_mem _)
theorem ptQ_ltP {l : List Bx} {i k : Nat} (h : boxesB l = true) (hik : i < k) (hk : k < ptN l) : ltP (ptQ l i) (ptQ l k) := by
  rw [ptQ_lt (show i < ptN l by omega), ptQ_lt hk]
  exact List.pairwise_iff_getElem.1 (pointsL_ok h).2 i k _ _ hik
theorem ptN_pos (l : List Bx) : 0 < ptN l := by rw [ptN_eq, pointsL]; simp
theorem ptN_le {l : List Bx} (h : boxesB l = true) : ptN l ≤ 200201 := by
  have hb := bnds_of h
  have h1 := ptsF_len l l.length (Nat.le_refl _) (fun b hb' => by have := hb.pts b hb'; omega)
  rw [List.take_length] at h1
  rw [ptN_eq, pointsL, List.length_append, List.length_singleton]
  have := hb.len
  omega
theorem ptQ_last (l : List Bx) : ptQ l (ptN l - 1) = (l.length, 0) := by
  rw [ptQ_lt (by have := ptN_pos l; omega)]
  simp only [ptN_eq, pointsL]
  simp
theorem ptQ_small {l : List Bx} {i : Nat} (h : boxesB l = true) (hi : i < ptN l - 1) : PtOK l (ptQ l i) := by
  rcases ptQ_ok h (show i < ptN l by omega) with h1 | h1
  · exact h1
  · have h2 := ptQ_ltP h hi (by have := ptN_pos l; omega)
    rw [h1, ptQ_last] at h2
    unfold ltP at h2
    simp at h2
theorem stB_mono {l : List Bx} {i : Nat} : ∀ {k : Nat}, i ≤ k → k ≤ l.length → stB l i ≤ stB l k
  | 0, h, _ => by obtain rfl : i = 0 := by omega
                  exact Nat.le_refl _
  | k + 1, h, hk => by
    rcases Nat.lt_or_ge k i with h1 | h1
    · obtain rfl : i = k + 1 := by omega
      exact Nat.le_refl _
    · have := stB_mono (l := l) h1 (by omega)
      rw [stB_succ (by omega)]
      omega
theorem near_of {l : List Bx} (h : boxesB l = true) : Near l := by
  have hb := bnds_of h
  refine ⟨by have := ptN_le h; omega, ptN_pos l, fun x hx => ?_⟩
  unfold pts3 at hx
  obtain ⟨y, hy, rfl⟩ := List.mem_map.1 hx
  show _ ≤ (stB l y.1 : Int) + y.2 ∧ (stB l y.1 : Int) + y.2 ≤ _
  have hs : ∀ k, k ≤ l.length → stB l k ≤ 201 * 200 := fun k hk => by
    have h1 := stB_le (l := l) hb.wlen k hk
    have h2 := hb.len
    have : (200 + 1) * k ≤ 201 * 200 := Nat.mul_le_mul_left _ (by omega)
    omega
  rcases (pointsL_ok h).1 y hy with h1 | rfl
  · have h2 := hs y.1 (Nat.le_of_lt h1.1)
    have h3 := h1.2
    rw [wAt_lt h1.1] at h3
    have h4 := hb.wlen _ (List.getElem_mem h1.1)
    unfold wlen at h4
    omega
  · have h2 := hs l.length (Nat.le_refl _)
    show _ ≤ (stB l l.length : Int) + 0 ∧ (stB l l.length : Int) + 0 ≤ _
    omega
theorem lineOK_of {l : List Bx} (h : boxesB l = true) {i k : Nat} (hik : i < k) (hk : k < ptN l) : LineOK l (pt3 l i) (pt3 l k) := by
  have hb := bnds_of h
  have h1 := ptQ_ltP h hik hk
  have hi := ptQ_small h (show i < ptN l - 1 by omega)
  have hko := ptQ_ok h hk
  rw [pt3_eq (show i < ptN l by omega), pt3_eq hk]
  generalize ptQ l i = a at *
  generalize ptQ l k = b at *
  obtain ⟨hi1, hi2, hi3⟩ := hi
  have hk1 : b.1 ≤ l.length := by
    rcases hko with h2 | h2
    · exact Nat.le_of_lt h2.1
    · rw [h2]; exact Nat.le_refl _
  have hle : a.1 ≤ b.1 := by rcases h1 with h1 | h1 <;> omega
  have hhy : 0 < b.2 → b.1 < l.length ∧ b.2 ≤ ((wAt l b.1).length : Int) := fun h2 => by
    rcases hko with h3 | h3
    · exact ⟨h3.1, by have := h3.2.2; omega⟩
    · rw [h3] at h2; simp at h2
  refine ⟨hle, hk1, hhy, fun h2 => ?_⟩
  change 0 < a.2 at h2
  have hwl := hb.wlen _ (List.getElem_mem hi1)
  rw [wAt_lt hi1] at hi3
  unfold wlen at hwl
  have key : ∀ (ws t : List ByteArray) (r : List Int), ws = encs r :: t → runes (encs r) = r → a.2 ≤ (r.length : Int) → r.length ≤ 200 → 0 < ws.length ∧ a.2 ≤ ((runes (ws.getD 0 .empty)).length : Int) ∧ (runes (ws.getD 0 .empty)).length ≤ 1000000 := by
    intro ws t r e1 e2 e3 e4
    subst e1
    rw [List.getD_cons_zero, e2]
    exact ⟨by simp, e3, by omega⟩
  have hwB : wsB l (up3 l a) (up3 l b) = if 0 < b.2 then wsA l a.1 b.1 ++ [encs ((wAt l b.1).take b.2.toNat)] else wsA l a.1 b.1 := rfl
  rcases Nat.lt_or_ge a.1 b.1 with h3 | h3
  · have h4 : ∃ t, wsA l a.1 b.1 = encs (runes (l[a.1]).word) :: t := by
      unfold wsA
      refine ⟨((l.take b.1).drop (a.1 + 1)).map (fun b => encs (runes b.word)), ?_⟩
      rw [List.drop_eq_getElem_cons (show a.1 < (l.take b.1).length by simp; omega)]
      simp
    obtain ⟨t, h4⟩ := h4
    have h5 : runes (encs (runes (l[a.1]).word)) = runes (l[a.1]).word := runes_encs (fun r hr => runes_valid hr)
    rw [h4] at hwB
    split at hwB
    · exact key _ (t ++ [encs ((wAt l b.1).take b.2.toNat)]) _ hwB h5 (by omega) hwl
    · exact key _ t _ hwB h5 (by omega) hwl
  · have h4 : a.1 = b.1 := by omega
    have h5 : a.2 < b.2 := by rcases h1 with h1 | h1 <;> omega
    have h6 := hhy (by omega)
    rw [if_pos (by omega), ← h4, wsA_zero, wAt_lt hi1] at hwB
    rw [← h4, wAt_lt hi1] at h6
    exact key _ [] _ hwB (runes_encs (fun r hr => runes_valid (List.mem_of_mem_take hr))) (by rw [List.length_take]; omega) (by rw [List.length_take]; omega)
end Go.GH
namespace Go.GH
open Go Go.Lib
/-- From a by nx through the list to z. -/
def Pth (nx : List Int) : Nat → List Nat → Nat → Prop
  | a, [], z => a = z
  | a, k :: ks, z => a < k ∧ nx.getD a 0 = (k : Int) ∧ Pth nx k ks z
def linesOf (l : List Bx) : Nat → List Nat → List Ln
  | _, [] => []
  | a, k :: ks => lineP l a k :: linesOf l k ks
theorem Pth.le {nx : List Int} : ∀ {a z : Nat} {ks : List Nat}, Pth nx a ks z → a ≤ z
  | _, _, [], h => Nat.le_of_eq h
  | _, _, k :: ks, ⟨h1, _, h2⟩ => by have := h2.le; omega
theorem Pth.cons {nx : List Int} {a z : Nat} {ks : List Nat} (h : Pth nx a ks z) (hz : a < z) : ∃ k ks2, ks = k :: ks2 ∧ a < k ∧ k ≤ z ∧ nx.getD a 0 = (k : Int) ∧ Pth nx k ks2 z := by
  cases ks with
  | nil => exact absurd h (by simp only [Pth]; omega)
  | cons k ks => exact ⟨k, ks, rfl, h.1, h.2.2.le, h.2.1, h.2.2⟩
theorem Pth.nil {nx : List Int} {a z : Nat} {ks : List Nat} (h : Pth nx a ks z) (hz : z ≤ a) : ks = [] := by
  cases ks with
  | nil => rfl
  | cons k ks => have := h.2.2.le; have := h.1; omega
theorem Pth.set {nx : List Int} {i : Nat} {v : Int} : ∀ {a z : Nat} {ks : List Nat}, Pth nx a ks z → z ≤ i → Pth (nx.set i v) a ks z
  | _, _, [], h, _ => h
  | a, z, k :: ks, ⟨h1, h2, h3⟩, hz => by
    have := h3.le
    refine ⟨h1, ?_, h3.set hz⟩
    rw [← h2, List.getD_eq_getElem?_getD, List.getD_eq_getElem?_getD, List.getElem?_set_ne (by omega)]
/-- The first point behind i that does not fit, or the number of points. -/
def stopP (l : List Bx) (w : Int) (i : Nat) : Nat := i + 1 + (List.range (ptN l - (i + 1))).findIdx (fun d => !decide (lenP l i (i + 1 + d) ≤ w))
theorem stopP_gt (l : List Bx) (w : Int) (i : Nat) : i < stopP l w i := by unfold stopP; omega
theorem stopP_le {l : List Bx} {w : Int} {i : Nat} (h : i < ptN l) : stopP l w i ≤ ptN l := by
  have := List.findIdx_le_length (p := fun d => !decide (lenP l i (i + 1 + d) ≤ w)) (xs := List.range (ptN l - (i + 1)))
  rw [List.length_range] at this
  unfold stopP; omega
theorem stopP_fit {l : List Bx} {w : Int} {i n : Nat} (h1 : i < n) (h2 : n < stopP l w i) : lenP l i n ≤ w := by
  have h3 : n - (i + 1) < (List.range (ptN l - (i + 1))).findIdx (fun d => !decide (lenP l i (i + 1 + d) ≤ w)) := by unfold stopP at h2; omega
  have h4 := List.not_of_lt_findIdx h3
  simp only [List.getElem_range] at h4
  rw [show i + 1 + (n - (i + 1)) = n by omega] at h4
  simpa using h4
theorem stopP_stop {l : List Bx} {w : Int} {i : Nat} (h : i < ptN l) : stopP l w i = ptN l ∨ (stopP l w i < ptN l ∧ ¬ lenP l i (stopP l w i) ≤ w) := by
  rcases Nat.lt_or_ge (stopP l w i) (ptN l) with h1 | h1
  · refine .inr ⟨h1, ?_⟩
    have h2 : (List.range (ptN l - (i + 1))).findIdx (fun d => !decide (lenP l i (i + 1 + d) ≤ w)) < (List.range (ptN l - (i + 1))).length := by
      rw [List.length_range]; unfold stopP at h1; omega
    have h3 := List.findIdx_getElem (w := h2)
    simp only [List.getElem_range] at h3
    have h4 : i + 1 + (List.range (ptN l - (i + 1))).findIdx (fun d => !decide (lenP l i (i + 1 + d) ≤ w)) = stopP l w i := rfl
    rw [h4] at h3
    simpa using h3
  · exact .inl (by have := stopP_le (w := w) h; omega)
/-! counting -/
/-! the cheapest -/
def stepB (l : List Bx) (w pen : Int) (i : Nat) (t : List (Int × Int)) (x : Int × Int) (d : Nat) : Int × Int :=
  if (t.getD d (0, 0)).1 < 0 then x else if x.1 < 0 ∨ lineC l w pen i (i + 1 + d) (t.getD d (0, 0)).1 ≤ x.1 then (lineC l w pen i (i + 1 + d) (t.getD d (0, 0)).1, ((i + 1 + d : Nat) : Int)) else x
def bstV (l : List Bx) (w pen : Int) (i : Nat) (t : List (Int × Int)) : Nat → Int × Int
  | 0 => (-1, 0)
  | d + 1 => stepB l w pen i t (bstV l w pen i t d) d
def bstL (l : List Bx) (w pen : Int) : Nat → List (Int × Int)
  | 0 => [(0, 0)]
  | j + 1 => bstV l w pen (ptN l - 2 - j) (bstL l w pen j) (stopP l w (ptN l - 2 - j) - (ptN l - 1 - j)) :: bstL l w pen j
theorem bstL_len (l : List Bx) (w pen : Int) : ∀ j, (bstL l w pen j).length = j + 1
  | 0 => rfl
  | j + 1 => by rw [bstL, List.length_cons, bstL_len l w pen j]
def pathF (m : Nat) (nx : List Int) : Nat → Nat → List Nat
  | 0, _ => []
  | f + 1, i => if i < m then (nx.getD i 0).toNat :: pathF m nx f (nx.getD i 0).toNat else []
def linesR (l : List Bx) (w pen : Int) : List Ln × Int × Int :=
  if validL l w && penB pen then (if ((bstL l w pen (ptN l - 1)).getD 0 (0, 0)).1 < 0 then ([], 0, 2) else (linesOf l 0 (pathF (ptN l - 1) ((bstL l w pen (ptN l - 1)).map (·.2)) (ptN l) 0), ((bstL l w pen (ptN l - 1)).getD 0 (0, 0)).1, 0)) else ([], 0, 1)
theorem getD_lt {α : Type} {l : List α} {i : Nat} {d : α} (h : i < l.length) : l.getD i d = l[i] := by
  rw [List.getD_eq_getElem?_getD, List.getElem?_eq_getElem h]; rfl
theorem lenP_bound {l : List Bx} (h : boxesB l = true) {i k : Nat} (hi : i < ptN l) (hk : k < ptN l) : -100000 ≤ lenP l i k ∧ lenP l i k ≤ 100000 := by
  have hb := bnds_of h
  have hs : ∀ k, k ≤ l.length → stB l k ≤ 201 * 200 := fun k hk => by
    have h1 := stB_le (l := l) hb.wlen k hk
    have h2 := hb.len
    have : (200 + 1) * k ≤ 201 * 200 := Nat.mul_le_mul_left _ (by omega)
    omega
  have key : ∀ i, i < ptN l → 0 ≤ (pt3 l i).2.2 ∧ (pt3 l i).2.2 ≤ 41000 := fun i hi => by
    rw [pt3_eq hi]
    show 0 ≤ (stB l (ptQ l i).1 : Int) + (ptQ l i).2 ∧ (stB l (ptQ l i).1 : Int) + (ptQ l i).2 ≤ 41000
    rcases ptQ_ok h hi with h1 | h1
    · have h2 := hs _ (Nat.le_of_lt h1.1)
      have h3 := h1.2
      rw [wAt_lt h1.1] at h3
      have h4 := hb.wlen _ (List.getElem_mem h1.1)
      unfold wlen at h4
      omega
    · rw [h1]
      have h2 := hs l.length (Nat.le_refl _)
      show 0 ≤ (stB l l.length : Int) + 0 ∧ (stB l l.length : Int) + 0 ≤ _
      omega
  have h1 := key i hi
  have h2 := key k hk
  unfold lenP
  split <;> omega
/-- What is known of the cheapest: bounds; and where it is not negative, the next point is one where it is not negative either. -/
theorem bstV_ok {l : List Bx} {w pen : Int} {i : Nat} {t : List (Int × Int)} {M : Int} (hM : 0 ≤ M) (hw : 0 ≤ w ∧ w ≤ 200) (hp : 0 ≤ pen ∧ pen ≤ 1000000) (h : ∀ x ∈ t, x.1 ≤ M) (hl : ∀ d, d < t.length → -100000 ≤ lenP l i (i + 1 + d) ∧ lenP l i (i + 1 + d) ≤ 100000) : ∀ d, d ≤ t.length →
    (bstV l w pen i t d).1 ≤ M + 1210001000000 ∧ (0 ≤ (bstV l w pen i t d).1 → ∃ e, e < d ∧ (bstV l w pen i t d).2 = ((i + 1 + e : Nat) : Int) ∧ 0 ≤ (t.getD e (0, 0)).1)
  | 0, _ => ⟨by show (-1 : Int) ≤ _; omega, fun h => by have : (0 : Int) ≤ -1 := h; omega⟩
  | d + 1, hd => by
    obtain ⟨ih1, ih2⟩ := bstV_ok hM hw hp h hl d (by omega)
    have hdl : d < t.length := by omega
    have hll := hl d hdl
    have hx := h _ (List.getElem_mem hdl)
    have hsq := sq_bound (x := w - lenP l i (i + 1 + d)) (by omega) (by omega)
    have hg : t.getD d (0, 0) = t[d] := getD_lt hdl
    rw [← hg] at hx
    have hc : lineC l w pen i (i + 1 + d) (t.getD d (0, 0)).1 ≤ (t.getD d (0, 0)).1 + 1210001000000 := by
      unfold lineC
      split <;> split <;> omega
    rw [bstV]
    unfold stepB
    split
    · exact ⟨ih1, fun h => by obtain ⟨e, h1, h2⟩ := ih2 h; exact ⟨e, by omega, h2⟩⟩
    · split
      · exact ⟨by show lineC _ _ _ _ _ _ ≤ _; omega, fun _ => ⟨d, by omega, rfl, by omega⟩⟩
      · exact ⟨ih1, fun h => by obtain ⟨e, h1, h2⟩ := ih2 h; exact ⟨e, by omega, h2⟩⟩
theorem natl {N j e : Nat} (h : j + 1 ≤ N - 1) : ((N - 1 - j + e : Nat) : Int) = ((N - 1 - (j + 1) + (e + 1) : Nat) : Int) := by omega
theorem bstL_ok {l : List Bx} {w pen : Int} (hb : boxesB l = true) (hw : 0 ≤ w ∧ w ≤ 200) (hp : 0 ≤ pen ∧ pen ≤ 1000000) : ∀ j, j ≤ ptN l - 1 →
    (∀ x ∈ bstL l w pen j, x.1 ≤ 1210001000000 * j) ∧ (∀ d, d < j → 0 ≤ ((bstL l w pen j).getD d (0, 0)).1 → ∃ e, d < e ∧ e ≤ j ∧ ((bstL l w pen j).getD d (0, 0)).2 = ((ptN l - 1 - j + e : Nat) : Int) ∧ 0 ≤ ((bstL l w pen j).getD e (0, 0)).1)
  | 0, _ => ⟨fun x hx => by rw [List.mem_singleton.1 hx]; exact Int.le_refl _, fun d hd => by omega⟩
  | j + 1, hj => by
    obtain ⟨ih1, ih2⟩ := bstL_ok hb hw hp j (by omega)
    have hlen := bstL_len l w pen j
    have hst := stopP_le (l := l) (w := w) (i := ptN l - 2 - j) (by omega)
    have hV := bstV_ok (l := l) (w := w) (pen := pen) (i := ptN l - 2 - j) (t := bstL l w pen j) (M := 1210001000000 * j) (by omega) hw hp ih1 (fun d hd => lenP_bound hb (by omega) (by omega)) (stopP l w (ptN l - 2 - j) - (ptN l - 1 - j)) (by omega)
    refine ⟨fun x hx => ?_, fun d hd h0 => ?_⟩
    · rw [bstL] at hx
      rcases List.mem_cons.1 hx with rfl | hx
      · have := hV.1; omega
      · have := ih1 x hx; omega
    · rw [bstL] at h0 ⊢
      cases d with
      | zero =>
        rw [List.getD_cons_zero] at h0 ⊢
        obtain ⟨e, h1, h2, h3⟩ := hV.2 h0
        exact ⟨e + 1, by omega, by omega, by rw [h2]; congr 1; omega, by rw [List.getD_cons_succ]; exact h3⟩
      | succ d =>
        rw [List.getD_cons_succ] at h0 ⊢
        obtain ⟨e, h1, h2, h3, h4⟩ := ih2 d (by omega) h0
        exact ⟨e + 1, Nat.succ_lt_succ h1, Nat.succ_le_succ h2, h3.trans (natl hj), by rw [List.getD_cons_succ]; exact h4⟩
theorem pathF_pth {m : Nat} {nx : List Int} {G : Nat → Prop} (hG : ∀ i, i < m → G i → ∃ k, i < k ∧ k ≤ m ∧ nx.getD i 0 = ((k : Nat) : Int) ∧ G k) : ∀ f i, i ≤ m → m < f + i → G i → Pth nx i (pathF m nx f i) m
  | 0, i, h1, h2, _ => by omega
  | f + 1, i, h1, h2, hg => by
    rw [pathF]
    rcases Nat.lt_or_ge i m with h3 | h3
    · obtain ⟨k, k1, k2, k3, k4⟩ := hG i h3 hg
      rw [if_pos h3, k3]
      exact ⟨k1, k3, pathF_pth hG f k k2 (by omega) k4⟩
    · rw [if_neg (by omega)]
      show i = m
      omega
end Go.GH
namespace Go.GH
open Go Go.Proofs
variable {E : Env}
theorem elemB_24_2_32 : elemB Tryz.prog 24 2 32 = true := by kernel_rfl
theorem sLine (l : List Bx) (w : Int) (i k : Nat) (hb : boxesB l = true) (hik : i < k) (hk : k < ptN l) : GCall Tryz.prog E 85 [.ipin (encPar l w), .v (.int .i64 ((i : Nat) : Int)), .v (.int .i64 ((k : Nat) : Int))] [] (fun d H => d = .agg (encLn (lineP l i k)) ∧ H = []) :=
  (sLine0 l w i k (fun b h => by have := (bnds_of hb).word b h; omega) (by have := (bnds_of hb).len; omega) (by omega) hk (lineOK_of hb hik hk)).clean (fun d H e => ⟨_, fun _ _ _ h => h, e⟩)
theorem sLinesM (l : List Bx) (w : Int) (nx : List Int) (ks : List Nat) (hb : boxesB l = true) (hln : nx.length = ptN l) (hp : Pth nx 0 ks (ptN l - 1)) : GCall Tryz.prog E 54 [.ipin (encPar l w), DInts nx] [] (fun d H => d = DLns (linesOf l 0 ks) ∧ H = []) := by
 have hN := near_of hb
 have hN1 := hN.1
 refine GCall.body (C := ⟨Tryz.prog, E, true⟩) Tryz.func54 rfl (fun _ => rfl) (by kernel_rfl) rfl ?_
 refine SCode.seqR (SOps.assign rfl (SOps.nil (SCode.seqR (SOps.assign rfl (SOps.nil (SCode.seq (SCode.seqR (SOps.assign rfl (SOps.nil (SCode.block (SCode.loop4 (fun (i : Nat) (b : Nat) (dn : List Ln) (rs : List Nat) => (⟨26, [(0, .ipin (encPar l w)), (1, DInts nx), (5, accD 2 b (dn.map encLn)), (6, .v (.int .i64 (i : Int)))], accH 24 2 b (dn.map encLn) ++ []⟩ : St)) (fun (i : Nat) (b : Nat) (dn : List Ln) (rs : List Nat) => Pth nx i rs (ptN l - 1) ∧ dn ++ linesOf l i rs = linesOf l 0 ks ∧ dn.length ≤ i ∧ i ≤ ptN l - 1) (fun (i : Nat) (b : Nat) (dn : List Ln) (rs : List Nat) => ptN l - i) (0) (0) ([]) (ks) (by exact ⟨hp, rfl, Nat.le_refl _, Nat.zero_le _⟩) (St.Le.of ⟨rfl, rfl, rfl, rfl, trivial⟩ rfl rfl) ?_)))))))))))
 rintro i b dn rs ⟨hpt, hdn, hdl, hile⟩
 refine SCode.seq (SCode.seqR (SOps.move rfl (SOps.move rfl (SOps.callP (sLast l w hN) rfl ?_))))
 rintro _ rfl
 refine SOps.bin rfl rfl rfl (SOps.nil ?_)
 refine SCode.cond rfl (fun hc1 => ?_) (fun hc1 => ?_)
 ·try simp only [nmL] at hc1
  obtain ⟨k, rs2, hrs, hik, hkm, hnk, hp2⟩ := hpt.cons (by omega)
  subst hrs
  have hil : i < nx.length := by omega
  have hnk2 : nx[i] = (k : Int) := by rw [← hnk]; exact (getD_lt hil).symm
  refine SCode.skip ?_
  show SCode _ _ _ _
  refine SCode.seq (SCode.block (SCode.region (SOps.move rfl (SOps.move rfl (SOps.move rfl (SOps.move rfl (SOps.move rfl (SOps.indexM (i) rfl rfl sliceB_98_3_1 (by omega) (by omega) (SOps.loadPin rfl flatB_3 (SOps.reSlot (t := 21) rfl (show _ = DV.v (.int .i64 ((k : Nat) : Int)) from congrArg (fun z => DV.v (.int .i64 z)) hnk2) (SOps.callP (sLine l w i k hb hik (by omega)) rfl ?_)))))))))))
  rintro _ rfl
  refine SOps.litF rfl sliceB_36_24_2 zeroIs_24 rfl ?_
  refine SOps.appendAcc [] [] sliceB_36_24_2 elemB_24_2_32 rfl rfl rfl SrcD.isl (by simp) (by first | (simp [lenB] <;> (first | omega | (simp only [lenB] <;> omega))) | (simp only [lenB]; (first | omega | (simp only [lenB] <;> omega)))) (by first | (simp <;> (first | omega | (simp only [lenB] <;> omega))) | (first | omega | (simp only [lenB] <;> omega))) (fun b0 => ?_)
  refine SOps.assign rfl (SOps.nil ?_)
  show SCode _ _ _ _
  refine SCode.region (SOps.move rfl (SOps.move rfl (SOps.indexM (i) rfl rfl sliceB_98_3_1 (by omega) (by omega) (SOps.loadPin rfl flatB_3 (SOps.reSlot (t := 14) rfl (show _ = DV.v (.int .i64 ((k : Nat) : Int)) from congrArg (fun z => DV.v (.int .i64 z)) hnk2) (SOps.assign rfl (SOps.nil ?_)))))))
  exact ⟨k, b0, dn ++ [lineP l i k], rs2, ⟨hp2, by rw [← hdn, List.append_assoc]; rfl, by rw [List.length_append, List.length_singleton]; omega, hkm⟩, by omega, St.Le.of ⟨rfl, rfl, (by show some _ = some _; rw [List.map_append] <;> rfl), rfl, trivial⟩ rfl (by rw [List.map_append] <;> rfl)⟩
 ·try simp only [nmL] at hc1
  have hrs := hpt.nil (by omega)
  subst hrs
  have hde : dn = linesOf l 0 ks := by rw [← hdn]; exact (List.append_nil _).symm
  refine SCode.exit ?_
  show SCode _ _ _ _
  refine SCode.seqR (SOps.freezeAcc (t := 5) [] [] rfl rfl rfl (SOps.move rfl (SOps.assign rfl (SOps.nil (SCode.ret ?_)))))
  exact ⟨_, Res.one (.tmp rfl), by rw [← hde] <;> rfl, rfl⟩
end Go.GH
namespace Go.GH
open Go Go.Proofs
variable {E : Env}

end Go.GH
namespace Go.GH
open Go Go.Lib
theorem rep_set {α : Type} {z v : α} {i : Nat} {t : List α} : (List.replicate (i + 1) z ++ t).set i v = List.replicate i z ++ (v :: t) := by
  rw [List.replicate_succ', List.append_assoc, List.set_append, if_neg (by simp)]
  simp
theorem rep_set0 {z : Int} {i : Nat} {t : List Int} : (List.replicate (i + 1) z ++ t).set i z = List.replicate (i + 1) z ++ t := by
  rw [rep_set, List.replicate_succ', List.append_assoc]; rfl
theorem rep_more {z a : Int} {i d : Nat} {t : List Int} : ((List.replicate (i + 1) z ++ t).set i a).getD (i + 1 + d) 0 = t.getD d 0 := by
  rw [List.getD_eq_getElem?_getD, List.getElem?_set_ne (by omega), List.getElem?_append_right (by simp)]
  simp [List.getD_eq_getElem?_getD]
theorem line_step {l : List Bx} {w pen : Int} {bs nx : List Int} {t : List (Int × Int)} {i n d : Nat} {x : Int × Int} (hbs : bs = List.replicate (i + 1) 0 ++ t.map (·.1)) (hnx : nx = List.replicate (i + 1) 0 ++ t.map (·.2)) (hn : n = i + 1 + d) :
    lineStep l w pen i (bs.set i x.1, nx.set i x.2) n = (bs.set i (stepB l w pen i t x d).1, nx.set i (stepB l w pen i t x d).2) := by
  subst hn
  have hi : i < bs.length := by rw [hbs]; simp; omega
  have e1 : (bs.set i x.1).getD i 0 = x.1 := by rw [getD_lt (by rw [List.length_set]; exact hi)]; exact List.getElem_set_self _
  have e2 : (bs.set i x.1).getD (i + 1 + d) 0 = (t.getD d (0, 0)).1 := by
    rw [hbs, rep_more, List.getD_eq_getElem?_getD, List.getD_eq_getElem?_getD, List.getElem?_map]
    cases t[d]? <;> rfl
  unfold lineStep stepB
  dsimp only
  rw [e1, e2]
  split
  · rfl
  · split
    · rw [List.set_set, List.set_set]
    · rfl
/-- Of the search: where the cheapest from the first point is known, there is a way to the last one. -/
theorem best_path {l : List Bx} {w pen : Int} (hb : boxesB l = true) (hw : 0 ≤ w ∧ w ≤ 200) (hp : 0 ≤ pen ∧ pen ≤ 1000000) (h : ¬ ((bstL l w pen (ptN l - 1)).getD 0 (0, 0)).1 < 0) :
    Pth ((bstL l w pen (ptN l - 1)).map (·.2)) 0 (pathF (ptN l - 1) ((bstL l w pen (ptN l - 1)).map (·.2)) (ptN l) 0) (ptN l - 1) := by
  have hpos := ptN_pos l
  refine pathF_pth (G := fun i => 0 ≤ ((bstL l w pen (ptN l - 1)).getD i (0, 0)).1) (fun i hi hg => ?_) (ptN l) 0 (Nat.zero_le _) (by omega) (by omega)
  obtain ⟨e, h1, h2, h3, h4⟩ := (bstL_ok (pen := pen) hb hw hp (ptN l - 1) (Nat.le_refl _)).2 i hi hg
  refine ⟨e, h1, h2, ?_, h4⟩
  rw [Nat.sub_self, Nat.zero_add] at h3
  rw [← h3, List.getD_eq_getElem?_getD, List.getD_eq_getElem?_getD, List.getElem?_map]
  cases (bstL l w pen (ptN l - 1))[i]? <;> rfl
end Go.GH
namespace Go.GH
open Go Go.Proofs
variable {E : Env}

end Go.GH
namespace Go.GH
open Go Go.Proofs
variable {E : Env}
theorem oneB_96 : oneB Tryz.prog 96 = true := by kernel_rfl
theorem oneB_98 : oneB Tryz.prog 98 = true := by kernel_rfl
theorem zeroIs_96 : zeroIs Tryz.prog 96 (.pointer none) := by unfold zeroIs; kernel_rfl
theorem zeroIs_98 : zeroIs Tryz.prog 98 (.slice none 0 0) := by unfold zeroIs; kernel_rfl
theorem sLines0 (hV : VS E) (l : List Bx) (w pen : Int) (hbx : ∀ x ∈ l, x.word.size ≤ 1048576) : GCall Tryz.prog E 18 [DBxs l, .v (.int .i64 w), .v (.int .i64 pen)] [] (fun d H => d = (if validL l w && penB pen then (if ((bstL l w pen (ptN l - 1)).getD 0 (0, 0)).1 < 0 then .tup [.v (.slice none 0 0), .v (.int .i64 0), .v (.int .i64 2)] else .tup [DLns (linesR l w pen).1, .v (.int .i64 (linesR l w pen).2.1), .v (.int .i64 0)]) else .tup [.v (.slice none 0 0), .v (.int .i64 0), .v (.int .i64 1)])) := by
 refine GCall.body (C := ⟨Tryz.prog, E, true⟩) Tryz.func18 rfl (fun _ => rfl) (by kernel_rfl) rfl ?_
 refine SCode.seqR (SOps.boxF rfl rfl rfl (SOps.assign rfl (SOps.assign rfl (SOps.assign rfl (SOps.nil (SCode.seq (SCode.seqR (SOps.move rfl (SOps.move rfl (SOps.callP (sValid hV _ _ (by assumption)) rfl ?_))))))))))
 rintro _ rfl
 refine SOps.un rfl rfl (SOps.move rfl ?_)
 refine SOps.caseB 17 rfl (fun hb1 => ?_) (fun hb1 => ?_)
 ·try simp only [nmL] at hb1
  refine SOps.skip rfl (SOps.skip rfl (SOps.pick rfl rfl (SOps.move rfl (SOps.skip rfl (SOps.skip rfl (SOps.pick rfl rfl (SOps.nil ?_)))))))
  refine SCode.cond rfl (fun _ => ?_) (fun h => by cases h)
  refine SCode.seqR (SOps.assign rfl (SOps.assign rfl (SOps.assign rfl (SOps.nil (SCode.ret ?_)))))
  exact ⟨_, Res.three (.tmp rfl) (.tmp rfl) (.tmp rfl), by rw [if_neg (by intro h9; have h8 := Bool.and_eq_true_iff.1 h9; have h7 := penB_iff.1 h8.2; first | omega | simp_all)]⟩
 ·try simp only [nmL] at hb1
  refine SOps.loadPin rfl flatB_3 (SOps.bin rfl rfl rfl (SOps.pick rfl rfl (SOps.move rfl ?_)))
  refine SOps.caseB 21 rfl (fun hb2 => ?_) (fun hb2 => ?_)
  ·try simp only [nmL] at hb2
   refine SOps.skip rfl (SOps.skip rfl (SOps.pick rfl rfl (SOps.nil ?_)))
   refine SCode.cond rfl (fun _ => ?_) (fun h => by cases h)
   refine SCode.seqR (SOps.assign rfl (SOps.assign rfl (SOps.assign rfl (SOps.nil (SCode.ret ?_)))))
   exact ⟨_, Res.three (.tmp rfl) (.tmp rfl) (.tmp rfl), by rw [if_neg (by intro h9; have h8 := Bool.and_eq_true_iff.1 h9; have h7 := penB_iff.1 h8.2; first | omega | simp_all)]⟩
  ·try simp only [nmL] at hb2
   refine SOps.loadPin rfl flatB_3 (SOps.bin rfl rfl rfl (SOps.pick rfl rfl (SOps.nil ?_)))
   refine SCode.cond rfl (fun hc3 => ?_) (fun hc3 => ?_)
   ·try simp only [nmL] at hc3
    refine SCode.seqR (SOps.assign rfl (SOps.assign rfl (SOps.assign rfl (SOps.nil (SCode.ret ?_)))))
    exact ⟨_, Res.three (.tmp rfl) (.tmp rfl) (.tmp rfl), by rw [if_neg (by intro h9; have h8 := Bool.and_eq_true_iff.1 h9; have h7 := penB_iff.1 h8.2; first | omega | simp_all)]⟩
   ·try simp only [nmL] at hc3
    refine SCode.skip ?_
    show SCode _ _ _ _
    refine SCode.seqR ?_
    have hvl : validL l w = true := by simp_all
    obtain ⟨hpe1, hpe2⟩ : 0 ≤ pen ∧ pen ≤ 1000000 := by omega
    have hpen : penB pen = true := penB_iff.2 ⟨hpe1, hpe2⟩
    have hok : (validL l w && penB pen) = true := by rw [hvl, hpen]; rfl
    obtain ⟨hwv, hbv⟩ : wideB w = true ∧ boxesB l = true := by unfold validL at hvl; exact Bool.and_eq_true_iff.1 hvl
    have hbn := bnds_of hbv
    have hN := near_of hbv
    have hN1 := hN.1
    have hN2 := hN.2.1
    obtain ⟨hw1, hw2⟩ := wideB_iff.1 hwv
    have hp3 : (pts3 l).length = ptN l := rfl
    refine SOps.move rfl (SOps.move rfl (SOps.callP (sOpen l w (fun b h => by have := hbn.word b h; omega) (fun b h => by have := hbn.pts b h; omega) (fun b h q hq => by have := hbn.pos b h q hq; omega) (by have := hbn.len; omega)) rfl ?_))
    rintro _ rfl
    refine SOps.alloc (sz := 1) zeroIs_96 (fun b0 hb_0 => ?_)
    refine SOps.storeM 0 rfl rfl oneB_96 rfl (SOps.freezeRef (t := 9) 0 0 rfl rfl rfl rfl rfl (SOps.nil (SCode.seqR (SOps.loadPin rfl flatB_96 (SOps.nilCheck rfl rfl (SOps.fieldPin rfl fieldB_102_1_1 (SOps.loadPin rfl flatB_100 (SOps.lenM rfl sliceB_100_107_3 ?_))))))))
    refine SOps.makeK (f := encI) ((ptN l)) (0) sliceB_98_3_1 elemB_3_1_8 zeroIs_3 rfl rfl (by omega) (by omega) rfl (by omega) (by simp only [lenB]; omega) (fun b1 hb_1 => ?_)
    refine SOps.alloc (sz := 1) zeroIs_98 (fun b2 hb_2 => ?_)
    refine SOps.storeM 0 rfl rfl oneB_98 rfl (SOps.freezeRef (t := 10) 0 0 rfl rfl rfl rfl rfl (SOps.nil (SCode.seqR (SOps.loadPin rfl flatB_96 (SOps.nilCheck rfl rfl (SOps.fieldPin rfl fieldB_102_1_1 (SOps.loadPin rfl flatB_100 (SOps.lenM rfl sliceB_100_107_3 ?_))))))))
    refine SOps.makeK (f := encI) ((ptN l)) (0) sliceB_98_3_1 elemB_3_1_8 zeroIs_3 rfl rfl (by omega) (by omega) rfl (by omega) (by simp only [lenB]; omega) (fun b3 hb_3 => ?_)
    refine SOps.alloc (sz := 1) zeroIs_98 (fun b4 hb_4 => ?_)
    refine SOps.storeM 0 rfl rfl oneB_98 rfl (SOps.freezeRef (t := 11) 0 0 rfl rfl rfl rfl rfl (SOps.nil (SCode.seq (SCode.seqR (SOps.swap01 (SOps.loadPin rfl flatB_96 (SOps.callP (sLast l w hN) rfl ?_)))))))
    rintro _ rfl
    refine SOps.subI rfl rfl (by omega) (by omega) (SOps.reSlot (t := 42) rfl (show _ = DV.v (.int .i64 (((ptN l - 1 : Nat) : Int) - 1 - ((0 : Nat) : Int))) from congrArg (fun z => DV.v (.int .i64 z)) (by omega)) ?_)
    refine SOps.alloc (sz := 1) zeroIs_3 (fun b5 hb_5 => ?_)
    refine SOps.storeM 0 rfl rfl oneB_3 rfl (SOps.nil (SCode.block (SCode.loop4 (fun (j : Nat) (bI : Nat) (bs : List Int) (nx : List Int) => (⟨65, [(5, .ipin [.v (.int .i64 pen)]), (9, .ipin [.ipin (encPar l w)]), (10, .ipin [.sl b1 1 0 (ptN l)]), (11, .ipin [.sl b3 1 0 (ptN l)]), (12, .ref bI 0)], [(bI, .row 3 1 [[.v (.int .i64 (((ptN l - 1 : Nat) : Int) - 1 - (j : Int)))]]), (b1, DO.row 3 1 (bs.map encI)), (b3, DO.row 3 1 (nx.map encI))]⟩ : St)) (fun (j : Nat) (bI : Nat) (bs : List Int) (nx : List Int) => bs.length = ptN l ∧ nx.length = ptN l ∧ j ≤ ptN l - 1 ∧ bs = List.replicate (ptN l - 1 - j) 0 ++ (bstL l w pen j).map (·.1) ∧ nx = List.replicate (ptN l - 1 - j) 0 ++ (bstL l w pen j).map (·.2)) (fun (j : Nat) (bI : Nat) (bs : List Int) (nx : List Int) => ptN l - j) (0) (b5) ((List.replicate (ptN l) 0)) ((List.replicate (ptN l) 0)) (by have h9 : List.replicate (ptN l) (0 : Int) = List.replicate (ptN l - 1 - 0) 0 ++ [0] := (by rw [← List.replicate_succ', show ptN l - 1 - 0 + 1 = ptN l by omega]); exact ⟨List.length_replicate, List.length_replicate, Nat.zero_le _, h9, h9⟩) (St.Le.of ⟨rfl, rfl, rfl, rfl, rfl, trivial⟩ rfl rfl) ?_)))
    rintro j bI bs nx ⟨hnl, hxl, hjle, hbs, hnx⟩
    refine SCode.seq (SCode.seqR (SOps.loadRef 0 0 0 rfl flatB_3 rfl rfl rfl rfl (SOps.bin rfl rfl rfl (SOps.nil ?_))))
    refine SCode.cond rfl (fun hc4 => ?_) (fun hc4 => ?_)
    ·try simp only [nmL] at hc4
     obtain ⟨i, hi9⟩ : ∃ i : Nat, i = ptN l - 2 - j := ⟨_, rfl⟩
     have hi8 : (((ptN l - 1 : Nat) : Int) - 1 - (j : Int)) = (i : Int) := by omega
     have hsg := stopP_gt l w i
     have hsl := stopP_le (l := l) (w := w) (show i < ptN l by omega)
     rw [show ptN l - 1 - j = i + 1 by omega] at hbs
     rw [show ptN l - 1 - j = i + 1 by omega] at hnx
     have hbok := bstL_ok (pen := pen) hbv ⟨(by omega : 0 ≤ w), hw2⟩ ⟨hpe1, hpe2⟩ j hjle
     have hbl := bstL_len l w pen j
     have hil : i < bs.length := by omega
     have hN3 := ptN_le hbv
     have hbb : ∀ z ∈ bs, z ≤ 1000000000000000000 := fun z hz => by rw [hbs] at hz; exact (List.mem_append.1 hz).elim (fun h => by have := List.eq_of_mem_replicate h; omega) (fun h => by obtain ⟨y, hy, rfl⟩ := List.mem_map.1 h; have := hbok.1 y hy; show y.1 ≤ _; omega)
     refine SCode.skip ?_
     show SCode _ _ _ _
     refine SCode.seq (SCode.block (SCode.seqR (SOps.loadPin rfl flatB_98 (SOps.loadRef 0 0 0 rfl flatB_3 rfl rfl rfl rfl (SOps.indexS (i) rfl rfl sliceB_98_3_1 (by omega) (by omega) (SOps.storeK 1 (i) rfl rfl oneB_3 rfl (by omega) (by omega) rfl (fun _ => rfl) (SOps.nil (SCode.region (SOps.loadPin rfl flatB_96 (SOps.freezeRef (t := 12) 0 0 rfl rfl rfl rfl rfl (SOps.loadPin rfl flatB_3 (SOps.reSlot (t := 51) rfl (show _ = DV.v (.int .i64 (i : Int)) from congrArg (fun z => DV.v (.int .i64 z)) hi8) (SOps.reSlot (t := 12) rfl (show _ = DV.ipin [.v (.int .i64 (i : Int))] from congrArg (fun z => DV.ipin [.v (.int .i64 z)]) hi8) (SOps.makeFunc rfl ?_))))))))))))))
     have hfe : ∀ n, i < n → n < stopP l w i → GCall Tryz.prog E 52 ([.v (.int .i64 ((n : Nat) : Int))] ++ [.ipin [.sl b1 1 0 (ptN l)], .ipin [.ipin (encPar l w)], .ipin [.v (.int .i64 ((i : Nat) : Int))], .ipin [.v (.int .i64 pen)], .ipin [.sl b3 1 0 (ptN l)]]) ((fun n => [(b1, DO.row 3 1 ((bs.set i (bstV l w pen i (bstL l w pen j) (n - (i + 1))).1).map encI)), (b3, DO.row 3 1 ((nx.set i (bstV l w pen i (bstL l w pen j) (n - (i + 1))).2).map encI))]) n) (fun d H => H = (fun n => [(b1, DO.row 3 1 ((bs.set i (bstV l w pen i (bstL l w pen j) (n - (i + 1))).1).map encI)), (b3, DO.row 3 1 ((nx.set i (bstV l w pen i (bstL l w pen j) (n - (i + 1))).2).map encI))]) (n + 1)) := fun n h1 h2 => by
      obtain ⟨x, hx⟩ : ∃ x, (bstV l w pen i (bstL l w pen j) (n - (i + 1))) = x := ⟨_, rfl⟩
      have e8 : ∀ v, (bs.set i v).length = ptN l := fun v => by rw [List.length_set]; exact hnl
      have e9 : ∀ v, (nx.set i v).length = ptN l := fun v => by rw [List.length_set]; exact hxl
      have hlb := lenP_bound hbv (show i < ptN l by omega) (show n < ptN l by omega)
      have hnb : (bs.set i x.1)[n]'(by rw [e8]; omega) ≤ 1000000000000000000 := by
       rw [List.getElem_set_ne (by omega)]
       exact hbb _ (List.getElem_mem _)
      have h9 := sLines1 (E := E) l w pen (bs.set i x.1) (nx.set i x.2) b1 b3 i n hN h1 (by omega) (e8 _) (e9 _) (by omega) (by omega) hpe1 hpe2 (by omega) (stopP_fit h1 h2) hnb
      rw [line_step hbs hnx (show n = i + 1 + (n - (i + 1)) by omega), e8, e9] at h9
      show GCall _ _ _ _ ((fun n => [(b1, DO.row 3 1 ((bs.set i (bstV l w pen i (bstL l w pen j) (n - (i + 1))).1).map encI)), (b3, DO.row 3 1 ((nx.set i (bstV l w pen i (bstL l w pen j) (n - (i + 1))).2).map encI))]) n) (fun d H => H = (fun n => [(b1, DO.row 3 1 ((bs.set i (bstV l w pen i (bstL l w pen j) (n - (i + 1))).1).map encI)), (b3, DO.row 3 1 ((nx.set i (bstV l w pen i (bstL l w pen j) (n - (i + 1))).2).map encI))]) (n + 1))
      have e7 : (bstV l w pen i (bstL l w pen j) ((n + 1) - (i + 1))) = stepB l w pen i (bstL l w pen j) x (n - (i + 1)) := by rw [show n + 1 - (i + 1) = (n - (i + 1)) + 1 by omega, bstV, hx]
      simp only [hx, e7]
      exact h9
     have hS0 : [(b1, DO.row 3 1 ((bs.set i (-1)).map encI)), (b3, DO.row 3 1 (nx.map encI))] = (fun n => [(b1, DO.row 3 1 ((bs.set i (bstV l w pen i (bstL l w pen j) (n - (i + 1))).1).map encI)), (b3, DO.row 3 1 ((nx.set i (bstV l w pen i (bstL l w pen j) (n - (i + 1))).2).map encI))]) (i + 1) := by
      have e6 : (bstV l w pen i (bstL l w pen j) ((i + 1) - (i + 1))) = (-1, 0) := by rw [Nat.sub_self]; rfl
      have e5 : nx.set i 0 = nx := by rw [hnx]; exact rep_set0
      simp only [e6, e5]
     refine SOps.callH [] ((fun n => [(b1, DO.row 3 1 ((bs.set i (bstV l w pen i (bstL l w pen j) (n - (i + 1))).1).map encI)), (b3, DO.row 3 1 ((nx.set i (bstV l w pen i (bstL l w pen j) (n - (i + 1))).2).map encI))]) (i + 1)) [] (sEnds l w i (stopP l w i) (fun n => [(b1, DO.row 3 1 ((bs.set i (bstV l w pen i (bstL l w pen j) (n - (i + 1))).1).map encI)), (b3, DO.row 3 1 ((nx.set i (bstV l w pen i (bstL l w pen j) (n - (i + 1))).2).map encI))]) hN (stopP_gt l w i) (stopP_le (by omega)) (fun n h1 h2 => stopP_fit h1 h2) (stopP_stop (by omega)) hfe) rfl (Eq.trans (show _ = [] ++ ([(b1, DO.row 3 1 ((bs.set i (-1)).map encI)), (b3, DO.row 3 1 (nx.map encI))] ++ []) from rfl) (congrArg (fun z => [] ++ (z ++ [])) (hS0))) (fun d H hR => ?_)
     subst hR
     refine SOps.nil ?_
     show SCode _ _ _ _
     refine SCode.seq (SCode.seqR (SOps.loadPin rfl flatB_3 (SOps.nil (SCode.region ?_))))
     refine SOps.alloc (sz := 1) zeroIs_3 (fun b6 hb_6 => ?_)
     refine SOps.storeM 0 rfl rfl oneB_3 rfl (SOps.nil ?_)
     show SCode _ _ _ _
     refine SCode.region (SOps.loadRef 0 0 0 rfl flatB_3 rfl rfl rfl rfl (SOps.subI rfl rfl (by omega) (by omega) (SOps.reSlot (t := 46) rfl (show _ = DV.v (.int .i64 (((ptN l - 1 : Nat) : Int) - 1 - ((j + 1 : Nat) : Int))) from congrArg (fun z => DV.v (.int .i64 z)) (by omega)) (SOps.storeM 0 rfl rfl oneB_3 rfl (SOps.nil ?_)))))
     have hbs2 : bs.set i (bstV l w pen i (bstL l w pen j) (stopP l w i - (i + 1))).1 = List.replicate (ptN l - 1 - (j + 1)) 0 ++ (bstL l w pen (j + 1)).map (·.1) := by rw [hbs, rep_set, bstL, show ptN l - 2 - j = i by omega, show ptN l - 1 - j = i + 1 by omega, show ptN l - 1 - (j + 1) = i by omega]; rfl
     have hnx2 : nx.set i (bstV l w pen i (bstL l w pen j) (stopP l w i - (i + 1))).2 = List.replicate (ptN l - 1 - (j + 1)) 0 ++ (bstL l w pen (j + 1)).map (·.2) := by rw [hnx, rep_set, bstL, show ptN l - 2 - j = i by omega, show ptN l - 1 - j = i + 1 by omega, show ptN l - 1 - (j + 1) = i by omega]; rfl
     exact ⟨j + 1, b6, _, _, ⟨by rw [List.length_set]; exact hnl, by rw [List.length_set]; exact hxl, by omega, hbs2, hnx2⟩, by omega, St.Le.of ⟨rfl, rfl, rfl, rfl, rfl, trivial⟩⟩
    ·try simp only [nmL] at hc4
     have hjl : j = ptN l - 1 := by omega
     rw [hjl, Nat.sub_self] at hbs hnx
     have hbs3 : bs = (bstL l w pen (ptN l - 1)).map (·.1) := hbs
     have hnx3 : nx = (bstL l w pen (ptN l - 1)).map (·.2) := hnx
     have h0l : 0 < bs.length := by omega
     have hb0 : bs[0] = ((bstL l w pen (ptN l - 1)).getD 0 (0, 0)).1 := by rw [← getD_lt (d := 0) h0l, hbs3, List.getD_eq_getElem?_getD, List.getD_eq_getElem?_getD, List.getElem?_map]; cases (bstL l w pen (ptN l - 1))[0]? <;> rfl
     refine SCode.exit ?_
     show SCode _ _ _ _
     refine SCode.seq (SCode.seqR (SOps.freezePin (t := 11) 2 rfl rfl rfl (by rw [List.length_map]; omega) (SOps.loadPin rfl flatB_98 (SOps.indexS (0) rfl rfl sliceB_98_3_1 (by omega) (by omega) (SOps.loadK 1 (0) rfl flatB_3 rfl (by omega) (by omega) rfl (SOps.bin rfl rfl rfl (SOps.nil ?_)))))))
     refine SCode.cond rfl (fun hc5 => ?_) (fun hc5 => ?_)
     ·try simp only [nmL] at hc5
      have hng : ((bstL l w pen (ptN l - 1)).getD 0 (0, 0)).1 < 0 := by rw [← hb0]; omega
      refine SCode.seqR (SOps.assign rfl (SOps.assign rfl (SOps.assign rfl (SOps.nil (SCode.drop (SCode.ret ?_))))))
      exact ⟨_, Res.three (.tmp rfl) (.tmp rfl) (.tmp rfl), by rw [if_pos hok, if_pos hng]⟩
     ·try simp only [nmL] at hc5
      have hng : ¬ ((bstL l w pen (ptN l - 1)).getD 0 (0, 0)).1 < 0 := by rw [← hb0]; omega
      have hpth : Pth nx 0 (pathF (ptN l - 1) nx (ptN l) 0) (ptN l - 1) := by rw [hnx3]; exact best_path hbv ⟨(by omega : 0 ≤ w), hw2⟩ ⟨hpe1, hpe2⟩ hng
      have hlr : linesR l w pen = (linesOf l 0 (pathF (ptN l - 1) nx (ptN l) 0), bs[0], 0) := by unfold linesR; rw [if_pos hok, if_neg hng, ← hnx3, ← hb0]
      refine SCode.skip ?_
      show SCode _ _ _ _
      refine SCode.seq ?_
      apply SCode.drawAuto mixed_ [59, 60, 61, 62, 63, 64, 6, 7, 8] [[.inr 9], [.inr 11], [.inl 0, .inl 1], [.inr 10], [.inl 3], [.inl 4], [.inl 2], [.inl 5], []]
      ·kernel_rfl
      ·kernel_rfl
      ·apply DOk.cons 59 
       ·rfl
       ·exact (NeedIs.inr _ rfl NeedIs.nil)
       ·intro rest
        refine SOps.loadPin rfl flatB_96 ?_
        exact SOps.nil rfl
       apply DOk.cons 60 
       ·rfl
       ·exact (NeedIs.inr _ rfl NeedIs.nil)
       ·intro rest
        refine SOps.loadPin rfl flatB_98 ?_
        exact SOps.nil rfl
       apply DOk.cons 61 
       ·rfl
       ·exact (NeedIs.inl 1 _ _ rfl rfl (NeedIs.inl 0 _ _ rfl rfl NeedIs.nil))
       ·intro rest
        refine SOps.callP (sLinesM l w nx (pathF (ptN l - 1) nx (ptN l) 0) hbv hxl hpth) rfl ?_
        rintro _ rfl
        exact SOps.nil rfl
       apply DOk.cons 62 
       ·rfl
       ·exact (NeedIs.inr _ rfl NeedIs.nil)
       ·intro rest
        refine SOps.loadPin rfl flatB_98 ?_
        exact SOps.nil rfl
       apply DOk.cons 63 
       ·rfl
       ·exact (NeedIs.inl 0 _ _ rfl rfl NeedIs.nil)
       ·intro rest
        refine SOps.indexS (0) rfl rfl sliceB_98_3_1 (by omega) (by omega) ?_
        exact SOps.nil rfl
       apply DOk.cons 64 
       ·rfl
       ·exact (NeedIs.inl 0 _ _ rfl rfl NeedIs.nil)
       ·intro rest
        refine SOps.loadK 1 (0) rfl flatB_3 rfl (by omega) (by omega) rfl ?_
        exact SOps.nil rfl
       apply DOk.cons 6 
       ·rfl
       ·exact (NeedIs.inl 3 _ _ rfl rfl NeedIs.nil)
       ·intro rest
        refine SOps.assign rfl ?_
        exact SOps.nil rfl
       apply DOk.cons 7 
       ·rfl
       ·exact (NeedIs.inl 1 _ _ rfl rfl NeedIs.nil)
       ·intro rest
        refine SOps.assign rfl ?_
        exact SOps.nil rfl
       apply DOk.cons 8 
       ·rfl
       ·exact NeedIs.nil
       ·intro rest
        refine SOps.assign rfl ?_
        exact SOps.nil rfl
       exact DOk.nil
      ·rfl
      ·show SCode _ _ _ _
       refine SCode.drop (SCode.ret ?_)
       exact ⟨_, Res.three (.tmp rfl) (.tmp rfl) (.tmp rfl), by rw [if_pos hok, if_neg hng, hlr]⟩
end Go.GH
namespace Go.GH
open Go Go.Lib
end Go.GH
namespace Go.GH
open Go Go.Proofs
variable {E : Env}
theorem sLines (hV : VS E) (l : List Bx) (w pen : Int) (hbx : ∀ x ∈ l, x.word.size ≤ 1048576) : GCall Tryz.prog E 18 [DBxs l, .v (.int .i64 w), .v (.int .i64 pen)] [] (fun d H => d = .tup [DLns (linesR l w pen).1, .v (.int .i64 (linesR l w pen).2.1), .v (.int .i64 (linesR l w pen).2.2)] ∧ H = []) :=
  (sLines0 hV l w pen hbx).clean (fun d H e => by
    subst e
    split
    · rename_i h1
      split
      · rename_i h2
        have e : linesR l w pen = ([], 0, 2) := by unfold linesR; rw [if_pos h1, if_pos h2]
        rw [e]
        exact ⟨_, fun _ _ _ h => rep_tup0 (fun _ _ _ h => nil_isl h) h, rfl⟩
      · rename_i h2
        have e : (linesR l w pen).2.2 = 0 := by unfold linesR; rw [if_pos h1, if_neg h2]
        rw [e]
        exact ⟨_, fun _ _ _ h => h, rfl⟩
    · rename_i h1
      have e : linesR l w pen = ([], 0, 1) := by unfold linesR; rw [if_neg h1]
      rw [e]
      exact ⟨_, fun _ _ _ h => rep_tup0 (fun _ _ _ h => nil_isl h) h, rfl⟩)
end Go.GH
namespace Go.GH
open Go Go.Lib
theorem many_ok {l : List Bx} (h : manyB l = false) : l.length ≤ 40 ∧ ∀ x ∈ l, x.word.size ≤ 100 ∧ x.pts.length ≤ 20 := by
  unfold manyB at h
  rw [Bool.or_eq_false_iff, decide_eq_false_iff_not, List.any_eq_false] at h
  exact ⟨by omega, fun x hx => by
    have h1 := h.1 x hx
    rw [Bool.not_eq_true] at h1
    have h2 : ¬ bigB 100 20 x = true := by rw [h1]; simp
    rw [bigB_iff] at h2; omega⟩
end Go.GH
namespace Go.GH
open Go Go.Lib
theorem accD_ne {sz b : Nat} {es : List (List DV)} (h : 0 < es.length) : accD sz b es = .sl b sz 0 es.length := by
  cases es with
  | nil => simp at h
  | cons x l => rfl
theorem accH_ne {e sz b : Nat} {es : List (List DV)} (h : 0 < es.length) : accH e sz b es = [(b, .row e sz es)] := by
  cases es with
  | nil => simp at h
  | cons x l => rfl
end Go.GH
namespace Go.GH
open Go Go.Proofs
variable {E : Env}

end Go.GH
namespace Go.GH
open Go Go.Proofs
variable {E : Env}
theorem jLimited (w : Int)  : GCall Tryz.prog E 36 [.v (.int .i64 w)] [] (fun d H => d = .v (.bool (wideB w)) ∧ H = []) := by
 refine GCall.body (C := ⟨Tryz.prog, E, true⟩) Tryz.func36 rfl (fun _ => rfl) (by kernel_rfl) rfl ?_
 refine SCode.seqR (SOps.assign rfl (SOps.nil (SCode.seqR (SOps.move rfl (SOps.bin rfl rfl rfl (SOps.move rfl ?_))))))
 refine SOps.caseB 5 rfl (fun hb1 => ?_) (fun hb1 => ?_)
 ·try simp only [nmL] at hb1
  refine SOps.move rfl (SOps.bin rfl rfl rfl (SOps.pick rfl rfl (SOps.assign rfl (SOps.nil (SCode.ret ?_)))))
  exact ⟨_, Res.one (.tmp rfl), congrArg (fun b => DV.v (.bool b)) (by rw [Bool.eq_iff_iff]; simp only [wideB, Bool.and_eq_true, decide_eq_true_eq, Bool.false_eq_true, Bool.true_eq_false, beq_iff_eq]; first | omega | (simp; omega)), rfl⟩
 ·try simp only [nmL] at hb1
  refine SOps.skip rfl (SOps.skip rfl (SOps.pick rfl rfl (SOps.assign rfl (SOps.nil (SCode.ret ?_)))))
  exact ⟨_, Res.one (.tmp rfl), congrArg (fun b => DV.v (.bool b)) (by rw [Bool.eq_iff_iff]; simp only [wideB, Bool.and_eq_true, decide_eq_true_eq, Bool.false_eq_true, Bool.true_eq_false, beq_iff_eq]; first | omega | (simp; omega)), rfl⟩
theorem jBlanks (n : Nat) (hn : n ≤ 1048576) : GCall Tryz.prog E 40 [.v (.int .i64 (n : Int))] [] (fun d H => d = .v (.string (blB n)) ∧ H = []) := by
 refine GCall.body (C := ⟨Tryz.prog, E, true⟩) Tryz.func40 rfl (fun _ => rfl) (by kernel_rfl) rfl ?_
 refine SCode.seqR (SOps.assign rfl (SOps.nil (SCode.seqR (SOps.move rfl (SOps.callP (sRepeat n hn) rfl ?_)))))
 rintro _ rfl
 refine SOps.assign rfl (SOps.nil (SCode.ret ?_))
 exact ⟨_, Res.one (.tmp rfl), rfl, rfl⟩
theorem jPrintable (hV : VS E) (ln : Ln) (hw : ∀ w ∈ ln.words, w.size ≤ 1048576) (hl : ln.words.length ≤ 1048576) : GCall Tryz.prog E 37 [.agg (encLn ln)] [] (fun d H => d = .v (.bool (prB ln)) ∧ H = []) := by
 refine GCall.body (C := ⟨Tryz.prog, E, true⟩) Tryz.func37 rfl (fun _ => rfl) (by kernel_rfl) rfl ?_
 refine SCode.seqR (SOps.boxAM rfl rfl (SOps.assign rfl (SOps.nil (SCode.seq (SCode.seqR (SOps.fieldPin rfl fieldB_24_0_0 (SOps.loadPin rfl flatB_22 (SOps.lenM rfl sliceB_22_9_1 (SOps.move rfl (SOps.nil (SCode.block (SCode.loop1 (fun (i : Nat) => (⟨28, [(1, .ipin (encLn ln)), (6, DStrs ln.words), (7, .v (.int .i64 (ln.words.length : Int))), (8, .v (.int .i64 (i : Int)))], []⟩ : St)) (fun (i : Nat) => i ≤ ln.words.length ∧ ∀ w ∈ ln.words.take i, wordB w = true) (fun (i : Nat) => ln.words.length - i) (0) (by simp) (St.Le.of ⟨rfl, rfl, rfl, rfl, trivial⟩ rfl rfl) ?_))))))))))))
 rintro i ⟨hi, hf⟩
 refine SCode.seqR (SOps.bin rfl rfl rfl (SOps.nil (SCode.seq ?_)))
 refine SCode.cond rfl (fun hc1 => ?_) (fun hc1 => ?_)
 ·try simp only [nmL] at hc1
  refine SCode.skip ?_
  show SCode _ _ _ _
  refine SCode.seq (SCode.block (SCode.seqR ?_))
  have hil : i < ln.words.length := by omega
  have hwi := hw _ (List.getElem_mem hil)
  refine SOps.indexM (i) rfl rfl sliceB_22_9_1 (by omega) (by omega) (SOps.loadPin rfl flatB_9 (SOps.assign rfl (SOps.nil (SCode.seqR (SOps.move rfl (SOps.bin rfl rfl rfl (SOps.move rfl ?_)))))))
  refine SOps.caseB 14 rfl (fun hb2 => ?_) (fun hb2 => ?_)
  ·try simp only [nmL] at hb2
   refine SOps.skip rfl (SOps.skip rfl (SOps.skip rfl (SOps.pick rfl rfl (SOps.move rfl (SOps.skip rfl (SOps.skip rfl (SOps.pick rfl rfl (SOps.nil ?_))))))))
   refine SCode.cond rfl (fun _ => ?_) (fun h => by cases h)
   refine SCode.seqR (SOps.assign rfl (SOps.nil (SCode.ret ?_)))
   exact ⟨_, Res.one (.tmp rfl), congrArg (fun b => DV.v (.bool b)) (Eq.symm (Bool.eq_false_iff.2 (fun h => by have h9 := (prB_iff.1 h).2 _ (List.getElem_mem hil); unfold wordB at h9; simp_all))), rfl⟩
  ·try simp only [nmL] at hb2
   refine SOps.move rfl (SOps.callP (hV _) rfl ?_)
   rintro _ rfl
   refine SOps.un rfl rfl (SOps.pick rfl rfl (SOps.move rfl ?_))
   refine SOps.caseB 19 rfl (fun hb3 => ?_) (fun hb3 => ?_)
   ·try simp only [nmL] at hb3
    refine SOps.skip rfl (SOps.skip rfl (SOps.pick rfl rfl (SOps.nil ?_)))
    refine SCode.cond rfl (fun _ => ?_) (fun h => by cases h)
    refine SCode.seqR (SOps.assign rfl (SOps.nil (SCode.ret ?_)))
    exact ⟨_, Res.one (.tmp rfl), congrArg (fun b => DV.v (.bool b)) (Eq.symm (Bool.eq_false_iff.2 (fun h => by have h9 := (prB_iff.1 h).2 _ (List.getElem_mem hil); unfold wordB at h9; simp_all))), rfl⟩
   ·try simp only [nmL] at hb3
    refine SOps.move rfl (SOps.callP (sContainsAny _ (by assumption) hwi) rfl ?_)
    rintro _ rfl
    refine SOps.pick rfl rfl (SOps.nil ?_)
    refine SCode.cond rfl (fun hc4 => ?_) (fun hc4 => ?_)
    ·try simp only [nmL] at hc4
     refine SCode.seqR (SOps.assign rfl (SOps.nil (SCode.ret ?_)))
     exact ⟨_, Res.one (.tmp rfl), congrArg (fun b => DV.v (.bool b)) (Eq.symm (Bool.eq_false_iff.2 (fun h => by have h9 := (prB_iff.1 h).2 _ (List.getElem_mem hil); unfold wordB at h9; simp_all))), rfl⟩
    ·try simp only [nmL] at hc4
     refine SCode.skip ?_
     show SCode _ _ _ _
     refine SCode.region (SOps.addI rfl rfl (by omega) (by omega) (SOps.move rfl (SOps.nil ?_)))
     exact ⟨i + 1, by exact ⟨by omega, take_more hf hil (by unfold wordB; simp_all)⟩, by omega, (St.Le.of ⟨rfl, rfl, rfl, rfl, trivial⟩ rfl rfl)⟩
 ·try simp only [nmL] at hc1
  refine SCode.exit ?_
  show SCode _ _ _ _
  refine SCode.seqR (SOps.fieldPin rfl fieldB_24_0_0 (SOps.loadPin rfl flatB_22 (SOps.lenM rfl sliceB_22_9_1 (SOps.bin rfl rfl rfl (SOps.assign rfl (SOps.nil (SCode.ret ?_)))))))
  exact ⟨_, Res.one (.tmp rfl), congrArg (fun b => DV.v (.bool b)) (by rw [prB, List.all_eq_true.2 (all_of (by omega) hf), Bool.and_true, Bool.eq_iff_iff]; simp), rfl⟩
theorem jSpread (hV : VS E) (ln : Ln) (w : Int) (last : Bool) (hw : ∀ w ∈ ln.words, w.size ≤ 1048576) (hl : ln.words.length ≤ 1048576) : GCall Tryz.prog E 13 [.agg (encLn ln), .v (.int .i64 w), .v (.bool last)] [] (fun d H => d = tupA (spreadR ln w last) ∧ H = []) := by
 refine GCall.body (C := ⟨Tryz.prog, E, true⟩) Tryz.func13 rfl (fun _ => rfl) (by kernel_rfl) rfl ?_
 refine SCode.seqR (SOps.boxAM rfl rfl (SOps.assign rfl (SOps.assign rfl (SOps.nil (SCode.seq (SCode.seqR (SOps.move rfl (SOps.callP (jLimited _) rfl ?_))))))))
 rintro _ rfl
 refine SOps.un rfl rfl (SOps.move rfl ?_)
 refine SOps.caseB 20 rfl (fun hb1 => ?_) (fun hb1 => ?_)
 ·try simp only [nmL] at hb1
  refine SOps.skip rfl (SOps.skip rfl (SOps.skip rfl (SOps.pick rfl rfl (SOps.nil ?_))))
  refine SCode.cond rfl (fun _ => ?_) (fun h => by cases h)
  refine SCode.seqR (SOps.assign rfl (SOps.assign rfl (SOps.nil (SCode.ret ?_))))
  exact ⟨_, Res.two (.tmp rfl) (.tmp rfl), (by rw [spread_bad (by simp_all)]; rfl), rfl⟩
 ·try simp only [nmL] at hb1
  refine SOps.loadPinA rfl aggB_24_2 (Nat.le_of_ble_eq_true rfl) (SOps.callP (jPrintable hV _ (by assumption) (by assumption)) rfl ?_)
  rintro _ rfl
  refine SOps.un rfl rfl (SOps.pick rfl rfl (SOps.nil ?_))
  refine SCode.cond rfl (fun hc2 => ?_) (fun hc2 => ?_)
  ·try simp only [nmL] at hc2
   refine SCode.seqR (SOps.assign rfl (SOps.assign rfl (SOps.nil (SCode.ret ?_))))
   exact ⟨_, Res.two (.tmp rfl) (.tmp rfl), (by rw [spread_bad (by simp_all)]; rfl), rfl⟩
  ·try simp only [nmL] at hc2
   refine SCode.skip ?_
   show SCode _ _ _ _
   refine SCode.seqR (SOps.loadPinA rfl aggB_24_2 (Nat.le_of_ble_eq_true rfl) (SOps.callP (sText _ (by assumption) (by assumption)) rfl ?_))
   rintro _ rfl
   refine SOps.assign rfl (SOps.nil (SCode.seqR ?_))
   have hgood : (wideB w && prB ln) = true := by simp_all
   have hw12 := wideX_iff.1 (Bool.and_eq_true_iff.1 hgood).1
   have hpr := prB_iff.1 (Bool.and_eq_true_iff.1 hgood).2
   have hcl := catW_sz hw
   have htl : (textL ln).size ≤ 1048577 * ln.words.length + 1 := by unfold textL; split; rw [ByteArray.size_append]; have : hy1.size = 1 := rfl; omega; omega
   have hwl : wlen (textL ln) ≤ (textL ln).size := runes_len _
   refine SOps.move rfl (SOps.move rfl (SOps.callP (uRuneCountW _) rfl ?_))
   rintro _ rfl
   refine SOps.subI rfl rfl (by omega) (by omega) (SOps.assign rfl (SOps.nil (SCode.seq (SCode.seqR (SOps.move rfl (SOps.bin rfl rfl rfl (SOps.nil ?_)))))))
   refine SCode.cond rfl (fun hc3 => ?_) (fun hc3 => ?_)
   ·try simp only [nmL] at hc3
    refine SCode.seqR (SOps.assign rfl (SOps.assign rfl (SOps.nil (SCode.ret ?_))))
    exact ⟨_, Res.two (.tmp rfl) (.tmp rfl), (by rw [spread_tight hgood (by omega)]; rfl), rfl⟩
   ·try simp only [nmL] at hc3
    refine SCode.skip ?_
    show SCode _ _ _ _
    refine SCode.seqR ?_
    obtain ⟨m, hm⟩ : ∃ m : Nat, w - (wlen (textL ln) : Int) = (m : Int) := ⟨(w - (wlen (textL ln) : Int)).toNat, by omega⟩
    refine SOps.reSlot (t := 9) rfl (show _ = DV.v (.int .i64 (m : Int)) from congrArg (fun z => DV.v (.int .i64 z)) hm) (SOps.fieldPin rfl fieldB_24_0_0 (SOps.loadPin rfl flatB_22 (SOps.lenM rfl sliceB_22_9_1 (SOps.subI rfl rfl (by omega) (by omega) (SOps.assign rfl (SOps.nil (SCode.seq (SCode.seqR ?_))))))))
    obtain ⟨g, hg⟩ : ∃ g : Nat, (ln.words.length : Int) - 1 = (g : Int) := ⟨ln.words.length - 1, by omega⟩
    refine SOps.reSlot (t := 10) rfl (show _ = DV.v (.int .i64 (g : Int)) from congrArg (fun z => DV.v (.int .i64 z)) hg) (SOps.move rfl (SOps.move rfl ?_))
    refine SOps.caseB 38 rfl (fun hb4 => ?_) (fun hb4 => ?_)
    ·try simp only [nmL] at hb4
     refine SOps.skip rfl (SOps.skip rfl (SOps.pick rfl rfl (SOps.nil ?_)))
     refine SCode.cond rfl (fun _ => ?_) (fun h => by cases h)
     refine SCode.seqR (SOps.move rfl (SOps.move rfl (SOps.callP (jBlanks m (by omega)) rfl ?_)))
     rintro _ rfl
     refine SOps.concat rfl rfl (by simp only [lenB, ByteArray.size_append, blB_size]; omega) (SOps.assign rfl (SOps.assign rfl (SOps.nil (SCode.ret ?_))))
     exact ⟨_, Res.two (.tmp rfl) (.tmp rfl), (by rw [spread_last hgood hm (by simp_all)]; rfl), rfl⟩
    ·try simp only [nmL] at hb4
     refine SOps.move rfl (SOps.bin rfl rfl rfl (SOps.pick rfl rfl (SOps.nil ?_)))
     refine SCode.cond rfl (fun hc5 => ?_) (fun hc5 => ?_)
     ·try simp only [nmL] at hc5
      refine SCode.seqR (SOps.move rfl (SOps.move rfl (SOps.callP (jBlanks m (by omega)) rfl ?_)))
      rintro _ rfl
      refine SOps.concat rfl rfl (by simp only [lenB, ByteArray.size_append, blB_size]; omega) (SOps.assign rfl (SOps.assign rfl (SOps.nil (SCode.ret ?_))))
      exact ⟨_, Res.two (.tmp rfl) (.tmp rfl), (by rw [spread_last hgood hm (.inr (by omega))]; rfl), rfl⟩
     ·try simp only [nmL] at hc5
      refine SCode.skip ?_
      show SCode _ _ _ _
      refine SCode.seq ?_
      apply SCode.drawAuto mixed_ [46, 47, 48, 49, 50, 51, 11, 12] [[.inr 9], [.inr 10], [.inl 0, .inl 1], [.inr 9], [.inr 10], [.inl 3, .inl 4], [.inl 2], [.inl 5]]
      ·kernel_rfl
      ·kernel_rfl
      ·apply DOk.cons 46 
       ·rfl
       ·exact (NeedIs.inr _ rfl NeedIs.nil)
       ·intro rest
        refine SOps.move rfl ?_
        exact SOps.nil rfl
       apply DOk.cons 47 
       ·rfl
       ·exact (NeedIs.inr _ rfl NeedIs.nil)
       ·intro rest
        refine SOps.move rfl ?_
        exact SOps.nil rfl
       apply DOk.cons 48 
       ·rfl
       ·exact (NeedIs.inl 1 _ _ rfl rfl (NeedIs.inl 0 _ _ rfl rfl NeedIs.nil))
       ·intro rest
        refine SOps.quoN (m) (g) rfl rfl rfl rfl (by omega) (has_div (by omega)) ?_
        exact SOps.nil rfl
       apply DOk.cons 49 
       ·rfl
       ·exact (NeedIs.inr _ rfl NeedIs.nil)
       ·intro rest
        refine SOps.move rfl ?_
        exact SOps.nil rfl
       apply DOk.cons 50 
       ·rfl
       ·exact (NeedIs.inr _ rfl NeedIs.nil)
       ·intro rest
        refine SOps.move rfl ?_
        exact SOps.nil rfl
       apply DOk.cons 51 
       ·rfl
       ·exact (NeedIs.inl 1 _ _ rfl rfl (NeedIs.inl 0 _ _ rfl rfl NeedIs.nil))
       ·intro rest
        refine SOps.remN (m) (g) rfl rfl rfl rfl (by omega) (has_mod (by omega)) ?_
        exact SOps.nil rfl
       apply DOk.cons 11 
       ·rfl
       ·exact (NeedIs.inl 3 _ _ rfl rfl NeedIs.nil)
       ·intro rest
        refine SOps.assign rfl ?_
        exact SOps.nil rfl
       apply DOk.cons 12 
       ·rfl
       ·exact (NeedIs.inl 1 _ _ rfl rfl NeedIs.nil)
       ·intro rest
        refine SOps.assign rfl ?_
        exact SOps.nil rfl
       exact DOk.nil
      ·rfl
      ·show SCode _ _ _ _
       refine SCode.seqR ?_
       refine SOps.allocV (sz := 2) zeroBld (fun b0 hb_0 => ?_)
       refine SOps.nil (SCode.seq (SCode.seqR (SOps.fieldPin rfl fieldB_24_0_0 (SOps.loadPin rfl flatB_22 (SOps.lenM rfl sliceB_22_9_1 (SOps.move rfl (SOps.nil (SCode.block (SCode.loop3 (fun (i : Nat) (gg : Nat) (u : Bool) => (⟨80, [(3, .ipin (encLn ln)), (10, .v (.int .i64 (g : Int))), (11, .v (.int .i64 ((m / g : Nat) : Int))), (12, .v (.int .i64 ((m % g : Nat) : Int))), (13, .vref b0 86 2), (53, DStrs ln.words), (54, .v (.int .i64 (ln.words.length : Int))), (55, .v (.int .i64 (i : Int)))], bldH b0 gg u (sprK ln.words g m i).data.toList⟩ : St)) (fun (i : Nat) (gg : Nat) (u : Bool) => i ≤ ln.words.length) (fun (i : Nat) (gg : Nat) (u : Bool) => ln.words.length - i) (0) (0) (false) (by exact Nat.zero_le _) (St.Le.of ⟨rfl, rfl, rfl, rfl, rfl, rfl, rfl, rfl, trivial⟩ rfl rfl) ?_)))))))))
       rintro i gg u hi
       have hss := sprK_size (g := g) (show m ≤ 200 by omega) hw i
       have hsl : (sprK ln.words g m i).data.toList.length ≤ (1048576 + 202) * i := by rw [show (sprK ln.words g m i).data.toList.length = (sprK ln.words g m i).size from by simp]; exact hss
       have hdl := Nat.div_le_self m g
       have hdn : (0 : Int) ≤ ((m / g : Nat) : Int) := Int.natCast_nonneg _
       refine SCode.seqR (SOps.bin rfl rfl rfl (SOps.nil (SCode.seq ?_)))
       refine SCode.cond rfl (fun hc6 => ?_) (fun hc6 => ?_)
       ·try simp only [nmL] at hc6
        refine SCode.skip ?_
        show SCode _ _ _ _
        refine SCode.seq (SCode.block (SCode.seqR ?_))
        have hil : i < ln.words.length := by omega
        have hwi := hw _ (List.getElem_mem hil)
        have hsp : (sprK ln.words g m (i + 1)) = if i < g then (sprK ln.words g m i) ++ ln.words[i] ++ blB (gapN m g i) else (sprK ln.words g m i) ++ ln.words[i] := by rw [sprK, getD_w hil]
        have hwd : (ln.words[i]).data.toList.length = (ln.words[i]).size := by simp
        have hgb := blB_size (gapN m g i)
        have hgl := gapN_le (m := m) (g := g) (i := i) (by omega)
        refine SOps.move rfl (SOps.indexM (i) rfl rfl sliceB_22_9_1 (by omega) (by omega) (SOps.loadPin rfl flatB_9 (SOps.assign rfl (SOps.assign rfl (SOps.nil (SCode.seqR (SOps.move rfl (SOps.callR (bldH _ _ _ _) [] (bWriteString _ _ _ _ _ (by first | omega | (rw [List.length_append]; omega) | (rw [List.length_append, List.length_append]; omega) | (simp only [List.length_append, List.length_cons, List.length_nil]; omega))) rfl rfl ?_))))))))
        rintro _ _ ⟨g7, rfl, rfl⟩
        refine SOps.nil (SCode.seqR (SOps.move rfl (SOps.move rfl (SOps.bin rfl rfl rfl (SOps.nil ?_)))))
        refine SCode.cond rfl (fun hc7 => ?_) (fun hc7 => ?_)
        ·try simp only [nmL] at hc7
         have hctA : (sprK ln.words g m (i + 1)).data.toList = (sprK ln.words g m i).data.toList ++ (ln.words[i]).data.toList ++ (blB (gapN m g i)).data.toList := by rw [hsp, if_pos (by omega), data_app2, data_app2]
         refine SCode.seqR (SOps.move rfl (SOps.addI rfl rfl (by omega) (by omega) (SOps.assign rfl (SOps.nil (SCode.seq (SCode.seqR (SOps.move rfl (SOps.move rfl (SOps.bin rfl rfl rfl (SOps.nil ?_))))))))))
         refine SCode.cond rfl (fun hc8 => ?_) (fun hc8 => ?_)
         ·try simp only [nmL] at hc8
          refine SCode.region (SOps.move rfl (SOps.addI rfl rfl (by omega) (by omega) (SOps.assign rfl (SOps.nil ?_))))
          show SCode _ _ _ _
          refine SCode.region (SOps.reSlot (t := 16) rfl (show _ = DV.v (.int .i64 ((gapN m g i : Nat) : Int)) from congrArg (fun z => DV.v (.int .i64 z)) (by unfold gapN; first | (rw [if_pos (by omega)]; omega) | (rw [if_neg (by omega)]; omega))) (SOps.move rfl (SOps.callP (jBlanks (gapN m g i) (by omega)) rfl ?_)))
          rintro _ rfl
          refine SOps.callR (bldH _ _ _ _) [] (bWriteString _ _ _ _ _ (by first | omega | (rw [List.length_append]; omega) | (rw [List.length_append, List.length_append]; omega) | (simp only [List.length_append, List.length_cons, List.length_nil]; omega))) rfl rfl ?_
          rintro _ _ ⟨g7, rfl, rfl⟩
          refine SOps.nil ?_
          show SCode _ _ _ _
          refine SCode.region (SOps.addI rfl rfl (by omega) (by omega) (SOps.move rfl (SOps.nil ?_)))
          first
           | exact ⟨i + 1, g7, true, by omega, by omega, St.Le.of ⟨rfl, rfl, rfl, rfl, rfl, rfl, rfl, rfl, trivial⟩ rfl (congrArg (bldH b0 g7 true) hctA)⟩
           | exact ⟨i + 1, g7, true, by omega, by omega, St.Le.of ⟨rfl, rfl, rfl, rfl, rfl, rfl, rfl, rfl, trivial⟩ rfl (congrArg (bldH b0 g7 true) hctB)⟩
         ·try simp only [nmL] at hc8
          refine SCode.skip ?_
          show SCode _ _ _ _
          refine SCode.region (SOps.reSlot (t := 16) rfl (show _ = DV.v (.int .i64 ((gapN m g i : Nat) : Int)) from congrArg (fun z => DV.v (.int .i64 z)) (by unfold gapN; first | (rw [if_pos (by omega)]; omega) | (rw [if_neg (by omega)]; omega))) (SOps.move rfl (SOps.callP (jBlanks (gapN m g i) (by omega)) rfl ?_)))
          rintro _ rfl
          refine SOps.callR (bldH _ _ _ _) [] (bWriteString _ _ _ _ _ (by first | omega | (rw [List.length_append]; omega) | (rw [List.length_append, List.length_append]; omega) | (simp only [List.length_append, List.length_cons, List.length_nil]; omega))) rfl rfl ?_
          rintro _ _ ⟨g7, rfl, rfl⟩
          refine SOps.nil ?_
          show SCode _ _ _ _
          refine SCode.region (SOps.addI rfl rfl (by omega) (by omega) (SOps.move rfl (SOps.nil ?_)))
          first
           | exact ⟨i + 1, g7, true, by omega, by omega, St.Le.of ⟨rfl, rfl, rfl, rfl, rfl, rfl, rfl, rfl, trivial⟩ rfl (congrArg (bldH b0 g7 true) hctA)⟩
           | exact ⟨i + 1, g7, true, by omega, by omega, St.Le.of ⟨rfl, rfl, rfl, rfl, rfl, rfl, rfl, rfl, trivial⟩ rfl (congrArg (bldH b0 g7 true) hctB)⟩
        ·try simp only [nmL] at hc7
         have hctB : (sprK ln.words g m (i + 1)).data.toList = (sprK ln.words g m i).data.toList ++ (ln.words[i]).data.toList := by rw [hsp, if_neg (by omega), data_app2]
         refine SCode.skip ?_
         show SCode _ _ _ _
         refine SCode.region (SOps.addI rfl rfl (by omega) (by omega) (SOps.move rfl (SOps.nil ?_)))
         first
          | exact ⟨i + 1, g7, true, by omega, by omega, St.Le.of ⟨rfl, rfl, rfl, rfl, rfl, rfl, rfl, rfl, trivial⟩ rfl (congrArg (bldH b0 g7 true) hctA)⟩
          | exact ⟨i + 1, g7, true, by omega, by omega, St.Le.of ⟨rfl, rfl, rfl, rfl, rfl, rfl, rfl, rfl, trivial⟩ rfl (congrArg (bldH b0 g7 true) hctB)⟩
       ·try simp only [nmL] at hc6
        refine SCode.exit ?_
        show SCode _ _ _ _
        refine SCode.seq (SCode.seqR (SOps.fieldPin rfl fieldB_24_1_1 (SOps.loadPin rfl flatB_4 (SOps.nil ?_))))
        refine SCode.cond rfl (fun hc9 => ?_) (fun hc9 => ?_)
        ·try simp only [nmL] at hc9
         refine SCode.region (SOps.callR (bldH _ _ _ _) [] (bWriteByte _ _ _ _ 45 (by first | omega | (rw [List.length_append]; omega) | (rw [List.length_append, List.length_append]; omega) | (simp only [List.length_append, List.length_cons, List.length_nil]; omega))) rfl rfl ?_)
         rintro _ _ ⟨g7, rfl, rfl⟩
         refine SOps.nil ?_
         show SCode _ _ _ _
         refine SCode.seqR (SOps.callR (bldH _ _ _ _) [] (bString _ _ _ _ (by first | omega | (rw [List.length_append]; omega) | (rw [List.length_append, List.length_append]; omega) | (simp only [List.length_append, List.length_cons, List.length_nil]; omega))) rfl rfl ?_)
         rintro _ _ ⟨rfl, rfl⟩
         refine SOps.assign rfl (SOps.assign rfl (SOps.nil (SCode.ret ?_)))
         have hx : sprL ln m = (sprK ln.words g m i) ++ hy1 := by unfold sprL; rw [if_pos (by simp_all), show ln.words.length - 1 = g by omega, show ln.words.length = i by omega]
         exact ⟨_, Res.two (.tmp rfl) (.tmp rfl), (by rw [spread_gaps hgood hm (by simp_all) (by omega), hx]; exact congrArg (fun z => DV.tup [DV.v (.string z), .v (.int .i64 0)]) (ba_list ((sprK ln.words g m i) ++ hy1))), rfl⟩
        ·try simp only [nmL] at hc9
         refine SCode.skip ?_
         show SCode _ _ _ _
         refine SCode.seqR (SOps.callR (bldH _ _ _ _) [] (bString _ _ _ _ (by first | omega | (rw [List.length_append]; omega) | (rw [List.length_append, List.length_append]; omega) | (simp only [List.length_append, List.length_cons, List.length_nil]; omega))) rfl rfl ?_)
         rintro _ _ ⟨rfl, rfl⟩
         refine SOps.assign rfl (SOps.assign rfl (SOps.nil (SCode.ret ?_)))
         have hx : sprL ln m = (sprK ln.words g m i) := by unfold sprL; rw [if_neg (by simp_all), show ln.words.length - 1 = g by omega, show ln.words.length = i by omega]
         exact ⟨_, Res.two (.tmp rfl) (.tmp rfl), (by rw [spread_gaps hgood hm (by simp_all) (by omega), hx]; exact congrArg (fun z => DV.tup [DV.v (.string z), .v (.int .i64 0)]) (ba_list ((sprK ln.words g m i)))), rfl⟩
end Go.GH
namespace Go.GH
open Go
def clsR (r : Int) : Int := if 1488 ≤ r ∧ r ≤ 1514 then 2 else if (65 ≤ r ∧ r ≤ 90) ∨ (97 ≤ r ∧ r ≤ 122) ∨ 192 ≤ r then 1 else if 48 ≤ r ∧ r ≤ 57 then 3 else if r = 32 then 4 else 5
/-- How far a run reaches: to the last border before a barrier. -/
def lastN (e : Int → Bool) (nv : Int) : List Int → Nat
  | [] => 0
  | c :: l => if c = nv then 0 else match lastN e nv l with
    | 0 => if e c then 1 else 0
    | n + 1 => n + 2
def raiseK (e : Int → Bool) (nv : Int) : Nat → List Int → List Bool
  | _, [] => []
  | 0, c :: l => if e c then true :: raiseK e nv (lastN e nv (c :: l) - 1) l else false :: raiseK e nv 0 l
  | k + 1, c :: l => true :: raiseK e nv k l
def e0 (c : Int) : Bool := decide (c = 2)
def e1 (c : Int) : Bool := decide (c = 1) || decide (c = 3)
def levels (base : Int) (rs : List Int) : List Int :=
  if base = 0 then (List.zip (raiseK e0 1 0 (rs.map clsR)) (rs.map clsR)).map (fun p => if p.1 then (if p.2 = 3 then 2 else 1) else 0)
  else (raiseK e1 2 0 (rs.map clsR)).map (fun b => if b then 2 else 1)
/-- Every longest run of what p holds of, the other way round. -/
def turnA {α : Type} (p : α → Bool) : List α → List α → List α
  | acc, [] => acc
  | acc, x :: l => if p x then turnA p (x :: acc) l else acc ++ x :: turnA p [] l
def turnL {α : Type} (p : α → Bool) (l : List α) : List α := turnA p [] l
end Go.GH
