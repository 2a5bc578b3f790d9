/-
  Part 4 of the texts behind the walks of this claim: an own layer over the kit's wp, plain laws, and walks. No conditions.
-/
import Derived.Test.YteodhhepbnehhaaGreatDoorMz3
import Derived.KernelRfl
import Derived.Shelf.Unicode.DecodeSlow
import Derived.Lib.DecodeN
import Derived.OrdersIn
set_option linter.unusedVariables false
set_option linter.unusedSimpArgs false
set_option linter.deprecated false
namespace Go.GH
open Go Go.Proofs
variable {E : Env}
theorem someB_21 : (Tryz.prog.underlying 21).isSome = true := by kernel_rfl
theorem qWidth (w : Int)  : GCall Tryz.prog E 44 [.v (.int .i64 w)] [] (fun d H => d = .v (.bool (wideB w)) ∧ H = []) := by
 refine GCall.body (C := ⟨Tryz.prog, E, true⟩) Tryz.func44 rfl (fun _ => rfl) (by kernel_rfl) rfl ?_
 refine SCode.seqR (SOps.assign rfl (SOps.nil (SCode.seqR (SOps.move rfl (SOps.bin rfl rfl rfl (SOps.move rfl ?_))))))
 refine SOps.caseB 5 rfl (fun hb1 => ?_) (fun hb1 => ?_)
 ·try simp only [nmL] at hb1
  refine SOps.move rfl (SOps.bin rfl rfl rfl (SOps.pick rfl rfl (SOps.assign rfl (SOps.nil (SCode.ret ?_)))))
  exact ⟨_, Res.one (.tmp rfl), congrArg (fun b => DV.v (.bool b)) (by rw [Bool.eq_iff_iff]; simp only [wideB, Bool.and_eq_true, decide_eq_true_eq, Bool.false_eq_true, Bool.true_eq_false, beq_iff_eq]; first | omega | (simp; omega)), rfl⟩
 ·try simp only [nmL] at hb1
  refine SOps.skip rfl (SOps.skip rfl (SOps.pick rfl rfl (SOps.assign rfl (SOps.nil (SCode.ret ?_)))))
  exact ⟨_, Res.one (.tmp rfl), congrArg (fun b => DV.v (.bool b)) (by rw [Bool.eq_iff_iff]; simp only [wideB, Bool.and_eq_true, decide_eq_true_eq, Bool.false_eq_true, Bool.true_eq_false, beq_iff_eq]; first | omega | (simp; omega)), rfl⟩
theorem uRuneCountW (s : ByteArray)  : GCall Tryz.prog E 39 [.v (.string s)] [] (fun d H => d = .v (.int .i64 ((wlen s : Nat) : Int)) ∧ H = []) := by
 refine GCall.body (C := ⟨Tryz.prog, E, true⟩) Tryz.func39 rfl (fun _ => rfl) (by kernel_rfl) rfl ?_
 refine SCode.seqR (SOps.assign rfl (SOps.nil (SCode.seq (SCode.seqR (SOps.move rfl ?_)))))
 refine SOps.rangeStr rfl strB_9 (fun b0 hb_0 => ?_)
 refine SOps.nil (SCode.block ?_)
 refine SCode.fact (v_scal (t := 0) rfl) (fun hS => ?_)
 simp only [scal, lenB] at hS
 refine SCode.loop3 (fun (p : Nat) (n : Nat) (b : Nat) => (⟨10, [(2, .v (.int .i64 (n : Int))), (4, .it b)], [(b, .iter s p)]⟩ : St)) (fun (p : Nat) (n : Nat) (b : Nat) => n ≤ p ∧ n + (runesAt s p).length = (runes s).length) (fun (p : Nat) (n : Nat) (b : Nat) => s.size - p) (0) (0) (b0) (by exact ⟨Nat.le_refl _, by rw [Nat.zero_add]; rfl⟩) (St.Le.of ⟨(by first | rfl | (show some _ = some _; simp)), (by first | rfl | (show some _ = some _; simp)), trivial⟩ rfl (by first | rfl | (simp))) ?_
 rintro p n b ⟨hn, hl⟩
 refine SCode.seqR ?_
 refine SOps.next 0 rfl rfl (fun hn1 => ?_) (fun hn1 => ?_) (by first | omega | (simp only [lenB]; omega))
 ·refine SOps.extract rfl rfl (SOps.nil (SCode.seq ?_))
  refine SCode.cond rfl (fun _ => ?_) (fun h => by cases h)
  refine SCode.skip ?_
  show SCode _ _ _ _
  refine SCode.block (SCode.region (SOps.move rfl (SOps.addI rfl rfl (by first | omega | (simp only [lenB]; omega)) (by first | omega | (simp only [lenB]; omega)) (SOps.assign rfl (SOps.nil ?_)))))
  exact ⟨p + (Utf8.decode s p).2, n + 1, b, by exact ⟨by have := decode_w s p; omega, by rw [← hl, runes_len_step hn1]; omega⟩, by have := decode_w s p; omega, (St.Le.of ⟨(by first | rfl | (show some _ = some _; simp)), (by first | rfl | (show some _ = some _; simp)), trivial⟩ rfl (by first | rfl | (simp)))⟩
 ·refine SOps.extract rfl rfl (SOps.nil (SCode.seq ?_))
  refine SCode.cond rfl (fun h => by cases h) (fun _ => ?_)
  refine SCode.exit ?_
  show SCode _ _ _ _
  refine SCode.seqR (SOps.move rfl (SOps.assign rfl (SOps.nil (SCode.drop (SCode.ret ?_)))))
  exact ⟨_, Res.one (.tmp rfl), by rw [wlen, ← hl, runesAt_ge (by omega)]; rfl, rfl⟩
theorem isSp_wide {r : Int} (h : 128 ≤ r) : isSp r = false := by simp only [isSp, Bool.or_eq_false_iff, beq_eq_false_iff_ne]; omega
theorem enc_wide {r : Int} (hv : Utf8.valid r = true) (h : 128 ≤ r) : 2 ≤ (Utf8.encode r).size ∧ ∀ (i : Nat) (hi : i < (Utf8.encode r).size), 128 ≤ ((Utf8.encode r)[i]).toNat := by
  obtain ⟨c, rfl, hc⟩ := valid_cases hv
  have key : ∀ {b : ByteArray}, Utf8.encode (c : Int) = b → (2 ≤ b.size ∧ ∀ x ∈ b.data.toList, 128 ≤ x.toNat) → 2 ≤ (Utf8.encode (c : Int)).size ∧ ∀ (i : Nat) (hi : i < (Utf8.encode (c : Int)).size), 128 ≤ ((Utf8.encode (c : Int))[i]).toNat := by
    intro b e h
    rw [e]
    exact ⟨h.1, fun i hi => h.2 _ (by rw [Array.mem_toList_iff]; exact Array.getElem_mem hi)⟩
  have big : ∀ n : Nat, 128 ≤ n → n < 256 → 128 ≤ (UInt8.ofNat n).toNat := fun n h1 h2 => by rw [toNat_ofNat h2]; exact h1
  rcases Nat.lt_or_ge c 2048 with h2 | h2
  · exact key (enc_2 hv (by omega) h2) ⟨Nat.le_refl 2, fun x hx => by
      simp only [List.mem_cons, List.not_mem_nil, or_false] at hx
      rcases hx with rfl | rfl <;> exact big _ (by omega) (by omega)⟩
  · rcases Nat.lt_or_ge c 65536 with h3 | h3
    · exact key (enc_3 hv h2 h3) ⟨Nat.le_of_ble_eq_true rfl, fun x hx => by
        simp only [List.mem_cons, List.not_mem_nil, or_false] at hx
        rcases hx with rfl | rfl | rfl <;> exact big _ (by omega) (by omega)⟩
    · exact key (enc_4 hv h3) ⟨Nat.le_of_ble_eq_true rfl, fun x hx => by
        simp only [List.mem_cons, List.not_mem_nil, or_false] at hx
        rcases hx with rfl | rfl | rfl | rfl <;> exact big _ (by omega) (by omega)⟩
theorem spnl_dec {p : Nat} (h : p < spnl.size) : ((Utf8.decode spnl p).1 : Int) ≠ 65533 := by
  have h2 : p < 2 := h
  rcases (show p = 0 ∨ p = 1 by omega) with rfl | rfl <;> decide
theorem sIndexByteE (b : Int) (hb : IntKind.u8.has b) : GCall Tryz.prog E 165 [.v (.string ⟨#[]⟩), .v (.int .u8 b)] [] (fun d H => d = .v (.int .i64 (-1)) ∧ H = []) :=
  GCall.ofCalls (by kernel_rfl) (has_i64 (by decide) (by decide)) (fun w F vs hE hl hr => by
    obtain ⟨rfl, _, h2⟩ := arg2 hl hr
    have := Any.strings_IndexByte (P := Tryz.prog) (ρ := Tryz.laysAny_ren) { Tryz.laysAny with } ⟨#[]⟩ b w
    exact this.mono fun e w' ⟨h1, h2⟩ => ⟨h1, h2 ▸ RowKit.Below.refl _ _⟩)
theorem sIndexRuneW (r : Int) (hv : Utf8.valid r = true) (h1 : 128 ≤ r) : GCall Tryz.prog E 144 [.v (.string spnl), .v (.int .i32 r)] [] (fun d H => d = .v (.int .i64 (-1)) ∧ H = []) := by
 obtain ⟨he1, he2⟩ := enc_wide hv h1
 have he3 := encode_size r
 have hsz : spnl.size = 2 := rfl
 have hsp1 : ∀ (i : Nat) (hi : i < spnl.size), i = 1 → (spnl[i]).toNat = 10 := by intro i hi h; subst h; rfl
 have hv2 : runeOK r = true := by simp only [runeOK, Utf8.valid, Bool.or_eq_true, Bool.and_eq_true, decide_eq_true_eq] at hv ⊢; omega
 refine GCall.body (C := ⟨Tryz.prog, E, true⟩) Tryz.func144 rfl (fun _ => rfl) (by kernel_rfl) rfl ?_
 refine SCode.seqR (SOps.assign rfl (SOps.nil (SCode.block (SCode.seqR (SOps.move rfl (SOps.bin rfl rfl rfl (SOps.reSlot (t := 162) rfl (show _ = DV.v (.bool true) from congrArg (fun b => DV.v (.bool b)) (decide_eq_true (by omega))) (SOps.move rfl (SOps.move rfl (SOps.bin rfl rfl rfl (SOps.reSlot (t := 165) rfl (show _ = DV.v (.bool false) from congrArg (fun b => DV.v (.bool b)) (decide_eq_false (by omega))) (SOps.pick rfl rfl (SOps.assign rfl (SOps.nil ?_))))))))))))))
 refine SCode.cond rfl (fun h => by cases h) (fun _ => ?_)
 refine SCode.seqR (SOps.move rfl (SOps.bin rfl rfl rfl (SOps.assign rfl (SOps.nil ?_))))
 refine SCode.cond rfl (fun hc1 => ?_) (fun hc1 => ?_)
 ·try simp only [nmL] at hc1
  refine SCode.seq (SCode.seqR (SOps.move rfl ?_))
  refine SOps.rangeStr rfl strB_9 (fun b0 hb_0 => ?_)
  refine SOps.nil (SCode.block (SCode.loop2 (fun (p : Nat) (b : Nat) => (⟨187, [(0, .v (.string spnl)), (1, .v (.int .i32 r)), (175, .it b)], [(b, .iter spnl p)]⟩ : St)) (fun (p : Nat) (b : Nat) => True) (fun (p : Nat) (b : Nat) => spnl.size - p) (0) (b0) (by trivial) (St.Le.of ⟨(by first | rfl | (show some _ = some _; simp)), (by first | rfl | (show some _ = some _; simp)), (by first | rfl | (show some _ = some _; simp)), trivial⟩ rfl (by first | rfl | (simp))) ?_))
  rintro p b _
  refine SCode.seqR ?_
  refine SOps.next 0 rfl rfl (fun hn2 => ?_) (fun hn2 => ?_) (by first | omega | (simp only [lenB] <;> omega))
  ·refine SOps.extract rfl rfl (SOps.nil (SCode.seq ?_))
   refine SCode.cond rfl (fun _ => ?_) (fun h => by cases h)
   refine SCode.skip ?_
   show SCode _ _ _ _
   refine SCode.block (SCode.seqR (SOps.extract rfl rfl (SOps.extract rfl rfl (SOps.assign rfl (SOps.assign rfl (SOps.nil (SCode.seqR (SOps.move rfl (SOps.bin rfl rfl rfl (SOps.nil ?_))))))))))
   refine SCode.cond rfl (fun hc3 => ?_) (fun hc3 => ?_)
   ·try simp only [nmL] at hc3
    exact absurd hc3 (spnl_dec (by omega))
   ·try simp only [nmL] at hc3
    refine SCode.skip ?_
    exact ⟨p + (Utf8.decode spnl p).2, b, by trivial, by have := decode_w spnl p; omega, (St.Le.of ⟨(by first | rfl | (show some _ = some _; simp)), (by first | rfl | (show some _ = some _; simp)), (by first | rfl | (show some _ = some _; simp)), trivial⟩ rfl (by first | rfl | (simp)))⟩
  ·refine SOps.extract rfl rfl (SOps.nil (SCode.seq ?_))
   refine SCode.cond rfl (fun h => by cases h) (fun _ => ?_)
   refine SCode.exit ?_
   show SCode _ _ _ _
   refine SCode.seqR (SOps.assign rfl (SOps.nil (SCode.drop (SCode.ret ?_))))
   exact ⟨_, Res.one (.tmp rfl), rfl, rfl⟩
 ·try simp only [nmL] at hc1
  refine SCode.seqR (SOps.move rfl (SOps.callP (uValidRune _) rfl ?_))
  rintro _ rfl
  refine SOps.reSlot (t := 185) rfl (show _ = DV.v (.bool true) from congrArg (fun b => DV.v (.bool b)) (hv2)) (SOps.un rfl rfl (SOps.assign rfl (SOps.nil ?_)))
  refine SCode.cond rfl (fun h => by cases h) (fun _ => ?_)
  refine SCode.scope (SCode.seqR (SOps.move rfl (SOps.convIntStr rfl someB_21 strB_9 (SOps.assign rfl (SOps.nil (SCode.seqR (SOps.move rfl (SOps.lenStr rfl strB_9 (SOps.subI rfl rfl (by first | omega | (simp only [lenB] <;> omega)) (by first | omega | (simp only [lenB] <;> omega)) (SOps.assign rfl (SOps.nil (SCode.seqR (SOps.move rfl (SOps.assign rfl (SOps.nil (SCode.seqR (SOps.assign rfl (SOps.nil (SCode.seq (SCode.block (SCode.loop1 (fun (u : Nat) => (⟨187, [(0, .v (.string spnl)), (1, .v (.int .i32 r)), (7, .v (.string (Utf8.encode r))), (8, .v (.int .i64 (((Utf8.encode r).size : Int) - 1))), (9, .v (.int .i64 (((Utf8.encode r).size : Int) - 1)))], []⟩ : St)) (fun (u : Nat) => True) (fun (u : Nat) => u) (0) (by trivial) (St.Le.of ⟨(by first | rfl | (show some _ = some _; simp)), (by first | rfl | (show some _ = some _; simp)), (by first | rfl | (show some _ = some _; simp)), (by first | rfl | (show some _ = some _; simp)), (by first | rfl | (show some _ = some _; simp)), trivial⟩ rfl (by first | rfl | (simp))) ?_)))))))))))))))))))))
  rintro u _
  refine SCode.seq (SCode.seqR (SOps.move rfl (SOps.move rfl (SOps.lenStr rfl strB_9 (SOps.bin rfl rfl rfl (SOps.nil ?_))))))
  refine SCode.cond rfl (fun hc4 => ?_) (fun hc4 => ?_)
  ·try simp only [nmL] at hc4
   refine SCode.skip ?_
   show SCode _ _ _ _
   refine SCode.block (SCode.scope (SCode.seq (SCode.seq ?_)))
   have hs2 : (Utf8.encode r).size = 2 := by omega
   have hbyte : IntKind.u8.has ((((Utf8.encode r)[(Utf8.encode r).size - 1]).toNat : Nat) : Int) := by have := ((Utf8.encode r)[(Utf8.encode r).size - 1]).toNat_lt; simp only [IntKind.has, IntKind.min, IntKind.max, IntKind.signed, IntKind.bits]; simp; omega
   apply SCode.drawAuto mixed_ [27, 28, 29, 30, 31, 32, 33] [[.inr 0], [.inr 9], [.inl 0, .inl 1], [.inr 7], [.inr 8], [.inl 3, .inl 4], [.inl 2, .inl 5]]
   ·kernel_rfl
   ·kernel_rfl
   ·apply DOk.cons 27 
    ·rfl
    ·exact (NeedIs.inr _ rfl NeedIs.nil)
    ·intro rest
     refine SOps.move rfl ?_
     exact SOps.nil rfl
    apply DOk.cons 28 
    ·rfl
    ·exact (NeedIs.inr _ rfl NeedIs.nil)
    ·intro rest
     refine SOps.move rfl ?_
     exact SOps.nil rfl
    apply DOk.cons 29 
    ·rfl
    ·exact (NeedIs.inl 1 _ _ rfl rfl (NeedIs.inl 0 _ _ rfl rfl NeedIs.nil))
    ·intro rest
     refine SOps.strIndexM (((Utf8.encode r).size - 1)) rfl rfl strB_9 (by first | omega | (simp only [lenB] <;> omega)) (by first | omega | (simp only [lenB] <;> omega)) ?_
     exact SOps.nil rfl
    apply DOk.cons 30 
    ·rfl
    ·exact (NeedIs.inr _ rfl NeedIs.nil)
    ·intro rest
     refine SOps.move rfl ?_
     exact SOps.nil rfl
    apply DOk.cons 31 
    ·rfl
    ·exact (NeedIs.inr _ rfl NeedIs.nil)
    ·intro rest
     refine SOps.move rfl ?_
     exact SOps.nil rfl
    apply DOk.cons 32 
    ·rfl
    ·exact (NeedIs.inl 1 _ _ rfl rfl (NeedIs.inl 0 _ _ rfl rfl NeedIs.nil))
    ·intro rest
     refine SOps.strIndexM (((Utf8.encode r).size - 1)) rfl rfl strB_9 (by first | omega | (simp only [lenB] <;> omega)) (by first | omega | (simp only [lenB] <;> omega)) ?_
     exact SOps.nil rfl
    apply DOk.cons 33 (.v (.bool true))
    ·rfl
    ·exact (NeedIs.inl 3 _ _ rfl rfl (NeedIs.inl 0 _ _ rfl rfl NeedIs.nil))
    ·intro rest
     refine SOps.bin rfl rfl rfl ?_
     exact SOps.nil (congrArg (fun b => St.put _ 33 (.v (.bool b))) (bne_iff_ne.2 (by have h8 := he2 ((Utf8.encode r).size - 1) (by omega); have h9 := hsp1 ((Utf8.encode r).size - 1) (by omega) (by omega); omega)))
    exact DOk.nil
   ·rfl
   ·show SCode _ _ _ _
    refine SCode.cond rfl (fun _ => ?_) (fun h => by cases h)
    refine SCode.seq ?_
    apply SCode.drawAuto mixed_ [34, 35, 36, 37, 38, 39, 40, 41, 11] [[.inr 0], [.inr 9], [.inl 1], [.inl 0, .inl 2], [.inr 7], [.inr 8], [.inl 4, .inl 5], [.inl 3, .inl 6], [.inl 7]]
    ·kernel_rfl
    ·kernel_rfl
    ·apply DOk.cons 34 
     ·rfl
     ·exact (NeedIs.inr _ rfl NeedIs.nil)
     ·intro rest
      refine SOps.move rfl ?_
      exact SOps.nil rfl
     apply DOk.cons 35 
     ·rfl
     ·exact (NeedIs.inr _ rfl NeedIs.nil)
     ·intro rest
      refine SOps.move rfl ?_
      exact SOps.nil rfl
     apply DOk.cons 36 
     ·rfl
     ·exact (NeedIs.inl 0 _ _ rfl rfl NeedIs.nil)
     ·intro rest
      refine SOps.addI rfl rfl (by first | omega | (simp only [lenB] <;> omega)) (by first | omega | (simp only [lenB] <;> omega)) ?_
      exact SOps.nil rfl
     apply DOk.cons 37 
     ·rfl
     ·exact (NeedIs.inl 2 _ _ rfl rfl (NeedIs.inl 0 _ _ rfl rfl NeedIs.nil))
     ·intro rest
      refine SOps.sliceStr (2) (_) strB_9 rfl (.at (2) rfl (by first | omega | (simp only [lenB] <;> omega))) .none (by first | omega | (simp only [lenB] <;> omega)) (by first | omega | (simp only [lenB] <;> omega)) ?_
      exact SOps.nil rfl
     apply DOk.cons 38 
     ·rfl
     ·exact (NeedIs.inr _ rfl NeedIs.nil)
     ·intro rest
      refine SOps.move rfl ?_
      exact SOps.nil rfl
     apply DOk.cons 39 
     ·rfl
     ·exact (NeedIs.inr _ rfl NeedIs.nil)
     ·intro rest
      refine SOps.move rfl ?_
      exact SOps.nil rfl
     apply DOk.cons 40 
     ·rfl
     ·exact (NeedIs.inl 1 _ _ rfl rfl (NeedIs.inl 0 _ _ rfl rfl NeedIs.nil))
     ·intro rest
      refine SOps.strIndexM (((Utf8.encode r).size - 1)) rfl rfl strB_9 (by first | omega | (simp only [lenB] <;> omega)) (by first | omega | (simp only [lenB] <;> omega)) ?_
      exact SOps.nil rfl
     apply DOk.cons 41 
     ·rfl
     ·exact (NeedIs.inl 3 _ _ rfl rfl (NeedIs.inl 0 _ _ rfl rfl NeedIs.nil))
     ·intro rest
      refine SOps.callP (sIndexByteE _ hbyte) rfl ?_
      rintro _ rfl
      exact SOps.nil rfl
     apply DOk.cons 11 
     ·rfl
     ·exact (NeedIs.inl 0 _ _ rfl rfl NeedIs.nil)
     ·intro rest
      refine SOps.assign rfl ?_
      exact SOps.nil rfl
     exact DOk.nil
    ·rfl
    ·show SCode _ _ _ _
     refine SCode.seq (SCode.seqR (SOps.move rfl (SOps.bin rfl rfl rfl (SOps.reSlot (t := 43) rfl (show _ = DV.v (.bool true) from congrArg (fun b => DV.v (.bool b)) (decide_eq_true (by decide))) (SOps.nil ?_)))))
     refine SCode.cond rfl (fun _ => ?_) (fun h => by cases h)
     refine SCode.seqR (SOps.assign rfl (SOps.nil (SCode.ret ?_)))
     exact ⟨_, Res.one (.tmp rfl), rfl, rfl⟩
  ·try simp only [nmL] at hc4
   refine SCode.exit ?_
   show SCode _ _ _ _
   refine SCode.seq (SCode.seqR (SOps.assign rfl (SOps.nil (SCode.ret ?_))))
   exact ⟨_, Res.one (.tmp rfl), rfl, rfl⟩
theorem sIndexRune (r : Int) (hv : Utf8.valid r = true) : GCall Tryz.prog E 144 [.v (.string spnl), .v (.int .i32 r)] [] (fun d H => (∃ n : Int, d = .v (.int .i64 n) ∧ decide (0 ≤ n) = isSp r) ∧ H = []) := by
  obtain ⟨c, rfl, hc⟩ := valid_cases hv
  rcases (show (c : Int) < 128 ∨ 128 ≤ (c : Int) by omega) with h | h
  · exact (sIndexRuneAscii _ (by omega) h).mono (fun d H ⟨e, e2⟩ => ⟨⟨_, e, indexByte_sp (by omega) h⟩, e2⟩)
  · exact (sIndexRuneW _ hv h).mono (fun d H ⟨e, e2⟩ => ⟨⟨_, e, by rw [isSp_wide h]; rfl⟩, e2⟩)
theorem sUseSet (n : Int)  : GCall Tryz.prog E 145 [.v (.int .i64 n)] [] (fun d H => d = .v (.bool (decide (8 < n))) ∧ H = []) := by
 refine GCall.body (C := ⟨Tryz.prog, E, true⟩) Tryz.func145 rfl (fun _ => rfl) (by kernel_rfl) rfl ?_
 refine SCode.seqR (SOps.assign rfl (SOps.nil (SCode.seqR (SOps.move rfl (SOps.bin rfl rfl rfl (SOps.assign rfl (SOps.nil (SCode.ret ?_))))))))
 exact ⟨_, Res.one (.tmp rfl), rfl, rfl⟩
theorem sIndexAnyS (s : ByteArray) (h8 : s.size ≤ 8) : GCall Tryz.prog E 112 [.v (.string s), .v (.string spnl)] [] (fun d H => (∃ n : Int, d = .v (.int .i64 n) ∧ decide (0 ≤ n) = anySp s) ∧ H = []) := by
 refine GCall.body (C := ⟨Tryz.prog, E, true⟩) Tryz.func112 rfl (fun _ => rfl) (by kernel_rfl) rfl ?_
 refine SCode.seqR (SOps.assign rfl (SOps.nil (SCode.seq (SCode.seqR (SOps.move rfl (SOps.bin rfl rfl rfl (SOps.reSlot (t := 12) rfl (show _ = DV.v (.bool false) from congrArg (fun b => DV.v (.bool b)) (by rfl)) (SOps.nil ?_))))))))
 refine SCode.cond rfl (fun h => by cases h) (fun _ => ?_)
 refine SCode.skip ?_
 show SCode _ _ _ _
 refine SCode.seq (SCode.seqR (SOps.move rfl (SOps.lenStr rfl strB_9 (SOps.bin rfl rfl rfl (SOps.reSlot (t := 15) rfl (show _ = DV.v (.bool false) from congrArg (fun b => DV.v (.bool b)) (by rfl)) (SOps.nil ?_))))))
 refine SCode.cond rfl (fun h => by cases h) (fun _ => ?_)
 refine SCode.skip ?_
 show SCode _ _ _ _
 refine SCode.seq (SCode.seqR (SOps.move rfl (SOps.lenStr rfl strB_9 (SOps.callP (sUseSet _) rfl ?_))))
 rintro _ rfl
 refine SOps.reSlot (t := 26) rfl (show _ = DV.v (.bool false) from congrArg (fun b => DV.v (.bool b)) (decide_eq_false (by omega))) (SOps.nil ?_)
 refine SCode.cond rfl (fun h => by cases h) (fun _ => ?_)
 refine SCode.skip ?_
 show SCode _ _ _ _
 refine SCode.seq (SCode.seqR (SOps.move rfl ?_))
 refine SOps.rangeStr rfl strB_9 (fun b0 hb_0 => ?_)
 refine SOps.nil (SCode.block (SCode.loop2 (fun (p : Nat) (b : Nat) => (⟨55, [(0, .v (.string s)), (1, .v (.string spnl)), (45, .it b)], [(b, .iter s p)]⟩ : St)) (fun (p : Nat) (b : Nat) => anySp s = (runesAt s p).any isSp) (fun (p : Nat) (b : Nat) => s.size - p) (0) (b0) (by rfl) (St.Le.of ⟨(by first | rfl | (show some _ = some _; simp)), (by first | rfl | (show some _ = some _; simp)), (by first | rfl | (show some _ = some _; simp)), trivial⟩ rfl (by first | rfl | (simp))) ?_))
 rintro p b hf
 refine SCode.seqR ?_
 refine SOps.next 0 rfl rfl (fun hn1 => ?_) (fun hn1 => ?_) (by first | omega | (simp only [lenB] <;> omega))
 ·refine SOps.extract rfl rfl (SOps.nil (SCode.seq ?_))
  refine SCode.cond rfl (fun _ => ?_) (fun h => by cases h)
  refine SCode.skip ?_
  show SCode _ _ _ _
  refine SCode.block (SCode.seqR (SOps.extract rfl rfl (SOps.extract rfl rfl (SOps.assign rfl (SOps.assign rfl (SOps.nil (SCode.seqR (SOps.move rfl (SOps.move rfl (SOps.callP (sIndexRune ((Utf8.decode s p).1 : Int) (decode_valid s p)) rfl ?_))))))))))
  rintro _ ⟨n9, rfl, hn9⟩
  refine SOps.bin rfl rfl rfl (SOps.nil ?_)
  refine SCode.cond rfl (fun hc2 => ?_) (fun hc2 => ?_)
  ·try simp only [nmL] at hc2
   refine SCode.seqR (SOps.move rfl (SOps.assign rfl (SOps.nil (SCode.drop (SCode.ret ?_)))))
   exact ⟨_, Res.one (.tmp rfl), ⟨_, rfl, by rw [hf, runesAt_lt hn1, List.any_cons, show isSp ((Utf8.decode s p).1 : Int) = true from by rw [← hn9]; exact decide_eq_true (by omega)]; exact decide_eq_true (by omega)⟩, rfl⟩
  ·try simp only [nmL] at hc2
   refine SCode.skip ?_
   exact ⟨p + (Utf8.decode s p).2, b, by rw [hf, runesAt_lt hn1, List.any_cons, show isSp ((Utf8.decode s p).1 : Int) = false from by rw [← hn9]; exact decide_eq_false (by omega)]; rfl, by have := decode_w s p; omega, (St.Le.of ⟨(by first | rfl | (show some _ = some _; simp)), (by first | rfl | (show some _ = some _; simp)), (by first | rfl | (show some _ = some _; simp)), trivial⟩ rfl (by first | rfl | (simp)))⟩
 ·refine SOps.extract rfl rfl (SOps.nil (SCode.seq ?_))
  refine SCode.cond rfl (fun h => by cases h) (fun _ => ?_)
  refine SCode.exit ?_
  show SCode _ _ _ _
  refine SCode.seqR (SOps.assign rfl (SOps.nil (SCode.drop (SCode.ret ?_))))
  exact ⟨_, Res.one (.tmp rfl), ⟨_, rfl, by rw [hf, runesAt_ge (by omega)]; rfl⟩, rfl⟩
theorem sIndexAny (s : ByteArray) (hv : utf8R s = true) (hs : s.size ≤ 1048576) : GCall Tryz.prog E 112 [.v (.string s), .v (.string spnl)] [] (fun d H => (∃ n : Int, d = .v (.int .i64 n) ∧ decide (0 ≤ n) = anySp s) ∧ H = []) := by
  rcases Nat.lt_or_ge 8 s.size with h | h
  · exact (sIndexAnyLong s h hs).mono (fun d H ⟨e, e2⟩ => ⟨⟨_, e, any_long hv⟩, e2⟩)
  · exact sIndexAnyS s h
theorem sContainsAny (s : ByteArray) (hv : utf8R s = true) (hs : s.size ≤ 1048576) : GCall Tryz.prog E 78 [.v (.string s), .v (.string spnl)] [] (fun d H => d = .v (.bool (anySp s)) ∧ H = []) := by
 refine GCall.body (C := ⟨Tryz.prog, E, true⟩) Tryz.func78 rfl (fun _ => rfl) (by kernel_rfl) rfl ?_
 refine SCode.seqR (SOps.assign rfl (SOps.nil (SCode.seqR (SOps.move rfl (SOps.move rfl (SOps.callP (sIndexAny s hv hs) rfl ?_))))))
 rintro _ ⟨n9, rfl, hn9⟩
 refine SOps.bin rfl rfl rfl (SOps.assign rfl (SOps.nil (SCode.ret ?_)))
 exact ⟨_, Res.one (.tmp rfl), congrArg (fun b => DV.v (.bool b)) (hn9), rfl⟩
end Go.GH
namespace Go.GH
open Go Go.Proofs
variable {E : Env}
theorem flatB_98 : flatB Tryz.prog 98 = true := by kernel_rfl
theorem wordB_iff {s : ByteArray} : wordB s = true ↔ s ≠ ⟨#[]⟩ ∧ utf8R s = true ∧ anySp s = false := by
  simp only [wordB, Bool.and_eq_true, decide_eq_true_eq, Bool.not_eq_true', and_assoc]
end Go.GH
namespace Go.GH
open Go Go.Lib Go.Proofs Go.RowKit
variable {E : Env}
theorem GCall.ofCallsD {P : Program} {E : Env} {f : FuncId} {ds : List DV} {x : Value} {d0 : DV} (hb : hasBody P f = true) (hx : ∀ w F, Rep w F x d0)
    (h : ∀ w F (vs : Array Value), E.holds w F → (∀ b, F b → b < w.heap.size) → vs.size = ds.length → (∀ (j : Nat) (v : Value) (d : DV), vs[j]? = some v → ds[j]? = some d → Rep w F v d) → Calls P f vs w (fun e w' => e = .returned x ∧ Below w.heap.size w w')) :
    GCall P E f ds [] (fun d H => d = d0 ∧ H = []) :=
  ⟨hb, fun w F vs hE hF hl hr _ _ => (h w F vs hE hF hl hr).mono (fun e w' ⟨he, bel⟩ =>
    ⟨x, d0, [], F, he, ⟨rfl, rfl⟩, fun _ h => h, fun b h => ⟨Nat.lt_of_lt_of_le (hF b h) (Step.of_below bel).size, .inl h⟩, hx _ _, (fun p hp => by cases hp), List.nodup_nil, (Step.of_below bel).mono (fun _ _ h => h.elim)⟩)⟩
/-- A library's contract that hands back a new row of strings. -/
theorem GCall.ofRow {P : Program} {E : Env} {f : FuncId} {ds : List DV} {xs : List ByteArray} (hb : hasBody P f = true) (hx : ∀ x ∈ xs, x.size ≤ lenB) (hn : xs.length ≤ lenB)
    (h : ∀ w F (vs : Array Value), E.holds w F → (∀ b, F b → b < w.heap.size) → vs.size = ds.length → (∀ (j : Nat) (v : Value) (d : DV), vs[j]? = some v → ds[j]? = some d → Rep w F v d) →
      Calls P f vs w (fun e w' => (∃ A cap, e = .returned (.slice (some ⟨A, 0, none⟩) xs.length cap) ∧ xs.length ≤ cap ∧ w.heap.size ≤ A ∧ A < w'.heap.size ∧ ∀ (j : Nat) x, xs[j]? = some x → w'.cell? ⟨A, j, none⟩ = some (.string x)) ∧ Below w.heap.size w w')) :
    GCall P E f ds [] (fun d H => d = DStrs xs ∧ H = []) :=
  ⟨hb, fun w F vs hE hF hl hr _ _ => (h w F vs hE hF hl hr).mono (fun e w' ⟨⟨A, cap, he, hcap, hA, hA2, hc⟩, bel⟩ =>
    ⟨_, DStrs xs, [], fun b => F b ∨ b = A, he, ⟨rfl, rfl⟩, fun _ h => .inl h, (fun b h => by
      rcases h with h | rfl
      · exact ⟨Nat.lt_of_lt_of_le (hF b h) (Step.of_below bel).size, .inl h⟩
      · exact ⟨hA2, .inr hA⟩),
    .isl (b := A) (o := 0) (fun i _ => .string (xs.getD i .empty)) (by simp) hcap (by simpa using hn) (fun h => by cases h) (fun _ => ⟨rfl, .inr rfl⟩) (fun i e hi => by
        rw [List.getElem?_map] at hi
        obtain ⟨x, _, rfl⟩ := Option.map_eq_some_iff.1 hi
        rfl) (fun i e j d hi hj => by
        rw [List.getElem?_map] at hi
        obtain ⟨x, hx', rfl⟩ := Option.map_eq_some_iff.1 hi
        match j, hj with
        | 0, hj =>
          have hg : xs.getD i .empty = x := by rw [List.getD_eq_getElem?_getD, hx']; rfl
          rw [hg]
          exact ⟨by simpa using hc i x hx', rfl⟩
        | j + 1, hj => simp [encS] at hj) (fun i e j d hi hj => by
        rw [List.getElem?_map] at hi
        obtain ⟨x, hx', rfl⟩ := Option.map_eq_some_iff.1 hi
        match j, hj with
        | 0, hj =>
          simp [encS] at hj
          subst hj
          have hg : xs.getD i .empty = x := by rw [List.getD_eq_getElem?_getD, hx']; rfl
          rw [hg]
          exact .v (hx x (List.mem_of_getElem? hx'))
        | j + 1, hj => simp [encS] at hj),
    (fun p hp => by cases hp), List.nodup_nil, (Step.of_below bel).mono (fun _ _ h => h.elim)⟩)⟩
/-! #### suffixes -/
def trimB (s p : ByteArray) : ByteArray := ⟨(Lib.trimSuffix s.data.toList p.data.toList).toArray⟩
def sufB (s p : ByteArray) : Bool := Lib.hasSuffix s.data.toList p.data.toList
theorem sTrimSuffix (s p : ByteArray) : GCall Tryz.prog E 72 [.v (.string s), .v (.string p)] [] (fun d H => d = .v (.string (trimB s p)) ∧ H = []) :=
  ⟨by kernel_rfl, fun w F vs hE hF hl hr h5 h6 => by
    obtain ⟨rfl, h1, h2⟩ := arg2 hl hr
    have hs : (trimB s p).size ≤ lenB := by
      have : (Lib.trimSuffix s.data.toList p.data.toList).length ≤ s.data.toList.length := by unfold Lib.trimSuffix; split <;> simp
      have e : (trimB s p).size = (Lib.trimSuffix s.data.toList p.data.toList).length := by unfold trimB; simp [ByteArray.size]
      have e2 : s.data.toList.length = s.size := by simp
      exact Nat.le_trans (by omega) h1
    exact (GCall.ofCalls (E := E) (x := .string (trimB s p)) (ds := [.v (.string s), .v (.string p)]) (by kernel_rfl) hs (fun w F vs hE hl hr => by
      obtain ⟨rfl, h1, h2⟩ := arg2 hl hr
      exact (Any.strings_TrimSuffix Tryz.laysTrim s p w h1).mono fun e w' ⟨h3, h4⟩ => ⟨h3, h4 ▸ Below.refl _ _⟩)).2 w F #[.string s, .string p] hE hF hl hr h5 h6⟩
theorem sHasSuffix (s p : ByteArray) : GCall Tryz.prog E 73 [.v (.string s), .v (.string p)] [] (fun d H => d = .v (.bool (sufB s p)) ∧ H = []) :=
  GCall.ofCalls (by kernel_rfl) trivial (fun w F vs hE hl hr => by
    obtain ⟨rfl, h1, h2⟩ := arg2 hl hr
    exact (Any.strings_HasSuffix Tryz.laysHas s p w h1).mono fun e w' ⟨h3, h4⟩ => ⟨h3, h4 ▸ Below.refl _ _⟩)
/-! #### blanks -/
def blB (n : Nat) : ByteArray := ⟨(List.replicate n 32).toArray⟩
theorem blB_size (n : Nat) : (blB n).size = n := by unfold blB; simp [ByteArray.size]
theorem extraRep : Builder.Extra Tryz.prog Tryz.laysRep_ren where
  sizeBuilder := by kernel_rfl
  liesBuilder := by kernel_rfl
  t5 := Tryz.underlying5
  a5 := Tryz.isAgg5
  z5 := Tryz.sizeOf5
  v5 := Tryz.zeroValue5
  infoByte := by kernel_rfl
  cellsByte := by kernel_rfl
  sizeByte := by kernel_rfl
  neB5 := by decide
theorem sRepeat (n : Nat) (hn : n ≤ 1048576) : GCall Tryz.prog E 79 [.v (.string sp1), .v (.int .i64 (n : Int))] [] (fun d H => d = .v (.string (blB n)) ∧ H = []) :=
  GCall.ofCalls (by kernel_rfl) (show (blB n).size ≤ lenB by rw [blB_size]; unfold lenB; omega) (fun w F vs hE hl hr => by
    obtain ⟨rfl, h1, h2⟩ := arg2 hl hr
    have := Any.strings_Repeat Tryz.laysRep extraRep sp1 n w (by omega) (by show 1 * n ≤ _; omega)
    rw [show Lib.repeatL sp1.data.toList n = List.replicate n 32 from by
      have h := Lib.repeatL_replicate 32 1 n
      rw [Nat.mul_one] at h; exact h] at this
    exact this)
/-! #### Join -/
theorem extraJoin : Builder.Extra Tryz.prog Tryz.laysJoin_ren where
  sizeBuilder := by kernel_rfl
  liesBuilder := by kernel_rfl
  t5 := Tryz.underlying5
  a5 := Tryz.isAgg5
  z5 := Tryz.sizeOf5
  v5 := Tryz.zeroValue5
  infoByte := by kernel_rfl
  cellsByte := by kernel_rfl
  sizeByte := by kernel_rfl
  neB5 := by decide
theorem foldl_data (ws : List ByteArray) : ∀ a : ByteArray, (ws.foldl (fun a x => a ++ sp1 ++ x) a).data.toList = a.data.toList ++ Lib.joinTail [32] (ws.map (·.data.toList)) := by
  induction ws with
  | nil => intro a; simp [Lib.joinTail]
  | cons w ws ih =>
    intro a
    rw [List.foldl_cons, ih, ByteArray.data_append, ByteArray.data_append, Array.toList_append, Array.toList_append]
    show _ ++ [32] ++ _ ++ _ = _
    simp [Lib.joinTail]
theorem join_cat (ws : List ByteArray) : (⟨(Lib.join (ws.map (·.data.toList)) sp1.data.toList).toArray⟩ : ByteArray) = catW ws := by
  cases ws with
  | nil => rfl
  | cons w ws =>
    have h := foldl_data ws w
    rw [List.map_cons, Lib.join_cons, show sp1.data.toList = [32] from rfl, ← h]
    exact ba_list _
theorem args_row {w : World} {F : Nat → Prop} {vs : Array Value} {ws : List ByteArray} {x : Value} (hl : vs.size = 2) (hr : ∀ (j : Nat) (v : Value) (d : DV), vs[j]? = some v → [DStrs ws, DV.v x][j]? = some d → Rep w F v d) :
    ∃ A c, vs = #[.slice A ws.length c, x] ∧ ws.length ≤ c ∧ (ws ≠ [] → ∃ b o, A = some ⟨b, o, none⟩ ∧ F b ∧ ∀ (j : Nat) y, ws[j]? = some y → w.cell? ⟨b, o + j, none⟩ = some (.string y)) := by
  have h0 := hr 0 vs[0] _ (Array.getElem?_eq_getElem (by omega)) rfl
  have h1 := (hr 1 vs[1] _ (Array.getElem?_eq_getElem (by omega)) rfl).inv_v.1
  have hv : vs = #[vs[0], vs[1]] := by
    apply Array.ext
    · simpa using hl
    · intro i h2 h3
      rcases (show i = 0 ∨ i = 1 by omega) with rfl | rfl <;> rfl
  rw [hv, h1]
  generalize vs[0] = v0 at h0
  cases h0 with
  | @isl A len cap nn sz es b o xs hlen hcap hB hnn hA hsz hc hr =>
    rw [List.length_map] at hlen
    refine ⟨A, cap, by rw [hlen], by omega, fun hne => ?_⟩
    obtain ⟨rfl, hF⟩ := hA (by simpa using hne)
    refine ⟨b, o, rfl, hF, fun j y hy => ?_⟩
    have he : (ws.map encS)[j]? = some (encS y) := by rw [List.getElem?_map, hy]; rfl
    have h3 := (hc j _ 0 _ he rfl).1
    rw [(hr j _ 0 _ he rfl).inv_v.1] at h3
    simpa using h3
theorem catW_sz {M : Nat} {ws : List ByteArray} (h : ∀ w ∈ ws, w.size ≤ M) : (catW ws).size ≤ (M + 1) * ws.length := by
  have := catW_size (M := M) ws.length h (Nat.le_refl _)
  rwa [List.take_of_length_le (Nat.le_refl _)] at this
theorem sJoin (ws : List ByteArray) (hn : ws.length ≤ 1048576) (hw : ∀ w ∈ ws, w.size ≤ 1048576) : GCall Tryz.prog E 74 [DStrs ws, .v (.string sp1)] [] (fun d H => d = .v (.string (catW ws)) ∧ H = []) := by
  have hcl := catW_sz hw
  have hcs : (catW ws).size ≤ 140737488355328 := Nat.le_trans hcl (Nat.le_trans (Nat.mul_le_mul_left _ hn) (by decide))
  exact ⟨by kernel_rfl, fun w F vs hE hF hl hr h5 h6 => (GCall.ofCallsD (E := E) (x := .string (catW ws)) (d0 := .v (.string (catW ws))) (by kernel_rfl) (fun w F => .v (show (catW ws).size ≤ lenB by unfold lenB; omega)) (fun w F vs hE hF hl hr => by
    obtain ⟨A, c, rfl, hc, hA⟩ := args_row hl hr
    by_cases hne : ws = []
    · subst hne
      exact (Any.strings_Join_none Tryz.laysJoin extraJoin A c sp1 w).mono fun e w' ⟨h3, h4⟩ => ⟨h3, h4 ▸ Below.refl _ _⟩
    · obtain ⟨b, o, rfl, hFb, hcell⟩ := hA hne
      have := Any.strings_Join Tryz.laysJoin extraJoin b o c ws sp1 w hcell (hF b hFb) (by omega) hc (by
        have e := congrArg ByteArray.size (join_cat ws)
        have e2 : (⟨(Lib.join (ws.map (·.data.toList)) sp1.data.toList).toArray⟩ : ByteArray).size = (Lib.join (ws.map (·.data.toList)) sp1.data.toList).length := by simp [ByteArray.size]
        omega)
      rw [join_cat] at this
      exact this)).2 w F vs hE hF hl hr h5 h6⟩
end Go.GH
namespace Go.GH
open Go
def prB (l : Ln) : Bool := decide (0 < l.words.length) && l.words.all wordB
def gapN (m g i : Nat) : Nat := 1 + m / g + (if i < m % g then 1 else 0)
/-- The first words of a line with the gaps behind them. -/
def sprK (ws : List ByteArray) (g m : Nat) : Nat → ByteArray
  | 0 => .empty
  | k + 1 => if k < g then sprK ws g m k ++ ws.getD k .empty ++ blB (gapN m g k) else sprK ws g m k ++ ws.getD k .empty
def sprL (l : Ln) (m : Nat) : ByteArray := if l.hyph then sprK l.words (l.words.length - 1) m l.words.length ++ hy1 else sprK l.words (l.words.length - 1) m l.words.length
def spreadR (l : Ln) (w : Int) (last : Bool) : ByteArray × Int :=
  if wideB w && prB l then
    if w < (wlen (textL l) : Int) then (⟨#[]⟩, 2)
    else if last || decide (l.words.length = 1) then (textL l ++ blB (w - (wlen (textL l) : Int)).toNat, 0)
    else (sprL l (w - (wlen (textL l) : Int)).toNat, 0)
  else (⟨#[]⟩, 1)
theorem gapN_le {m g i : Nat} (h : m ≤ 200) : gapN m g i ≤ 202 := by
  unfold gapN
  have := Nat.div_le_self m g
  split <;> omega
theorem sprK_size {ws : List ByteArray} {g m M : Nat} (hm : m ≤ 200) (hw : ∀ w ∈ ws, w.size ≤ M) : ∀ k, (sprK ws g m k).size ≤ (M + 202) * k
  | 0 => Nat.zero_le _
  | k + 1 => by
    have ih := sprK_size (g := g) hm hw k
    have hg : (ws.getD k .empty).size ≤ M := by
      rw [List.getD_eq_getElem?_getD]
      by_cases h : k < ws.length
      · rw [List.getElem?_eq_getElem h]; exact hw _ (List.getElem_mem h)
      · rw [List.getElem?_eq_none (by omega)]; exact Nat.zero_le _
    have hl := gapN_le (m := m) (g := g) (i := k) hm
    rw [sprK, Nat.mul_add, Nat.mul_one]
    split
    · rw [ByteArray.size_append, ByteArray.size_append, blB_size]; omega
    · rw [ByteArray.size_append]; omega
theorem getD_w {l : List ByteArray} {i : Nat} (h : i < l.length) : l.getD i .empty = l[i] := by rw [List.getD_eq_getElem?_getD, List.getElem?_eq_getElem h]; rfl
theorem prB_iff {l : Ln} : prB l = true ↔ 0 < l.words.length ∧ ∀ w ∈ l.words, wordB w = true := by simp [prB]
theorem wideX_iff {w : Int} : wideB w = true ↔ 1 ≤ w ∧ w ≤ 200 := by simp [wideB]
theorem spread_bad {l : Ln} {w : Int} {last : Bool} (h : ¬ (wideB w && prB l) = true) : spreadR l w last = (⟨#[]⟩, 1) := by unfold spreadR; rw [if_neg h]
theorem spread_tight {l : Ln} {w : Int} {last : Bool} (h : (wideB w && prB l) = true) (h2 : w - (wlen (textL l) : Int) < 0) : spreadR l w last = (⟨#[]⟩, 2) := by unfold spreadR; rw [if_pos h, if_pos (by omega)]
theorem spread_last {l : Ln} {w : Int} {last : Bool} {m : Nat} (h : (wideB w && prB l) = true) (h2 : w - (wlen (textL l) : Int) = (m : Int)) (h3 : last = true ∨ l.words.length = 1) : spreadR l w last = (textL l ++ blB m, 0) := by
  unfold spreadR
  rw [if_pos h, if_neg (by omega), if_pos (by simpa using h3), h2]; rfl
theorem spread_gaps {l : Ln} {w : Int} {last : Bool} {m : Nat} (h : (wideB w && prB l) = true) (h2 : w - (wlen (textL l) : Int) = (m : Int)) (h3 : last = false) (h4 : ¬ l.words.length = 1) : spreadR l w last = (sprL l m, 0) := by
  unfold spreadR
  rw [if_pos h, if_neg (by omega), if_neg (by simp [h3, h4]), h2]; rfl
end Go.GH
namespace Go.GH
open Go Go.Proofs
variable {E : Env}
theorem fieldB_24_0_0 : fieldB Tryz.prog 24 0 0 = true := by kernel_rfl
theorem fieldB_24_1_1 : fieldB Tryz.prog 24 1 1 = true := by kernel_rfl
theorem flatB_22 : flatB Tryz.prog 22 = true := by kernel_rfl
theorem flatB_4 : flatB Tryz.prog 4 = true := by kernel_rfl
theorem qText (ln : Ln) (hw : ∀ w ∈ ln.words, w.size ≤ 1048576) (hl : ln.words.length ≤ 1048576) : GCall Tryz.prog E 45 [.agg (encLn ln)] [] (fun d H => d = .v (.string (textL ln)) ∧ H = []) := by
 refine GCall.body (C := ⟨Tryz.prog, E, true⟩) Tryz.func45 rfl (fun _ => rfl) (by kernel_rfl) rfl ?_
 refine SCode.seqR (SOps.boxAM rfl rfl (SOps.assign rfl (SOps.nil (SCode.seqR (SOps.assign rfl (SOps.nil (SCode.seq (SCode.seqR (SOps.fieldPin rfl fieldB_24_0_0 (SOps.loadPin rfl flatB_22 (SOps.lenM rfl sliceB_22_9_1 (SOps.move rfl (SOps.nil (SCode.block (SCode.loop1 (fun (i : Nat) => (⟨27, [(1, .ipin (encLn ln)), (3, .v (.string (catW (ln.words.take i)))), (7, DStrs ln.words), (8, .v (.int .i64 (ln.words.length : Int))), (9, .v (.int .i64 (i : Int)))], []⟩ : St)) (fun (i : Nat) => i ≤ ln.words.length) (fun (i : Nat) => ln.words.length - i) (0) (by exact Nat.zero_le _) (St.Le.of ⟨(by first | rfl | (show some _ = some _; simp)), (by first | rfl | (show some _ = some _; simp)), (by first | rfl | (show some _ = some _; simp)), (by first | rfl | (show some _ = some _; simp)), (by first | rfl | (show some _ = some _; simp)), trivial⟩ rfl (by first | rfl | (simp))) ?_)))))))))))))))
 rintro i hi
 have hcs := catW_size i hw hi
 refine SCode.seqR (SOps.bin rfl rfl rfl (SOps.nil (SCode.seq ?_)))
 refine SCode.cond rfl (fun hc1 => ?_) (fun hc1 => ?_)
 ·try simp only [nmL] at hc1
  refine SCode.skip ?_
  show SCode _ _ _ _
  refine SCode.seq (SCode.block (SCode.seqR ?_))
  have hil : i < ln.words.length := by omega
  have hwi := hw _ (List.getElem_mem hil)
  have hct := catW_take hil
  refine SOps.move rfl (SOps.indexM (i) rfl rfl sliceB_22_9_1 (by first | omega | (simp only [lenB] <;> omega)) (by first | omega | (simp only [lenB] <;> omega)) (SOps.loadPin rfl flatB_9 (SOps.assign rfl (SOps.assign rfl (SOps.nil (SCode.seq (SCode.seqR (SOps.move rfl (SOps.bin rfl rfl rfl (SOps.nil ?_))))))))))
  refine SCode.cond rfl (fun hc2 => ?_) (fun hc2 => ?_)
  ·try simp only [nmL] at hc2
   have h0 : ¬ i = 0 := by omega
   have hctA := hct
   rw [if_neg h0] at hctA
   refine SCode.region (SOps.move rfl (SOps.concat rfl rfl (by simp only [lenB, ByteArray.size_append]; have : sp1.size = 1 := rfl; have : (ByteArray.mk #[32]).size = 1 := rfl; have : (ByteArray.mk #[45]).size = 1 := rfl; omega) (SOps.assign rfl (SOps.nil ?_))))
   show SCode _ _ _ _
   refine SCode.region (SOps.move rfl (SOps.move rfl (SOps.concat rfl rfl (by simp only [lenB, ByteArray.size_append]; have : sp1.size = 1 := rfl; have : (ByteArray.mk #[32]).size = 1 := rfl; have : (ByteArray.mk #[45]).size = 1 := rfl; omega) (SOps.assign rfl (SOps.nil ?_)))))
   show SCode _ _ _ _
   refine SCode.region (SOps.addI rfl rfl (by first | omega | (simp only [lenB] <;> omega)) (by first | omega | (simp only [lenB] <;> omega)) (SOps.move rfl (SOps.nil ?_)))
   first
    | exact ⟨i + 1, by omega, by omega, St.Le.of ⟨rfl, congrArg (fun z => some (DV.v (.string z))) hctA.symm, rfl, rfl, rfl, trivial⟩⟩
    | exact ⟨i + 1, by omega, by omega, St.Le.of ⟨rfl, congrArg (fun z => some (DV.v (.string z))) hctB.symm, rfl, rfl, rfl, trivial⟩⟩
  ·try simp only [nmL] at hc2
   have h0 : i = 0 := by omega
   have hctB : (catW (ln.words.take (i + 1))) = (catW (ln.words.take i)) ++ ln.words[i] := by rw [hct, if_pos h0, show (catW (ln.words.take i)) = .empty from by rw [h0]; rfl, ByteArray.empty_append]
   refine SCode.skip ?_
   show SCode _ _ _ _
   refine SCode.region (SOps.move rfl (SOps.move rfl (SOps.concat rfl rfl (by simp only [lenB, ByteArray.size_append]; have : sp1.size = 1 := rfl; have : (ByteArray.mk #[32]).size = 1 := rfl; have : (ByteArray.mk #[45]).size = 1 := rfl; omega) (SOps.assign rfl (SOps.nil ?_)))))
   show SCode _ _ _ _
   refine SCode.region (SOps.addI rfl rfl (by first | omega | (simp only [lenB] <;> omega)) (by first | omega | (simp only [lenB] <;> omega)) (SOps.move rfl (SOps.nil ?_)))
   first
    | exact ⟨i + 1, by omega, by omega, St.Le.of ⟨rfl, congrArg (fun z => some (DV.v (.string z))) hctA.symm, rfl, rfl, rfl, trivial⟩⟩
    | exact ⟨i + 1, by omega, by omega, St.Le.of ⟨rfl, congrArg (fun z => some (DV.v (.string z))) hctB.symm, rfl, rfl, rfl, trivial⟩⟩
 ·try simp only [nmL] at hc1
  refine SCode.exit ?_
  show SCode _ _ _ _
  refine SCode.seq (SCode.seqR (SOps.fieldPin rfl fieldB_24_1_1 (SOps.loadPin rfl flatB_4 (SOps.nil ?_))))
  refine SCode.cond rfl (fun hc3 => ?_) (fun hc3 => ?_)
  ·try simp only [nmL] at hc3
   refine SCode.region (SOps.move rfl (SOps.concat rfl rfl (by simp only [lenB, ByteArray.size_append]; have : sp1.size = 1 := rfl; have : (ByteArray.mk #[32]).size = 1 := rfl; have : (ByteArray.mk #[45]).size = 1 := rfl; omega) (SOps.assign rfl (SOps.nil ?_))))
   show SCode _ _ _ _
   refine SCode.seqR (SOps.move rfl (SOps.assign rfl (SOps.nil (SCode.ret ?_))))
   exact ⟨_, Res.one (.tmp rfl), by rw [textL, List.take_of_length_le (show ln.words.length ≤ i by omega)]; simp_all [hy1], rfl⟩
  ·try simp only [nmL] at hc3
   refine SCode.skip ?_
   show SCode _ _ _ _
   refine SCode.seqR (SOps.move rfl (SOps.assign rfl (SOps.nil (SCode.ret ?_))))
   exact ⟨_, Res.one (.tmp rfl), by rw [textL, List.take_of_length_le (show ln.words.length ≤ i by omega)]; simp_all [hy1], rfl⟩
end Go.GH
namespace Go.GH
open Go Go.Proofs
variable {E : Env}
theorem sText (ln : Ln) (hw : ∀ w ∈ ln.words, w.size ≤ 1048576) (hl : ln.words.length ≤ 1048576) : GCall Tryz.prog E 38 [.agg (encLn ln)] [] (fun d H => d = .v (.string (textL ln)) ∧ H = []) := by
 refine GCall.body (C := ⟨Tryz.prog, E, true⟩) Tryz.func38 rfl (fun _ => rfl) (by kernel_rfl) rfl ?_
 refine SCode.seqR (SOps.boxAM rfl rfl (SOps.assign rfl (SOps.nil (SCode.seqR ?_))))
 refine SOps.allocV (sz := 2) zeroBld (fun b0 hb_0 => ?_)
 refine SOps.nil (SCode.seq (SCode.seqR (SOps.fieldPin rfl fieldB_24_0_0 (SOps.loadPin rfl flatB_22 (SOps.lenM rfl sliceB_22_9_1 (SOps.move rfl (SOps.nil (SCode.block (SCode.loop3 (fun (i : Nat) (g : Nat) (u : Bool) => (⟨24, [(1, .ipin (encLn ln)), (3, .vref b0 86 2), (7, DStrs ln.words), (8, .v (.int .i64 (ln.words.length : Int))), (9, .v (.int .i64 (i : Int)))], bldH b0 g u (catW (ln.words.take i)).data.toList⟩ : St)) (fun (i : Nat) (g : Nat) (u : Bool) => i ≤ ln.words.length) (fun (i : Nat) (g : Nat) (u : Bool) => ln.words.length - i) (0) (0) (false) (by exact Nat.zero_le _) (St.Le.of ⟨(by first | rfl | (show some _ = some _; simp)), (by first | rfl | (show some _ = some _; simp)), (by first | rfl | (show some _ = some _; simp)), (by first | rfl | (show some _ = some _; simp)), (by first | rfl | (show some _ = some _; simp)), trivial⟩ rfl (by first | rfl | (simp))) ?_)))))))))
 rintro i g u hi
 have hcs := catW_size i hw hi
 have hcl : (catW (ln.words.take i)).data.toList.length = (catW (ln.words.take i)).size := by simp
 refine SCode.seqR (SOps.bin rfl rfl rfl (SOps.nil (SCode.seq ?_)))
 refine SCode.cond rfl (fun hc1 => ?_) (fun hc1 => ?_)
 ·try simp only [nmL] at hc1
  refine SCode.skip ?_
  show SCode _ _ _ _
  refine SCode.seq (SCode.block (SCode.seqR ?_))
  have hil : i < ln.words.length := by omega
  have hwi := hw _ (List.getElem_mem hil)
  have hct := catW_take hil
  refine SOps.move rfl (SOps.indexM (i) rfl rfl sliceB_22_9_1 (by first | omega | (simp only [lenB] <;> omega)) (by first | omega | (simp only [lenB] <;> omega)) (SOps.loadPin rfl flatB_9 (SOps.assign rfl (SOps.assign rfl (SOps.nil (SCode.seq (SCode.seqR (SOps.move rfl (SOps.bin rfl rfl rfl (SOps.nil ?_))))))))))
  refine SCode.cond rfl (fun hc2 => ?_) (fun hc2 => ?_)
  ·try simp only [nmL] at hc2
   have h0 : ¬ i = 0 := by omega
   have hctA : (catW (ln.words.take (i + 1))).data.toList = (catW (ln.words.take i)).data.toList ++ [32] ++ (ln.words[i]).data.toList := by rw [hct, if_neg h0, data_app2, data_app2]; rfl
   refine SCode.region (SOps.callR (bldH _ _ _ _) [] (bWriteByte _ _ _ _ 32 (by first | (simp; omega) | (simp [ByteArray.size_append]; omega))) rfl rfl ?_)
   rintro _ _ ⟨g7, rfl, rfl⟩
   refine SOps.nil ?_
   show SCode _ _ _ _
   refine SCode.region (SOps.move rfl (SOps.callR (bldH _ _ _ _) [] (bWriteString _ _ _ _ _ (by first | (simp; omega) | (simp [ByteArray.size_append]; omega))) rfl rfl ?_))
   rintro _ _ ⟨g7, rfl, rfl⟩
   refine SOps.nil ?_
   show SCode _ _ _ _
   refine SCode.region (SOps.addI rfl rfl (by first | omega | (simp only [lenB] <;> omega)) (by first | omega | (simp only [lenB] <;> omega)) (SOps.move rfl (SOps.nil ?_)))
   first
    | exact ⟨i + 1, g7, true, by omega, by omega, St.Le.of ⟨rfl, rfl, rfl, rfl, rfl, trivial⟩ rfl (congrArg (bldH b0 g7 true) hctA)⟩
    | exact ⟨i + 1, g7, true, by omega, by omega, St.Le.of ⟨rfl, rfl, rfl, rfl, rfl, trivial⟩ rfl (congrArg (bldH b0 g7 true) hctB)⟩
  ·try simp only [nmL] at hc2
   have h0 : i = 0 := by omega
   have hctB : (catW (ln.words.take (i + 1))).data.toList = (catW (ln.words.take i)).data.toList ++ (ln.words[i]).data.toList := by rw [hct, if_pos h0, show (catW (ln.words.take i)) = .empty from by rw [h0]; rfl]; rfl
   refine SCode.skip ?_
   show SCode _ _ _ _
   refine SCode.region (SOps.move rfl (SOps.callR (bldH _ _ _ _) [] (bWriteString _ _ _ _ _ (by first | (simp; omega) | (simp [ByteArray.size_append]; omega))) rfl rfl ?_))
   rintro _ _ ⟨g7, rfl, rfl⟩
   refine SOps.nil ?_
   show SCode _ _ _ _
   refine SCode.region (SOps.addI rfl rfl (by first | omega | (simp only [lenB] <;> omega)) (by first | omega | (simp only [lenB] <;> omega)) (SOps.move rfl (SOps.nil ?_)))
   first
    | exact ⟨i + 1, g7, true, by omega, by omega, St.Le.of ⟨rfl, rfl, rfl, rfl, rfl, trivial⟩ rfl (congrArg (bldH b0 g7 true) hctA)⟩
    | exact ⟨i + 1, g7, true, by omega, by omega, St.Le.of ⟨rfl, rfl, rfl, rfl, rfl, trivial⟩ rfl (congrArg (bldH b0 g7 true) hctB)⟩
 ·try simp only [nmL] at hc1
  refine SCode.exit ?_
  show SCode _ _ _ _
  refine SCode.seq (SCode.seqR (SOps.fieldPin rfl fieldB_24_1_1 (SOps.loadPin rfl flatB_4 (SOps.nil ?_))))
  refine SCode.cond rfl (fun hc3 => ?_) (fun hc3 => ?_)
  ·try simp only [nmL] at hc3
   have hk9 : ln.words.take i = ln.words := List.take_of_length_le (by omega)
   have hx : textL ln = catW ln.words ++ hy1 := by rw [textL, if_pos hc3]
   refine SCode.region (SOps.callR (bldH _ _ _ _) [] (bWriteByte _ _ _ _ 45 (by first | (simp; omega) | (simp [ByteArray.size_append]; omega))) rfl rfl ?_)
   rintro _ _ ⟨g7, rfl, rfl⟩
   refine SOps.nil ?_
   show SCode _ _ _ _
   refine SCode.seqR (SOps.callR (bldH _ _ _ _) [] (bString _ _ _ _ (by first | (simp; omega) | (simp [ByteArray.size_append]; omega))) rfl rfl ?_)
   rintro _ _ ⟨rfl, rfl⟩
   refine SOps.assign rfl (SOps.nil (SCode.ret ?_))
   exact ⟨_, Res.one (.tmp rfl), (by rw [hx]; exact congrArg (fun z => DV.v (.string z)) (by rw [hk9]; exact ba_list (catW ln.words ++ hy1))), rfl⟩
  ·try simp only [nmL] at hc3
   have hk9 : ln.words.take i = ln.words := List.take_of_length_le (by omega)
   have hx : textL ln = catW ln.words := by rw [textL, if_neg (by rw [hc3]; simp)]
   refine SCode.skip ?_
   show SCode _ _ _ _
   refine SCode.seqR (SOps.callR (bldH _ _ _ _) [] (bString _ _ _ _ (by first | (simp; omega) | (simp [ByteArray.size_append]; omega))) rfl rfl ?_)
   rintro _ _ ⟨rfl, rfl⟩
   refine SOps.assign rfl (SOps.nil (SCode.ret ?_))
   exact ⟨_, Res.one (.tmp rfl), (by rw [hx]; exact congrArg (fun z => DV.v (.string z)) (by rw [hk9] <;> exact ba_list (catW ln.words))), rfl⟩
end Go.GH
namespace Go.GH
open Go Go.Lib
end Go.GH
namespace Go.GH
open Go Go.Proofs
variable {E : Env}
end Go.GH
namespace Go.GH
open Go Go.Lib
/-- Lines of which no text is long. -/
def LnOK (l : Ln) : Prop := l.words.length ≤ 1000 ∧ ∀ w ∈ l.words, w.size ≤ 1000
theorem LnOK.size {l : Ln} (h : LnOK l) : wlen (textL l) ≤ 1001001 := by
  have h1 := catW_size l.words.length h.2 (Nat.le_refl _)
  rw [List.take_length] at h1
  have h2 : (1000 + 1) * l.words.length ≤ 1001 * 1000 := Nat.mul_le_mul_left _ h.1
  have h3 : (textL l).size ≤ 1001001 := by
    unfold textL
    split
    · rw [ByteArray.size_append]; have : hy1.size = 1 := rfl; omega
    · omega
  have := runes_len (textL l)
  unfold wlen; omega
theorem LnOK.words {l : Ln} (h : LnOK l) : (∀ w ∈ l.words, w.size ≤ 1048576) ∧ l.words.length ≤ 1048576 :=
  ⟨fun w hw => by have := h.2 w hw; omega, by have := h.1; omega⟩
end Go.GH
namespace Go.GH
open Go Go.Proofs
variable {E : Env}
theorem aggB_24_2 : aggB Tryz.prog 24 2 = true := by kernel_rfl
theorem zeroIs_24 : zeroIs Tryz.prog 24 (.agg #[.slice none 0 0, .bool false]) := by unfold zeroIs; kernel_rfl
end Go.GH
namespace Go.GH
open Go Go.Lib
end Go.GH
namespace Go.GH
open Go Go.Proofs
variable {E : Env}

end Go.GH
namespace Go.GH
open Go Go.Proofs
variable {E : Env}

end Go.GH
namespace Go.GH
open Go Go.Lib
def ptsF (l : List Bx) : List (Nat × Int) := (l.zipIdx.map (fun p => (p.2, 0) :: p.1.pts.map (fun q => (p.2, q)))).flatten
def pointsL (l : List Bx) : List (Nat × Int) := ptsF l ++ [(l.length, 0)]
end Go.GH
namespace Go.GH
open Go Go.Proofs
variable {E : Env}
end Go.GH
namespace Go.GH
open Go Go.Lib
def stB (l : List Bx) (k : Nat) : Nat := ((l.take k).map (fun b => wlen b.word + 1)).sum
def up3 (l : List Bx) (k : Nat × Int) : Nat × Int × Int := (k.1, k.2, (stB l k.1 : Int) + k.2)
def pts3 (l : List Bx) : List (Nat × Int × Int) := (pointsL l).map (up3 l)
def ptN (l : List Bx) : Nat := (pts3 l).length
def pt3 (l : List Bx) (i : Nat) : Nat × Int × Int := (pts3 l).getD i (0, 0, 0)
theorem pt3_lt {l : List Bx} {i : Nat} (h : i < (pts3 l).length) : pt3 l i = (pts3 l)[i] := by
  unfold pt3; rw [List.getD_eq_getElem?_getD, List.getElem?_eq_getElem h]; rfl
/-- No break point lies far. -/
def Near (l : List Bx) : Prop := ptN l ≤ 1000000 ∧ 0 < ptN l ∧ ∀ x ∈ pts3 l, -1000000000 ≤ x.2.2 ∧ x.2.2 ≤ 1000000000
theorem Near.at {l : List Bx} (h : Near l) {i : Nat} (hi : i < ptN l) : -1000000000 ≤ (pt3 l i).2.2 ∧ (pt3 l i).2.2 ≤ 1000000000 := by
  rw [pt3_lt hi]; exact h.2.2 _ (List.getElem_mem hi)
end Go.GH
namespace Go.GH
open Go Go.Proofs
variable {E : Env}
end Go.GH
namespace Go.GH
open Go Go.Proofs
variable {E : Env}
end Go.GH
namespace Go.GH
open Go Go.Proofs
variable {E : Env}

end Go.GH
namespace Go.GH
open Go Go.Lib
end Go.GH
namespace Go.GH
open Go Go.Proofs
variable {E : Env}
theorem oneB_3 : oneB Tryz.prog 3 = true := by kernel_rfl
end Go.GH
namespace Go.GH
open Go Go.Lib
def q3 (l : List Bx) (k : Nat) : List (Nat × Int × Int) := (ptsF (l.take k)).map (up3 l)
end Go.GH
namespace Go.GH
open Go Go.RowKit
section
variable {C : Ctx} {st : St} {ops : Array Oper} {R : St → Prop} {t : Tmp}
end
end Go.GH
namespace Go.GH
open Go Go.Proofs
variable {E : Env}
end Go.GH
namespace Go.GH
open Go Go.Lib
def wAt (l : List Bx) (j : Nat) : List Int := match l[j]? with
  | some b => runes b.word
  | none => []
/-- Whole words, from a up to w. -/
def wsA (l : List Bx) (a w : Nat) : List ByteArray := ((l.take w).drop a).map (fun b => encs (runes b.word))
def wsB (l : List Bx) (a b : Nat × Int × Int) : List ByteArray := if 0 < b.2.1 then wsA l a.1 b.1 ++ [encs ((wAt l b.1).take b.2.1.toNat)] else wsA l a.1 b.1
/-- Between these points there is a line. -/
structure LineOK (l : List Bx) (a b : Nat × Int × Int) : Prop where
  le : a.1 ≤ b.1
  len : b.1 ≤ l.length
  hy : 0 < b.2.1 → b.1 < l.length ∧ b.2.1 ≤ ((wAt l b.1).length : Int)
  cut : 0 < a.2.1 → 0 < (wsB l a b).length ∧ a.2.1 ≤ ((runes ((wsB l a b).getD 0 .empty)).length : Int) ∧ (runes ((wsB l a b).getD 0 .empty)).length ≤ 1000000
end Go.GH
namespace Go.GH
open Go Go.Proofs
variable {E : Env}
theorem oneB_22 : oneB Tryz.prog 22 = true := by kernel_rfl
theorem oneB_4 : oneB Tryz.prog 4 = true := by kernel_rfl
theorem oneB_9 : oneB Tryz.prog 9 = true := by kernel_rfl
end Go.GH
namespace Go.GH
open Go Go.Lib
theorem encs_size4 (rs : List Int) : (encs rs).size ≤ 4 * rs.length := by
  induction rs with
  | nil => exact Nat.le_refl 0
  | cons r rs ih =>
    have := encode_size r
    show (Utf8.encode r ++ encs rs).size ≤ _
    rw [ByteArray.size_append, List.length_cons]
    omega
/-- What is bounded in valid boxes. -/
structure Bnds (l : List Bx) : Prop where
  len : l.length ≤ 200
  word : ∀ b ∈ l, b.word.size ≤ 800
  wlen : ∀ b ∈ l, wlen b.word ≤ 200
  pts : ∀ b ∈ l, b.pts.length ≤ 200
  pos : ∀ b ∈ l, ∀ q ∈ b.pts, 1 ≤ q ∧ q ≤ 200
  cor : ∀ b ∈ l, encs (runes b.word) = b.word
end Go.GH
namespace Go.GH
open Go Go.Lib
/-- From a by nx through the list to z. -/
def Pth (nx : List Int) : Nat → List Nat → Nat → Prop
  | a, [], z => a = z
  | a, k :: ks, z => a < k ∧ nx.getD a 0 = (k : Int) ∧ Pth nx k ks z
theorem Pth.le {nx : List Int} : ∀ {a z : Nat} {ks : List Nat}, Pth nx a ks z → a ≤ z
  | _, _, [], h => Nat.le_of_eq h
  | _, _, k :: ks, ⟨h1, _, h2⟩ => by have := h2.le; omega
theorem Pth.cons {nx : List Int} {a z : Nat} {ks : List Nat} (h : Pth nx a ks z) (hz : a < z) : ∃ k ks2, ks = k :: ks2 ∧ a < k ∧ k ≤ z ∧ nx.getD a 0 = (k : Int) ∧ Pth nx k ks2 z := by
  cases ks with
  | nil => exact absurd h (by simp only [Pth]; omega)
  | cons k ks => exact ⟨k, ks, rfl, h.1, h.2.2.le, h.2.1, h.2.2⟩
theorem Pth.nil {nx : List Int} {a z : Nat} {ks : List Nat} (h : Pth nx a ks z) (hz : z ≤ a) : ks = [] := by
  cases ks with
  | nil => rfl
  | cons k ks => have := h.2.2.le; have := h.1; omega
theorem Pth.set {nx : List Int} {i : Nat} {v : Int} : ∀ {a z : Nat} {ks : List Nat}, Pth nx a ks z → z ≤ i → Pth (nx.set i v) a ks z
  | _, _, [], h, _ => h
  | a, z, k :: ks, ⟨h1, h2, h3⟩, hz => by
    have := h3.le
    refine ⟨h1, ?_, h3.set hz⟩
    rw [← h2, List.getD_eq_getElem?_getD, List.getD_eq_getElem?_getD, List.getElem?_set_ne (by omega)]
/-! counting -/
/-! the cheapest -/
end Go.GH
namespace Go.GH
open Go Go.Proofs
variable {E : Env}
end Go.GH
namespace Go.GH
open Go Go.Proofs
variable {E : Env}

end Go.GH
namespace Go.GH
open Go Go.Lib
end Go.GH
namespace Go.GH
open Go Go.Proofs
variable {E : Env}

end Go.GH
namespace Go.GH
open Go Go.Proofs
variable {E : Env}
theorem oneB_98 : oneB Tryz.prog 98 = true := by kernel_rfl
theorem zeroIs_98 : zeroIs Tryz.prog 98 (.slice none 0 0) := by unfold zeroIs; kernel_rfl
end Go.GH
namespace Go.GH
open Go Go.Lib
end Go.GH
namespace Go.GH
open Go Go.Proofs
variable {E : Env}
end Go.GH
namespace Go.GH
open Go Go.Lib
end Go.GH
namespace Go.GH
open Go Go.Lib
theorem accD_ne {sz b : Nat} {es : List (List DV)} (h : 0 < es.length) : accD sz b es = .sl b sz 0 es.length := by
  cases es with
  | nil => simp at h
  | cons x l => rfl
theorem accH_ne {e sz b : Nat} {es : List (List DV)} (h : 0 < es.length) : accH e sz b es = [(b, .row e sz es)] := by
  cases es with
  | nil => simp at h
  | cons x l => rfl
end Go.GH
namespace Go.GH
open Go Go.Proofs
variable {E : Env}

end Go.GH
namespace Go.GH
open Go Go.Proofs
variable {E : Env}
theorem jLimited (w : Int)  : GCall Tryz.prog E 36 [.v (.int .i64 w)] [] (fun d H => d = .v (.bool (wideB w)) ∧ H = []) := by
 refine GCall.body (C := ⟨Tryz.prog, E, true⟩) Tryz.func36 rfl (fun _ => rfl) (by kernel_rfl) rfl ?_
 refine SCode.seqR (SOps.assign rfl (SOps.nil (SCode.seqR (SOps.move rfl (SOps.bin rfl rfl rfl (SOps.move rfl ?_))))))
 refine SOps.caseB 5 rfl (fun hb1 => ?_) (fun hb1 => ?_)
 ·try simp only [nmL] at hb1
  refine SOps.move rfl (SOps.bin rfl rfl rfl (SOps.pick rfl rfl (SOps.assign rfl (SOps.nil (SCode.ret ?_)))))
  exact ⟨_, Res.one (.tmp rfl), congrArg (fun b => DV.v (.bool b)) (by rw [Bool.eq_iff_iff]; simp only [wideB, Bool.and_eq_true, decide_eq_true_eq, Bool.false_eq_true, Bool.true_eq_false, beq_iff_eq]; first | omega | (simp; omega)), rfl⟩
 ·try simp only [nmL] at hb1
  refine SOps.skip rfl (SOps.skip rfl (SOps.pick rfl rfl (SOps.assign rfl (SOps.nil (SCode.ret ?_)))))
  exact ⟨_, Res.one (.tmp rfl), congrArg (fun b => DV.v (.bool b)) (by rw [Bool.eq_iff_iff]; simp only [wideB, Bool.and_eq_true, decide_eq_true_eq, Bool.false_eq_true, Bool.true_eq_false, beq_iff_eq]; first | omega | (simp; omega)), rfl⟩
theorem jBlanks (n : Nat) (hn : n ≤ 1048576) : GCall Tryz.prog E 40 [.v (.int .i64 (n : Int))] [] (fun d H => d = .v (.string (blB n)) ∧ H = []) := by
 refine GCall.body (C := ⟨Tryz.prog, E, true⟩) Tryz.func40 rfl (fun _ => rfl) (by kernel_rfl) rfl ?_
 refine SCode.seqR (SOps.assign rfl (SOps.nil (SCode.seqR (SOps.move rfl (SOps.callP (sRepeat n hn) rfl ?_)))))
 rintro _ rfl
 refine SOps.assign rfl (SOps.nil (SCode.ret ?_))
 exact ⟨_, Res.one (.tmp rfl), rfl, rfl⟩
theorem jPrintable (hV : VS E) (ln : Ln) (hw : ∀ w ∈ ln.words, w.size ≤ 1048576) (hl : ln.words.length ≤ 1048576) : GCall Tryz.prog E 37 [.agg (encLn ln)] [] (fun d H => d = .v (.bool (prB ln)) ∧ H = []) := by
 refine GCall.body (C := ⟨Tryz.prog, E, true⟩) Tryz.func37 rfl (fun _ => rfl) (by kernel_rfl) rfl ?_
 refine SCode.seqR (SOps.boxAM rfl rfl (SOps.assign rfl (SOps.nil (SCode.seq (SCode.seqR (SOps.fieldPin rfl fieldB_24_0_0 (SOps.loadPin rfl flatB_22 (SOps.lenM rfl sliceB_22_9_1 (SOps.move rfl (SOps.nil (SCode.block (SCode.loop1 (fun (i : Nat) => (⟨28, [(1, .ipin (encLn ln)), (6, DStrs ln.words), (7, .v (.int .i64 (ln.words.length : Int))), (8, .v (.int .i64 (i : Int)))], []⟩ : St)) (fun (i : Nat) => i ≤ ln.words.length ∧ ∀ w ∈ ln.words.take i, wordB w = true) (fun (i : Nat) => ln.words.length - i) (0) (by simp) (St.Le.of ⟨(by first | rfl | (show some _ = some _; simp)), (by first | rfl | (show some _ = some _; simp)), (by first | rfl | (show some _ = some _; simp)), (by first | rfl | (show some _ = some _; simp)), trivial⟩ rfl (by first | rfl | (simp))) ?_))))))))))))
 rintro i ⟨hi, hf⟩
 refine SCode.seqR (SOps.bin rfl rfl rfl (SOps.nil (SCode.seq ?_)))
 refine SCode.cond rfl (fun hc1 => ?_) (fun hc1 => ?_)
 ·try simp only [nmL] at hc1
  refine SCode.skip ?_
  show SCode _ _ _ _
  refine SCode.seq (SCode.block (SCode.seqR ?_))
  have hil : i < ln.words.length := by omega
  have hwi := hw _ (List.getElem_mem hil)
  refine SOps.indexM (i) rfl rfl sliceB_22_9_1 (by first | omega | (simp only [lenB] <;> omega)) (by first | omega | (simp only [lenB] <;> omega)) (SOps.loadPin rfl flatB_9 (SOps.assign rfl (SOps.nil (SCode.seqR (SOps.move rfl (SOps.bin rfl rfl rfl (SOps.move rfl ?_)))))))
  refine SOps.caseB 14 rfl (fun hb2 => ?_) (fun hb2 => ?_)
  ·try simp only [nmL] at hb2
   refine SOps.skip rfl (SOps.skip rfl (SOps.skip rfl (SOps.pick rfl rfl (SOps.move rfl (SOps.skip rfl (SOps.skip rfl (SOps.pick rfl rfl (SOps.nil ?_))))))))
   refine SCode.cond rfl (fun _ => ?_) (fun h => by cases h)
   refine SCode.seqR (SOps.assign rfl (SOps.nil (SCode.ret ?_)))
   exact ⟨_, Res.one (.tmp rfl), congrArg (fun b => DV.v (.bool b)) (Eq.symm (Bool.eq_false_iff.2 (fun h => by have h9 := (prB_iff.1 h).2 _ (List.getElem_mem hil); unfold wordB at h9; simp_all))), rfl⟩
  ·try simp only [nmL] at hb2
   refine SOps.move rfl (SOps.callP (hV _) rfl ?_)
   rintro _ rfl
   refine SOps.un rfl rfl (SOps.pick rfl rfl (SOps.move rfl ?_))
   refine SOps.caseB 19 rfl (fun hb3 => ?_) (fun hb3 => ?_)
   ·try simp only [nmL] at hb3
    refine SOps.skip rfl (SOps.skip rfl (SOps.pick rfl rfl (SOps.nil ?_)))
    refine SCode.cond rfl (fun _ => ?_) (fun h => by cases h)
    refine SCode.seqR (SOps.assign rfl (SOps.nil (SCode.ret ?_)))
    exact ⟨_, Res.one (.tmp rfl), congrArg (fun b => DV.v (.bool b)) (Eq.symm (Bool.eq_false_iff.2 (fun h => by have h9 := (prB_iff.1 h).2 _ (List.getElem_mem hil); unfold wordB at h9; simp_all))), rfl⟩
   ·try simp only [nmL] at hb3
    refine SOps.move rfl (SOps.callP (sContainsAny _ (by assumption) hwi) rfl ?_)
    rintro _ rfl
    refine SOps.pick rfl rfl (SOps.nil ?_)
    refine SCode.cond rfl (fun hc4 => ?_) (fun hc4 => ?_)
    ·try simp only [nmL] at hc4
     refine SCode.seqR (SOps.assign rfl (SOps.nil (SCode.ret ?_)))
     exact ⟨_, Res.one (.tmp rfl), congrArg (fun b => DV.v (.bool b)) (Eq.symm (Bool.eq_false_iff.2 (fun h => by have h9 := (prB_iff.1 h).2 _ (List.getElem_mem hil); unfold wordB at h9; simp_all))), rfl⟩
    ·try simp only [nmL] at hc4
     refine SCode.skip ?_
     show SCode _ _ _ _
     refine SCode.region (SOps.addI rfl rfl (by first | omega | (simp only [lenB] <;> omega)) (by first | omega | (simp only [lenB] <;> omega)) (SOps.move rfl (SOps.nil ?_)))
     exact ⟨i + 1, by exact ⟨by omega, take_more hf hil (by unfold wordB; simp_all)⟩, by omega, (St.Le.of ⟨(by first | rfl | (show some _ = some _; simp)), (by first | rfl | (show some _ = some _; simp)), (by first | rfl | (show some _ = some _; simp)), (by first | rfl | (show some _ = some _; simp)), trivial⟩ rfl (by first | rfl | (simp)))⟩
 ·try simp only [nmL] at hc1
  refine SCode.exit ?_
  show SCode _ _ _ _
  refine SCode.seqR (SOps.fieldPin rfl fieldB_24_0_0 (SOps.loadPin rfl flatB_22 (SOps.lenM rfl sliceB_22_9_1 (SOps.bin rfl rfl rfl (SOps.assign rfl (SOps.nil (SCode.ret ?_)))))))
  exact ⟨_, Res.one (.tmp rfl), congrArg (fun b => DV.v (.bool b)) (by rw [prB, List.all_eq_true.2 (all_of (by omega) hf), Bool.and_true, Bool.eq_iff_iff]; simp), rfl⟩
theorem jSpread (hV : VS E) (ln : Ln) (w : Int) (last : Bool) (hw : ∀ w ∈ ln.words, w.size ≤ 1048576) (hl : ln.words.length ≤ 1048576) : GCall Tryz.prog E 13 [.agg (encLn ln), .v (.int .i64 w), .v (.bool last)] [] (fun d H => d = tupA (spreadR ln w last) ∧ H = []) := by
 refine GCall.body (C := ⟨Tryz.prog, E, true⟩) Tryz.func13 rfl (fun _ => rfl) (by kernel_rfl) rfl ?_
 refine SCode.seqR (SOps.boxAM rfl rfl (SOps.assign rfl (SOps.assign rfl (SOps.nil (SCode.seq (SCode.seqR (SOps.move rfl (SOps.callP (jLimited _) rfl ?_))))))))
 rintro _ rfl
 refine SOps.un rfl rfl (SOps.move rfl ?_)
 refine SOps.caseB 20 rfl (fun hb1 => ?_) (fun hb1 => ?_)
 ·try simp only [nmL] at hb1
  refine SOps.skip rfl (SOps.skip rfl (SOps.skip rfl (SOps.pick rfl rfl (SOps.nil ?_))))
  refine SCode.cond rfl (fun _ => ?_) (fun h => by cases h)
  refine SCode.seqR (SOps.assign rfl (SOps.assign rfl (SOps.nil (SCode.ret ?_))))
  exact ⟨_, Res.two (.tmp rfl) (.tmp rfl), (by rw [spread_bad (by simp_all)]; rfl), rfl⟩
 ·try simp only [nmL] at hb1
  refine SOps.loadPinA rfl aggB_24_2 (Nat.le_of_ble_eq_true rfl) (SOps.callP (jPrintable hV _ (by assumption) (by assumption)) rfl ?_)
  rintro _ rfl
  refine SOps.un rfl rfl (SOps.pick rfl rfl (SOps.nil ?_))
  refine SCode.cond rfl (fun hc2 => ?_) (fun hc2 => ?_)
  ·try simp only [nmL] at hc2
   refine SCode.seqR (SOps.assign rfl (SOps.assign rfl (SOps.nil (SCode.ret ?_))))
   exact ⟨_, Res.two (.tmp rfl) (.tmp rfl), (by rw [spread_bad (by simp_all)]; rfl), rfl⟩
  ·try simp only [nmL] at hc2
   refine SCode.skip ?_
   show SCode _ _ _ _
   refine SCode.seqR (SOps.loadPinA rfl aggB_24_2 (Nat.le_of_ble_eq_true rfl) (SOps.callP (sText _ (by assumption) (by assumption)) rfl ?_))
   rintro _ rfl
   refine SOps.assign rfl (SOps.nil (SCode.seqR ?_))
   have hgood : (wideB w && prB ln) = true := by simp_all
   have hw12 := wideX_iff.1 (Bool.and_eq_true_iff.1 hgood).1
   have hpr := prB_iff.1 (Bool.and_eq_true_iff.1 hgood).2
   have hcl := catW_sz hw
   have htl : (textL ln).size ≤ 1048577 * ln.words.length + 1 := by unfold textL; split; rw [ByteArray.size_append]; have : hy1.size = 1 := rfl; omega; omega
   have hwl : wlen (textL ln) ≤ (textL ln).size := runes_len _
   refine SOps.move rfl (SOps.move rfl (SOps.callP (uRuneCountW _) rfl ?_))
   rintro _ rfl
   refine SOps.subI rfl rfl (by first | omega | (simp only [lenB] <;> omega)) (by first | omega | (simp only [lenB] <;> omega)) (SOps.assign rfl (SOps.nil (SCode.seq (SCode.seqR (SOps.move rfl (SOps.bin rfl rfl rfl (SOps.nil ?_)))))))
   refine SCode.cond rfl (fun hc3 => ?_) (fun hc3 => ?_)
   ·try simp only [nmL] at hc3
    refine SCode.seqR (SOps.assign rfl (SOps.assign rfl (SOps.nil (SCode.ret ?_))))
    exact ⟨_, Res.two (.tmp rfl) (.tmp rfl), (by rw [spread_tight hgood (by omega)]; rfl), rfl⟩
   ·try simp only [nmL] at hc3
    refine SCode.skip ?_
    show SCode _ _ _ _
    refine SCode.seqR ?_
    obtain ⟨m, hm⟩ : ∃ m : Nat, w - (wlen (textL ln) : Int) = (m : Int) := ⟨(w - (wlen (textL ln) : Int)).toNat, by omega⟩
    refine SOps.reSlot (t := 9) rfl (show _ = DV.v (.int .i64 (m : Int)) from congrArg (fun z => DV.v (.int .i64 z)) hm) (SOps.fieldPin rfl fieldB_24_0_0 (SOps.loadPin rfl flatB_22 (SOps.lenM rfl sliceB_22_9_1 (SOps.subI rfl rfl (by first | omega | (simp only [lenB] <;> omega)) (by first | omega | (simp only [lenB] <;> omega)) (SOps.assign rfl (SOps.nil (SCode.seq (SCode.seqR ?_))))))))
    obtain ⟨g, hg⟩ : ∃ g : Nat, (ln.words.length : Int) - 1 = (g : Int) := ⟨ln.words.length - 1, by omega⟩
    refine SOps.reSlot (t := 10) rfl (show _ = DV.v (.int .i64 (g : Int)) from congrArg (fun z => DV.v (.int .i64 z)) hg) (SOps.move rfl (SOps.move rfl ?_))
    refine SOps.caseB 38 rfl (fun hb4 => ?_) (fun hb4 => ?_)
    ·try simp only [nmL] at hb4
     refine SOps.skip rfl (SOps.skip rfl (SOps.pick rfl rfl (SOps.nil ?_)))
     refine SCode.cond rfl (fun _ => ?_) (fun h => by cases h)
     refine SCode.seqR (SOps.move rfl (SOps.move rfl (SOps.callP (jBlanks m (by omega)) rfl ?_)))
     rintro _ rfl
     refine SOps.concat rfl rfl (by simp only [lenB, ByteArray.size_append, blB_size]; omega) (SOps.assign rfl (SOps.assign rfl (SOps.nil (SCode.ret ?_))))
     exact ⟨_, Res.two (.tmp rfl) (.tmp rfl), (by rw [spread_last hgood hm (by simp_all)]; rfl), rfl⟩
    ·try simp only [nmL] at hb4
     refine SOps.move rfl (SOps.bin rfl rfl rfl (SOps.pick rfl rfl (SOps.nil ?_)))
     refine SCode.cond rfl (fun hc5 => ?_) (fun hc5 => ?_)
     ·try simp only [nmL] at hc5
      refine SCode.seqR (SOps.move rfl (SOps.move rfl (SOps.callP (jBlanks m (by omega)) rfl ?_)))
      rintro _ rfl
      refine SOps.concat rfl rfl (by simp only [lenB, ByteArray.size_append, blB_size]; omega) (SOps.assign rfl (SOps.assign rfl (SOps.nil (SCode.ret ?_))))
      exact ⟨_, Res.two (.tmp rfl) (.tmp rfl), (by rw [spread_last hgood hm (.inr (by omega))]; rfl), rfl⟩
     ·try simp only [nmL] at hc5
      refine SCode.skip ?_
      show SCode _ _ _ _
      refine SCode.seq ?_
      apply SCode.drawAuto mixed_ [46, 47, 48, 49, 50, 51, 11, 12] [[.inr 9], [.inr 10], [.inl 0, .inl 1], [.inr 9], [.inr 10], [.inl 3, .inl 4], [.inl 2], [.inl 5]]
      ·kernel_rfl
      ·kernel_rfl
      ·apply DOk.cons 46 
       ·rfl
       ·exact (NeedIs.inr _ rfl NeedIs.nil)
       ·intro rest
        refine SOps.move rfl ?_
        exact SOps.nil rfl
       apply DOk.cons 47 
       ·rfl
       ·exact (NeedIs.inr _ rfl NeedIs.nil)
       ·intro rest
        refine SOps.move rfl ?_
        exact SOps.nil rfl
       apply DOk.cons 48 
       ·rfl
       ·exact (NeedIs.inl 1 _ _ rfl rfl (NeedIs.inl 0 _ _ rfl rfl NeedIs.nil))
       ·intro rest
        refine SOps.quoN (m) (g) rfl rfl rfl rfl (by first | omega | (simp only [lenB] <;> omega)) (has_div (by first | omega | (simp only [lenB] <;> omega))) ?_
        exact SOps.nil rfl
       apply DOk.cons 49 
       ·rfl
       ·exact (NeedIs.inr _ rfl NeedIs.nil)
       ·intro rest
        refine SOps.move rfl ?_
        exact SOps.nil rfl
       apply DOk.cons 50 
       ·rfl
       ·exact (NeedIs.inr _ rfl NeedIs.nil)
       ·intro rest
        refine SOps.move rfl ?_
        exact SOps.nil rfl
       apply DOk.cons 51 
       ·rfl
       ·exact (NeedIs.inl 1 _ _ rfl rfl (NeedIs.inl 0 _ _ rfl rfl NeedIs.nil))
       ·intro rest
        refine SOps.remN (m) (g) rfl rfl rfl rfl (by first | omega | (simp only [lenB] <;> omega)) (has_mod (by first | omega | (simp only [lenB] <;> omega))) ?_
        exact SOps.nil rfl
       apply DOk.cons 11 
       ·rfl
       ·exact (NeedIs.inl 3 _ _ rfl rfl NeedIs.nil)
       ·intro rest
        refine SOps.assign rfl ?_
        exact SOps.nil rfl
       apply DOk.cons 12 
       ·rfl
       ·exact (NeedIs.inl 1 _ _ rfl rfl NeedIs.nil)
       ·intro rest
        refine SOps.assign rfl ?_
        exact SOps.nil rfl
       exact DOk.nil
      ·rfl
      ·show SCode _ _ _ _
       refine SCode.seqR ?_
       refine SOps.allocV (sz := 2) zeroBld (fun b0 hb_0 => ?_)
       refine SOps.nil (SCode.seq (SCode.seqR (SOps.fieldPin rfl fieldB_24_0_0 (SOps.loadPin rfl flatB_22 (SOps.lenM rfl sliceB_22_9_1 (SOps.move rfl (SOps.nil (SCode.block (SCode.loop3 (fun (i : Nat) (gg : Nat) (u : Bool) => (⟨80, [(3, .ipin (encLn ln)), (10, .v (.int .i64 (g : Int))), (11, .v (.int .i64 ((m / g : Nat) : Int))), (12, .v (.int .i64 ((m % g : Nat) : Int))), (13, .vref b0 86 2), (53, DStrs ln.words), (54, .v (.int .i64 (ln.words.length : Int))), (55, .v (.int .i64 (i : Int)))], bldH b0 gg u (sprK ln.words g m i).data.toList⟩ : St)) (fun (i : Nat) (gg : Nat) (u : Bool) => i ≤ ln.words.length) (fun (i : Nat) (gg : Nat) (u : Bool) => ln.words.length - i) (0) (0) (false) (by exact Nat.zero_le _) (St.Le.of ⟨(by first | rfl | (show some _ = some _; simp)), (by first | rfl | (show some _ = some _; simp)), (by first | rfl | (show some _ = some _; simp)), (by first | rfl | (show some _ = some _; simp)), (by first | rfl | (show some _ = some _; simp)), (by first | rfl | (show some _ = some _; simp)), (by first | rfl | (show some _ = some _; simp)), (by first | rfl | (show some _ = some _; simp)), trivial⟩ rfl (by first | rfl | (simp))) ?_)))))))))
       rintro i gg u hi
       have hss := sprK_size (g := g) (show m ≤ 200 by omega) hw i
       have hsl : (sprK ln.words g m i).data.toList.length ≤ (1048576 + 202) * i := by rw [show (sprK ln.words g m i).data.toList.length = (sprK ln.words g m i).size from by simp]; exact hss
       have hdl := Nat.div_le_self m g
       have hdn : (0 : Int) ≤ ((m / g : Nat) : Int) := Int.natCast_nonneg _
       refine SCode.seqR (SOps.bin rfl rfl rfl (SOps.nil (SCode.seq ?_)))
       refine SCode.cond rfl (fun hc6 => ?_) (fun hc6 => ?_)
       ·try simp only [nmL] at hc6
        refine SCode.skip ?_
        show SCode _ _ _ _
        refine SCode.seq (SCode.block (SCode.seqR ?_))
        have hil : i < ln.words.length := by omega
        have hwi := hw _ (List.getElem_mem hil)
        have hsp : (sprK ln.words g m (i + 1)) = if i < g then (sprK ln.words g m i) ++ ln.words[i] ++ blB (gapN m g i) else (sprK ln.words g m i) ++ ln.words[i] := by rw [sprK, getD_w hil]
        have hwd : (ln.words[i]).data.toList.length = (ln.words[i]).size := by simp
        have hgb := blB_size (gapN m g i)
        have hgl := gapN_le (m := m) (g := g) (i := i) (by omega)
        refine SOps.move rfl (SOps.indexM (i) rfl rfl sliceB_22_9_1 (by first | omega | (simp only [lenB] <;> omega)) (by first | omega | (simp only [lenB] <;> omega)) (SOps.loadPin rfl flatB_9 (SOps.assign rfl (SOps.assign rfl (SOps.nil (SCode.seqR (SOps.move rfl (SOps.callR (bldH _ _ _ _) [] (bWriteString _ _ _ _ _ (by first | omega | (rw [List.length_append]; omega) | (rw [List.length_append, List.length_append]; omega) | (simp only [List.length_append, List.length_cons, List.length_nil]; omega))) rfl rfl ?_))))))))
        rintro _ _ ⟨g7, rfl, rfl⟩
        refine SOps.nil (SCode.seqR (SOps.move rfl (SOps.move rfl (SOps.bin rfl rfl rfl (SOps.nil ?_)))))
        refine SCode.cond rfl (fun hc7 => ?_) (fun hc7 => ?_)
        ·try simp only [nmL] at hc7
         have hctA : (sprK ln.words g m (i + 1)).data.toList = (sprK ln.words g m i).data.toList ++ (ln.words[i]).data.toList ++ (blB (gapN m g i)).data.toList := by rw [hsp, if_pos (by omega), data_app2, data_app2]
         refine SCode.seqR (SOps.move rfl (SOps.addI rfl rfl (by first | omega | (simp only [lenB] <;> omega)) (by first | omega | (simp only [lenB] <;> omega)) (SOps.assign rfl (SOps.nil (SCode.seq (SCode.seqR (SOps.move rfl (SOps.move rfl (SOps.bin rfl rfl rfl (SOps.nil ?_))))))))))
         refine SCode.cond rfl (fun hc8 => ?_) (fun hc8 => ?_)
         ·try simp only [nmL] at hc8
          refine SCode.region (SOps.move rfl (SOps.addI rfl rfl (by first | omega | (simp only [lenB] <;> omega)) (by first | omega | (simp only [lenB] <;> omega)) (SOps.assign rfl (SOps.nil ?_))))
          show SCode _ _ _ _
          refine SCode.region (SOps.reSlot (t := 16) rfl (show _ = DV.v (.int .i64 ((gapN m g i : Nat) : Int)) from congrArg (fun z => DV.v (.int .i64 z)) (by unfold gapN; first | (rw [if_pos (by omega)]; omega) | (rw [if_neg (by omega)]; omega))) (SOps.move rfl (SOps.callP (jBlanks (gapN m g i) (by omega)) rfl ?_)))
          rintro _ rfl
          refine SOps.callR (bldH _ _ _ _) [] (bWriteString _ _ _ _ _ (by first | omega | (rw [List.length_append]; omega) | (rw [List.length_append, List.length_append]; omega) | (simp only [List.length_append, List.length_cons, List.length_nil]; omega))) rfl rfl ?_
          rintro _ _ ⟨g7, rfl, rfl⟩
          refine SOps.nil ?_
          show SCode _ _ _ _
          refine SCode.region (SOps.addI rfl rfl (by first | omega | (simp only [lenB] <;> omega)) (by first | omega | (simp only [lenB] <;> omega)) (SOps.move rfl (SOps.nil ?_)))
          first
           | exact ⟨i + 1, g7, true, by omega, by omega, St.Le.of ⟨rfl, rfl, rfl, rfl, rfl, rfl, rfl, rfl, trivial⟩ rfl (congrArg (bldH b0 g7 true) hctA)⟩
           | exact ⟨i + 1, g7, true, by omega, by omega, St.Le.of ⟨rfl, rfl, rfl, rfl, rfl, rfl, rfl, rfl, trivial⟩ rfl (congrArg (bldH b0 g7 true) hctB)⟩
         ·try simp only [nmL] at hc8
          refine SCode.skip ?_
          show SCode _ _ _ _
          refine SCode.region (SOps.reSlot (t := 16) rfl (show _ = DV.v (.int .i64 ((gapN m g i : Nat) : Int)) from congrArg (fun z => DV.v (.int .i64 z)) (by unfold gapN; first | (rw [if_pos (by omega)]; omega) | (rw [if_neg (by omega)]; omega))) (SOps.move rfl (SOps.callP (jBlanks (gapN m g i) (by omega)) rfl ?_)))
          rintro _ rfl
          refine SOps.callR (bldH _ _ _ _) [] (bWriteString _ _ _ _ _ (by first | omega | (rw [List.length_append]; omega) | (rw [List.length_append, List.length_append]; omega) | (simp only [List.length_append, List.length_cons, List.length_nil]; omega))) rfl rfl ?_
          rintro _ _ ⟨g7, rfl, rfl⟩
          refine SOps.nil ?_
          show SCode _ _ _ _
          refine SCode.region (SOps.addI rfl rfl (by first | omega | (simp only [lenB] <;> omega)) (by first | omega | (simp only [lenB] <;> omega)) (SOps.move rfl (SOps.nil ?_)))
          first
           | exact ⟨i + 1, g7, true, by omega, by omega, St.Le.of ⟨rfl, rfl, rfl, rfl, rfl, rfl, rfl, rfl, trivial⟩ rfl (congrArg (bldH b0 g7 true) hctA)⟩
           | exact ⟨i + 1, g7, true, by omega, by omega, St.Le.of ⟨rfl, rfl, rfl, rfl, rfl, rfl, rfl, rfl, trivial⟩ rfl (congrArg (bldH b0 g7 true) hctB)⟩
        ·try simp only [nmL] at hc7
         have hctB : (sprK ln.words g m (i + 1)).data.toList = (sprK ln.words g m i).data.toList ++ (ln.words[i]).data.toList := by rw [hsp, if_neg (by omega), data_app2]
         refine SCode.skip ?_
         show SCode _ _ _ _
         refine SCode.region (SOps.addI rfl rfl (by first | omega | (simp only [lenB] <;> omega)) (by first | omega | (simp only [lenB] <;> omega)) (SOps.move rfl (SOps.nil ?_)))
         first
          | exact ⟨i + 1, g7, true, by omega, by omega, St.Le.of ⟨rfl, rfl, rfl, rfl, rfl, rfl, rfl, rfl, trivial⟩ rfl (congrArg (bldH b0 g7 true) hctA)⟩
          | exact ⟨i + 1, g7, true, by omega, by omega, St.Le.of ⟨rfl, rfl, rfl, rfl, rfl, rfl, rfl, rfl, trivial⟩ rfl (congrArg (bldH b0 g7 true) hctB)⟩
       ·try simp only [nmL] at hc6
        refine SCode.exit ?_
        show SCode _ _ _ _
        refine SCode.seq (SCode.seqR (SOps.fieldPin rfl fieldB_24_1_1 (SOps.loadPin rfl flatB_4 (SOps.nil ?_))))
        refine SCode.cond rfl (fun hc9 => ?_) (fun hc9 => ?_)
        ·try simp only [nmL] at hc9
         refine SCode.region (SOps.callR (bldH _ _ _ _) [] (bWriteByte _ _ _ _ 45 (by first | omega | (rw [List.length_append]; omega) | (rw [List.length_append, List.length_append]; omega) | (simp only [List.length_append, List.length_cons, List.length_nil]; omega))) rfl rfl ?_)
         rintro _ _ ⟨g7, rfl, rfl⟩
         refine SOps.nil ?_
         show SCode _ _ _ _
         refine SCode.seqR (SOps.callR (bldH _ _ _ _) [] (bString _ _ _ _ (by first | omega | (rw [List.length_append]; omega) | (rw [List.length_append, List.length_append]; omega) | (simp only [List.length_append, List.length_cons, List.length_nil]; omega))) rfl rfl ?_)
         rintro _ _ ⟨rfl, rfl⟩
         refine SOps.assign rfl (SOps.assign rfl (SOps.nil (SCode.ret ?_)))
         have hx : sprL ln m = (sprK ln.words g m i) ++ hy1 := by unfold sprL; rw [if_pos (by simp_all), show ln.words.length - 1 = g by omega, show ln.words.length = i by omega]
         exact ⟨_, Res.two (.tmp rfl) (.tmp rfl), (by rw [spread_gaps hgood hm (by simp_all) (by omega), hx]; exact congrArg (fun z => DV.tup [DV.v (.string z), .v (.int .i64 0)]) (ba_list ((sprK ln.words g m i) ++ hy1))), rfl⟩
        ·try simp only [nmL] at hc9
         refine SCode.skip ?_
         show SCode _ _ _ _
         refine SCode.seqR (SOps.callR (bldH _ _ _ _) [] (bString _ _ _ _ (by first | omega | (rw [List.length_append]; omega) | (rw [List.length_append, List.length_append]; omega) | (simp only [List.length_append, List.length_cons, List.length_nil]; omega))) rfl rfl ?_)
         rintro _ _ ⟨rfl, rfl⟩
         refine SOps.assign rfl (SOps.assign rfl (SOps.nil (SCode.ret ?_)))
         have hx : sprL ln m = (sprK ln.words g m i) := by unfold sprL; rw [if_neg (by simp_all), show ln.words.length - 1 = g by omega, show ln.words.length = i by omega]
         exact ⟨_, Res.two (.tmp rfl) (.tmp rfl), (by rw [spread_gaps hgood hm (by simp_all) (by omega), hx]; exact congrArg (fun z => DV.tup [DV.v (.string z), .v (.int .i64 0)]) (ba_list ((sprK ln.words g m i)))), rfl⟩
end Go.GH
namespace Go.GH
open Go
def clsR (r : Int) : Int := if 1488 ≤ r ∧ r ≤ 1514 then 2 else if (65 ≤ r ∧ r ≤ 90) ∨ (97 ≤ r ∧ r ≤ 122) ∨ 192 ≤ r then 1 else if 48 ≤ r ∧ r ≤ 57 then 3 else if r = 32 then 4 else 5
/-- How far a run reaches: to the last border before a barrier. -/
def lastN (e : Int → Bool) (nv : Int) : List Int → Nat
  | [] => 0
  | c :: l => if c = nv then 0 else match lastN e nv l with
    | 0 => if e c then 1 else 0
    | n + 1 => n + 2
def raiseK (e : Int → Bool) (nv : Int) : Nat → List Int → List Bool
  | _, [] => []
  | 0, c :: l => if e c then true :: raiseK e nv (lastN e nv (c :: l) - 1) l else false :: raiseK e nv 0 l
  | k + 1, c :: l => true :: raiseK e nv k l
theorem lastN_cons (e : Int → Bool) (nv c : Int) (l : List Int) : lastN e nv (c :: l) = if c = nv then 0 else if lastN e nv l = 0 then (if e c then 1 else 0) else lastN e nv l + 1 := by
  rw [lastN]
  split
  · rfl
  · cases h : lastN e nv l with
    | zero => simp
    | succ n => simp
theorem raiseK_len (e : Int → Bool) (nv : Int) : ∀ (l : List Int) (k : Nat), (raiseK e nv k l).length = l.length
  | [], k => by cases k <;> rfl
  | c :: l, 0 => by
    rw [raiseK]
    split <;> simp [raiseK_len e nv l]
  | c :: l, k + 1 => by rw [raiseK]; simp [raiseK_len e nv l]
def e0 (c : Int) : Bool := decide (c = 2)
def e1 (c : Int) : Bool := decide (c = 1) || decide (c = 3)
def levels (base : Int) (rs : List Int) : List Int :=
  if base = 0 then (List.zip (raiseK e0 1 0 (rs.map clsR)) (rs.map clsR)).map (fun p => if p.1 then (if p.2 = 3 then 2 else 1) else 0)
  else (raiseK e1 2 0 (rs.map clsR)).map (fun b => if b then 2 else 1)
theorem levels_len (base : Int) (rs : List Int) : (levels base rs).length = rs.length := by
  unfold levels
  split <;> simp [raiseK_len]
/-- Every longest run of what p holds of, the other way round. -/
def turnA {α : Type} (p : α → Bool) : List α → List α → List α
  | acc, [] => acc
  | acc, x :: l => if p x then turnA p (x :: acc) l else acc ++ x :: turnA p [] l
def turnL {α : Type} (p : α → Bool) (l : List α) : List α := turnA p [] l
theorem turnA_len {α : Type} (p : α → Bool) : ∀ (l acc : List α), (turnA p acc l).length = acc.length + l.length
  | [], acc => rfl
  | x :: l, acc => by
    rw [turnA]
    split
    · rw [turnA_len p l]; simp; omega
    · rw [List.length_append, List.length_cons, turnA_len p l]; simp
theorem turnA_mem {α : Type} {p : α → Bool} {y : α} : ∀ {l acc : List α}, y ∈ turnA p acc l → y ∈ acc ∨ y ∈ l
  | [], acc, h => .inl h
  | x :: l, acc, h => by
    rw [turnA] at h
    split at h
    · rcases turnA_mem h with h | h
      · rcases List.mem_cons.1 h with rfl | h
        · exact .inr (List.mem_cons_self ..)
        · exact .inl h
      · exact .inr (List.mem_cons_of_mem _ h)
    · rcases List.mem_append.1 h with h | h
      · exact .inl h
      · rcases List.mem_cons.1 h with rfl | h
        · exact .inr (List.mem_cons_self ..)
        · rcases turnA_mem h with h | h
          · cases h
          · exact .inr (List.mem_cons_of_mem _ h)
def lvAt (lv : List Int) (n : Int) (i : Nat) : Bool := decide (n ≤ lv.getD i 0)
def orderL (base : Int) (rs : List Int) : List Nat := turnL (lvAt (levels base rs) 1) (turnL (lvAt (levels base rs) 2) (List.range rs.length))
theorem orderL_len (base : Int) (rs : List Int) : (orderL base rs).length = rs.length := by
  unfold orderL turnL
  rw [turnA_len, turnA_len]; simp
theorem orderL_lt {base : Int} {rs : List Int} {i : Nat} (h : i ∈ orderL base rs) : i < rs.length := by
  unfold orderL turnL at h
  rcases turnA_mem h with h | h
  · cases h
  · rcases turnA_mem h with h | h
    · cases h
    · exact List.mem_range.1 h
def visR (base : Int) (rs : List Int) : List Int := (orderL base rs).map (fun i => rs.getD i 0)
def visE (base : Int) (s : ByteArray) : ByteArray := if utf8R s then encs (visR base (runes s)) else ⟨#[]⟩
end Go.GH
namespace Go.GH
open Go
/-! #### a segment -/
def revS {α : Type} (xs : List α) (off len : Nat) : List α := xs.take off ++ (((xs.drop off).take len).reverse ++ xs.drop (off + len))
theorem revS_get {α : Type} {xs : List α} {off len : Nat} (h : off + len ≤ xs.length) (k : Nat) (hk : k < xs.length) : (revS xs off len)[k]? = if h1 : off ≤ k ∧ k < off + len then xs[2 * off + len - 1 - k]? else xs[k]? := by
  unfold revS
  have e1 : (xs.take off).length = off := by rw [List.length_take]; omega
  have e2 : (((xs.drop off).take len).reverse).length = len := by rw [List.length_reverse, List.length_take, List.length_drop]; omega
  by_cases h1 : k < off
  · rw [List.getElem?_append_left (by omega), List.getElem?_take, if_pos h1, dif_neg (by omega)]
  · rw [List.getElem?_append_right (by omega), e1]
    by_cases h2 : k < off + len
    · rw [List.getElem?_append_left (by omega), List.getElem?_reverse (by rw [List.length_take, List.length_drop]; omega), List.length_take, List.length_drop, List.getElem?_take, if_pos (by omega), List.getElem?_drop, dif_pos ⟨by omega, h2⟩]
      congr 1; omega
    · rw [List.getElem?_append_right (by omega), e2, List.getElem?_drop, dif_neg (by omega)]
      congr 1; omega
theorem revS_len {α : Type} {xs : List α} {off len : Nat} (h : off + len ≤ xs.length) : (revS xs off len).length = xs.length := by
  unfold revS
  simp
  omega
/-- After i swaps. -/
def SegOK {α : Type} (xs ys : List α) (off len i : Nat) : Prop := ys.length = xs.length ∧ ∀ (k : Nat), k < xs.length → ys[k]? = if off ≤ k ∧ k < off + len ∧ (k < off + i ∨ off + len < k + i + 1) then xs[2 * off + len - 1 - k]? else xs[k]?
theorem SegOK.zero {α : Type} (xs : List α) (off len : Nat) : SegOK xs xs off len 0 := ⟨rfl, fun k hk => by rw [if_neg (by omega)]⟩
theorem SegOK.step {α : Type} {xs ys : List α} {off len i a b : Nat} (h : SegOK xs ys off len i) (ho : off + len ≤ xs.length) (ha : a = off + i) (hb : b = off + len - 1 - i) (hi : a < b) (h1 : a < ys.length) (h2 : b < ys.length) : SegOK xs ((ys.set a ys[b]).set b ys[a]) off len (i + 1) := by
  obtain ⟨hl, hf⟩ := h
  refine ⟨by simp [hl], fun k hk => ?_⟩
  have ea := hf a (by omega)
  have eb := hf b (by omega)
  rw [if_neg (by omega), List.getElem?_eq_getElem h1] at ea
  rw [if_neg (by omega), List.getElem?_eq_getElem h2] at eb
  rw [List.getElem?_set, List.getElem?_set]
  by_cases kb : b = k
  · subst kb
    rw [if_pos rfl, if_pos (by simp; omega), if_pos (by omega), ea]
    congr 1; omega
  · rw [if_neg kb]
    by_cases ka : a = k
    · subst ka
      rw [if_pos rfl, if_pos (by omega), if_pos (by omega), eb]
      congr 1; omega
    · rw [if_neg ka, hf k hk]
      by_cases hc : off ≤ k ∧ k < off + len ∧ (k < off + i ∨ off + len < k + i + 1)
      · rw [if_pos hc, if_pos (by omega)]
      · rw [if_neg hc, if_neg (by omega)]
theorem SegOK.fin {α : Type} {xs ys : List α} {off len i : Nat} (h : SegOK xs ys off len i) (ho : off + len ≤ xs.length) (hi : len ≤ 2 * i + 1) : ys = revS xs off len := by
  obtain ⟨hl, hf⟩ := h
  apply List.ext_getElem?
  intro k
  by_cases hk : k < xs.length
  · rw [hf k hk, revS_get ho k hk]
    by_cases h1 : off ≤ k ∧ k < off + len
    · rw [dif_pos h1]
      by_cases h2 : k < off + i ∨ off + len < k + i + 1
      · rw [if_pos ⟨h1.1, h1.2, h2⟩]
      · rw [if_neg (by omega)]
        congr 1; omega
    · rw [dif_neg h1, if_neg (by omega)]
  · rw [List.getElem?_eq_none (by omega), List.getElem?_eq_none (by rw [revS_len ho]; omega)]
/-! #### runs -/
theorem turnA_run {α : Type} {p : α → Bool} : ∀ (r acc l : List α), (∀ x ∈ r, p x = true) → turnA p acc (r ++ l) = turnA p (r.reverse ++ acc) l
  | [], acc, l, h => rfl
  | x :: r, acc, l, h => by
    rw [List.cons_append, turnA, if_pos (h x (List.mem_cons_self ..)), turnA_run r (x :: acc) l (fun y hy => h y (List.mem_cons_of_mem _ hy)), List.reverse_cons, List.append_assoc]; rfl
theorem turnL_run {α : Type} {p : α → Bool} {r l : List α} (h : ∀ x ∈ r, p x = true) (hl : ∀ x ∈ l.head?, p x = false) : turnL p (r ++ l) = r.reverse ++ turnL p l := by
  unfold turnL
  rw [turnA_run r [] l h, List.append_nil]
  cases l with
  | nil => rw [turnA, turnA, List.append_nil]
  | cons x l =>
    have := hl x rfl
    rw [turnA, if_neg (by rw [this]; simp), turnA, if_neg (by rw [this]; simp), List.nil_append]
theorem turnL_no {α : Type} {p : α → Bool} {x : α} {l : List α} (h : p x = false) : turnL p (x :: l) = x :: turnL p l := by
  have := turnL_run (p := p) (r := []) (l := x :: l) (fun y hy => by cases hy) (fun y hy => by simp at hy; subst hy; exact h)
  unfold turnL at this ⊢
  rw [turnA, if_neg (by rw [h]; simp)]; rfl
theorem turnL_len {α : Type} (p : α → Bool) (l : List α) : (turnL p l).length = l.length := by unfold turnL; rw [turnA_len]; simp
theorem turnL_mem {α : Type} {p : α → Bool} {l : List α} {y : α} (h : y ∈ turnL p l) : y ∈ l := by
  unfold turnL at h
  rcases turnA_mem h with h | h
  · cases h
  · exact h
/-- The order while it is turned: what lies before i is done. -/
structure TurnOK (p : Nat → Bool) (ord cur : List Nat) (i : Nat) : Prop where
  len : cur.length = ord.length
  mem : ∀ x ∈ cur, x ∈ ord
  eq : cur.take i ++ turnL p (cur.drop i) = turnL p ord
theorem TurnOK.zero (p : Nat → Bool) (ord : List Nat) : TurnOK p ord ord 0 := ⟨rfl, fun _ h => h, rfl⟩
theorem TurnOK.skip {p : Nat → Bool} {ord cur : List Nat} {i : Nat} (h : TurnOK p ord cur i) (hi : i < cur.length) (hp : p cur[i] = false) : TurnOK p ord cur (i + 1) :=
  ⟨h.len, h.mem, by rw [← h.eq, List.drop_eq_getElem_cons hi, turnL_no hp, show cur.take (i + 1) = cur.take i ++ [cur[i]] by rw [List.take_add_one, List.getElem?_eq_getElem hi]; rfl, List.append_assoc]; rfl⟩
theorem revS_mem {α : Type} {xs : List α} {off len : Nat} {x : α} (h : x ∈ revS xs off len) : x ∈ xs := by
  unfold revS at h
  rcases List.mem_append.1 h with h | h
  · exact List.mem_of_mem_take h
  · rcases List.mem_append.1 h with h | h
    · exact List.mem_of_mem_drop (List.mem_of_mem_take (List.mem_reverse.1 h))
    · exact List.mem_of_mem_drop h
theorem TurnOK.run {p : Nat → Bool} {ord cur : List Nat} {i k : Nat} (h : TurnOK p ord cur i) (hk : i ≤ k) (hkl : k ≤ cur.length) (hr : ∀ (j : Nat) (h1 : j < cur.length), i ≤ j → j < k → p cur[j] = true) (hn : ∀ (h1 : k < cur.length), p cur[k] = false) : TurnOK p ord (revS cur i (k - i)) k := by
  have e1 : (cur.take i).length = i := by rw [List.length_take]; omega
  have e2 : ((cur.drop i).take (k - i)).length = k - i := by rw [List.length_take, List.length_drop]; omega
  have e3 : i + (k - i) = k := by omega
  have ht : (revS cur i (k - i)).take k = cur.take i ++ ((cur.drop i).take (k - i)).reverse := by
    unfold revS
    rw [← List.append_assoc, List.take_left' (by rw [List.length_append, e1, List.length_reverse, e2]; omega)]
  have hd : (revS cur i (k - i)).drop k = cur.drop k := by
    unfold revS
    rw [← List.append_assoc, List.drop_left' (by rw [List.length_append, e1, List.length_reverse, e2]; omega), e3]
  refine ⟨by rw [revS_len (by omega)]; exact h.len, fun x hx => h.mem x (revS_mem hx), ?_⟩
  have hsp : cur.drop i = (cur.drop i).take (k - i) ++ cur.drop k := by
    conv => lhs; rw [← List.take_append_drop (k - i) (cur.drop i), List.drop_drop, e3]
  rw [ht, hd, ← h.eq]
  conv => rhs; rw [hsp]
  rw [turnL_run (fun x hx => ?_) (fun x hx => ?_), List.append_assoc]
  · obtain ⟨j, hj, rfl⟩ := List.mem_iff_getElem.1 hx
    rw [List.getElem_take, List.getElem_drop]
    exact hr _ _ (by omega) (by omega)
  · rw [List.head?_drop] at hx
    obtain ⟨h1, rfl⟩ := List.getElem?_eq_some_iff.1 (Option.mem_def.1 hx)
    exact hn h1
theorem TurnOK.fin {p : Nat → Bool} {ord cur : List Nat} {i : Nat} (h : TurnOK p ord cur i) (hi : ord.length ≤ i) : cur = turnL p ord := by
  have := h.eq
  rw [List.take_of_length_le (by have := h.len; omega), List.drop_eq_nil_of_le (by have := h.len; omega)] at this
  rw [← this]
  show cur = cur ++ []
  rw [List.append_nil]
theorem lvAt_at {lv : List Int} {n : Int} {i : Nat} (h : i < lv.length) : lvAt lv n i = decide (n ≤ lv[i]) := by unfold lvAt; rw [List.getD_eq_getElem?_getD, List.getElem?_eq_getElem h]; rfl
/-! #### the numbers in order, one after the other -/
def NumOK (ys : List Nat) (n i : Nat) : Prop := ys.length = n ∧ ∀ j, j < i → ys[j]? = some j
theorem NumOK.step {ys : List Nat} {n i : Nat} (h : NumOK ys n i) (hi : i < n) : NumOK (ys.set i i) n (i + 1) :=
  ⟨by simp [h.1], fun j hj => by
    rw [List.getElem?_set]
    by_cases e : i = j
    · subst e; rw [if_pos rfl, if_pos (by have := h.1; omega)]
    · rw [if_neg e]; exact h.2 j (by omega)⟩
theorem NumOK.fin {ys : List Nat} {n i : Nat} (h : NumOK ys n i) (hi : n ≤ i) : ys = List.range n := by
  apply List.ext_getElem?
  intro j
  by_cases hj : j < n
  · rw [h.2 j (by omega), List.getElem?_range hj]
  · rw [List.getElem?_eq_none (by have := h.1; omega), List.getElem?_eq_none (by simp; omega)]
def levX (base : Int) (s : ByteArray) : List Int := if utf8R s then levels base (runes s) else []
def ordX (base : Int) (s : ByteArray) : List Nat := if utf8R s then orderL base (runes s) else []
theorem ordX_eq (base : Int) (s : ByteArray) : ordX base s = turnL (lvAt (levX base s) 1) (turnL (lvAt (levX base s) 2) (List.range (levX base s).length)) := by
  unfold ordX levX
  split
  · unfold orderL; rw [levels_len]
  · rfl
theorem levX_len (base : Int) (s : ByteArray) : (levX base s).length ≤ (runes s).length := by
  unfold levX
  split
  · rw [levels_len]; omega
  · exact Nat.zero_le _
/-! #### where a run ends -/
def lstA (e : Int → Bool) (nv : Int) : List Int → Nat → Nat → Nat
  | [], _, b => b
  | c :: l, p, b => if c = nv then b else lstA e nv l (p + 1) (if e c then p else b)
theorem lstA_eq (e : Int → Bool) (nv : Int) : ∀ (l : List Int) (p b : Nat), lstA e nv l p b = if lastN e nv l = 0 then b else p + lastN e nv l - 1
  | [], p, b => by rw [lstA, lastN, if_pos rfl]
  | c :: l, p, b => by
    rw [lstA, lastN_cons]
    by_cases hn : c = nv
    · rw [if_pos hn, if_pos hn, if_pos rfl]
    · rw [if_neg hn, if_neg hn, lstA_eq e nv l]
      by_cases hl : lastN e nv l = 0
      · rw [if_pos hl, if_pos hl]
        cases he : e c
        · rw [if_neg (by simp), if_pos (by simp)]
        · rw [if_pos rfl, if_neg (by simp)]; simp
      · rw [if_neg hl, if_neg hl, if_neg (by omega)]; omega
theorem lastN_le (e : Int → Bool) (nv : Int) : ∀ l : List Int, lastN e nv l ≤ l.length
  | [] => Nat.le_refl _
  | c :: l => by
    have := lastN_le e nv l
    rw [lastN_cons, List.length_cons]
    split
    · omega
    · split
      · split <;> omega
      · omega
theorem raiseK_run (e : Int → Bool) (nv : Int) : ∀ (k : Nat) (l : List Int), k ≤ l.length → raiseK e nv k l = List.replicate k true ++ raiseK e nv 0 (l.drop k)
  | 0, l, _ => by simp
  | k + 1, [], h => by simp at h
  | k + 1, c :: l, h => by rw [raiseK, raiseK_run e nv k l (by simpa using h)]; rfl
theorem raise_at {e : Int → Bool} {nv c : Int} {l : List Int} (hd : e nv = false) (he : e c = true) : raiseK e nv 0 (c :: l) = List.replicate (lastN e nv (c :: l)) true ++ raiseK e nv 0 ((c :: l).drop (lastN e nv (c :: l))) ∧ 0 < lastN e nv (c :: l) := by
  have hn : ¬ c = nv := fun h => by rw [h, hd] at he; cases he
  have hpos : 0 < lastN e nv (c :: l) := by
    rw [lastN_cons, if_neg hn, he, if_pos rfl]
    split <;> omega
  have hle := lastN_le e nv (c :: l)
  obtain ⟨q, hq⟩ : ∃ q, lastN e nv (c :: l) = q + 1 := ⟨_, (Nat.succ_pred_eq_of_pos hpos).symm⟩
  refine ⟨?_, hpos⟩
  rw [raiseK, if_pos he, hq, Nat.add_sub_cancel, raiseK_run e nv q l (by rw [hq] at hle; simpa using hle)]
  rfl
theorem raise_no {e : Int → Bool} {nv c : Int} {l : List Int} (he : e c = false) : raiseK e nv 0 (c :: l) = false :: raiseK e nv 0 l := by rw [raiseK, if_neg (by simp [he])]
theorem lstA_step {e : Int → Bool} {nv : Int} {cs : List Int} {k L : Nat} (h : k < cs.length) (hn : ¬ cs[k] = nv) : lstA e nv (cs.drop k) k L = lstA e nv (cs.drop (k + 1)) (k + 1) (if e cs[k] then k else L) := by
  rw [List.drop_eq_getElem_cons h, lstA, if_neg hn]
theorem lstA_end {e : Int → Bool} {nv : Int} {cs : List Int} {k L : Nat} (h : ∀ h : k < cs.length, cs[k] = nv) : lstA e nv (cs.drop k) k L = L := by
  by_cases hk : k < cs.length
  · rw [List.drop_eq_getElem_cons hk, lstA, if_pos (h hk)]
  · rw [List.drop_eq_nil_of_le (by omega), lstA]
def RaiseOK (e : Int → Bool) (nv : Int) (cs : List Int) (i : Nat) : Prop := raiseK e nv 0 (cs.drop i) = (raiseK e nv 0 cs).drop i
theorem RaiseOK.zero (e : Int → Bool) (nv : Int) (cs : List Int) : RaiseOK e nv cs 0 := rfl
theorem RaiseOK.no {e : Int → Bool} {nv : Int} {cs : List Int} {i : Nat} (h : RaiseOK e nv cs i) (hi : i < cs.length) (he : e cs[i] = false) : (raiseK e nv 0 cs)[i]? = some false ∧ RaiseOK e nv cs (i + 1) := by
  have h' := h
  unfold RaiseOK at h'
  rw [List.drop_eq_getElem_cons hi, raise_no he] at h'
  refine ⟨?_, ?_⟩
  · have := congrArg (fun l => l[0]?) h'
    simp only [List.getElem?_drop, Nat.add_zero] at this
    exact this.symm
  · unfold RaiseOK
    have := congrArg (List.drop 1) h'
    rw [List.drop_drop] at this
    exact this
theorem RaiseOK.yes {e : Int → Bool} {nv : Int} {cs : List Int} {i L : Nat} (h : RaiseOK e nv cs i) (hd : e nv = false) (hi : i < cs.length) (he : e cs[i] = true) (hL : L = lstA e nv (cs.drop i) i i) :
    i ≤ L ∧ L < cs.length ∧ (∀ j, i ≤ j → j ≤ L → (raiseK e nv 0 cs)[j]? = some true) ∧ RaiseOK e nv cs (L + 1) := by
  have h' := h
  unfold RaiseOK at h'
  obtain ⟨e1, e2⟩ := raise_at (l := cs.drop (i + 1)) hd he
  rw [← List.drop_eq_getElem_cons hi] at e1 e2
  rw [e1] at h'
  have hle := lastN_le e nv (cs.drop i)
  rw [List.length_drop] at hle
  rw [lstA_eq, if_neg (by omega)] at hL
  have hl1 : L + 1 = i + lastN e nv (cs.drop i) := by omega
  refine ⟨by omega, by omega, fun j h1 h2 => ?_, ?_⟩
  · have := congrArg (fun l => l[j - i]?) h'
    simp only [List.getElem?_drop] at this
    rw [show i + (j - i) = j by omega, List.getElem?_append_left (by simp; omega), List.getElem?_replicate, if_pos (by omega)] at this
    exact this.symm
  · unfold RaiseOK
    have := congrArg (List.drop (lastN e nv (cs.drop i))) h'
    rw [List.drop_left' (by simp), List.drop_drop, List.drop_drop] at this
    rw [hl1]; exact this
/-! #### levels, position by position -/
def lvTo (z : Int) (v : Nat → Int) (R : List Bool) (n i : Nat) : List Int := (List.range n).map (fun j => if j < i ∧ R[j]? = some true then v j else z)
theorem lvTo_len (z : Int) (v : Nat → Int) (R : List Bool) (n i : Nat) : (lvTo z v R n i).length = n := by simp [lvTo]
theorem lvTo_zero (z : Int) (v : Nat → Int) (R : List Bool) (n : Nat) : lvTo z v R n 0 = List.replicate n z := by
  apply List.ext_getElem?
  intro j
  unfold lvTo
  by_cases h : j < n
  · rw [List.getElem?_map, List.getElem?_range h, List.getElem?_replicate, if_pos h]; simp
  · rw [List.getElem?_eq_none (by simp; omega), List.getElem?_eq_none (by simp; omega)]
theorem lvTo_yes {z : Int} {v : Nat → Int} {R : List Bool} {n i : Nat} (h : R[i]? = some true) (hi : i < n) : (lvTo z v R n i).set i (v i) = lvTo z v R n (i + 1) := by
  apply List.ext_getElem?
  intro j
  rw [List.getElem?_set, lvTo_len]
  unfold lvTo
  by_cases hj : j < n
  · rw [List.getElem?_map, List.getElem?_map, List.getElem?_range hj]
    by_cases e : i = j
    · subst e; rw [if_pos rfl, if_pos hi]; simp [h]
    · rw [if_neg e]
      simp only [Option.map_some]
      by_cases h2 : j < i ∧ R[j]? = some true
      · rw [if_pos h2, if_pos ⟨by omega, h2.2⟩]
      · rw [if_neg h2, if_neg (fun h3 => h2 ⟨by omega, h3.2⟩)]
  · rw [if_neg (by omega), List.getElem?_eq_none (by simp; omega), List.getElem?_eq_none (by simp; omega)]
theorem lvTo_no {z : Int} {v : Nat → Int} {R : List Bool} {n i : Nat} (h : R[i]? = some false) : lvTo z v R n (i + 1) = lvTo z v R n i := by
  unfold lvTo
  apply List.map_congr_left
  intro j _
  by_cases h2 : j < i ∧ R[j]? = some true
  · rw [if_pos h2, if_pos ⟨by omega, h2.2⟩]
  · rw [if_neg h2, if_neg (fun h3 => by
      by_cases e : j = i
      · subst e; rw [h] at h3; simp at h3
      · exact h2 ⟨by omega, h3.2⟩)]
theorem levels_zero (rs : List Int) : lvTo 0 (fun j => if ((rs.map clsR).getD j 0) = 3 then 2 else 1) (raiseK e0 1 0 (rs.map clsR)) rs.length rs.length = levels 0 rs := by
  unfold levels
  rw [if_pos rfl]
  apply List.ext_getElem?
  intro j
  unfold lvTo
  by_cases hj : j < rs.length
  · have hR : j < (raiseK e0 1 0 (rs.map clsR)).length := by rw [raiseK_len]; simpa using hj
    have hC : j < (rs.map clsR).length := by simpa using hj
    rw [List.getElem?_map, List.getElem?_range hj, List.getElem?_map, show (List.zip (raiseK e0 1 0 (rs.map clsR)) (rs.map clsR))[j]? = some ((raiseK e0 1 0 (rs.map clsR))[j], (rs.map clsR)[j]) from List.getElem?_zip_eq_some.2 ⟨List.getElem?_eq_getElem hR, List.getElem?_eq_getElem hC⟩]
    simp only [Option.map_some]
    rw [List.getElem?_eq_getElem hR, List.getD_eq_getElem?_getD, List.getElem?_eq_getElem hC]
    simp [hj]
  · rw [List.getElem?_eq_none (by simp; omega), List.getElem?_eq_none (by simp [raiseK_len]; omega)]
theorem levels_one {base : Int} (hb : ¬ base = 0) (rs : List Int) : lvTo 1 (fun _ => 2) (raiseK e1 2 0 (rs.map clsR)) rs.length rs.length = levels base rs := by
  unfold levels
  rw [if_neg hb]
  apply List.ext_getElem?
  intro j
  unfold lvTo
  by_cases hj : j < rs.length
  · have hR : j < (raiseK e1 2 0 (rs.map clsR)).length := by rw [raiseK_len]; simpa using hj
    rw [List.getElem?_map, List.getElem?_range hj, List.getElem?_map, List.getElem?_eq_getElem hR]
    simp only [Option.map_some]
    rw [List.getElem?_eq_getElem hR]
    simp [hj]
  · rw [List.getElem?_eq_none (by simp; omega), List.getElem?_eq_none (by simp [raiseK_len]; omega)]
end Go.GH
namespace Go.GH
open Go Go.Proofs
variable {E : Env}
theorem bClass (r : Int)  : GCall Tryz.prog E 173 [.v (.int .i32 r)] [] (fun d H => d = .v (.int .i64 (clsR r)) ∧ H = []) := by
 refine GCall.body (C := ⟨Tryz.prog, E, true⟩) Tryz.func173 rfl (fun _ => rfl) (by kernel_rfl) rfl ?_
 refine SCode.seqR (SOps.assign rfl (SOps.nil (SCode.seq (SCode.block (SCode.seqR (SOps.move rfl (SOps.bin rfl rfl rfl (SOps.move rfl ?_))))))))
 refine SOps.caseB 6 rfl (fun hb1 => ?_) (fun hb1 => ?_)
 ·try simp only [nmL] at hb1
  refine SOps.move rfl (SOps.bin rfl rfl rfl (SOps.pick rfl rfl (SOps.assign rfl (SOps.nil ?_))))
  refine SCode.cond rfl (fun hc2 => ?_) (fun hc2 => ?_)
  ·try simp only [nmL] at hc2
   refine SCode.seqR (SOps.assign rfl (SOps.nil (SCode.ret ?_)))
   exact ⟨_, Res.one (.tmp rfl), congrArg (fun z => DV.v (.int .i64 z)) (by unfold clsR; repeat' split <;> omega), rfl⟩
  ·try simp only [nmL] at hc2
   refine SCode.seq (SCode.seqR (SOps.move rfl (SOps.bin rfl rfl rfl (SOps.move rfl ?_))))
   refine SOps.caseB 13 rfl (fun hb3 => ?_) (fun hb3 => ?_)
   ·try simp only [nmL] at hb3
    refine SOps.move rfl (SOps.bin rfl rfl rfl (SOps.pick rfl rfl (SOps.assign rfl (SOps.nil ?_))))
    refine SCode.cond rfl (fun hc4 => ?_) (fun hc4 => ?_)
    ·try simp only [nmL] at hc4
     refine SCode.skip ?_
     show SCode _ _ _ _
     refine SCode.cond rfl (fun hc5 => ?_) (fun hc5 => ?_)
     ·try simp only [nmL] at hc5
      refine SCode.seqR (SOps.assign rfl (SOps.nil (SCode.ret ?_)))
      exact ⟨_, Res.one (.tmp rfl), congrArg (fun z => DV.v (.int .i64 z)) (by unfold clsR; repeat' split <;> omega), rfl⟩
     ·try simp only [nmL] at hc5
      refine SCode.seqR (SOps.move rfl (SOps.bin rfl rfl rfl (SOps.move rfl ?_)))
      refine SOps.caseB 28 rfl (fun hb6 => ?_) (fun hb6 => ?_)
      ·try simp only [nmL] at hb6
       refine SOps.move rfl (SOps.bin rfl rfl rfl (SOps.pick rfl rfl (SOps.assign rfl (SOps.nil ?_))))
       refine SCode.cond rfl (fun hc7 => ?_) (fun hc7 => ?_)
       ·try simp only [nmL] at hc7
        refine SCode.seqR (SOps.assign rfl (SOps.nil (SCode.ret ?_)))
        exact ⟨_, Res.one (.tmp rfl), congrArg (fun z => DV.v (.int .i64 z)) (by unfold clsR; repeat' split <;> omega), rfl⟩
       ·try simp only [nmL] at hc7
        refine SCode.seqR (SOps.move rfl (SOps.bin rfl rfl rfl (SOps.assign rfl (SOps.nil ?_))))
        refine SCode.cond rfl (fun hc8 => ?_) (fun hc8 => ?_)
        ·try simp only [nmL] at hc8
         refine SCode.seqR (SOps.assign rfl (SOps.nil (SCode.ret ?_)))
         exact ⟨_, Res.one (.tmp rfl), congrArg (fun z => DV.v (.int .i64 z)) (by unfold clsR; repeat' split <;> omega), rfl⟩
        ·try simp only [nmL] at hc8
         refine SCode.skip ?_
         show SCode _ _ _ _
         refine SCode.seqR (SOps.assign rfl (SOps.nil (SCode.ret ?_)))
         exact ⟨_, Res.one (.tmp rfl), congrArg (fun z => DV.v (.int .i64 z)) (by unfold clsR; repeat' split <;> omega), rfl⟩
      ·try simp only [nmL] at hb6
       refine SOps.skip rfl (SOps.skip rfl (SOps.pick rfl rfl (SOps.assign rfl (SOps.nil ?_))))
       refine SCode.cond rfl (fun h => by cases h) (fun _ => ?_)
       refine SCode.seqR (SOps.move rfl (SOps.bin rfl rfl rfl (SOps.assign rfl (SOps.nil ?_))))
       refine SCode.cond rfl (fun hc9 => ?_) (fun hc9 => ?_)
       ·try simp only [nmL] at hc9
        refine SCode.seqR (SOps.assign rfl (SOps.nil (SCode.ret ?_)))
        exact ⟨_, Res.one (.tmp rfl), congrArg (fun z => DV.v (.int .i64 z)) (by unfold clsR; repeat' split <;> omega), rfl⟩
       ·try simp only [nmL] at hc9
        refine SCode.skip ?_
        show SCode _ _ _ _
        refine SCode.seqR (SOps.assign rfl (SOps.nil (SCode.ret ?_)))
        exact ⟨_, Res.one (.tmp rfl), congrArg (fun z => DV.v (.int .i64 z)) (by unfold clsR; repeat' split <;> omega), rfl⟩
    ·try simp only [nmL] at hc4
     refine SCode.seqR (SOps.move rfl (SOps.bin rfl rfl rfl (SOps.move rfl ?_)))
     refine SOps.caseB 19 rfl (fun hb10 => ?_) (fun hb10 => ?_)
     ·try simp only [nmL] at hb10
      refine SOps.move rfl (SOps.bin rfl rfl rfl (SOps.pick rfl rfl (SOps.assign rfl (SOps.nil ?_))))
      refine SCode.cond rfl (fun hc11 => ?_) (fun hc11 => ?_)
      ·try simp only [nmL] at hc11
       refine SCode.skip ?_
       show SCode _ _ _ _
       refine SCode.cond rfl (fun hc12 => ?_) (fun hc12 => ?_)
       ·try simp only [nmL] at hc12
        refine SCode.seqR (SOps.assign rfl (SOps.nil (SCode.ret ?_)))
        exact ⟨_, Res.one (.tmp rfl), congrArg (fun z => DV.v (.int .i64 z)) (by unfold clsR; repeat' split <;> omega), rfl⟩
       ·try simp only [nmL] at hc12
        refine SCode.seqR (SOps.move rfl (SOps.bin rfl rfl rfl (SOps.move rfl ?_)))
        refine SOps.caseB 28 rfl (fun hb13 => ?_) (fun hb13 => ?_)
        ·try simp only [nmL] at hb13
         refine SOps.move rfl (SOps.bin rfl rfl rfl (SOps.pick rfl rfl (SOps.assign rfl (SOps.nil ?_))))
         refine SCode.cond rfl (fun hc14 => ?_) (fun hc14 => ?_)
         ·try simp only [nmL] at hc14
          refine SCode.seqR (SOps.assign rfl (SOps.nil (SCode.ret ?_)))
          exact ⟨_, Res.one (.tmp rfl), congrArg (fun z => DV.v (.int .i64 z)) (by unfold clsR; repeat' split <;> omega), rfl⟩
         ·try simp only [nmL] at hc14
          refine SCode.seqR (SOps.move rfl (SOps.bin rfl rfl rfl (SOps.assign rfl (SOps.nil ?_))))
          refine SCode.cond rfl (fun hc15 => ?_) (fun hc15 => ?_)
          ·try simp only [nmL] at hc15
           refine SCode.seqR (SOps.assign rfl (SOps.nil (SCode.ret ?_)))
           exact ⟨_, Res.one (.tmp rfl), congrArg (fun z => DV.v (.int .i64 z)) (by unfold clsR; repeat' split <;> omega), rfl⟩
          ·try simp only [nmL] at hc15
           refine SCode.skip ?_
           show SCode _ _ _ _
           refine SCode.seqR (SOps.assign rfl (SOps.nil (SCode.ret ?_)))
           exact ⟨_, Res.one (.tmp rfl), congrArg (fun z => DV.v (.int .i64 z)) (by unfold clsR; repeat' split <;> omega), rfl⟩
        ·try simp only [nmL] at hb13
         refine SOps.skip rfl (SOps.skip rfl (SOps.pick rfl rfl (SOps.assign rfl (SOps.nil ?_))))
         refine SCode.cond rfl (fun h => by cases h) (fun _ => ?_)
         refine SCode.seqR (SOps.move rfl (SOps.bin rfl rfl rfl (SOps.assign rfl (SOps.nil ?_))))
         refine SCode.cond rfl (fun hc16 => ?_) (fun hc16 => ?_)
         ·try simp only [nmL] at hc16
          refine SCode.seqR (SOps.assign rfl (SOps.nil (SCode.ret ?_)))
          exact ⟨_, Res.one (.tmp rfl), congrArg (fun z => DV.v (.int .i64 z)) (by unfold clsR; repeat' split <;> omega), rfl⟩
         ·try simp only [nmL] at hc16
          refine SCode.skip ?_
          show SCode _ _ _ _
          refine SCode.seqR (SOps.assign rfl (SOps.nil (SCode.ret ?_)))
          exact ⟨_, Res.one (.tmp rfl), congrArg (fun z => DV.v (.int .i64 z)) (by unfold clsR; repeat' split <;> omega), rfl⟩
      ·try simp only [nmL] at hc11
       refine SCode.region (SOps.move rfl (SOps.bin rfl rfl rfl (SOps.assign rfl (SOps.nil ?_))))
       show SCode _ _ _ _
       refine SCode.cond rfl (fun hc17 => ?_) (fun hc17 => ?_)
       ·try simp only [nmL] at hc17
        refine SCode.seqR (SOps.assign rfl (SOps.nil (SCode.ret ?_)))
        exact ⟨_, Res.one (.tmp rfl), congrArg (fun z => DV.v (.int .i64 z)) (by unfold clsR; repeat' split <;> omega), rfl⟩
       ·try simp only [nmL] at hc17
        refine SCode.seqR (SOps.move rfl (SOps.bin rfl rfl rfl (SOps.move rfl ?_)))
        refine SOps.caseB 28 rfl (fun hb18 => ?_) (fun hb18 => ?_)
        ·try simp only [nmL] at hb18
         refine SOps.move rfl (SOps.bin rfl rfl rfl (SOps.pick rfl rfl (SOps.assign rfl (SOps.nil ?_))))
         refine SCode.cond rfl (fun hc19 => ?_) (fun hc19 => ?_)
         ·try simp only [nmL] at hc19
          refine SCode.seqR (SOps.assign rfl (SOps.nil (SCode.ret ?_)))
          exact ⟨_, Res.one (.tmp rfl), congrArg (fun z => DV.v (.int .i64 z)) (by unfold clsR; repeat' split <;> omega), rfl⟩
         ·try simp only [nmL] at hc19
          refine SCode.seqR (SOps.move rfl (SOps.bin rfl rfl rfl (SOps.assign rfl (SOps.nil ?_))))
          refine SCode.cond rfl (fun hc20 => ?_) (fun hc20 => ?_)
          ·try simp only [nmL] at hc20
           refine SCode.seqR (SOps.assign rfl (SOps.nil (SCode.ret ?_)))
           exact ⟨_, Res.one (.tmp rfl), congrArg (fun z => DV.v (.int .i64 z)) (by unfold clsR; repeat' split <;> omega), rfl⟩
          ·try simp only [nmL] at hc20
           refine SCode.skip ?_
           show SCode _ _ _ _
           refine SCode.seqR (SOps.assign rfl (SOps.nil (SCode.ret ?_)))
           exact ⟨_, Res.one (.tmp rfl), congrArg (fun z => DV.v (.int .i64 z)) (by unfold clsR; repeat' split <;> omega), rfl⟩
        ·try simp only [nmL] at hb18
         refine SOps.skip rfl (SOps.skip rfl (SOps.pick rfl rfl (SOps.assign rfl (SOps.nil ?_))))
         refine SCode.cond rfl (fun h => by cases h) (fun _ => ?_)
         refine SCode.seqR (SOps.move rfl (SOps.bin rfl rfl rfl (SOps.assign rfl (SOps.nil ?_))))
         refine SCode.cond rfl (fun hc21 => ?_) (fun hc21 => ?_)
         ·try simp only [nmL] at hc21
          refine SCode.seqR (SOps.assign rfl (SOps.nil (SCode.ret ?_)))
          exact ⟨_, Res.one (.tmp rfl), congrArg (fun z => DV.v (.int .i64 z)) (by unfold clsR; repeat' split <;> omega), rfl⟩
         ·try simp only [nmL] at hc21
          refine SCode.skip ?_
          show SCode _ _ _ _
          refine SCode.seqR (SOps.assign rfl (SOps.nil (SCode.ret ?_)))
          exact ⟨_, Res.one (.tmp rfl), congrArg (fun z => DV.v (.int .i64 z)) (by unfold clsR; repeat' split <;> omega), rfl⟩
     ·try simp only [nmL] at hb10
      refine SOps.skip rfl (SOps.skip rfl (SOps.pick rfl rfl (SOps.assign rfl (SOps.nil ?_))))
      refine SCode.cond rfl (fun h => by cases h) (fun _ => ?_)
      refine SCode.region (SOps.move rfl (SOps.bin rfl rfl rfl (SOps.assign rfl (SOps.nil ?_))))
      show SCode _ _ _ _
      refine SCode.cond rfl (fun hc22 => ?_) (fun hc22 => ?_)
      ·try simp only [nmL] at hc22
       refine SCode.seqR (SOps.assign rfl (SOps.nil (SCode.ret ?_)))
       exact ⟨_, Res.one (.tmp rfl), congrArg (fun z => DV.v (.int .i64 z)) (by unfold clsR; repeat' split <;> omega), rfl⟩
      ·try simp only [nmL] at hc22
       refine SCode.seqR (SOps.move rfl (SOps.bin rfl rfl rfl (SOps.move rfl ?_)))
       refine SOps.caseB 28 rfl (fun hb23 => ?_) (fun hb23 => ?_)
       ·try simp only [nmL] at hb23
        refine SOps.move rfl (SOps.bin rfl rfl rfl (SOps.pick rfl rfl (SOps.assign rfl (SOps.nil ?_))))
        refine SCode.cond rfl (fun hc24 => ?_) (fun hc24 => ?_)
        ·try simp only [nmL] at hc24
         refine SCode.seqR (SOps.assign rfl (SOps.nil (SCode.ret ?_)))
         exact ⟨_, Res.one (.tmp rfl), congrArg (fun z => DV.v (.int .i64 z)) (by unfold clsR; repeat' split <;> omega), rfl⟩
        ·try simp only [nmL] at hc24
         refine SCode.seqR (SOps.move rfl (SOps.bin rfl rfl rfl (SOps.assign rfl (SOps.nil ?_))))
         refine SCode.cond rfl (fun hc25 => ?_) (fun hc25 => ?_)
         ·try simp only [nmL] at hc25
          refine SCode.seqR (SOps.assign rfl (SOps.nil (SCode.ret ?_)))
          exact ⟨_, Res.one (.tmp rfl), congrArg (fun z => DV.v (.int .i64 z)) (by unfold clsR; repeat' split <;> omega), rfl⟩
         ·try simp only [nmL] at hc25
          refine SCode.skip ?_
          show SCode _ _ _ _
          refine SCode.seqR (SOps.assign rfl (SOps.nil (SCode.ret ?_)))
          exact ⟨_, Res.one (.tmp rfl), congrArg (fun z => DV.v (.int .i64 z)) (by unfold clsR; repeat' split <;> omega), rfl⟩
       ·try simp only [nmL] at hb23
        refine SOps.skip rfl (SOps.skip rfl (SOps.pick rfl rfl (SOps.assign rfl (SOps.nil ?_))))
        refine SCode.cond rfl (fun h => by cases h) (fun _ => ?_)
        refine SCode.seqR (SOps.move rfl (SOps.bin rfl rfl rfl (SOps.assign rfl (SOps.nil ?_))))
        refine SCode.cond rfl (fun hc26 => ?_) (fun hc26 => ?_)
        ·try simp only [nmL] at hc26
         refine SCode.seqR (SOps.assign rfl (SOps.nil (SCode.ret ?_)))
         exact ⟨_, Res.one (.tmp rfl), congrArg (fun z => DV.v (.int .i64 z)) (by unfold clsR; repeat' split <;> omega), rfl⟩
        ·try simp only [nmL] at hc26
         refine SCode.skip ?_
         show SCode _ _ _ _
         refine SCode.seqR (SOps.assign rfl (SOps.nil (SCode.ret ?_)))
         exact ⟨_, Res.one (.tmp rfl), congrArg (fun z => DV.v (.int .i64 z)) (by unfold clsR; repeat' split <;> omega), rfl⟩
   ·try simp only [nmL] at hb3
    refine SOps.skip rfl (SOps.skip rfl (SOps.pick rfl rfl (SOps.assign rfl (SOps.nil ?_))))
    refine SCode.cond rfl (fun h => by cases h) (fun _ => ?_)
    refine SCode.seqR (SOps.move rfl (SOps.bin rfl rfl rfl (SOps.move rfl ?_)))
    refine SOps.caseB 19 rfl (fun hb27 => ?_) (fun hb27 => ?_)
    ·try simp only [nmL] at hb27
     refine SOps.move rfl (SOps.bin rfl rfl rfl (SOps.pick rfl rfl (SOps.assign rfl (SOps.nil ?_))))
     refine SCode.cond rfl (fun hc28 => ?_) (fun hc28 => ?_)
     ·try simp only [nmL] at hc28
      refine SCode.skip ?_
      show SCode _ _ _ _
      refine SCode.cond rfl (fun hc29 => ?_) (fun hc29 => ?_)
      ·try simp only [nmL] at hc29
       refine SCode.seqR (SOps.assign rfl (SOps.nil (SCode.ret ?_)))
       exact ⟨_, Res.one (.tmp rfl), congrArg (fun z => DV.v (.int .i64 z)) (by unfold clsR; repeat' split <;> omega), rfl⟩
      ·try simp only [nmL] at hc29
       refine SCode.seqR (SOps.move rfl (SOps.bin rfl rfl rfl (SOps.move rfl ?_)))
       refine SOps.caseB 28 rfl (fun hb30 => ?_) (fun hb30 => ?_)
       ·try simp only [nmL] at hb30
        refine SOps.move rfl (SOps.bin rfl rfl rfl (SOps.pick rfl rfl (SOps.assign rfl (SOps.nil ?_))))
        refine SCode.cond rfl (fun hc31 => ?_) (fun hc31 => ?_)
        ·try simp only [nmL] at hc31
         refine SCode.seqR (SOps.assign rfl (SOps.nil (SCode.ret ?_)))
         exact ⟨_, Res.one (.tmp rfl), congrArg (fun z => DV.v (.int .i64 z)) (by unfold clsR; repeat' split <;> omega), rfl⟩
        ·try simp only [nmL] at hc31
         refine SCode.seqR (SOps.move rfl (SOps.bin rfl rfl rfl (SOps.assign rfl (SOps.nil ?_))))
         refine SCode.cond rfl (fun hc32 => ?_) (fun hc32 => ?_)
         ·try simp only [nmL] at hc32
          refine SCode.seqR (SOps.assign rfl (SOps.nil (SCode.ret ?_)))
          exact ⟨_, Res.one (.tmp rfl), congrArg (fun z => DV.v (.int .i64 z)) (by unfold clsR; repeat' split <;> omega), rfl⟩
         ·try simp only [nmL] at hc32
          refine SCode.skip ?_
          show SCode _ _ _ _
          refine SCode.seqR (SOps.assign rfl (SOps.nil (SCode.ret ?_)))
          exact ⟨_, Res.one (.tmp rfl), congrArg (fun z => DV.v (.int .i64 z)) (by unfold clsR; repeat' split <;> omega), rfl⟩
       ·try simp only [nmL] at hb30
        refine SOps.skip rfl (SOps.skip rfl (SOps.pick rfl rfl (SOps.assign rfl (SOps.nil ?_))))
        refine SCode.cond rfl (fun h => by cases h) (fun _ => ?_)
        refine SCode.seqR (SOps.move rfl (SOps.bin rfl rfl rfl (SOps.assign rfl (SOps.nil ?_))))
        refine SCode.cond rfl (fun hc33 => ?_) (fun hc33 => ?_)
        ·try simp only [nmL] at hc33
         refine SCode.seqR (SOps.assign rfl (SOps.nil (SCode.ret ?_)))
         exact ⟨_, Res.one (.tmp rfl), congrArg (fun z => DV.v (.int .i64 z)) (by unfold clsR; repeat' split <;> omega), rfl⟩
        ·try simp only [nmL] at hc33
         refine SCode.skip ?_
         show SCode _ _ _ _
         refine SCode.seqR (SOps.assign rfl (SOps.nil (SCode.ret ?_)))
         exact ⟨_, Res.one (.tmp rfl), congrArg (fun z => DV.v (.int .i64 z)) (by unfold clsR; repeat' split <;> omega), rfl⟩
     ·try simp only [nmL] at hc28
      refine SCode.region (SOps.move rfl (SOps.bin rfl rfl rfl (SOps.assign rfl (SOps.nil ?_))))
      show SCode _ _ _ _
      refine SCode.cond rfl (fun hc34 => ?_) (fun hc34 => ?_)
      ·try simp only [nmL] at hc34
       refine SCode.seqR (SOps.assign rfl (SOps.nil (SCode.ret ?_)))
       exact ⟨_, Res.one (.tmp rfl), congrArg (fun z => DV.v (.int .i64 z)) (by unfold clsR; repeat' split <;> omega), rfl⟩
      ·try simp only [nmL] at hc34
       refine SCode.seqR (SOps.move rfl (SOps.bin rfl rfl rfl (SOps.move rfl ?_)))
       refine SOps.caseB 28 rfl (fun hb35 => ?_) (fun hb35 => ?_)
       ·try simp only [nmL] at hb35
        refine SOps.move rfl (SOps.bin rfl rfl rfl (SOps.pick rfl rfl (SOps.assign rfl (SOps.nil ?_))))
        refine SCode.cond rfl (fun hc36 => ?_) (fun hc36 => ?_)
        ·try simp only [nmL] at hc36
         refine SCode.seqR (SOps.assign rfl (SOps.nil (SCode.ret ?_)))
         exact ⟨_, Res.one (.tmp rfl), congrArg (fun z => DV.v (.int .i64 z)) (by unfold clsR; repeat' split <;> omega), rfl⟩
        ·try simp only [nmL] at hc36
         refine SCode.seqR (SOps.move rfl (SOps.bin rfl rfl rfl (SOps.assign rfl (SOps.nil ?_))))
         refine SCode.cond rfl (fun hc37 => ?_) (fun hc37 => ?_)
         ·try simp only [nmL] at hc37
          refine SCode.seqR (SOps.assign rfl (SOps.nil (SCode.ret ?_)))
          exact ⟨_, Res.one (.tmp rfl), congrArg (fun z => DV.v (.int .i64 z)) (by unfold clsR; repeat' split <;> omega), rfl⟩
         ·try simp only [nmL] at hc37
          refine SCode.skip ?_
          show SCode _ _ _ _
          refine SCode.seqR (SOps.assign rfl (SOps.nil (SCode.ret ?_)))
          exact ⟨_, Res.one (.tmp rfl), congrArg (fun z => DV.v (.int .i64 z)) (by unfold clsR; repeat' split <;> omega), rfl⟩
       ·try simp only [nmL] at hb35
        refine SOps.skip rfl (SOps.skip rfl (SOps.pick rfl rfl (SOps.assign rfl (SOps.nil ?_))))
        refine SCode.cond rfl (fun h => by cases h) (fun _ => ?_)
        refine SCode.seqR (SOps.move rfl (SOps.bin rfl rfl rfl (SOps.assign rfl (SOps.nil ?_))))
        refine SCode.cond rfl (fun hc38 => ?_) (fun hc38 => ?_)
        ·try simp only [nmL] at hc38
         refine SCode.seqR (SOps.assign rfl (SOps.nil (SCode.ret ?_)))
         exact ⟨_, Res.one (.tmp rfl), congrArg (fun z => DV.v (.int .i64 z)) (by unfold clsR; repeat' split <;> omega), rfl⟩
        ·try simp only [nmL] at hc38
         refine SCode.skip ?_
         show SCode _ _ _ _
         refine SCode.seqR (SOps.assign rfl (SOps.nil (SCode.ret ?_)))
         exact ⟨_, Res.one (.tmp rfl), congrArg (fun z => DV.v (.int .i64 z)) (by unfold clsR; repeat' split <;> omega), rfl⟩
    ·try simp only [nmL] at hb27
     refine SOps.skip rfl (SOps.skip rfl (SOps.pick rfl rfl (SOps.assign rfl (SOps.nil ?_))))
     refine SCode.cond rfl (fun h => by cases h) (fun _ => ?_)
     refine SCode.region (SOps.move rfl (SOps.bin rfl rfl rfl (SOps.assign rfl (SOps.nil ?_))))
     show SCode _ _ _ _
     refine SCode.cond rfl (fun hc39 => ?_) (fun hc39 => ?_)
     ·try simp only [nmL] at hc39
      refine SCode.seqR (SOps.assign rfl (SOps.nil (SCode.ret ?_)))
      exact ⟨_, Res.one (.tmp rfl), congrArg (fun z => DV.v (.int .i64 z)) (by unfold clsR; repeat' split <;> omega), rfl⟩
     ·try simp only [nmL] at hc39
      refine SCode.seqR (SOps.move rfl (SOps.bin rfl rfl rfl (SOps.move rfl ?_)))
      refine SOps.caseB 28 rfl (fun hb40 => ?_) (fun hb40 => ?_)
      ·try simp only [nmL] at hb40
       refine SOps.move rfl (SOps.bin rfl rfl rfl (SOps.pick rfl rfl (SOps.assign rfl (SOps.nil ?_))))
       refine SCode.cond rfl (fun hc41 => ?_) (fun hc41 => ?_)
       ·try simp only [nmL] at hc41
        refine SCode.seqR (SOps.assign rfl (SOps.nil (SCode.ret ?_)))
        exact ⟨_, Res.one (.tmp rfl), congrArg (fun z => DV.v (.int .i64 z)) (by unfold clsR; repeat' split <;> omega), rfl⟩
       ·try simp only [nmL] at hc41
        refine SCode.seqR (SOps.move rfl (SOps.bin rfl rfl rfl (SOps.assign rfl (SOps.nil ?_))))
        refine SCode.cond rfl (fun hc42 => ?_) (fun hc42 => ?_)
        ·try simp only [nmL] at hc42
         refine SCode.seqR (SOps.assign rfl (SOps.nil (SCode.ret ?_)))
         exact ⟨_, Res.one (.tmp rfl), congrArg (fun z => DV.v (.int .i64 z)) (by unfold clsR; repeat' split <;> omega), rfl⟩
        ·try simp only [nmL] at hc42
         refine SCode.skip ?_
         show SCode _ _ _ _
         refine SCode.seqR (SOps.assign rfl (SOps.nil (SCode.ret ?_)))
         exact ⟨_, Res.one (.tmp rfl), congrArg (fun z => DV.v (.int .i64 z)) (by unfold clsR; repeat' split <;> omega), rfl⟩
      ·try simp only [nmL] at hb40
       refine SOps.skip rfl (SOps.skip rfl (SOps.pick rfl rfl (SOps.assign rfl (SOps.nil ?_))))
       refine SCode.cond rfl (fun h => by cases h) (fun _ => ?_)
       refine SCode.seqR (SOps.move rfl (SOps.bin rfl rfl rfl (SOps.assign rfl (SOps.nil ?_))))
       refine SCode.cond rfl (fun hc43 => ?_) (fun hc43 => ?_)
       ·try simp only [nmL] at hc43
        refine SCode.seqR (SOps.assign rfl (SOps.nil (SCode.ret ?_)))
        exact ⟨_, Res.one (.tmp rfl), congrArg (fun z => DV.v (.int .i64 z)) (by unfold clsR; repeat' split <;> omega), rfl⟩
       ·try simp only [nmL] at hc43
        refine SCode.skip ?_
        show SCode _ _ _ _
        refine SCode.seqR (SOps.assign rfl (SOps.nil (SCode.ret ?_)))
        exact ⟨_, Res.one (.tmp rfl), congrArg (fun z => DV.v (.int .i64 z)) (by unfold clsR; repeat' split <;> omega), rfl⟩
 ·try simp only [nmL] at hb1
  refine SOps.skip rfl (SOps.skip rfl (SOps.pick rfl rfl (SOps.assign rfl (SOps.nil ?_))))
  refine SCode.cond rfl (fun h => by cases h) (fun _ => ?_)
  refine SCode.seq (SCode.seqR (SOps.move rfl (SOps.bin rfl rfl rfl (SOps.move rfl ?_))))
  refine SOps.caseB 13 rfl (fun hb44 => ?_) (fun hb44 => ?_)
  ·try simp only [nmL] at hb44
   refine SOps.move rfl (SOps.bin rfl rfl rfl (SOps.pick rfl rfl (SOps.assign rfl (SOps.nil ?_))))
   refine SCode.cond rfl (fun hc45 => ?_) (fun hc45 => ?_)
   ·try simp only [nmL] at hc45
    refine SCode.skip ?_
    show SCode _ _ _ _
    refine SCode.cond rfl (fun hc46 => ?_) (fun hc46 => ?_)
    ·try simp only [nmL] at hc46
     refine SCode.seqR (SOps.assign rfl (SOps.nil (SCode.ret ?_)))
     exact ⟨_, Res.one (.tmp rfl), congrArg (fun z => DV.v (.int .i64 z)) (by unfold clsR; repeat' split <;> omega), rfl⟩
    ·try simp only [nmL] at hc46
     refine SCode.seqR (SOps.move rfl (SOps.bin rfl rfl rfl (SOps.move rfl ?_)))
     refine SOps.caseB 28 rfl (fun hb47 => ?_) (fun hb47 => ?_)
     ·try simp only [nmL] at hb47
      refine SOps.move rfl (SOps.bin rfl rfl rfl (SOps.pick rfl rfl (SOps.assign rfl (SOps.nil ?_))))
      refine SCode.cond rfl (fun hc48 => ?_) (fun hc48 => ?_)
      ·try simp only [nmL] at hc48
       refine SCode.seqR (SOps.assign rfl (SOps.nil (SCode.ret ?_)))
       exact ⟨_, Res.one (.tmp rfl), congrArg (fun z => DV.v (.int .i64 z)) (by unfold clsR; repeat' split <;> omega), rfl⟩
      ·try simp only [nmL] at hc48
       refine SCode.seqR (SOps.move rfl (SOps.bin rfl rfl rfl (SOps.assign rfl (SOps.nil ?_))))
       refine SCode.cond rfl (fun hc49 => ?_) (fun hc49 => ?_)
       ·try simp only [nmL] at hc49
        refine SCode.seqR (SOps.assign rfl (SOps.nil (SCode.ret ?_)))
        exact ⟨_, Res.one (.tmp rfl), congrArg (fun z => DV.v (.int .i64 z)) (by unfold clsR; repeat' split <;> omega), rfl⟩
       ·try simp only [nmL] at hc49
        refine SCode.skip ?_
        show SCode _ _ _ _
        refine SCode.seqR (SOps.assign rfl (SOps.nil (SCode.ret ?_)))
        exact ⟨_, Res.one (.tmp rfl), congrArg (fun z => DV.v (.int .i64 z)) (by unfold clsR; repeat' split <;> omega), rfl⟩
     ·try simp only [nmL] at hb47
      refine SOps.skip rfl (SOps.skip rfl (SOps.pick rfl rfl (SOps.assign rfl (SOps.nil ?_))))
      refine SCode.cond rfl (fun h => by cases h) (fun _ => ?_)
      refine SCode.seqR (SOps.move rfl (SOps.bin rfl rfl rfl (SOps.assign rfl (SOps.nil ?_))))
      refine SCode.cond rfl (fun hc50 => ?_) (fun hc50 => ?_)
      ·try simp only [nmL] at hc50
       refine SCode.seqR (SOps.assign rfl (SOps.nil (SCode.ret ?_)))
       exact ⟨_, Res.one (.tmp rfl), congrArg (fun z => DV.v (.int .i64 z)) (by unfold clsR; repeat' split <;> omega), rfl⟩
      ·try simp only [nmL] at hc50
       refine SCode.skip ?_
       show SCode _ _ _ _
       refine SCode.seqR (SOps.assign rfl (SOps.nil (SCode.ret ?_)))
       exact ⟨_, Res.one (.tmp rfl), congrArg (fun z => DV.v (.int .i64 z)) (by unfold clsR; repeat' split <;> omega), rfl⟩
   ·try simp only [nmL] at hc45
    refine SCode.seqR (SOps.move rfl (SOps.bin rfl rfl rfl (SOps.move rfl ?_)))
    refine SOps.caseB 19 rfl (fun hb51 => ?_) (fun hb51 => ?_)
    ·try simp only [nmL] at hb51
     refine SOps.move rfl (SOps.bin rfl rfl rfl (SOps.pick rfl rfl (SOps.assign rfl (SOps.nil ?_))))
     refine SCode.cond rfl (fun hc52 => ?_) (fun hc52 => ?_)
     ·try simp only [nmL] at hc52
      refine SCode.skip ?_
      show SCode _ _ _ _
      refine SCode.cond rfl (fun hc53 => ?_) (fun hc53 => ?_)
      ·try simp only [nmL] at hc53
       refine SCode.seqR (SOps.assign rfl (SOps.nil (SCode.ret ?_)))
       exact ⟨_, Res.one (.tmp rfl), congrArg (fun z => DV.v (.int .i64 z)) (by unfold clsR; repeat' split <;> omega), rfl⟩
      ·try simp only [nmL] at hc53
       refine SCode.seqR (SOps.move rfl (SOps.bin rfl rfl rfl (SOps.move rfl ?_)))
       refine SOps.caseB 28 rfl (fun hb54 => ?_) (fun hb54 => ?_)
       ·try simp only [nmL] at hb54
        refine SOps.move rfl (SOps.bin rfl rfl rfl (SOps.pick rfl rfl (SOps.assign rfl (SOps.nil ?_))))
        refine SCode.cond rfl (fun hc55 => ?_) (fun hc55 => ?_)
        ·try simp only [nmL] at hc55
         refine SCode.seqR (SOps.assign rfl (SOps.nil (SCode.ret ?_)))
         exact ⟨_, Res.one (.tmp rfl), congrArg (fun z => DV.v (.int .i64 z)) (by unfold clsR; repeat' split <;> omega), rfl⟩
        ·try simp only [nmL] at hc55
         refine SCode.seqR (SOps.move rfl (SOps.bin rfl rfl rfl (SOps.assign rfl (SOps.nil ?_))))
         refine SCode.cond rfl (fun hc56 => ?_) (fun hc56 => ?_)
         ·try simp only [nmL] at hc56
          refine SCode.seqR (SOps.assign rfl (SOps.nil (SCode.ret ?_)))
          exact ⟨_, Res.one (.tmp rfl), congrArg (fun z => DV.v (.int .i64 z)) (by unfold clsR; repeat' split <;> omega), rfl⟩
         ·try simp only [nmL] at hc56
          refine SCode.skip ?_
          show SCode _ _ _ _
          refine SCode.seqR (SOps.assign rfl (SOps.nil (SCode.ret ?_)))
          exact ⟨_, Res.one (.tmp rfl), congrArg (fun z => DV.v (.int .i64 z)) (by unfold clsR; repeat' split <;> omega), rfl⟩
       ·try simp only [nmL] at hb54
        refine SOps.skip rfl (SOps.skip rfl (SOps.pick rfl rfl (SOps.assign rfl (SOps.nil ?_))))
        refine SCode.cond rfl (fun h => by cases h) (fun _ => ?_)
        refine SCode.seqR (SOps.move rfl (SOps.bin rfl rfl rfl (SOps.assign rfl (SOps.nil ?_))))
        refine SCode.cond rfl (fun hc57 => ?_) (fun hc57 => ?_)
        ·try simp only [nmL] at hc57
         refine SCode.seqR (SOps.assign rfl (SOps.nil (SCode.ret ?_)))
         exact ⟨_, Res.one (.tmp rfl), congrArg (fun z => DV.v (.int .i64 z)) (by unfold clsR; repeat' split <;> omega), rfl⟩
        ·try simp only [nmL] at hc57
         refine SCode.skip ?_
         show SCode _ _ _ _
         refine SCode.seqR (SOps.assign rfl (SOps.nil (SCode.ret ?_)))
         exact ⟨_, Res.one (.tmp rfl), congrArg (fun z => DV.v (.int .i64 z)) (by unfold clsR; repeat' split <;> omega), rfl⟩
     ·try simp only [nmL] at hc52
      refine SCode.region (SOps.move rfl (SOps.bin rfl rfl rfl (SOps.assign rfl (SOps.nil ?_))))
      show SCode _ _ _ _
      refine SCode.cond rfl (fun hc58 => ?_) (fun hc58 => ?_)
      ·try simp only [nmL] at hc58
       refine SCode.seqR (SOps.assign rfl (SOps.nil (SCode.ret ?_)))
       exact ⟨_, Res.one (.tmp rfl), congrArg (fun z => DV.v (.int .i64 z)) (by unfold clsR; repeat' split <;> omega), rfl⟩
      ·try simp only [nmL] at hc58
       refine SCode.seqR (SOps.move rfl (SOps.bin rfl rfl rfl (SOps.move rfl ?_)))
       refine SOps.caseB 28 rfl (fun hb59 => ?_) (fun hb59 => ?_)
       ·try simp only [nmL] at hb59
        refine SOps.move rfl (SOps.bin rfl rfl rfl (SOps.pick rfl rfl (SOps.assign rfl (SOps.nil ?_))))
        refine SCode.cond rfl (fun hc60 => ?_) (fun hc60 => ?_)
        ·try simp only [nmL] at hc60
         refine SCode.seqR (SOps.assign rfl (SOps.nil (SCode.ret ?_)))
         exact ⟨_, Res.one (.tmp rfl), congrArg (fun z => DV.v (.int .i64 z)) (by unfold clsR; repeat' split <;> omega), rfl⟩
        ·try simp only [nmL] at hc60
         refine SCode.seqR (SOps.move rfl (SOps.bin rfl rfl rfl (SOps.assign rfl (SOps.nil ?_))))
         refine SCode.cond rfl (fun hc61 => ?_) (fun hc61 => ?_)
         ·try simp only [nmL] at hc61
          refine SCode.seqR (SOps.assign rfl (SOps.nil (SCode.ret ?_)))
          exact ⟨_, Res.one (.tmp rfl), congrArg (fun z => DV.v (.int .i64 z)) (by unfold clsR; repeat' split <;> omega), rfl⟩
         ·try simp only [nmL] at hc61
          refine SCode.skip ?_
          show SCode _ _ _ _
          refine SCode.seqR (SOps.assign rfl (SOps.nil (SCode.ret ?_)))
          exact ⟨_, Res.one (.tmp rfl), congrArg (fun z => DV.v (.int .i64 z)) (by unfold clsR; repeat' split <;> omega), rfl⟩
       ·try simp only [nmL] at hb59
        refine SOps.skip rfl (SOps.skip rfl (SOps.pick rfl rfl (SOps.assign rfl (SOps.nil ?_))))
        refine SCode.cond rfl (fun h => by cases h) (fun _ => ?_)
        refine SCode.seqR (SOps.move rfl (SOps.bin rfl rfl rfl (SOps.assign rfl (SOps.nil ?_))))
        refine SCode.cond rfl (fun hc62 => ?_) (fun hc62 => ?_)
        ·try simp only [nmL] at hc62
         refine SCode.seqR (SOps.assign rfl (SOps.nil (SCode.ret ?_)))
         exact ⟨_, Res.one (.tmp rfl), congrArg (fun z => DV.v (.int .i64 z)) (by unfold clsR; repeat' split <;> omega), rfl⟩
        ·try simp only [nmL] at hc62
         refine SCode.skip ?_
         show SCode _ _ _ _
         refine SCode.seqR (SOps.assign rfl (SOps.nil (SCode.ret ?_)))
         exact ⟨_, Res.one (.tmp rfl), congrArg (fun z => DV.v (.int .i64 z)) (by unfold clsR; repeat' split <;> omega), rfl⟩
    ·try simp only [nmL] at hb51
     refine SOps.skip rfl (SOps.skip rfl (SOps.pick rfl rfl (SOps.assign rfl (SOps.nil ?_))))
     refine SCode.cond rfl (fun h => by cases h) (fun _ => ?_)
     refine SCode.region (SOps.move rfl (SOps.bin rfl rfl rfl (SOps.assign rfl (SOps.nil ?_))))
     show SCode _ _ _ _
     refine SCode.cond rfl (fun hc63 => ?_) (fun hc63 => ?_)
     ·try simp only [nmL] at hc63
      refine SCode.seqR (SOps.assign rfl (SOps.nil (SCode.ret ?_)))
      exact ⟨_, Res.one (.tmp rfl), congrArg (fun z => DV.v (.int .i64 z)) (by unfold clsR; repeat' split <;> omega), rfl⟩
     ·try simp only [nmL] at hc63
      refine SCode.seqR (SOps.move rfl (SOps.bin rfl rfl rfl (SOps.move rfl ?_)))
      refine SOps.caseB 28 rfl (fun hb64 => ?_) (fun hb64 => ?_)
      ·try simp only [nmL] at hb64
       refine SOps.move rfl (SOps.bin rfl rfl rfl (SOps.pick rfl rfl (SOps.assign rfl (SOps.nil ?_))))
       refine SCode.cond rfl (fun hc65 => ?_) (fun hc65 => ?_)
       ·try simp only [nmL] at hc65
        refine SCode.seqR (SOps.assign rfl (SOps.nil (SCode.ret ?_)))
        exact ⟨_, Res.one (.tmp rfl), congrArg (fun z => DV.v (.int .i64 z)) (by unfold clsR; repeat' split <;> omega), rfl⟩
       ·try simp only [nmL] at hc65
        refine SCode.seqR (SOps.move rfl (SOps.bin rfl rfl rfl (SOps.assign rfl (SOps.nil ?_))))
        refine SCode.cond rfl (fun hc66 => ?_) (fun hc66 => ?_)
        ·try simp only [nmL] at hc66
         refine SCode.seqR (SOps.assign rfl (SOps.nil (SCode.ret ?_)))
         exact ⟨_, Res.one (.tmp rfl), congrArg (fun z => DV.v (.int .i64 z)) (by unfold clsR; repeat' split <;> omega), rfl⟩
        ·try simp only [nmL] at hc66
         refine SCode.skip ?_
         show SCode _ _ _ _
         refine SCode.seqR (SOps.assign rfl (SOps.nil (SCode.ret ?_)))
         exact ⟨_, Res.one (.tmp rfl), congrArg (fun z => DV.v (.int .i64 z)) (by unfold clsR; repeat' split <;> omega), rfl⟩
      ·try simp only [nmL] at hb64
       refine SOps.skip rfl (SOps.skip rfl (SOps.pick rfl rfl (SOps.assign rfl (SOps.nil ?_))))
       refine SCode.cond rfl (fun h => by cases h) (fun _ => ?_)
       refine SCode.seqR (SOps.move rfl (SOps.bin rfl rfl rfl (SOps.assign rfl (SOps.nil ?_))))
       refine SCode.cond rfl (fun hc67 => ?_) (fun hc67 => ?_)
       ·try simp only [nmL] at hc67
        refine SCode.seqR (SOps.assign rfl (SOps.nil (SCode.ret ?_)))
        exact ⟨_, Res.one (.tmp rfl), congrArg (fun z => DV.v (.int .i64 z)) (by unfold clsR; repeat' split <;> omega), rfl⟩
       ·try simp only [nmL] at hc67
        refine SCode.skip ?_
        show SCode _ _ _ _
        refine SCode.seqR (SOps.assign rfl (SOps.nil (SCode.ret ?_)))
        exact ⟨_, Res.one (.tmp rfl), congrArg (fun z => DV.v (.int .i64 z)) (by unfold clsR; repeat' split <;> omega), rfl⟩
  ·try simp only [nmL] at hb44
   refine SOps.skip rfl (SOps.skip rfl (SOps.pick rfl rfl (SOps.assign rfl (SOps.nil ?_))))
   refine SCode.cond rfl (fun h => by cases h) (fun _ => ?_)
   refine SCode.seqR (SOps.move rfl (SOps.bin rfl rfl rfl (SOps.move rfl ?_)))
   refine SOps.caseB 19 rfl (fun hb68 => ?_) (fun hb68 => ?_)
   ·try simp only [nmL] at hb68
    refine SOps.move rfl (SOps.bin rfl rfl rfl (SOps.pick rfl rfl (SOps.assign rfl (SOps.nil ?_))))
    refine SCode.cond rfl (fun hc69 => ?_) (fun hc69 => ?_)
    ·try simp only [nmL] at hc69
     refine SCode.skip ?_
     show SCode _ _ _ _
     refine SCode.cond rfl (fun hc70 => ?_) (fun hc70 => ?_)
     ·try simp only [nmL] at hc70
      refine SCode.seqR (SOps.assign rfl (SOps.nil (SCode.ret ?_)))
      exact ⟨_, Res.one (.tmp rfl), congrArg (fun z => DV.v (.int .i64 z)) (by unfold clsR; repeat' split <;> omega), rfl⟩
     ·try simp only [nmL] at hc70
      refine SCode.seqR (SOps.move rfl (SOps.bin rfl rfl rfl (SOps.move rfl ?_)))
      refine SOps.caseB 28 rfl (fun hb71 => ?_) (fun hb71 => ?_)
      ·try simp only [nmL] at hb71
       refine SOps.move rfl (SOps.bin rfl rfl rfl (SOps.pick rfl rfl (SOps.assign rfl (SOps.nil ?_))))
       refine SCode.cond rfl (fun hc72 => ?_) (fun hc72 => ?_)
       ·try simp only [nmL] at hc72
        refine SCode.seqR (SOps.assign rfl (SOps.nil (SCode.ret ?_)))
        exact ⟨_, Res.one (.tmp rfl), congrArg (fun z => DV.v (.int .i64 z)) (by unfold clsR; repeat' split <;> omega), rfl⟩
       ·try simp only [nmL] at hc72
        refine SCode.seqR (SOps.move rfl (SOps.bin rfl rfl rfl (SOps.assign rfl (SOps.nil ?_))))
        refine SCode.cond rfl (fun hc73 => ?_) (fun hc73 => ?_)
        ·try simp only [nmL] at hc73
         refine SCode.seqR (SOps.assign rfl (SOps.nil (SCode.ret ?_)))
         exact ⟨_, Res.one (.tmp rfl), congrArg (fun z => DV.v (.int .i64 z)) (by unfold clsR; repeat' split <;> omega), rfl⟩
        ·try simp only [nmL] at hc73
         refine SCode.skip ?_
         show SCode _ _ _ _
         refine SCode.seqR (SOps.assign rfl (SOps.nil (SCode.ret ?_)))
         exact ⟨_, Res.one (.tmp rfl), congrArg (fun z => DV.v (.int .i64 z)) (by unfold clsR; repeat' split <;> omega), rfl⟩
      ·try simp only [nmL] at hb71
       refine SOps.skip rfl (SOps.skip rfl (SOps.pick rfl rfl (SOps.assign rfl (SOps.nil ?_))))
       refine SCode.cond rfl (fun h => by cases h) (fun _ => ?_)
       refine SCode.seqR (SOps.move rfl (SOps.bin rfl rfl rfl (SOps.assign rfl (SOps.nil ?_))))
       refine SCode.cond rfl (fun hc74 => ?_) (fun hc74 => ?_)
       ·try simp only [nmL] at hc74
        refine SCode.seqR (SOps.assign rfl (SOps.nil (SCode.ret ?_)))
        exact ⟨_, Res.one (.tmp rfl), congrArg (fun z => DV.v (.int .i64 z)) (by unfold clsR; repeat' split <;> omega), rfl⟩
       ·try simp only [nmL] at hc74
        refine SCode.skip ?_
        show SCode _ _ _ _
        refine SCode.seqR (SOps.assign rfl (SOps.nil (SCode.ret ?_)))
        exact ⟨_, Res.one (.tmp rfl), congrArg (fun z => DV.v (.int .i64 z)) (by unfold clsR; repeat' split <;> omega), rfl⟩
    ·try simp only [nmL] at hc69
     refine SCode.region (SOps.move rfl (SOps.bin rfl rfl rfl (SOps.assign rfl (SOps.nil ?_))))
     show SCode _ _ _ _
     refine SCode.cond rfl (fun hc75 => ?_) (fun hc75 => ?_)
     ·try simp only [nmL] at hc75
      refine SCode.seqR (SOps.assign rfl (SOps.nil (SCode.ret ?_)))
      exact ⟨_, Res.one (.tmp rfl), congrArg (fun z => DV.v (.int .i64 z)) (by unfold clsR; repeat' split <;> omega), rfl⟩
     ·try simp only [nmL] at hc75
      refine SCode.seqR (SOps.move rfl (SOps.bin rfl rfl rfl (SOps.move rfl ?_)))
      refine SOps.caseB 28 rfl (fun hb76 => ?_) (fun hb76 => ?_)
      ·try simp only [nmL] at hb76
       refine SOps.move rfl (SOps.bin rfl rfl rfl (SOps.pick rfl rfl (SOps.assign rfl (SOps.nil ?_))))
       refine SCode.cond rfl (fun hc77 => ?_) (fun hc77 => ?_)
       ·try simp only [nmL] at hc77
        refine SCode.seqR (SOps.assign rfl (SOps.nil (SCode.ret ?_)))
        exact ⟨_, Res.one (.tmp rfl), congrArg (fun z => DV.v (.int .i64 z)) (by unfold clsR; repeat' split <;> omega), rfl⟩
       ·try simp only [nmL] at hc77
        refine SCode.seqR (SOps.move rfl (SOps.bin rfl rfl rfl (SOps.assign rfl (SOps.nil ?_))))
        refine SCode.cond rfl (fun hc78 => ?_) (fun hc78 => ?_)
        ·try simp only [nmL] at hc78
         refine SCode.seqR (SOps.assign rfl (SOps.nil (SCode.ret ?_)))
         exact ⟨_, Res.one (.tmp rfl), congrArg (fun z => DV.v (.int .i64 z)) (by unfold clsR; repeat' split <;> omega), rfl⟩
        ·try simp only [nmL] at hc78
         refine SCode.skip ?_
         show SCode _ _ _ _
         refine SCode.seqR (SOps.assign rfl (SOps.nil (SCode.ret ?_)))
         exact ⟨_, Res.one (.tmp rfl), congrArg (fun z => DV.v (.int .i64 z)) (by unfold clsR; repeat' split <;> omega), rfl⟩
      ·try simp only [nmL] at hb76
       refine SOps.skip rfl (SOps.skip rfl (SOps.pick rfl rfl (SOps.assign rfl (SOps.nil ?_))))
       refine SCode.cond rfl (fun h => by cases h) (fun _ => ?_)
       refine SCode.seqR (SOps.move rfl (SOps.bin rfl rfl rfl (SOps.assign rfl (SOps.nil ?_))))
       refine SCode.cond rfl (fun hc79 => ?_) (fun hc79 => ?_)
       ·try simp only [nmL] at hc79
        refine SCode.seqR (SOps.assign rfl (SOps.nil (SCode.ret ?_)))
        exact ⟨_, Res.one (.tmp rfl), congrArg (fun z => DV.v (.int .i64 z)) (by unfold clsR; repeat' split <;> omega), rfl⟩
       ·try simp only [nmL] at hc79
        refine SCode.skip ?_
        show SCode _ _ _ _
        refine SCode.seqR (SOps.assign rfl (SOps.nil (SCode.ret ?_)))
        exact ⟨_, Res.one (.tmp rfl), congrArg (fun z => DV.v (.int .i64 z)) (by unfold clsR; repeat' split <;> omega), rfl⟩
   ·try simp only [nmL] at hb68
    refine SOps.skip rfl (SOps.skip rfl (SOps.pick rfl rfl (SOps.assign rfl (SOps.nil ?_))))
    refine SCode.cond rfl (fun h => by cases h) (fun _ => ?_)
    refine SCode.region (SOps.move rfl (SOps.bin rfl rfl rfl (SOps.assign rfl (SOps.nil ?_))))
    show SCode _ _ _ _
    refine SCode.cond rfl (fun hc80 => ?_) (fun hc80 => ?_)
    ·try simp only [nmL] at hc80
     refine SCode.seqR (SOps.assign rfl (SOps.nil (SCode.ret ?_)))
     exact ⟨_, Res.one (.tmp rfl), congrArg (fun z => DV.v (.int .i64 z)) (by unfold clsR; repeat' split <;> omega), rfl⟩
    ·try simp only [nmL] at hc80
     refine SCode.seqR (SOps.move rfl (SOps.bin rfl rfl rfl (SOps.move rfl ?_)))
     refine SOps.caseB 28 rfl (fun hb81 => ?_) (fun hb81 => ?_)
     ·try simp only [nmL] at hb81
      refine SOps.move rfl (SOps.bin rfl rfl rfl (SOps.pick rfl rfl (SOps.assign rfl (SOps.nil ?_))))
      refine SCode.cond rfl (fun hc82 => ?_) (fun hc82 => ?_)
      ·try simp only [nmL] at hc82
       refine SCode.seqR (SOps.assign rfl (SOps.nil (SCode.ret ?_)))
       exact ⟨_, Res.one (.tmp rfl), congrArg (fun z => DV.v (.int .i64 z)) (by unfold clsR; repeat' split <;> omega), rfl⟩
      ·try simp only [nmL] at hc82
       refine SCode.seqR (SOps.move rfl (SOps.bin rfl rfl rfl (SOps.assign rfl (SOps.nil ?_))))
       refine SCode.cond rfl (fun hc83 => ?_) (fun hc83 => ?_)
       ·try simp only [nmL] at hc83
        refine SCode.seqR (SOps.assign rfl (SOps.nil (SCode.ret ?_)))
        exact ⟨_, Res.one (.tmp rfl), congrArg (fun z => DV.v (.int .i64 z)) (by unfold clsR; repeat' split <;> omega), rfl⟩
       ·try simp only [nmL] at hc83
        refine SCode.skip ?_
        show SCode _ _ _ _
        refine SCode.seqR (SOps.assign rfl (SOps.nil (SCode.ret ?_)))
        exact ⟨_, Res.one (.tmp rfl), congrArg (fun z => DV.v (.int .i64 z)) (by unfold clsR; repeat' split <;> omega), rfl⟩
     ·try simp only [nmL] at hb81
      refine SOps.skip rfl (SOps.skip rfl (SOps.pick rfl rfl (SOps.assign rfl (SOps.nil ?_))))
      refine SCode.cond rfl (fun h => by cases h) (fun _ => ?_)
      refine SCode.seqR (SOps.move rfl (SOps.bin rfl rfl rfl (SOps.assign rfl (SOps.nil ?_))))
      refine SCode.cond rfl (fun hc84 => ?_) (fun hc84 => ?_)
      ·try simp only [nmL] at hc84
       refine SCode.seqR (SOps.assign rfl (SOps.nil (SCode.ret ?_)))
       exact ⟨_, Res.one (.tmp rfl), congrArg (fun z => DV.v (.int .i64 z)) (by unfold clsR; repeat' split <;> omega), rfl⟩
      ·try simp only [nmL] at hc84
       refine SCode.skip ?_
       show SCode _ _ _ _
       refine SCode.seqR (SOps.assign rfl (SOps.nil (SCode.ret ?_)))
       exact ⟨_, Res.one (.tmp rfl), congrArg (fun z => DV.v (.int .i64 z)) (by unfold clsR; repeat' split <;> omega), rfl⟩
theorem bRevC (xs : List Nat) (bk off len : Nat) (hx : xs.length ≤ 1048576) (ho : off + len ≤ xs.length) : GCall Tryz.prog E 179 [.sl bk 1 off len] [(bk, .row 3 1 (xs.map encN))] (fun d H => d = .v (.tuple #[]) ∧ H = [(bk, .row 3 1 ((revS xs off len).map encN))]) := by
 refine GCall.body (C := ⟨Tryz.prog, E, false⟩) Tryz.func179 rfl (fun h => by cases h) (by kernel_rfl) rfl ?_
 refine SCode.seqR (SOps.move rfl (SOps.lenSl rfl sliceB_98_3_1 (SOps.subI rfl rfl (by first | omega | (simp only [lenB]; omega)) (by first | omega | (simp only [lenB]; omega)) (SOps.assign rfl (SOps.assign rfl (SOps.nil (SCode.block (SCode.loop2 (fun (i : Nat) (ys : List Nat) => (⟨28, [(0, .sl bk 1 off len), (2, .v (.int .i64 (i : Int))), (3, .v (.int .i64 ((len : Int) - 1 - (i : Int))))], [(bk, .row 3 1 (ys.map encN))]⟩ : St)) (fun (i : Nat) (ys : List Nat) => 2 * i ≤ len + 1 ∧ SegOK xs ys off len i) (fun (i : Nat) (ys : List Nat) => len - i) (0) (xs) (by exact ⟨by omega, .zero _ _ _⟩) (St.Le.of ⟨(by first | rfl | (show some _ = some _; simp)), (by first | rfl | (show some _ = some _; simp)), (by first | rfl | (show some _ = some _; simp)), trivial⟩ rfl (by first | rfl | (simp))) ?_))))))))
 rintro i ys ⟨hi, hs⟩
 have hyl := hs.1
 refine SCode.seq (SCode.seqR (SOps.move rfl (SOps.move rfl (SOps.bin rfl rfl rfl (SOps.nil ?_)))))
 refine SCode.cond rfl (fun hc1 => ?_) (fun hc1 => ?_)
 ·try simp only [nmL] at hc1
  refine SCode.skip ?_
  show SCode _ _ _ _
  refine SCode.seq (SCode.block ?_)
  have hi3 : i < len - 1 - i := by omega
  have hjl : off + (len - 1 - i) < ys.length := by omega
  have hil : off + i < ys.length := by omega
  refine SCode.weaken (st' := (⟨28, [(0, .sl bk 1 off len), (2, .v (.int .i64 (i : Int))), (3, .v (.int .i64 ((len : Int) - 1 - (i : Int))))], [(bk, .row 3 1 (ys.map encN))]⟩ : St)) (St.Le.of ⟨rfl, rfl, rfl, trivial⟩) ?_
  refine SCode.drawMix 17 [12, 13, 14, 15] mixed_ [fun b => some (14, .sl bk 1 off len), fun b => some (15, .v (.int .i64 (i : Int))), fun b => some (16, .sl bk 1 off len), fun b => some (17, .v (.int .i64 ((len : Int) - 1 - (i : Int)))), fun b => some (18, .sl bk 1 off len), fun b => some (19, .v (.int .i64 ((len : Int) - 1 - (i : Int)))), fun b => some (20, .ref bk ((off + (len - 1 - i)) * 1)), fun b => some (21, .v (.int .i64 (((ys[off + (len - 1 - i)]) : Nat) : Int))), fun b => some (22, .sl bk 1 off len), fun b => some (23, .v (.int .i64 (i : Int))), fun b => some (24, .ref bk ((off + i) * 1)), fun b => some (25, .v (.int .i64 (((ys[off + i]) : Nat) : Int))), fun b => some (26, .ref bk ((off + i) * 1)), fun b => none, fun b => some (27, .ref bk ((off + (len - 1 - i)) * 1)), fun b => none] [some 14, some 15, some 16, some 17, some 18, some 19, some 20, some 21, some 22, some 23, some 24, some 25, some 26, none, some 27, none] [[.inr 0], [.inr 2], [.inr 0], [.inr 3], [.inr 0], [.inr 3], [.inl 4, .inl 5], [.inl 6], [.inr 0], [.inr 2], [.inl 8, .inl 9], [.inl 10], [.inl 0, .inl 1], [.inl 12, .inl 7], [.inl 2, .inl 3], [.inl 14, .inl 11]] [fun b => [(0, .sl bk 1 off len)], fun b => [(2, .v (.int .i64 (i : Int)))], fun b => [(0, .sl bk 1 off len)], fun b => [(3, .v (.int .i64 ((len : Int) - 1 - (i : Int))))], fun b => [(0, .sl bk 1 off len)], fun b => [(3, .v (.int .i64 ((len : Int) - 1 - (i : Int))))], fun b => [(18, .sl bk 1 off len), (19, .v (.int .i64 ((len : Int) - 1 - (i : Int))))], fun b => [(20, .ref bk ((off + (len - 1 - i)) * 1))], fun b => [(0, .sl bk 1 off len)], fun b => [(2, .v (.int .i64 (i : Int)))], fun b => [(22, .sl bk 1 off len), (23, .v (.int .i64 (i : Int)))], fun b => [(24, .ref bk ((off + i) * 1))], fun b => [(14, .sl bk 1 off len), (15, .v (.int .i64 (i : Int)))], fun b => [(26, .ref bk ((off + i) * 1)), (21, .v (.int .i64 (((ys[off + (len - 1 - i)]) : Nat) : Int)))], fun b => [(16, .sl bk 1 off len), (17, .v (.int .i64 ((len : Int) - 1 - (i : Int))))], fun b => [(27, .ref bk ((off + (len - 1 - i)) * 1)), (25, .v (.int .i64 (((ys[off + i]) : Nat) : Int)))]] (fun b c => match c with | 0 => [(bk, .row 3 1 (ys.map encN))] | 1 => [(bk, .row 3 1 (ys.map encN))] | 2 => [(bk, .row 3 1 ((ys.set (off + i) (ys[off + (len - 1 - i)])).map encN))] | 3 => [(bk, .row 3 1 ((ys.set (off + i) (ys[off + (len - 1 - i)])).map encN))] | _ => [(bk, .row 3 1 (((ys.set (off + i) (ys[off + (len - 1 - i)])).set (off + (len - 1 - i)) (ys[off + i])).map encN))]) [(false, false, [0]), (false, false, [0]), (false, false, [0, 1, 2]), (false, false, [0, 1, 2]), (false, false, [0]), (false, false, [0]), (false, false, [0]), (false, false, [0]), (false, false, [0]), (false, false, [0]), (false, false, [0]), (false, false, [0]), (true, false, [0]), (true, false, [1]), (true, false, [2]), (true, false, [3])] (by kernel_rfl) (fun _ => rfl) rfl (fun _ => rfl) (fun _ => rfl) (cohNone rfl) ?_ ?_
  ·refine MixOk.cons ?_ ?_
   ·refine StgOk.cons (fun b rest => ?_) ?_
    ·refine SOps.move rfl ?_
     exact SOps.nil ⟨b, fun _ => rfl, by first | rfl | simp_all⟩
    exact StgOk.nil
   refine MixOk.cons ?_ ?_
   ·refine StgOk.cons (fun b rest => ?_) ?_
    ·refine SOps.move rfl ?_
     exact SOps.nil ⟨b, fun _ => rfl, by first | rfl | simp_all⟩
    exact StgOk.nil
   refine MixOk.cons ?_ ?_
   ·refine StgOk.cons (fun b rest => ?_) ?_
    ·refine SOps.move rfl ?_
     exact SOps.nil ⟨b, fun _ => rfl, by first | rfl | simp_all⟩
    refine StgOk.cons (fun b rest => ?_) ?_
    ·refine SOps.move rfl ?_
     exact SOps.nil ⟨b, fun _ => rfl, by first | rfl | simp_all⟩
    refine StgOk.cons (fun b rest => ?_) ?_
    ·refine SOps.move rfl ?_
     exact SOps.nil ⟨b, fun _ => rfl, by first | rfl | simp_all⟩
    exact StgOk.nil
   refine MixOk.cons ?_ ?_
   ·refine StgOk.cons (fun b rest => ?_) ?_
    ·refine SOps.move rfl ?_
     exact SOps.nil ⟨b, fun _ => rfl, by first | rfl | simp_all⟩
    refine StgOk.cons (fun b rest => ?_) ?_
    ·refine SOps.move rfl ?_
     exact SOps.nil ⟨b, fun _ => rfl, by first | rfl | simp_all⟩
    refine StgOk.cons (fun b rest => ?_) ?_
    ·refine SOps.move rfl ?_
     exact SOps.nil ⟨b, fun _ => rfl, by first | rfl | simp_all⟩
    exact StgOk.nil
   refine MixOk.cons ?_ ?_
   ·refine StgOk.cons (fun b rest => ?_) ?_
    ·refine SOps.move rfl ?_
     exact SOps.nil ⟨b, fun _ => rfl, by first | rfl | simp_all⟩
    exact StgOk.nil
   refine MixOk.cons ?_ ?_
   ·refine StgOk.cons (fun b rest => ?_) ?_
    ·refine SOps.move rfl ?_
     exact SOps.nil ⟨b, fun _ => rfl, by first | rfl | simp_all⟩
    exact StgOk.nil
   refine MixOk.cons ?_ ?_
   ·refine StgOk.cons (fun b rest => ?_) ?_
    ·refine SOps.indexS ((len - 1 - i)) rfl rfl sliceB_98_3_1 (by first | omega | (simp only [lenB]; omega)) (by first | omega | (simp only [lenB]; omega)) ?_
     exact SOps.nil ⟨b, fun _ => rfl, by first | rfl | simp_all⟩
    exact StgOk.nil
   refine MixOk.cons ?_ ?_
   ·refine StgOk.cons (fun b rest => ?_) ?_
    ·refine SOps.loadK 0 ((off + (len - 1 - i))) rfl flatB_3 rfl (by first | omega | (simp only [lenB]; omega)) (by first | omega | (simp; omega)) rfl ?_
     exact SOps.nil ⟨b, fun _ => rfl, by first | rfl | simp_all⟩
    exact StgOk.nil
   refine MixOk.cons ?_ ?_
   ·refine StgOk.cons (fun b rest => ?_) ?_
    ·refine SOps.move rfl ?_
     exact SOps.nil ⟨b, fun _ => rfl, by first | rfl | simp_all⟩
    exact StgOk.nil
   refine MixOk.cons ?_ ?_
   ·refine StgOk.cons (fun b rest => ?_) ?_
    ·refine SOps.move rfl ?_
     exact SOps.nil ⟨b, fun _ => rfl, by first | rfl | simp_all⟩
    exact StgOk.nil
   refine MixOk.cons ?_ ?_
   ·refine StgOk.cons (fun b rest => ?_) ?_
    ·refine SOps.indexS (i) rfl rfl sliceB_98_3_1 (by first | omega | (simp only [lenB]; omega)) (by first | omega | (simp only [lenB]; omega)) ?_
     exact SOps.nil ⟨b, fun _ => rfl, by first | rfl | simp_all⟩
    exact StgOk.nil
   refine MixOk.cons ?_ ?_
   ·refine StgOk.cons (fun b rest => ?_) ?_
    ·refine SOps.loadK 0 ((off + i)) rfl flatB_3 rfl (by first | omega | (simp only [lenB]; omega)) (by first | omega | (simp; omega)) rfl ?_
     exact SOps.nil ⟨b, fun _ => rfl, by first | rfl | simp_all⟩
    exact StgOk.nil
   refine MixOk.cons ?_ ?_
   ·refine StgOk.cons (fun b rest => ?_) ?_
    ·refine SOps.indexS (i) rfl rfl sliceB_98_3_1 (by first | omega | (simp only [lenB]; omega)) (by first | omega | (simp only [lenB]; omega)) ?_
     exact SOps.nil ⟨b, fun _ => rfl, by first | rfl | simp_all⟩
    exact StgOk.nil
   refine MixOk.cons ?_ ?_
   ·refine StgOk.cons (fun b rest => ?_) ?_
    ·refine SOps.storeK 0 ((off + i)) rfl rfl oneB_3 rfl (by first | omega | (simp only [lenB]; omega)) (by first | omega | (simp; omega)) rfl (fun _ => rfl) ?_
     exact SOps.nil ⟨b, fun _ => rfl, by first | rfl | simp_all⟩
    exact StgOk.nil
   refine MixOk.cons ?_ ?_
   ·refine StgOk.cons (fun b rest => ?_) ?_
    ·refine SOps.indexS ((len - 1 - i)) rfl rfl sliceB_98_3_1 (by first | omega | (simp only [lenB]; omega)) (by first | omega | (simp only [lenB]; omega)) ?_
     exact SOps.nil ⟨b, fun _ => rfl, by first | rfl | simp_all⟩
    exact StgOk.nil
   refine MixOk.cons ?_ ?_
   ·refine StgOk.cons (fun b rest => ?_) ?_
    ·refine SOps.storeK 0 ((off + (len - 1 - i))) rfl rfl oneB_3 rfl (by first | omega | (simp only [lenB]; omega)) (by first | omega | (simp; omega)) rfl (fun _ => rfl) ?_
     exact SOps.nil ⟨b, fun _ => rfl, by first | rfl | simp_all⟩
    exact StgOk.nil
   exact MixOk.nil
  ·intro bM
   show SCode _ _ _ _
   refine SCode.region (SOps.move rfl (SOps.addI rfl rfl (by first | omega | (simp only [lenB]; omega)) (by first | omega | (simp only [lenB]; omega)) (SOps.move rfl (SOps.subI rfl rfl (by first | omega | (simp only [lenB]; omega)) (by first | omega | (simp only [lenB]; omega)) (SOps.assign rfl (SOps.assign rfl (SOps.nil ?_)))))))
   exact ⟨i + 1, ((ys.set (off + i) (ys[off + (len - 1 - i)])).set (off + (len - 1 - i)) (ys[off + i])), ⟨by omega, hs.step ho rfl (by omega) (by omega) hil hjl⟩, by omega, St.Le.of ⟨rfl, rfl, (by show some _ = some _; congr 3; omega), trivial⟩⟩
 ·try simp only [nmL] at hc1
  refine SCode.exit ?_
  obtain rfl := hs.fin ho (by omega)
  exact ⟨_, Res.none, rfl, rfl⟩
theorem bRev0   : GCall Tryz.prog E 179 [.isl true 1 []] [] (fun d H => d = .v (.tuple #[]) ∧ H = []) := by
 refine GCall.body (C := ⟨Tryz.prog, E, true⟩) Tryz.func179 rfl (fun _ => rfl) (by kernel_rfl) rfl ?_
 refine SCode.seqR (SOps.move rfl (SOps.lenIsl rfl sliceB_98_3_1 (SOps.subI rfl rfl (by first | omega | (simp; done) | decide) (by first | omega | (simp; done) | decide) (SOps.assign rfl (SOps.assign rfl (SOps.nil (SCode.block (SCode.loop1 (fun (i : Nat) => (⟨28, [(2, .v (.int .i64 0)), (3, .v (.int .i64 ((([] : List (List DV)).length : Int) - 1)))], []⟩ : St)) (fun (i : Nat) => True) (fun (i : Nat) => 0) (0) (by trivial) (St.Le.of ⟨(by first | rfl | (show some _ = some _; simp)), (by first | rfl | (show some _ = some _; simp)), trivial⟩ rfl (by first | rfl | (simp))) ?_))))))))
 rintro i -
 refine SCode.seq (SCode.seqR (SOps.move rfl (SOps.move rfl (SOps.bin rfl rfl rfl (SOps.nil ?_)))))
 refine SCode.cond rfl (fun hc1 => ?_) (fun hc1 => ?_)
 ·try simp only [nmL] at hc1
  exact absurd hc1 (by decide)
 ·try simp only [nmL] at hc1
  refine SCode.exit ?_
  exact ⟨_, Res.none, rfl, rfl⟩
theorem bTurn (lv : List Int) (least : Int) (ord : List Nat) (b : Nat) (hn : ord.length ≤ 1048576) (ho : ∀ x ∈ ord, x < lv.length) : GCall Tryz.prog E 140 [.sl b 1 0 ord.length, DInts lv, .v (.int .i64 least)] [(b, .row 3 1 (ord.map encN))] (fun d H => d = .v (.tuple #[]) ∧ H = [(b, .row 3 1 ((turnL (lvAt lv least) ord).map encN))]) := by
 refine GCall.body (C := ⟨Tryz.prog, E, false⟩) Tryz.func140 rfl (fun h => by cases h) (by kernel_rfl) rfl ?_
 refine SCode.seqR (SOps.assign rfl (SOps.nil (SCode.block (SCode.loop2 (fun (i : Nat) (cur : List Nat) => (⟨41, [(0, .sl b 1 0 ord.length), (1, DInts lv), (2, .v (.int .i64 least)), (6, .v (.int .i64 (i : Int)))], [(b, .row 3 1 (cur.map encN))]⟩ : St)) (fun (i : Nat) (cur : List Nat) => i ≤ ord.length ∧ TurnOK (lvAt lv least) ord cur i) (fun (i : Nat) (cur : List Nat) => ord.length - i) (0) (ord) (by exact ⟨Nat.zero_le _, .zero _ _⟩) (St.Le.of ⟨(by first | rfl | (show some _ = some _; simp)), (by first | rfl | (show some _ = some _; simp)), (by first | rfl | (show some _ = some _; simp)), (by first | rfl | (show some _ = some _; simp)), trivial⟩ rfl (by first | rfl | (simp))) ?_))))
 rintro i cur ⟨hi, hT⟩
 have hcl := hT.len
 refine SCode.seq (SCode.seqR (SOps.move rfl (SOps.move rfl (SOps.lenSl rfl sliceB_98_3_1 (SOps.bin rfl rfl rfl (SOps.nil ?_))))))
 refine SCode.cond rfl (fun hc1 => ?_) (fun hc1 => ?_)
 ·try simp only [nmL] at hc1
  refine SCode.skip ?_
  show SCode _ _ _ _
  refine SCode.seq (SCode.block (SCode.seqR (SOps.move rfl (SOps.assign rfl (SOps.nil (SCode.seq (SCode.block ?_)))))))
  have hil : i < ord.length := by omega
  refine SCode.loop1 (fun (k : Nat) => (⟨41, [(0, .sl b 1 0 ord.length), (1, DInts lv), (2, .v (.int .i64 least)), (6, .v (.int .i64 (i : Int))), (7, .v (.int .i64 (k : Int)))], [(b, .row 3 1 (cur.map encN))]⟩ : St)) (fun (k : Nat) => i ≤ k ∧ k ≤ ord.length ∧ ∀ (j : Nat) (h1 : j < cur.length), i ≤ j → j < k → lvAt lv least cur[j] = true) (fun (k : Nat) => ord.length - k) (i) (by exact ⟨Nat.le_refl _, by omega, fun j h1 h2 h3 => by omega⟩) (St.Le.of ⟨(by first | rfl | (show some _ = some _; simp)), (by first | rfl | (show some _ = some _; simp)), (by first | rfl | (show some _ = some _; simp)), (by first | rfl | (show some _ = some _; simp)), (by first | rfl | (show some _ = some _; simp)), trivial⟩ rfl (by first | rfl | (simp))) ?_
  rintro k ⟨hk1, hk2, hf⟩
  refine SCode.seq (SCode.seqR (SOps.move rfl (SOps.move rfl (SOps.lenSl rfl sliceB_98_3_1 (SOps.bin rfl rfl rfl (SOps.move rfl ?_))))))
  refine SOps.caseB 19 rfl (fun hb2 => ?_) (fun hb2 => ?_)
  ·try simp only [nmL] at hb2
   refine SOps.move rfl (SOps.move rfl (SOps.move rfl ?_))
   have hkc : k < cur.length := by omega
   have hlv := ho _ (hT.mem _ (List.getElem_mem hkc))
   refine SOps.indexS (k) rfl rfl sliceB_98_3_1 (by first | omega | (simp only [lenB]; omega)) (by first | omega | (simp only [lenB]; omega)) (SOps.loadK 0 (k) rfl flatB_3 rfl (by first | omega | (simp only [lenB]; omega)) (by first | omega | (simp; omega)) rfl (SOps.indexM ((cur[k])) rfl rfl sliceB_98_3_1 (by first | omega | (simp only [lenB]; omega)) (by first | omega | (simp only [lenB]; omega)) (SOps.loadPin rfl flatB_3 (SOps.move rfl (SOps.bin rfl rfl rfl (SOps.pick rfl rfl (SOps.nil ?_)))))))
   refine SCode.cond rfl (fun hc3 => ?_) (fun hc3 => ?_)
   ·try simp only [nmL] at hc3
    refine SCode.skip ?_
    show SCode _ _ _ _
    refine SCode.block (SCode.region (SOps.move rfl (SOps.addI rfl rfl (by first | omega | (simp only [lenB]; omega)) (by first | omega | (simp only [lenB]; omega)) (SOps.assign rfl (SOps.nil ?_)))))
    exact ⟨k + 1, by exact ⟨by omega, by omega, fun j h1 h2 h3 => by by_cases hj : j = k; subst hj; rw [lvAt_at hlv]; exact decide_eq_true (by omega); exact hf j h1 h2 (by omega)⟩, by omega, (St.Le.of ⟨(by first | rfl | (show some _ = some _; simp)), (by first | rfl | (show some _ = some _; simp)), (by first | rfl | (show some _ = some _; simp)), (by first | rfl | (show some _ = some _; simp)), (by first | rfl | (show some _ = some _; simp)), trivial⟩ rfl (by first | rfl | (simp)))⟩
   ·try simp only [nmL] at hc3
    refine SCode.exit ?_
    show SCode _ _ _ _
    refine SCode.seqR ?_
    have hstop : ∀ (h1 : k < cur.length), lvAt lv least cur[k] = false := fun h1 => by first | (exfalso; omega) | (rw [lvAt_at hlv]; exact decide_eq_false (by omega))
    refine SOps.move rfl (SOps.move rfl (SOps.move rfl ?_))
    rcases Nat.lt_or_ge i k with hik | hik
    ·refine SOps.sliceSl (i) (k) sliceB_98_3_1 rfl (.some rfl) (.some rfl) (by omega) (by omega) ?_
     refine SOps.callH [] [(b, .row 3 1 (cur.map encN))] [] (bRevC cur b (0 + i) (k - i) (by omega) (by omega)) rfl rfl (fun d H hR => ?_)
     obtain ⟨rfl, rfl⟩ := hR
     refine SOps.nil (SCode.region (SOps.move rfl (SOps.move rfl (SOps.subI rfl rfl (by first | omega | (simp only [lenB]; omega)) (by first | omega | (simp only [lenB]; omega)) (SOps.maxI rfl rfl (by split <;> exact has_i64 (by first | omega | (simp only [lenB]; omega)) (by first | omega | (simp only [lenB]; omega))) (SOps.assign rfl (SOps.nil ?_)))))))
     show SCode _ _ _ _
     refine SCode.region (SOps.move rfl (SOps.addI rfl rfl (by first | omega | (simp only [lenB]; omega)) (by first | omega | (simp only [lenB]; omega)) (SOps.assign rfl (SOps.nil ?_))))
     exact ⟨k, revS cur i (k - i), ⟨by omega, hT.run (by omega) (by omega) (fun j h1 h2 h3 => hf j h1 h2 h3) hstop⟩, by omega, St.Le.of ⟨rfl, rfl, rfl, (by show some _ = some _; congr 3; split <;> omega), trivial⟩ rfl (congrArg (fun z => [(b, DO.row 3 1 ((revS cur z (k - i)).map encN))]) (Nat.zero_add i).symm)⟩
    ·obtain rfl : k = i := by omega
     refine SOps.sliceSlE (k) (k) sliceB_98_3_1 rfl (.some rfl) (.some rfl) rfl (by omega) (SOps.callP bRev0 rfl ?_)
     rintro _ rfl
     refine SOps.nil (SCode.region (SOps.move rfl (SOps.move rfl (SOps.subI rfl rfl (by first | omega | (simp only [lenB]; omega)) (by first | omega | (simp only [lenB]; omega)) (SOps.maxI rfl rfl (by split <;> exact has_i64 (by first | omega | (simp only [lenB]; omega)) (by first | omega | (simp only [lenB]; omega))) (SOps.assign rfl (SOps.nil ?_)))))))
     show SCode _ _ _ _
     refine SCode.region (SOps.move rfl (SOps.addI rfl rfl (by first | omega | (simp only [lenB]; omega)) (by first | omega | (simp only [lenB]; omega)) (SOps.assign rfl (SOps.nil ?_))))
     exact ⟨k + 1, cur, ⟨by omega, hT.skip (by omega) (hstop (by omega))⟩, by omega, St.Le.of ⟨rfl, rfl, rfl, (by show some _ = some _; congr 3; split <;> omega), trivial⟩⟩
  ·try simp only [nmL] at hb2
   refine SOps.skip rfl (SOps.skip rfl (SOps.skip rfl (SOps.skip rfl (SOps.skip rfl (SOps.skip rfl (SOps.skip rfl (SOps.skip rfl (SOps.skip rfl (SOps.pick rfl rfl (SOps.nil ?_))))))))))
   refine SCode.cond rfl (fun h => by cases h) (fun _ => ?_)
   refine SCode.exit ?_
   show SCode _ _ _ _
   refine SCode.seqR ?_
   have hstop : ∀ (h1 : k < cur.length), lvAt lv least cur[k] = false := fun h1 => by first | (exfalso; omega) | (rw [lvAt_at hlv]; exact decide_eq_false (by omega))
   refine SOps.move rfl (SOps.move rfl (SOps.move rfl ?_))
   rcases Nat.lt_or_ge i k with hik | hik
   ·refine SOps.sliceSl (i) (k) sliceB_98_3_1 rfl (.some rfl) (.some rfl) (by omega) (by omega) ?_
    refine SOps.callH [] [(b, .row 3 1 (cur.map encN))] [] (bRevC cur b (0 + i) (k - i) (by omega) (by omega)) rfl rfl (fun d H hR => ?_)
    obtain ⟨rfl, rfl⟩ := hR
    refine SOps.nil (SCode.region (SOps.move rfl (SOps.move rfl (SOps.subI rfl rfl (by first | omega | (simp only [lenB]; omega)) (by first | omega | (simp only [lenB]; omega)) (SOps.maxI rfl rfl (by split <;> exact has_i64 (by first | omega | (simp only [lenB]; omega)) (by first | omega | (simp only [lenB]; omega))) (SOps.assign rfl (SOps.nil ?_)))))))
    show SCode _ _ _ _
    refine SCode.region (SOps.move rfl (SOps.addI rfl rfl (by first | omega | (simp only [lenB]; omega)) (by first | omega | (simp only [lenB]; omega)) (SOps.assign rfl (SOps.nil ?_))))
    exact ⟨k, revS cur i (k - i), ⟨by omega, hT.run (by omega) (by omega) (fun j h1 h2 h3 => hf j h1 h2 h3) hstop⟩, by omega, St.Le.of ⟨rfl, rfl, rfl, (by show some _ = some _; congr 3; split <;> omega), trivial⟩ rfl (congrArg (fun z => [(b, DO.row 3 1 ((revS cur z (k - i)).map encN))]) (Nat.zero_add i).symm)⟩
   ·obtain rfl : k = i := by omega
    refine SOps.sliceSlE (k) (k) sliceB_98_3_1 rfl (.some rfl) (.some rfl) rfl (by omega) (SOps.callP bRev0 rfl ?_)
    rintro _ rfl
    refine SOps.nil (SCode.region (SOps.move rfl (SOps.move rfl (SOps.subI rfl rfl (by first | omega | (simp only [lenB]; omega)) (by first | omega | (simp only [lenB]; omega)) (SOps.maxI rfl rfl (by split <;> exact has_i64 (by first | omega | (simp only [lenB]; omega)) (by first | omega | (simp only [lenB]; omega))) (SOps.assign rfl (SOps.nil ?_)))))))
    show SCode _ _ _ _
    refine SCode.region (SOps.move rfl (SOps.addI rfl rfl (by first | omega | (simp only [lenB]; omega)) (by first | omega | (simp only [lenB]; omega)) (SOps.assign rfl (SOps.nil ?_))))
    exact ⟨k + 1, cur, ⟨by omega, hT.skip (by omega) (hstop (by omega))⟩, by omega, St.Le.of ⟨rfl, rfl, rfl, (by show some _ = some _; congr 3; split <;> omega), trivial⟩⟩
 ·try simp only [nmL] at hc1
  refine SCode.exit ?_
  obtain rfl := hT.fin (by omega)
  exact ⟨_, Res.none, rfl, rfl⟩
theorem bRaise {fe fl : FuncId} {ce cl : List DV} (e : Int → Bool) (nv : Int) (cs : List Int) (S : Nat → DHeap) (hn : cs.length ≤ 1048576) (hd : e nv = false) (hfe : ∀ c : Int, GCall Tryz.prog E fe ([.v (.int .i64 c)] ++ ce) [] (fun d H => d = .v (.bool (e c)) ∧ H = [])) (hfl : ∀ k : Nat, (raiseK e nv 0 cs)[k]? = some true → k < cs.length → GCall Tryz.prog E fl ([.v (.int .i64 (k : Int))] ++ cl) (S k) (fun d H => H = S (k + 1))) (hS : ∀ k : Nat, (raiseK e nv 0 cs)[k]? = some false → S (k + 1) = S k) : GCall Tryz.prog E 174 [DInts cs, .fn fe ce, .v (.int .i64 nv), .fn fl cl] (S 0) (fun d H => H = S cs.length) := by
 refine GCall.body (C := ⟨Tryz.prog, E, false⟩) Tryz.func174 rfl (fun h => by cases h) (by kernel_rfl) rfl ?_
 refine SCode.seqR (SOps.assign rfl (SOps.nil (SCode.block (SCode.loop1 (fun (i : Nat) => (⟨59, [(0, DInts cs), (1, .fn fe ce), (2, .v (.int .i64 nv)), (3, .fn fl cl), (8, .v (.int .i64 (i : Int)))], S i⟩ : St)) (fun (i : Nat) => i ≤ cs.length ∧ RaiseOK e nv cs i) (fun (i : Nat) => cs.length - i) (0) (by exact ⟨Nat.zero_le _, .zero _ _ _⟩) (St.Le.of ⟨(by first | rfl | (show some _ = some _; simp)), (by first | rfl | (show some _ = some _; simp)), (by first | rfl | (show some _ = some _; simp)), (by first | rfl | (show some _ = some _; simp)), (by first | rfl | (show some _ = some _; simp)), trivial⟩ rfl (by first | rfl | (simp))) ?_))))
 rintro i ⟨hi, hO⟩
 refine SCode.seq (SCode.seqR (SOps.move rfl (SOps.move rfl (SOps.lenM rfl sliceB_98_3_1 (SOps.bin rfl rfl rfl (SOps.nil ?_))))))
 refine SCode.cond rfl (fun hc1 => ?_) (fun hc1 => ?_)
 ·try simp only [nmL] at hc1
  refine SCode.skip ?_
  show SCode _ _ _ _
  refine SCode.block (SCode.seq (SCode.seqR ?_))
  have hil : i < cs.length := by omega
  refine SOps.move rfl (SOps.move rfl (SOps.move rfl (SOps.indexM (i) rfl rfl sliceB_98_3_1 (by first | omega | (simp only [lenB]; omega)) (by first | omega | (simp only [lenB]; omega)) (SOps.loadPin rfl flatB_3 (SOps.callFn (ds := [_]) rfl (hfe _) rfl ?_)))))
  rintro _ _ ⟨rfl, rfl⟩
  refine SOps.un rfl rfl (SOps.nil ?_)
  refine SCode.cond rfl (fun hc2 => ?_) (fun hc2 => ?_)
  ·try simp only [nmL] at hc2
   refine SCode.seqR (SOps.move rfl (SOps.addI rfl rfl (by first | omega | (simp only [lenB]; omega)) (by first | omega | (simp only [lenB]; omega)) (SOps.assign rfl (SOps.nil (SCode.exit ?_)))))
   obtain ⟨hRf, hO2⟩ := hO.no hil (by simp_all)
   exact ⟨i + 1, ⟨by omega, hO2⟩, by omega, St.Le.of ⟨rfl, rfl, rfl, rfl, (by show some _ = some _; simp), trivial⟩ rfl (hS i hRf)⟩
  ·try simp only [nmL] at hc2
   refine SCode.skip ?_
   show SCode _ _ _ _
   refine SCode.seqR ?_
   have hei : e cs[i] = true := by simp_all
   refine SOps.move rfl (SOps.assign rfl (SOps.nil ?_))
   refine SCode.seqJ (fun (_ : Nat) => (⟨59, [(0, DInts cs), (1, .fn fe ce), (2, .v (.int .i64 nv)), (3, .fn fl cl), (8, .v (.int .i64 (i : Int))), (9, .v (.int .i64 (((lstA e nv (cs.drop i) i i) : Nat) : Int)))], S i⟩ : St)) ?_ ?_
   ·refine SCode.seqR (SOps.move rfl (SOps.assign rfl (SOps.nil (SCode.block (SCode.loop2 (fun (k : Nat) (L : Nat) => (⟨59, [(0, DInts cs), (1, .fn fe ce), (2, .v (.int .i64 nv)), (3, .fn fl cl), (8, .v (.int .i64 (i : Int))), (9, .v (.int .i64 ((L : Nat) : Int))), (10, .v (.int .i64 (k : Int)))], S i⟩ : St)) (fun (k : Nat) (L : Nat) => i ≤ k ∧ k ≤ cs.length ∧ lstA e nv (cs.drop i) i i = lstA e nv (cs.drop k) k L) (fun (k : Nat) (L : Nat) => cs.length - k) (i) (i) (by exact ⟨Nat.le_refl _, by omega, rfl⟩) (St.Le.of ⟨(by first | rfl | (show some _ = some _; simp)), (by first | rfl | (show some _ = some _; simp)), (by first | rfl | (show some _ = some _; simp)), (by first | rfl | (show some _ = some _; simp)), (by first | rfl | (show some _ = some _; simp)), (by first | rfl | (show some _ = some _; simp)), (by first | rfl | (show some _ = some _; simp)), trivial⟩ rfl (by first | rfl | (simp))) ?_)))))
    rintro k L ⟨hik, hkn0, hLs⟩
    refine SCode.seq (SCode.seqR (SOps.move rfl (SOps.move rfl (SOps.lenM rfl sliceB_98_3_1 (SOps.bin rfl rfl rfl (SOps.move rfl ?_))))))
    refine SOps.caseB 31 rfl (fun hb3 => ?_) (fun hb3 => ?_)
    ·try simp only [nmL] at hb3
     refine SOps.move rfl (SOps.move rfl (SOps.indexM (k) rfl rfl sliceB_98_3_1 (by first | omega | (simp only [lenB]; omega)) (by first | omega | (simp only [lenB]; omega)) (SOps.loadPin rfl flatB_3 (SOps.move rfl (SOps.bin rfl rfl rfl (SOps.pick rfl rfl (SOps.nil ?_)))))))
     refine SCode.cond rfl (fun hc4 => ?_) (fun hc4 => ?_)
     ·try simp only [nmL] at hc4
      refine SCode.skip ?_
      show SCode _ _ _ _
      refine SCode.seq (SCode.block (SCode.seqR ?_))
      have hkl : k < cs.length := by omega
      refine SOps.move rfl (SOps.move rfl (SOps.move rfl (SOps.indexM (k) rfl rfl sliceB_98_3_1 (by first | omega | (simp only [lenB]; omega)) (by first | omega | (simp only [lenB]; omega)) (SOps.loadPin rfl flatB_3 (SOps.callFn (ds := [_]) rfl (hfe _) rfl ?_)))))
      rintro _ _ ⟨rfl, rfl⟩
      refine SOps.nil ?_
      refine SCode.cond rfl (fun hc5 => ?_) (fun hc5 => ?_)
      ·try simp only [nmL] at hc5
       refine SCode.region ?_
       have hek : e cs[k] = true := by simp_all
       refine SOps.move rfl (SOps.assign rfl (SOps.nil ?_))
       show SCode _ _ _ _
       refine SCode.region (SOps.move rfl (SOps.addI rfl rfl (by first | omega | (simp only [lenB]; omega)) (by first | omega | (simp only [lenB]; omega)) (SOps.assign rfl (SOps.nil ?_))))
       exact ⟨k + 1, k, ⟨by omega, by omega, by rw [hLs, lstA_step hkl (by simp_all), if_pos hek]⟩, by omega, St.Le.of ⟨rfl, rfl, rfl, rfl, rfl, rfl, (by show some _ = some _; simp), trivial⟩⟩
      ·try simp only [nmL] at hc5
       refine SCode.skip ?_
       show SCode _ _ _ _
       refine SCode.region (SOps.move rfl (SOps.addI rfl rfl (by first | omega | (simp only [lenB]; omega)) (by first | omega | (simp only [lenB]; omega)) (SOps.assign rfl (SOps.nil ?_))))
       exact ⟨k + 1, L, ⟨by omega, by omega, by rw [hLs, lstA_step hkl (by simp_all), if_neg (by simp_all)]⟩, by omega, St.Le.of ⟨rfl, rfl, rfl, rfl, rfl, rfl, (by show some _ = some _; simp), trivial⟩⟩
     ·try simp only [nmL] at hc4
      refine SCode.exit ?_
      exact ⟨0, St.Le.of ⟨rfl, rfl, rfl, rfl, rfl, (by show some _ = some _; rw [hLs, lstA_end (fun h => by first | (exfalso; omega) | simp_all)]), trivial⟩⟩
    ·try simp only [nmL] at hb3
     refine SOps.skip rfl (SOps.skip rfl (SOps.skip rfl (SOps.skip rfl (SOps.skip rfl (SOps.skip rfl (SOps.pick rfl rfl (SOps.nil ?_)))))))
     refine SCode.cond rfl (fun h => by cases h) (fun _ => ?_)
     refine SCode.exit ?_
     exact ⟨0, St.Le.of ⟨rfl, rfl, rfl, rfl, rfl, (by show some _ = some _; rw [hLs, lstA_end (fun h => by first | (exfalso; omega) | simp_all)]), trivial⟩⟩
   ·intro _
    obtain ⟨hiL, hLn, hLr, hO2⟩ := hO.yes hd hil hei rfl
    refine SCode.seq (SCode.seqR (SOps.move rfl (SOps.assign rfl (SOps.nil (SCode.block (SCode.loop1 (fun (j : Nat) => (⟨59, [(0, DInts cs), (1, .fn fe ce), (2, .v (.int .i64 nv)), (3, .fn fl cl), (8, .v (.int .i64 (i : Int))), (9, .v (.int .i64 (((lstA e nv (cs.drop i) i i) : Nat) : Int))), (11, .v (.int .i64 ((j : Nat) : Int)))], S j⟩ : St)) (fun (j : Nat) => i ≤ j ∧ j ≤ (lstA e nv (cs.drop i) i i) + 1) (fun (j : Nat) => (lstA e nv (cs.drop i) i i) + 1 - j) (i) (by exact ⟨Nat.le_refl _, by omega⟩) (St.Le.of ⟨(by first | rfl | (show some _ = some _; simp)), (by first | rfl | (show some _ = some _; simp)), (by first | rfl | (show some _ = some _; simp)), (by first | rfl | (show some _ = some _; simp)), (by first | rfl | (show some _ = some _; simp)), (by first | rfl | (show some _ = some _; simp)), (by first | rfl | (show some _ = some _; simp)), trivial⟩ rfl (by first | rfl | (simp))) ?_))))))
    rintro j ⟨hij, hjL⟩
    refine SCode.seq (SCode.seqR (SOps.move rfl (SOps.move rfl (SOps.bin rfl rfl rfl (SOps.nil ?_)))))
    refine SCode.cond rfl (fun hc6 => ?_) (fun hc6 => ?_)
    ·try simp only [nmL] at hc6
     refine SCode.skip ?_
     show SCode _ _ _ _
     refine SCode.seq (SCode.block (SCode.region (SOps.move rfl (SOps.move rfl ?_))))
     refine SOps.callV (H := S j) (G := []) rfl rfl (hfl j (hLr j (by omega) (by omega)) (by omega)) (List.append_nil _).symm (fun d H h => ?_)
     subst h
     rw [List.append_nil]
     refine SOps.nil ?_
     show SCode _ _ _ _
     refine SCode.region (SOps.move rfl (SOps.addI rfl rfl (by first | omega | (simp only [lenB]; omega)) (by first | omega | (simp only [lenB]; omega)) (SOps.assign rfl (SOps.nil ?_))))
     exact ⟨j + 1, ⟨by omega, by omega⟩, by omega, St.Le.of ⟨rfl, rfl, rfl, rfl, rfl, rfl, (by show some _ = some _; simp), trivial⟩⟩
    ·try simp only [nmL] at hc6
     refine SCode.exit ?_
     show SCode _ _ _ _
     refine SCode.region (SOps.move rfl (SOps.addI rfl rfl (by first | omega | (simp only [lenB]; omega)) (by first | omega | (simp only [lenB]; omega)) (SOps.assign rfl (SOps.nil ?_))))
     obtain rfl : j = (lstA e nv (cs.drop i) i i) + 1 := by omega
     exact ⟨(lstA e nv (cs.drop i) i i) + 1, ⟨by omega, hO2⟩, by omega, St.Le.of ⟨rfl, rfl, rfl, rfl, (by show some _ = some _; simp), trivial⟩⟩
 ·try simp only [nmL] at hc1
  refine SCode.exit ?_
  exact ⟨_, Res.none, by show S _ = S _; congr 1; omega⟩
end Go.GH
namespace Go.GH
open Go Go.Proofs
variable {E : Env}
theorem elemB_21_1_4 : elemB Tryz.prog 21 1 4 = true := by kernel_rfl
theorem zeroIs_21 : zeroIs Tryz.prog 21 (.int .i32 0) := by unfold zeroIs; kernel_rfl
theorem SOps.freezeAccIn0 {C : Ctx} {ops : Array Oper} {l : List Oper} {R : St → Prop} {st : St} {r : Nat × DO} {b T sz e s2 kw : Nat} {W : List (List DV)} (hp : C.pu = true) (hh : st.heap = [r] ++ (((b, .row T sz [[accD s2 kw W]]) :: accH e s2 kw W) ++ []))
    (h : SOps C ops l ⟨st.n, st.slots, [r, (b, .row T sz [[.isl false s2 W]])]⟩ R) : SOps C ops l st R := SOps.freezeAccIn hp hh h
theorem rowL_eq {b : Nat} {l m : List Int} (h : l = m) : [(b, DO.row 3 1 (l.map encI))] = [(b, DO.row 3 1 (m.map encI))] := by rw [h]
theorem bTurnN (lv : List Int) (least : Int) (ord : List Nat) (b : Nat) {n : Nat} (h : ord.length = n) (hn : ord.length ≤ 1048576) (ho : ∀ x ∈ ord, x < lv.length) : GCall Tryz.prog E 140 [.sl b 1 0 n, DInts lv, .v (.int .i64 least)] [(b, .row 3 1 (ord.map encN))] (fun d H => d = .v (.tuple #[]) ∧ H = [(b, .row 3 1 ((turnL (lvAt lv least) ord).map encN))]) := h ▸ bTurn lv least ord b hn ho
theorem ordX_nil {base : Int} {s : ByteArray} (h : (levX base s).map encI = []) : ordX base s = [] := by
  rw [ordX_eq, List.map_eq_nil_iff.1 h]; rfl
theorem levX_bad {base : Int} {s : ByteArray} (h : utf8R s = false) : levX base s = [] := by unfold levX; rw [if_neg (by simp [h])]
theorem levX_ok {base : Int} {s : ByteArray} (h : utf8R s = true) : levX base s = levels base (runes s) := by unfold levX; rw [if_pos h]
theorem bE0 (c : Int)  : GCall Tryz.prog E 175 [.v (.int .i64 c)] [] (fun d H => d = .v (.bool (e0 c)) ∧ H = []) := by
 refine GCall.body (C := ⟨Tryz.prog, E, true⟩) Tryz.func175 rfl (fun _ => rfl) (by kernel_rfl) rfl ?_
 refine SCode.seqR (SOps.assign rfl (SOps.nil (SCode.seqR (SOps.move rfl (SOps.bin rfl rfl rfl (SOps.assign rfl (SOps.nil (SCode.ret ?_))))))))
 exact ⟨_, Res.one (.tmp rfl), rfl, rfl⟩
theorem bE1 (c : Int)  : GCall Tryz.prog E 177 [.v (.int .i64 c)] [] (fun d H => d = .v (.bool (e1 c)) ∧ H = []) := by
 refine GCall.body (C := ⟨Tryz.prog, E, true⟩) Tryz.func177 rfl (fun _ => rfl) (by kernel_rfl) rfl ?_
 refine SCode.seqR (SOps.assign rfl (SOps.nil (SCode.seqR (SOps.move rfl (SOps.bin rfl rfl rfl (SOps.move rfl ?_))))))
 refine SOps.caseB 5 rfl (fun hb1 => ?_) (fun hb1 => ?_)
 ·try simp only [nmL] at hb1
  refine SOps.skip rfl (SOps.skip rfl (SOps.pick rfl rfl (SOps.assign rfl (SOps.nil (SCode.ret ?_)))))
  exact ⟨_, Res.one (.tmp rfl), congrArg (fun z => DV.v (.bool z)) (by unfold e1; first | (simp_all; done) | (rw [decide_eq_false (by assumption), Bool.false_or, Bool.eq_iff_iff]; simp)), rfl⟩
 ·try simp only [nmL] at hb1
  refine SOps.move rfl (SOps.bin rfl rfl rfl (SOps.pick rfl rfl (SOps.assign rfl (SOps.nil (SCode.ret ?_)))))
  exact ⟨_, Res.one (.tmp rfl), congrArg (fun z => DV.v (.bool z)) (by unfold e1; first | (simp_all; done) | (rw [decide_eq_false (by assumption), Bool.false_or, Bool.eq_iff_iff]; simp)), rfl⟩
theorem bL2 (cs lv : List Int) (b n i : Nat) (hl : lv.length = n) (hi : i < n) (hc : i < cs.length) : GCall Tryz.prog E 176 [.v (.int .i64 ((i : Nat) : Int)), .ipin [.sl b 1 0 n], .ipin [DInts cs]] [(b, .row 3 1 (lv.map encI))] (fun d H => H = [(b, .row 3 1 ((lv.set i (if cs.getD i 0 = 3 then 2 else 1)).map encI))]) := by
 have hgd : cs.getD i 0 = cs[i] := by simp [hc]
 refine GCall.body (C := ⟨Tryz.prog, E, false⟩) Tryz.func176 rfl (fun h => by cases h) (by kernel_rfl) rfl ?_
 refine SCode.seqR (SOps.loadPin rfl flatB_98 (SOps.move rfl (SOps.indexS (i) rfl rfl sliceB_98_3_1 (by first | omega | (simp only [lenB]; omega)) (by first | omega | (simp only [lenB]; omega)) (SOps.storeK 0 (i) rfl rfl oneB_3 rfl (by first | omega | (simp only [lenB]; omega)) (by first | omega | (simp; done) | (simp; omega)) rfl (fun _ => rfl) (SOps.nil (SCode.seqR (SOps.loadPin rfl flatB_98 (SOps.move rfl (SOps.indexM (i) rfl rfl sliceB_98_3_1 (by first | omega | (simp only [lenB]; omega)) (by first | omega | (simp only [lenB]; omega)) (SOps.loadPin rfl flatB_3 (SOps.bin rfl rfl rfl (SOps.nil ?_))))))))))))
 refine SCode.cond rfl (fun hc1 => ?_) (fun hc1 => ?_)
 ·try simp only [nmL] at hc1
  refine SCode.region (SOps.loadPin rfl flatB_98 (SOps.move rfl (SOps.indexS (i) rfl rfl sliceB_98_3_1 (by first | omega | (simp only [lenB]; omega)) (by first | omega | (simp only [lenB]; omega)) (SOps.storeK 0 (i) rfl rfl oneB_3 rfl (by first | omega | (simp only [lenB]; omega)) (by first | omega | (simp; done) | (simp; omega)) rfl (fun _ => rfl) (SOps.nil ?_)))))
  first
   | exact ⟨_, Res.none, rowL_eq (l := (lv.set i 1).set i 2) (by rw [hgd, if_pos (by simp_all), List.set_set])⟩
   | exact ⟨_, Res.none, rowL_eq (l := lv.set i 1) (by rw [hgd, if_neg (by simp_all)])⟩
 ·try simp only [nmL] at hc1
  refine SCode.skip ?_
  first
   | exact ⟨_, Res.none, rowL_eq (l := (lv.set i 1).set i 2) (by rw [hgd, if_pos (by simp_all), List.set_set])⟩
   | exact ⟨_, Res.none, rowL_eq (l := lv.set i 1) (by rw [hgd, if_neg (by simp_all)])⟩
theorem bL4 (lv : List Int) (b n i : Nat) (hl : lv.length = n) (hi : i < n) : GCall Tryz.prog E 178 [.v (.int .i64 ((i : Nat) : Int)), .ipin [.sl b 1 0 n]] [(b, .row 3 1 (lv.map encI))] (fun d H => H = [(b, .row 3 1 ((lv.set i 2).map encI))]) := by
 refine GCall.body (C := ⟨Tryz.prog, E, false⟩) Tryz.func178 rfl (fun h => by cases h) (by kernel_rfl) rfl ?_
 refine SCode.region (SOps.loadPin rfl flatB_98 (SOps.move rfl (SOps.indexS (i) rfl rfl sliceB_98_3_1 (by first | omega | (simp only [lenB]; omega)) (by first | omega | (simp only [lenB]; omega)) (SOps.storeK 0 (i) rfl rfl oneB_3 rfl (by first | omega | (simp only [lenB]; omega)) (by first | omega | (simp; done) | (simp; omega)) rfl (fun _ => rfl) (SOps.nil ?_)))))
 exact ⟨_, Res.none, by rw [List.map_set]; rfl⟩
theorem GCall.«to» {P : Program} {E : Env} {f : FuncId} {ds : List DV} {H H1 H2 : DHeap} (h : GCall P E f ds H (fun d H' => H' = H1)) (e : H1 = H2) : GCall P E f ds H (fun d H' => H' = H2) := e ▸ h
theorem GCall.fr {P : Program} {E : Env} {f : FuncId} {ds : List DV} {H H1 : DHeap} {R : DV → DHeap → Prop} (h : GCall P E f ds H R) (e : H = H1) : GCall P E f ds H1 R := e ▸ h
theorem bRun0 (b : Nat) (rs : List Int) (hn : rs.length ≤ 1048576) : GCall Tryz.prog E 174 [DInts (rs.map clsR), .fn 175 [], .v (.int .i64 1), .fn 176 [.ipin [.sl b 1 0 rs.length], .ipin [DInts (rs.map clsR)]]] [(b, .row 3 1 ((List.replicate rs.length (0 : Int)).map encI))] (fun d H => H = [(b, .row 3 1 ((levels 0 rs).map encI))]) := by
  have h := bRaise (E := E) (fe := 175) (fl := 176) (ce := []) (cl := [.ipin [.sl b 1 0 rs.length], .ipin [DInts (rs.map clsR)]]) e0 1 (rs.map clsR) (fun j => [(b, .row 3 1 ((lvTo 0 (fun j => if ((rs.map clsR).getD j 0) = 3 then 2 else 1) (raiseK e0 1 0 (rs.map clsR)) rs.length j).map encI))]) (by simpa using hn) rfl (fun c => bE0 c)
    (fun k hk hkl => GCall.«to» (bL2 (rs.map clsR) _ b rs.length k (lvTo_len _ _ _ _ _) (by simpa using hkl) hkl) (rowL_eq (lvTo_yes hk (by simpa using hkl)))) (fun k hk => rowL_eq (lvTo_no hk))
  refine GCall.fr (GCall.«to» h (rowL_eq ?_)) (rowL_eq (lvTo_zero _ _ _ _))
  rw [List.length_map]; exact levels_zero rs
theorem bRun1 (b : Nat) (rs : List Int) (hn : rs.length ≤ 1048576) {base : Int} (hb : ¬ base = 0) : GCall Tryz.prog E 174 [DInts (rs.map clsR), .fn 177 [], .v (.int .i64 2), .fn 178 [.ipin [.sl b 1 0 rs.length]]] [(b, .row 3 1 ((List.replicate rs.length (1 : Int)).map encI))] (fun d H => H = [(b, .row 3 1 ((levels base rs).map encI))]) := by
  have h := bRaise (E := E) (fe := 177) (fl := 178) (ce := []) (cl := [.ipin [.sl b 1 0 rs.length]]) e1 2 (rs.map clsR) (fun j => [(b, .row 3 1 ((lvTo 1 (fun _ => 2) (raiseK e1 2 0 (rs.map clsR)) rs.length j).map encI))]) (by simpa using hn) rfl (fun c => bE1 c)
    (fun k hk hkl => GCall.«to» (bL4 _ b rs.length k (lvTo_len _ _ _ _ _) (by simpa using hkl)) (rowL_eq (lvTo_yes hk (by simpa using hkl)))) (fun k hk => rowL_eq (lvTo_no hk))
  refine GCall.fr (GCall.«to» h (rowL_eq ?_)) (rowL_eq (lvTo_zero _ _ _ _))
  rw [List.length_map]; exact levels_one hb rs
def OneOK (ys : List Int) (n i : Nat) : Prop := ys.length = n ∧ ∀ j, j < i → ys[j]? = some 1
theorem OneOK.step {ys : List Int} {n i : Nat} (h : OneOK ys n i) (hi : i < n) : OneOK (ys.set i 1) n (i + 1) :=
  ⟨by rw [List.length_set]; exact h.1, fun j hj => by
    rw [List.getElem?_set]
    by_cases e : i = j
    · subst e; rw [if_pos rfl, if_pos (by rw [h.1]; exact hi)]
    · rw [if_neg e]; exact h.2 j (by omega)⟩
theorem OneOK.fin {ys : List Int} {n i : Nat} (h : OneOK ys n i) (hi : n ≤ i) : ys = List.replicate n 1 := by
  apply List.ext_getElem?
  intro j
  by_cases hj : j < n
  · rw [h.2 j (by omega), List.getElem?_replicate, if_pos hj]
  · rw [List.getElem?_eq_none (by rw [h.1]; omega), List.getElem?_eq_none (by simp; omega)]

theorem bLevels (hV : VS E) (base : Int) (s : ByteArray) (hs : s.size ≤ 1048576) : GCall Tryz.prog E 139 [.v (.int .i64 base), .v (.string s)] [] (fun d H => d = DInts (levX base s) ∧ H = []) := by
 have hrl := runes_len s
 refine GCall.body (C := ⟨Tryz.prog, E, true⟩) Tryz.func139 rfl (fun _ => rfl) (by kernel_rfl) rfl ?_
 refine SCode.seqR (SOps.assign rfl (SOps.nil (SCode.seq (SCode.seqR (SOps.move rfl (SOps.callP (hV _) rfl ?_))))))
 rintro _ rfl
 refine SOps.un rfl rfl (SOps.nil ?_)
 refine SCode.cond rfl (fun hc1 => ?_) (fun hc1 => ?_)
 ·try simp only [nmL] at hc1
  refine SCode.seqR (SOps.assign rfl (SOps.nil (SCode.nilIsl (t := 4) (sz := 1) rfl (SCode.ret ?_))))
  exact ⟨_, Res.one (.tmp rfl), by rw [levX_bad (by simp_all)]; rfl, rfl⟩
 ·try simp only [nmL] at hc1
  refine SCode.skip ?_
  show SCode _ _ _ _
  refine SCode.seqR ?_
  refine SOps.alloc (sz := 1) zeroIs_98 (fun b0 hb_0 => ?_)
  refine SOps.nil (SCode.seq (SCode.seqR (SOps.move rfl ?_)))
  refine SOps.rangeStr rfl strB_9 (fun b1 hb_1 => ?_)
  refine SOps.nil (SCode.block (SCode.loop4 (fun (p : Nat) (b : Nat) (rs : List Int) (kw : Nat) => (⟨45, [(0, .v (.int .i64 base)), (5, .ref b0 0), (14, .it b)], [(b, .iter s p)] ++ (((b0, DO.row 98 1 [[accD 1 kw ((rs.map clsR).map encI)]]) :: accH 3 1 kw ((rs.map clsR).map encI)) ++ [])⟩ : St)) (fun (p : Nat) (b : Nat) (rs : List Int) (kw : Nat) => rs.length ≤ p ∧ rs ++ runesAt s p = runes s) (fun (p : Nat) (b : Nat) (rs : List Int) (kw : Nat) => s.size - p) (0) (b1) ([]) (0) (by exact ⟨Nat.le_refl _, rfl⟩) (St.Le.of ⟨(by first | rfl | (show some _ = some _; simp)), (by first | rfl | (show some _ = some _; simp)), (by first | rfl | (show some _ = some _; simp)), trivial⟩ rfl (by first | rfl | (simp))) ?_))
  rintro p b rs kw ⟨hl, hf⟩
  refine SCode.seqR ?_
  refine SOps.next 0 rfl rfl (fun hn2 => ?_) (fun hn2 => ?_) (by first | omega | (simp only [lenB]; omega) | (simp only [List.length_map, lenB]; omega) | (simp; done))
  ·refine SOps.extract rfl rfl (SOps.nil (SCode.seq ?_))
   refine SCode.cond rfl (fun _ => ?_) (fun h => by cases h)
   refine SCode.skip ?_
   show SCode _ _ _ _
   refine SCode.block (SCode.seqR (SOps.extract rfl rfl (SOps.assign rfl (SOps.nil ?_))))
   have hlk : rs.length < 1048576 := by omega
   apply SCode.drawG 7 [some 18, some 19, some 20, some 21, some 22, none] [[.inr 5], [.inr 7], [.inl 1], [.inl 2], [.inl 0, .inl 3], [.inr 5, .inl 4]] [[0, 4, 5]] [some (0, 0), none, none, none, some (0, 1), some (0, 2)] [[], [], [], [], [4], []] ([(b, .iter s (p + (Utf8.decode s p).2))]) [⟨[0, 4, 5], fun ids c => match c with | 0 => (b0, DO.row 98 1 [[accD 1 kw ((rs.map clsR).map encI)]]) :: accH 3 1 kw ((rs.map clsR).map encI) | 1 => (b0, DO.row 98 1 [[accD 1 kw ((rs.map clsR).map encI)]]) :: accH 3 1 kw ((rs.map clsR).map encI) | 2 => (b0, DO.row 98 1 [[accD 1 kw ((rs.map clsR).map encI)]]) :: accH 3 1 (ids.getD 1 0) (((rs.map clsR).map encI) ++ [encI (clsR ((Utf8.decode s p).1 : Int))]) | _ => (b0, DO.row 98 1 [[accD 1 (ids.getD 1 0) (((rs.map clsR).map encI) ++ [encI (clsR ((Utf8.decode s p).1 : Int))])]]) :: accH 3 1 (ids.getD 1 0) (((rs.map clsR).map encI) ++ [encI (clsR ((Utf8.decode s p).1 : Int))])⟩] mixed_
   ·kernel_rfl
   ·rfl
   ·exact fun _ => .refl _
   ·apply GOk.act [] (fun ids => some (18, accD 1 kw ((rs.map clsR).map encI)))
    ·rfl
    ·rfl
    ·rfl
    ·exact fun b => (NeedG.inr _ rfl NeedG.nil)
    ·intro b rest ext
     refine SOps.loadRef 1 0 0 rfl flatB_98 rfl rfl rfl rfl ?_
     exact SOps.nil ⟨b, fun _ _ => rfl, ⟨rfl, fun t d h => .inl h, _, .refl _, .refl _⟩⟩
    apply GOk.rd 19
    ·rfl
    ·exact fun b => (NeedG.inr _ rfl NeedG.nil)
    ·intro b rest ext
     refine SOps.move rfl ?_
     exact SOps.nil rfl
    apply GOk.rd 20
    ·rfl
    ·exact fun b => (NeedG.inl 0 _ _ rfl rfl rfl NeedG.nil)
    ·intro b rest ext
     refine SOps.callP (bClass _) rfl ?_
     rintro _ rfl
     exact SOps.nil rfl
    apply GOk.rd 21
    ·rfl
    ·exact fun b => (NeedG.inl 0 _ _ rfl rfl rfl NeedG.nil)
    ·intro b rest ext
     refine SOps.litF rfl sliceB_98_3_1 zeroIs_3 rfl ?_
     exact SOps.nil rfl
    apply GOk.act [4] (fun ids => some (22, accD 1 (ids.getD 0 0) (((rs.map clsR).map encI) ++ [encI (clsR ((Utf8.decode s p).1 : Int))])))
    ·rfl
    ·rfl
    ·rfl
    ·exact fun b => (NeedG.inl 3 _ _ rfl rfl rfl (NeedG.inl 0 _ _ rfl rfl rfl NeedG.nil))
    ·intro b rest ext
     refine SOps.appendAcc [_, _] _ sliceB_98_3_1 elemB_3_1_8 rfl rfl rfl SrcD.isl (by simp) (by first | (simp [lenB] <;> (first | omega | (simp only [lenB]; omega) | (simp only [List.length_map, lenB]; omega) | (simp; done))) | (simp only [lenB]; (first | omega | (simp only [lenB]; omega) | (simp only [List.length_map, lenB]; omega) | (simp; done)))) (by first | (simp <;> (first | omega | (simp only [lenB]; omega) | (simp only [List.length_map, lenB]; omega) | (simp; done))) | (first | omega | (simp only [lenB]; omega) | (simp only [List.length_map, lenB]; omega) | (simp; done))) (fun b2 => ?_)
     exact SOps.nil ⟨fun k => if k = 4 then b2 else b k, fun k hk => if_neg hk, ⟨rfl, fun t d h => .inl h, _, .refl _, .refl _⟩⟩
    apply GOk.act [] (fun _ => none)
    ·rfl
    ·rfl
    ·rfl
    ·exact fun b => (NeedG.inr _ rfl (NeedG.inl 0 _ _ rfl rfl rfl NeedG.nil))
    ·intro b rest ext
     refine SOps.storeM 1 rfl rfl oneB_98 rfl ?_ (hd := accD_one _ _ _)
     exact SOps.nil ⟨b, fun _ _ => rfl, ⟨rfl, fun t d h => .inl h, _, .refl _, .refl _⟩⟩
    exact GOk.nil
   ·exact fun _ => rfl
   ·intro ids
    exact ⟨p + (Utf8.decode s p).2, b, rs ++ [((Utf8.decode s p).1 : Int)], ids 4, ⟨by have := decode_w s p; simp; omega, by rw [← hf, runesAt_lt hn2, List.append_assoc]; rfl⟩, by have := decode_w s p; omega, St.Le.of ⟨rfl, rfl, rfl, trivial⟩ rfl (by rw [List.map_append, List.map_append]; rfl)⟩
  ·refine SOps.extract rfl rfl (SOps.nil (SCode.seq ?_))
   refine SCode.cond rfl (fun h => by cases h) (fun _ => ?_)
   refine SCode.exit ?_
   show SCode _ _ _ _
   refine SCode.seqR ?_
   obtain rfl : rs = runes s := by rw [← hf, runesAt_ge hn2, List.append_nil]
   refine SOps.freezeAccIn0 rfl rfl (SOps.freezeRef (t := 5) 1 0 rfl rfl rfl rfl rfl (SOps.loadPin rfl flatB_98 (SOps.lenM rfl sliceB_98_3_1 ?_)))
   refine SOps.makeK (f := encI) ((runes s).length) (0) sliceB_98_3_1 elemB_3_1_8 zeroIs_3 rfl rfl (by first | omega | (simp only [lenB]; omega) | (simp only [List.length_map, lenB]; omega) | (simp; done)) (by first | omega | (simp only [lenB]; omega) | (simp only [List.length_map, lenB]; omega) | (simp; done)) rfl (by first | omega | (simp only [lenB]; omega) | (simp only [List.length_map, lenB]; omega) | (simp; done)) (by simp only [lenB]; omega) (fun b3 hb_3 => ?_)
   refine SOps.alloc (sz := 1) zeroIs_98 (fun b4 hb_4 => ?_)
   refine SOps.storeM 0 rfl rfl oneB_98 rfl (SOps.freezeRef (t := 8) 0 0 rfl rfl rfl rfl rfl (SOps.nil (SCode.seq (SCode.seqR (SOps.move rfl (SOps.bin rfl rfl rfl (SOps.nil ?_)))))))
   refine SCode.cond rfl (fun hc3 => ?_) (fun hc3 => ?_)
   ·try simp only [nmL] at hc3
    refine SCode.seqR ?_
    obtain rfl := hc3
    refine SOps.loadPin rfl flatB_98 (SOps.makeFunc rfl ?_)
    refine SOps.callH [] _ [_] (bRun0 b3 _ (by omega)) rfl rfl (fun d H hR => ?_)
    subst hR
    refine SOps.nil (SCode.seqR (SOps.loadPin rfl flatB_98 (SOps.freezeS (t := 31) 0 rfl rfl rfl (by simp [levels_len]) (SOps.assign rfl (SOps.nil (SCode.drop (SCode.ret ?_)))))))
    exact ⟨_, Res.one (.tmp rfl), by rw [levX_ok (by simp_all)] <;> rfl, rfl⟩
   ·try simp only [nmL] at hc3
    refine SCode.skip ?_
    show SCode _ _ _ _
    refine SCode.seq (SCode.seqR (SOps.loadPin rfl flatB_98 (SOps.lenSl rfl sliceB_98_3_1 (SOps.move rfl (SOps.nil (SCode.block (SCode.loop2 (fun (i : Nat) (ys : List Int) => (⟨45, [(0, .v (.int .i64 base)), (5, .ipin [DInts ((runes s).map clsR)]), (8, .ipin [.sl b3 1 0 (runes s).length]), (33, .v (.int .i64 (((runes s).length : Nat) : Int))), (34, .v (.int .i64 (i : Int)))], [(b3, .row 3 1 (ys.map encI)), (b, .iter s p)]⟩ : St)) (fun (i : Nat) (ys : List Int) => i ≤ (runes s).length ∧ OneOK ys (runes s).length i) (fun (i : Nat) (ys : List Int) => (runes s).length - i) (0) ((List.replicate (runes s).length 0)) (by exact ⟨Nat.zero_le _, by simp, fun j hj => absurd hj (Nat.not_lt_zero _)⟩) (St.Le.of ⟨(by first | rfl | (show some _ = some _; simp)), (by first | rfl | (show some _ = some _; simp)), (by first | rfl | (show some _ = some _; simp)), (by first | rfl | (show some _ = some _; simp)), (by first | rfl | (show some _ = some _; simp)), trivial⟩ rfl (by first | rfl | (simp))) ?_)))))))
    rintro i ys ⟨hi, hO⟩
    have hyl := hO.1
    refine SCode.seqR (SOps.bin rfl rfl rfl (SOps.nil (SCode.seq ?_)))
    refine SCode.cond rfl (fun hc4 => ?_) (fun hc4 => ?_)
    ·try simp only [nmL] at hc4
     refine SCode.skip ?_
     show SCode _ _ _ _
     refine SCode.seq (SCode.block (SCode.seqR (SOps.move rfl (SOps.assign rfl (SOps.nil (SCode.region (SOps.loadPin rfl flatB_98 (SOps.move rfl (SOps.indexS (i) rfl rfl sliceB_98_3_1 (by first | omega | (simp only [lenB]; omega) | (simp only [List.length_map, lenB]; omega) | (simp; done)) (by first | omega | (simp only [lenB]; omega) | (simp only [List.length_map, lenB]; omega) | (simp; done)) (SOps.storeK 0 (i) rfl rfl oneB_3 rfl (by first | omega | (simp only [lenB]; omega) | (simp only [List.length_map, lenB]; omega) | (simp; done)) (by first | omega | (simp; done) | (simp; omega)) rfl (fun _ => rfl) (SOps.nil ?_)))))))))))
     show SCode _ _ _ _
     refine SCode.region (SOps.addI rfl rfl (by first | omega | (simp only [lenB]; omega) | (simp only [List.length_map, lenB]; omega) | (simp; done)) (by first | omega | (simp only [lenB]; omega) | (simp only [List.length_map, lenB]; omega) | (simp; done)) (SOps.move rfl (SOps.nil ?_)))
     exact ⟨i + 1, ys.set i 1, ⟨by omega, hO.step (by omega)⟩, by omega, St.Le.of ⟨rfl, rfl, rfl, rfl, (by first | rfl | (show some _ = some _; simp; done) | (show some _ = some _; congr 3; omega)), trivial⟩⟩
    ·try simp only [nmL] at hc4
     refine SCode.exit ?_
     show SCode _ _ _ _
     refine SCode.seqR ?_
     obtain rfl := hO.fin (by omega)
     refine SOps.loadPin rfl flatB_98 (SOps.makeFunc rfl ?_)
     refine SOps.callH [] _ [_] (bRun1 b3 _ (by omega) hc3) rfl rfl (fun d H hR => ?_)
     subst hR
     refine SOps.nil (SCode.seqR (SOps.loadPin rfl flatB_98 (SOps.freezeS (t := 44) 0 rfl rfl rfl (by simp [levels_len]) (SOps.assign rfl (SOps.nil (SCode.drop (SCode.ret ?_)))))))
     exact ⟨_, Res.one (.tmp rfl), by rw [levX_ok (by simp_all)] <;> rfl, rfl⟩
theorem bOrder (hV : VS E) (base : Int) (s : ByteArray) (hs : s.size ≤ 1048576) : GCall Tryz.prog E 102 [.v (.int .i64 base), .v (.string s)] [] (fun d H => d = DNats (ordX base s) ∧ H = []) := by
 have hrl := runes_len s
 have hll := levX_len base s
 refine GCall.body (C := ⟨Tryz.prog, E, true⟩) Tryz.func102 rfl (fun _ => rfl) (by kernel_rfl) rfl ?_
 refine SCode.seqR (SOps.assign rfl (SOps.nil (SCode.seqR (SOps.move rfl (SOps.move rfl (SOps.callP (bLevels hV _ _ (by omega)) rfl ?_))))))
 rintro _ rfl
 refine SOps.assign rfl (SOps.nil (SCode.seq (SCode.seqR (SOps.move rfl ?_))))
 refine SOps.eqNilS Tryz.underlying98 rfl rfl (fun c0 hz0 => ?_)
 refine SOps.nil ?_
 refine SCode.cond rfl (fun hc1 => ?_) (fun hc1 => ?_)
 ·try simp only [nmL] at hc1
  refine SCode.seqR (SOps.assign rfl (SOps.nil (SCode.nilIsl (t := 4) (sz := 1) rfl (SCode.ret ?_))))
  exact ⟨_, Res.one (.tmp rfl), by rw [ordX_nil (hz0 hc1)]; rfl, rfl⟩
 ·try simp only [nmL] at hc1
  refine SCode.skip ?_
  show SCode _ _ _ _
  refine SCode.seqR (SOps.move rfl (SOps.lenM rfl sliceB_98_3_1 ?_))
  refine SOps.makeK (f := encN) ((levX base s).length) (0) sliceB_98_3_1 elemB_3_1_8 zeroIs_3 rfl rfl (by first | omega | (simp only [lenB]; omega) | (simp only [List.length_map, lenB]; omega) | (simp; done)) (by first | omega | (simp only [lenB]; omega) | (simp only [List.length_map, lenB]; omega) | (simp; done)) rfl (by first | omega | (simp only [lenB]; omega) | (simp only [List.length_map, lenB]; omega) | (simp; done)) (by simp only [lenB]; omega) (fun b1 hb_1 => ?_)
  refine SOps.assign rfl (SOps.nil (SCode.seq (SCode.seqR (SOps.move rfl (SOps.lenSl rfl sliceB_98_3_1 (SOps.move rfl (SOps.nil (SCode.block (SCode.loop2 (fun (i : Nat) (ys : List Nat) => (⟨33, [(5, DInts (levX base s)), (6, .sl b1 1 0 (levX base s).length), (17, .v (.int .i64 (((levX base s).length : Nat) : Int))), (18, .v (.int .i64 (i : Int)))], [(b1, .row 3 1 (ys.map encN))]⟩ : St)) (fun (i : Nat) (ys : List Nat) => i ≤ (levX base s).length ∧ NumOK ys (levX base s).length i) (fun (i : Nat) (ys : List Nat) => (levX base s).length - i) (0) ((List.replicate (levX base s).length 0)) (by exact ⟨Nat.zero_le _, by simp, fun j hj => absurd hj (Nat.not_lt_zero _)⟩) (St.Le.of ⟨(by first | rfl | (show some _ = some _; simp)), (by first | rfl | (show some _ = some _; simp)), (by first | rfl | (show some _ = some _; simp)), (by first | rfl | (show some _ = some _; simp)), trivial⟩ rfl (by first | rfl | (simp))) ?_)))))))))
  rintro i ys ⟨hi, hO⟩
  have hyl := hO.1
  refine SCode.seqR (SOps.bin rfl rfl rfl (SOps.nil (SCode.seq ?_)))
  refine SCode.cond rfl (fun hc2 => ?_) (fun hc2 => ?_)
  ·try simp only [nmL] at hc2
   refine SCode.skip ?_
   show SCode _ _ _ _
   refine SCode.seq (SCode.block (SCode.seqR (SOps.move rfl (SOps.assign rfl (SOps.nil (SCode.region (SOps.move rfl (SOps.move rfl (SOps.move rfl (SOps.indexS (i) rfl rfl sliceB_98_3_1 (by first | omega | (simp only [lenB]; omega) | (simp only [List.length_map, lenB]; omega) | (simp; done)) (by first | omega | (simp only [lenB]; omega) | (simp only [List.length_map, lenB]; omega) | (simp; done)) (SOps.storeK 0 (i) rfl rfl oneB_3 rfl (by first | omega | (simp only [lenB]; omega) | (simp only [List.length_map, lenB]; omega) | (simp; done)) (by first | omega | (simp; done) | (simp; omega)) rfl (fun _ => rfl) (SOps.nil ?_))))))))))))
   show SCode _ _ _ _
   refine SCode.region (SOps.addI rfl rfl (by first | omega | (simp only [lenB]; omega) | (simp only [List.length_map, lenB]; omega) | (simp; done)) (by first | omega | (simp only [lenB]; omega) | (simp only [List.length_map, lenB]; omega) | (simp; done)) (SOps.move rfl (SOps.nil ?_)))
   exact ⟨i + 1, ys.set i i, ⟨by omega, hO.step (by omega)⟩, by omega, St.Le.of ⟨rfl, rfl, rfl, (by first | rfl | (show some _ = some _; simp; done) | (show some _ = some _; congr 3; omega)), trivial⟩⟩
  ·try simp only [nmL] at hc2
   refine SCode.exit ?_
   show SCode _ _ _ _
   refine SCode.seqR ?_
   obtain rfl := hO.fin (by omega)
   refine SOps.move rfl (SOps.move rfl ?_)
   refine SOps.callH [] _ [] (bTurnN (levX base s) 2 (List.range (levX base s).length) b1 (by simp) (by simp; omega) (by intro x hx; simpa using hx)) rfl rfl (fun d H hR => ?_)
   obtain ⟨rfl, rfl⟩ := hR
   refine SOps.nil (SCode.seqR (SOps.move rfl (SOps.move rfl ?_)))
   refine SOps.callH [] _ [] (bTurnN (levX base s) 1 (turnL (lvAt (levX base s) 2) (List.range (levX base s).length)) b1 (by rw [turnL_len]; simp) (by rw [turnL_len]; simp; omega) (by intro x hx; have := turnL_mem hx; simpa using this)) rfl rfl (fun d H hR => ?_)
   obtain ⟨rfl, rfl⟩ := hR
   refine SOps.nil (SCode.seqR (SOps.move rfl (SOps.freezeS (t := 32) 0 rfl rfl rfl (by simp [turnL_len]) (SOps.assign rfl (SOps.nil (SCode.drop (SCode.ret ?_)))))))
   exact ⟨_, Res.one (.tmp rfl), by rw [ordX_eq] <;> rfl, rfl⟩
theorem visE_eq {base : Int} {s : ByteArray} : visE base s = encs ((ordX base s).map (fun i => (runes s).getD i 0)) := by
  unfold visE ordX
  split
  · rfl
  · rfl
theorem ordX_lt {base : Int} {s : ByteArray} {x : Nat} (h : x ∈ ordX base s) : x < (runes s).length := by
  unfold ordX at h
  split at h
  · exact orderL_lt h
  · cases h
theorem ordX_len (base : Int) (s : ByteArray) : (ordX base s).length ≤ (runes s).length := by
  unfold ordX
  split
  · rw [orderL_len]; omega
  · exact Nat.zero_le _
theorem bVisual (hV : VS E) (base : Int) (s : ByteArray) (hs : s.size ≤ 1048576) : GCall Tryz.prog E 67 [.v (.int .i64 base), .v (.string s)] [] (fun d H => d = .v (.string (visE base s)) ∧ H = []) := by
 have hrl := runes_len s
 have hol := ordX_len base s
 refine GCall.body (C := ⟨Tryz.prog, E, true⟩) Tryz.func67 rfl (fun _ => rfl) (by kernel_rfl) rfl ?_
 refine SCode.seqR (SOps.assign rfl (SOps.nil (SCode.seqR (SOps.move rfl (SOps.runesF rfl rfl strB_9 sliceB_94_21_1 intB_21_i32 (SOps.assign rfl (SOps.nil (SCode.seqR (SOps.assign rfl (SOps.nil (SCode.seq (SCode.seqR (SOps.move rfl (SOps.move rfl (SOps.callP (bOrder hV _ _ (by omega)) rfl ?_)))))))))))))))
 rintro _ rfl
 refine SOps.lenM rfl sliceB_98_3_1 (SOps.move rfl (SOps.nil (SCode.block (SCode.loop2 (fun (i : Nat) (kw : Nat) => (⟨29, [(5, DRunes (runes s)), (6, accD 1 kw ((((ordX base s).take i).map (fun i => (runes s).getD i 0)).map rcell)), (13, DNats (ordX base s)), (14, .v (.int .i64 (((ordX base s).length : Nat) : Int))), (15, .v (.int .i64 (i : Int)))], accH 21 1 kw ((((ordX base s).take i).map (fun i => (runes s).getD i 0)).map rcell) ++ []⟩ : St)) (fun (i : Nat) (kw : Nat) => i ≤ (ordX base s).length) (fun (i : Nat) (kw : Nat) => (ordX base s).length - i) (0) (0) (by exact Nat.zero_le _) (St.Le.of ⟨(by first | rfl | (show some _ = some _; simp)), (by first | rfl | (show some _ = some _; simp)), (by first | rfl | (show some _ = some _; simp)), (by first | rfl | (show some _ = some _; simp)), (by first | rfl | (show some _ = some _; simp)), trivial⟩ rfl (by first | rfl | (simp))) ?_))))
 rintro i kw hi
 refine SCode.seqR (SOps.bin rfl rfl rfl (SOps.nil (SCode.seq ?_)))
 refine SCode.cond rfl (fun hc1 => ?_) (fun hc1 => ?_)
 ·try simp only [nmL] at hc1
  refine SCode.skip ?_
  show SCode _ _ _ _
  refine SCode.seq (SCode.block (SCode.seqR (SOps.indexM (i) rfl rfl sliceB_98_3_1 (by first | omega | (simp only [lenB]; omega) | (simp only [List.length_map, lenB]; omega) | (simp; done)) (by first | omega | (simp only [lenB]; omega) | (simp only [List.length_map, lenB]; omega) | (simp; done)) (SOps.loadPin rfl flatB_3 (SOps.assign rfl (SOps.nil (SCode.region ?_)))))))
  have hio := ordX_lt (List.getElem_mem (show i < (ordX base s).length by omega))
  have hAQ : ((((ordX base s).take (i + 1)).map (fun i => (runes s).getD i 0)).map rcell) = ((((ordX base s).take i).map (fun i => (runes s).getD i 0)).map rcell) ++ [rcell ((runes s)[(ordX base s)[i]])] := by rw [List.take_succ_eq_append_getElem (by omega), List.map_append, List.map_append]; simp [hio]
  refine SOps.move rfl (SOps.move rfl (SOps.move rfl (SOps.indexM (((ordX base s)[i])) rfl rfl sliceB_94_21_1 (by first | omega | (simp only [lenB]; omega) | (simp only [List.length_map, lenB]; omega) | (simp; done)) (by first | omega | (simp only [lenB]; omega) | (simp only [List.length_map, lenB]; omega) | (simp; done)) (SOps.loadPin rfl flatB_21 (SOps.litF rfl sliceB_94_21_1 zeroIs_21 rfl ?_)))))
  refine SOps.appendAcc [] [] sliceB_94_21_1 elemB_21_1_4 rfl rfl rfl SrcD.isl (by simp) (by first | (simp [lenB] <;> (first | omega | (simp only [lenB]; omega) | (simp only [List.length_map, lenB]; omega) | (simp; done))) | (simp only [lenB]; (first | omega | (simp only [lenB]; omega) | (simp only [List.length_map, lenB]; omega) | (simp; done)))) (by first | (simp <;> (first | omega | (simp only [lenB]; omega) | (simp only [List.length_map, lenB]; omega) | (simp; done))) | (first | omega | (simp only [lenB]; omega) | (simp only [List.length_map, lenB]; omega) | (simp; done))) (fun b0 => ?_)
  refine SOps.assign rfl (SOps.nil ?_)
  show SCode _ _ _ _
  refine SCode.region (SOps.addI rfl rfl (by first | omega | (simp only [lenB]; omega) | (simp only [List.length_map, lenB]; omega) | (simp; done)) (by first | omega | (simp only [lenB]; omega) | (simp only [List.length_map, lenB]; omega) | (simp; done)) (SOps.move rfl (SOps.nil ?_)))
  exact ⟨i + 1, b0, by omega, by omega, St.Le.of ⟨rfl, (by show some _ = some _; rw [hAQ]; rfl), rfl, rfl, (by first | rfl | (show some _ = some _; congr 3; omega)), trivial⟩ rfl (by rw [hAQ] <;> rfl)⟩
 ·try simp only [nmL] at hc1
  refine SCode.exit ?_
  show SCode _ _ _ _
  refine SCode.seqR ?_
  obtain rfl : i = (ordX base s).length := by omega
  refine SOps.freezeAcc (t := 6) [] [] rfl rfl rfl (SOps.move rfl (SOps.convRunesStr rfl sliceB_94_21_1 intB_21_i32 strB_9 (by simp [lenB] <;> (first | omega | (simp only [lenB]; omega) | (simp only [List.length_map, lenB]; omega) | (simp; done))) (SOps.assign rfl (SOps.nil (SCode.ret ?_)))))
  exact ⟨_, Res.one (.tmp rfl), by rw [visE_eq, List.take_length], rfl⟩
theorem bLogical (hV : VS E) (base : Int) (s : ByteArray) (hs : s.size ≤ 1048576) : GCall Tryz.prog E 28 [.v (.int .i64 base), .v (.string s)] [] (fun d H => d = .v (.string (visE base s)) ∧ H = []) := by
 refine GCall.body (C := ⟨Tryz.prog, E, true⟩) Tryz.func28 rfl (fun _ => rfl) (by kernel_rfl) rfl ?_
 refine SCode.seqR (SOps.assign rfl (SOps.nil (SCode.seqR (SOps.move rfl (SOps.move rfl (SOps.callP (bVisual hV _ _ (by omega)) rfl ?_))))))
 rintro _ rfl
 refine SOps.assign rfl (SOps.nil (SCode.ret ?_))
 exact ⟨_, Res.one (.tmp rfl), rfl, rfl⟩
end Go.GH
namespace Go.GH
open Go
/-- What has been read. -/
structure RdS where
  out : List (List ByteArray)
  ws : List ByteArray
  cur : List Int
  bl : Bool
  en : Bool
end Go.GH
namespace Go.GH
open Go Go.Proofs
variable {E : Env}
end Go.GH
namespace Go.GH
open Go Go.Lib Go.Proofs
/-- A language: what the pages read, and the rest. -/
structure Lng where
  o : Nat → DV
  ho : ∀ k, (o k).one = true
  rtl : Bool
  alph : List Letter
  ons : List (List Int)
  ml : Int
  mr : Int
  san : List Rule
  stop : ByteArray
def encG (l : Lng) : List DV := [l.o 0, .v (.bool l.rtl), DLs l.alph, l.o 3, l.o 4, l.o 5, DOns l.ons, .v (.int .i64 l.ml), .v (.int .i64 l.mr), DRs l.san, l.o 10, l.o 11, l.o 12, l.o 13, l.o 14, l.o 15, l.o 16, l.o 17, l.o 18, l.o 19, l.o 20, l.o 21, l.o 22, l.o 23, l.o 24, l.o 25, l.o 26, l.o 27, l.o 28, .v (.string l.stop)]
theorem encG_one (l : Lng) : (encG l).all DV.one = true := by
  unfold encG
  simp only [List.all_cons, List.all_nil, l.ho, Bool.true_and, Bool.and_true]
  rfl
end Go.GH
namespace Go.GH
open Go Go.Proofs
variable {E : Env}
end Go.GH
namespace Go.GH
open Go
theorem look_upd {d : TypeDesc} {k k' : Value} {v : DV} (hk : isKey d k = true) (hk' : isKey d k' = true) : ∀ (es : List (Value × DV)), (∀ p ∈ es, isKey d p.1 = true) → lookupL (updL es k v) k' = if sameKey k' k then some v else lookupL es k'
  | [], _ => rfl
  | p :: es, hs => by
    have hp := hs p (List.mem_cons_self ..)
    have ih := look_upd (v := v) hk hk' es (fun q hq => hs q (List.mem_cons_of_mem _ hq))
    rw [updL]
    by_cases h : sameKey k p.1 = true
    · rw [if_pos h]
      have e := (sameKey_iff hk hp).1 h
      simp only [lookupL]
      rw [← e]
      split <;> rfl
    · rw [if_neg h]
      simp only [lookupL]
      rw [ih]
      by_cases h2 : sameKey k' p.1 = true
      · rw [if_pos h2, if_pos h2]
        have e := (sameKey_iff hk' hp).1 h2
        rw [if_neg]
        intro h3
        have e3 := (sameKey_iff hk' hk).1 h3
        exact h ((sameKey_iff hk hp).2 (e3.symm.trans e))
      · rw [if_neg h2, if_neg h2]
theorem keys_upd {d : TypeDesc} {k : Value} {v : DV} (hk : isKey d k = true) : ∀ (es : List (Value × DV)), (∀ p ∈ es, isKey d p.1 = true) → ∀ p ∈ updL es k v, isKey d p.1 = true
  | [], _, p, hp => by rw [updL, List.mem_singleton] at hp; subst hp; exact hk
  | q :: es, hs, p, hp => by
    rw [updL] at hp
    split at hp
    · rcases List.mem_cons.1 hp with rfl | hp
      · exact hk
      · exact hs p (List.mem_cons_of_mem _ hp)
    · rcases List.mem_cons.1 hp with rfl | hp
      · exact hs p (List.mem_cons_self ..)
      · exact keys_upd hk es (fun q hq => hs q (List.mem_cons_of_mem _ hq)) p hp
def KI (es : List (Value × DV)) : Prop := ∀ p ∈ es, isKey (.int .i32) p.1 = true
def KS (es : List (Value × DV)) : Prop := ∀ p ∈ es, isKey .string p.1 = true
def tT : DV := .v (.bool true)
/-- A set of runes. -/
structure SetI (es : List (Value × DV)) (ks : List Int) : Prop where
  keys : KI es
  look : ∀ r : Int, lookupL es (.int .i32 r) = (if ks.contains r then some () else none).map (fun _ => tT)
theorem SetI.nil : SetI [] [] := ⟨(fun p hp => by cases hp), fun r => rfl⟩
theorem SetI.add {es : List (Value × DV)} {ks : List Int} (h : SetI es ks) (r : Int) : SetI (updL es (.int .i32 r) tT) (ks ++ [r]) := by
  refine ⟨keys_upd rfl es h.keys, fun q => ?_⟩
  rw [look_upd (d := .int .i32) rfl rfl es h.keys, h.look]
  by_cases e : q = r
  · subst e; simp [sameKey]
  · simp [sameKey, e]
/-- A set of strings. -/
structure SetS (es : List (Value × DV)) (ks : List ByteArray) : Prop where
  keys : KS es
  look : ∀ s : ByteArray, lookupL es (.string s) = (if memS s ks then some () else none).map (fun _ => tT)
theorem SetS.nil : SetS [] [] := ⟨(fun p hp => by cases hp), fun r => rfl⟩
theorem SetS.add {es : List (Value × DV)} {ks : List ByteArray} (h : SetS es ks) (r : ByteArray) : SetS (updL es (.string r) tT) (ks ++ [r]) := by
  refine ⟨keys_upd rfl es h.keys, fun q => ?_⟩
  rw [look_upd (d := .string) rfl rfl es h.keys, h.look, memS_snoc]
  by_cases e : q = r
  · subst e; simp [sameKey]
  · have e2 : ¬ r = q := fun x => e x.symm
    simp [sameKey, e, e2]
/-- What strings are mapped to what f says. -/
structure MapS (f : ByteArray → ByteArray) (es : List (Value × DV)) (ks : List ByteArray) : Prop where
  keys : KS es
  look : ∀ s : ByteArray, lookupL es (.string s) = (if memS s ks then some (f s) else none).map (fun x => DV.v (.string x))
theorem MapS.nil (f : ByteArray → ByteArray) : MapS f [] [] := ⟨(fun p hp => by cases hp), fun r => rfl⟩
theorem MapS.add {f : ByteArray → ByteArray} {es : List (Value × DV)} {ks : List ByteArray} (h : MapS f es ks) (r : ByteArray) : MapS f (updL es (.string r) (.v (.string (f r)))) (ks ++ [r]) := by
  refine ⟨keys_upd rfl es h.keys, fun q => ?_⟩
  rw [look_upd (d := .string) rfl rfl es h.keys, h.look, memS_snoc]
  by_cases e : q = r
  · subst e; simp [sameKey]
  · have e2 : ¬ r = q := fun x => e x.symm
    simp [sameKey, e, e2]
theorem SetS.more {es : List (Value × DV)} {ks : List ByteArray} (h : SetS es ks) {r : ByteArray} (hr : memS r ks = true) : SetS es (ks ++ [r]) := by
  refine ⟨h.keys, fun q => ?_⟩
  rw [h.look, memS_snoc]
  by_cases e : r = q
  · subst e; rw [hr]; rfl
  · simp [e]
theorem take_next {α : Type} {l : List α} {i : Nat} (h : i < l.length) : l.take (i + 1) = l.take i ++ [l[i]] := by
  rw [List.take_succ, List.getElem?_eq_getElem h]; rfl
end Go.GH
namespace Go.GH
open Go
section
variable {C : Ctx} {st : St} {ops : Array Oper} {R : St → Prop}
end
end Go.GH
namespace Go.GH
open Go Go.Proofs
variable {E : Env}
theorem aggB_62_30 : aggB Tryz.prog 62 30 = true := by kernel_rfl
end Go.GH
namespace Go.GH
open Go Go.Proofs
def encW (ws : List ByteArray) : List DV := [DStrs ws]
section
variable {C : Ctx} {st : St} {ops : Array Oper} {R : St → Prop}
end
theorem g6 {x y z : Nat × DO} {A B X : DHeap} : [x, y] ++ ((z :: (A ++ B)) ++ X) = ([x, y, z] ++ A) ++ (B ++ X) := by simp
theorem g7 {x y z : Nat × DO} {A B X : DHeap} : [x, y] ++ ((z :: (A ++ B)) ++ X) = [x, y, z] ++ (A ++ (B ++ X)) := by simp
variable {E : Env}
end Go.GH
namespace Go.GH
open Go Go.Proofs
variable {E : Env}
theorem fieldB_62_1_1 : fieldB Tryz.prog 62 1 1 = true := by kernel_rfl
theorem sliceB_73_22_1 : sliceB Tryz.prog 73 22 1 = true := by kernel_rfl
def baseR (l : Lng) : Int := if l.rtl then 1 else 0
theorem jBase (l : Lng)  : GCall Tryz.prog E 68 [.agg (encG l)] [] (fun d H => d = .v (.int .i64 (baseR l)) ∧ H = []) := by
 refine GCall.body (C := ⟨Tryz.prog, E, true⟩) Tryz.func68 rfl (fun _ => rfl) (by kernel_rfl) rfl ?_
 refine SCode.seqR ?_
 refine SOps.boxAM rfl rfl ?_ (hd := encG_one l)
 refine SOps.assign rfl (SOps.nil (SCode.seq (SCode.seqR (SOps.fieldPin rfl fieldB_62_1_1 (SOps.loadPin rfl flatB_4 (SOps.nil ?_))))))
 refine SCode.cond rfl (fun hc1 => ?_) (fun hc1 => ?_)
 ·try simp only [nmL] at hc1
  refine SCode.seqR (SOps.assign rfl (SOps.nil (SCode.ret ?_)))
  exact ⟨_, Res.one (.tmp rfl), congrArg (fun z => DV.v (.int .i64 z)) (by unfold baseR; simp_all), rfl⟩
 ·try simp only [nmL] at hc1
  refine SCode.skip ?_
  show SCode _ _ _ _
  refine SCode.seqR (SOps.assign rfl (SOps.nil (SCode.ret ?_)))
  exact ⟨_, Res.one (.tmp rfl), congrArg (fun z => DV.v (.int .i64 z)) (by unfold baseR; simp_all), rfl⟩
abbrev DSS (l : List (List ByteArray)) : DV := .isl false 1 (l.map encW)
theorem blB_succ (n : Nat) : blB (n + 1) = blB n ++ sp1 := by
  apply ByteArray.ext
  apply Array.toList_inj.1
  rw [ByteArray.data_append, Array.toList_append]
  show List.replicate (n + 1) 32 = List.replicate n 32 ++ [32]
  rw [List.replicate_succ']
theorem q50Length (s : ByteArray)  : GCall Tryz.prog E 16 [.v (.string s)] [] (fun d H => d = .v (.int .i64 ((runes s).length : Int)) ∧ H = []) := by
 refine GCall.body (C := ⟨Tryz.prog, E, true⟩) Tryz.func16 rfl (fun _ => rfl) (by kernel_rfl) rfl ?_
 refine SCode.seqR (SOps.assign rfl (SOps.nil (SCode.seqR (SOps.move rfl (SOps.runesF rfl rfl strB_9 sliceB_94_21_1 intB_21_i32 (SOps.lenM rfl sliceB_94_21_1 (SOps.assign rfl (SOps.nil (SCode.ret ?_)))))))))
 exact ⟨_, Res.one (.tmp rfl), rfl, rfl⟩
theorem q50blanks (n : Nat) (hn : n ≤ 1048576) : GCall Tryz.prog E 46 [.v (.int .i64 (n : Int))] [] (fun d H => d = .v (.string (blB n)) ∧ H = []) := by
 refine GCall.body (C := ⟨Tryz.prog, E, true⟩) Tryz.func46 rfl (fun _ => rfl) (by kernel_rfl) rfl ?_
 refine SCode.seqR (SOps.assign rfl (SOps.nil (SCode.seqR (SOps.assign rfl (SOps.nil (SCode.seq (SCode.seqR (SOps.assign rfl (SOps.nil (SCode.block (SCode.loop1 (fun (i : Nat) => (⟨13, [(0, .v (.int .i64 (n : Int))), (3, .v (.string (blB i))), (4, .v (.int .i64 (i : Int)))], []⟩ : St)) (fun (i : Nat) => i ≤ n) (fun (i : Nat) => n - i) (0) (by exact Nat.zero_le _) (St.Le.of ⟨(by first | rfl | (show some _ = some _; simp)), (by first | rfl | (show some _ = some _; simp)), (by first | rfl | (show some _ = some _; simp)), trivial⟩ rfl (by first | rfl | (simp))) ?_)))))))))))
 rintro i hi
 refine SCode.seq (SCode.seqR (SOps.move rfl (SOps.move rfl (SOps.bin rfl rfl rfl (SOps.nil ?_)))))
 refine SCode.cond rfl (fun hc1 => ?_) (fun hc1 => ?_)
 ·try simp only [nmL] at hc1
  refine SCode.skip ?_
  show SCode _ _ _ _
  refine SCode.seq (SCode.block (SCode.region (SOps.move rfl (SOps.concat rfl rfl (by rw [blB_size]; show _ + 1 ≤ _; simp only [lenB]; omega) (SOps.assign rfl (SOps.nil ?_))))))
  show SCode _ _ _ _
  refine SCode.region (SOps.move rfl (SOps.addI rfl rfl (by first | omega | (simp only [lenB]; omega) | (simp only [List.length_map, lenB]; omega) | (simp; done)) (by first | omega | (simp only [lenB]; omega) | (simp only [List.length_map, lenB]; omega) | (simp; done)) (SOps.assign rfl (SOps.nil ?_))))
  exact ⟨i + 1, by omega, by omega, St.Le.of ⟨rfl, (by show some _ = some _; rw [blB_succ]; rfl), (by first | rfl | (show some _ = some _; congr 3; omega)), trivial⟩⟩
 ·try simp only [nmL] at hc1
  refine SCode.exit ?_
  show SCode _ _ _ _
  refine SCode.seqR ?_
  obtain rfl : i = n := by omega
  refine SOps.move rfl (SOps.assign rfl (SOps.nil (SCode.ret ?_)))
  exact ⟨_, Res.one (.tmp rfl), rfl, rfl⟩
end Go.GH
namespace Go.GH
open Go Go.RowKit
def YRounds2 (P : Program) (E : Env) (l : Nat) (xs : List (DV × DV)) (J : JT) : Prop :=
  ∀ i x, xs[i]? = some x → ∀ w F T v u, E.holds w F → (∀ b, F b → b < w.heap.size) → (∀ b, T b → b < w.heap.size ∧ ¬ F b) → J i w F T → Rep w F v x.1 → Rep w F u x.2 →
    YieldAt Fence.wide 0 P l #[v, u] w (fun e w' => e = .returned (.bool true) ∧ YNext J (i + 1) w F T w')
/-- The contract of an iterator: with what it has captured it hands over xs, and no more. -/
def GIter2 (P : Program) (E : Env) (f : FuncId) (ds : List DV) (xs : List (DV × DV)) : Prop :=
  hasBody P f = true ∧ ∀ (l : Nat) (J : JT) w F T (vs : Array Value), YKeeps J → YRounds2 P E l xs J → E.holds w F → (∀ b, F b → b < w.heap.size) → (∀ b, T b → b < w.heap.size ∧ ¬ F b) → J 0 w F T → vs.size = ds.length →
    (∀ (j : Nat) (x : Value) (d : DV), vs[j]? = some x → ds[j]? = some d → Rep w F x d) →
    Calls P f (#[.func (.yield l) #[] #[]] ++ vs) w (fun e w' => (∃ v, e = .returned v) ∧ ∃ F' T', J xs.length w' F' T')

section
variable {C : Ctx} {J : JT} {i : Nat} {st : St} {Q : Exit → Nat → St → Prop} {ops : Array Oper} {rest : List Oper} {R : Nat → St → Prop}
/-- One call of yield. -/
theorem SYOps.yield2 {xs : List (DV × DV)} {l : Nat} {t : Tmp} {ty : TypeId} {pos : String} {aft : Array Edge} {xo xa xb : Operand} {ats : Array TypeId} {x : DV × DV} (hY : YRounds2 C.P C.E l xs J) (hx : st.val xo = some (.v (.func (.yield l) #[] #[]))) (ha : st.val xa = some x.1) (hb : st.val xb = some x.2) (hi : xs[i]? = some x) (hh : st.heap = [])
    (hrest : SYOps C J ops rest (i + 1) (st.put t (.v (.bool true))) R) (ht : Nat.blt t st.n = true := by rfl) :
    SYOps C J ops (⟨some t, .call { callee := .value xo, args := #[xa, xb], argTypes := ats }, ty, pos, aft, none⟩ :: rest) i st R := by
  intro base a w ⟨F, T, hs, hT, hj⟩ Q hQ
  obtain ⟨fn, tmps, asg, bd, hy, hR⟩ := hY i x hi w F T (a.eval xa) (a.eval xb) hs.env (fun b hb => (hs.lt b hb).1) (fun b hb => ⟨(hT b hb).1, (hT b hb).2.1⟩) hj (hs.val ha) (hs.val hb)
  refine wpListIn_plain rfl (fun K hK => ⟨fun _ _ => trivial, ?_⟩)
  have hsem : ((⟨some t, .call { callee := .value xo, args := #[xa, xb], argTypes := ats }, ty, pos, aft, none⟩ : Oper).semAt Fence.wide.round a.eval).run C.P w = .ok (.round l fn tmps asg bd) w := by
    rw [show (⟨some t, .call { callee := .value xo, args := #[xa, xb], argTypes := ats }, ty, pos, aft, none⟩ : Oper).semAt Fence.wide.round a.eval = (do let d ← Deferred.ofValue (a.eval xo) (#[xa, xb].map a.eval); invoke d.target d.args) from rfl, (hs.val hx).inv_v.1]
    simp only [Deferred.ofValue, invoke, pure_bind]
    simpa using hy
  rw [hsem, Oper.uponIn_round]
  refine ⟨fun e => by simp [Fence.wide] at e, hR.mono ?_⟩
  rintro e w' ⟨rfl, F', T', h1, h2, h3, h4, h5⟩
  refine hK _ _ (hrest base _ w' ⟨F', T', ?_, fun b hb => ⟨(h3 b hb).1, (h3 b hb).2.1, ?_⟩, h5⟩ Q hQ)
  · have s1 := hs.stepT h4 (fun b hb ht => (hT b ht).2.1 hb) (fun p hp => by rw [hh] at hp; cases hp) (fun b hb => (hT b hb).2.2)
    have s2 := s1.wider h1 (fun b hb => ⟨(h2 b hb).1, (h2 b hb).2.imp id (fun x => Nat.le_trans hs.keep.size x)⟩) (fun p hp => by rw [hh] at hp; cases hp)
    exact s2.put (by simpa using ht) (.v trivial)
  · rcases (h3 b hb).2.2 with x | x
    · exact (hT b x).2.2
    · exact .inr (Nat.le_trans hs.keep.size x)
/-- An iterator's contract from its body. -/
theorem GIter2.body {f : FuncId} {fn : Func} {c : Code} {ds : List DV} {xs : List (DV × DV)} (hf : C.P.funcs[f]? = some fn) (hb : fn.body = some c) (hname : (fn.name == "runtime.NumGoroutine") = false) (hn : Nat.ble (ds.length + 1) fn.ntmps = true) (hres : fn.results = #[])
    (h : ∀ (l : Nat) (J : JT), YKeeps J → YRounds2 C.P C.E l xs J → SYCode C J c 0 (St.init fn.ntmps (.v (.func (.yield l) #[] #[]) :: ds) []) (fun e i st => (e = .normal ∨ e = .ret) ∧ i = xs.length)) : GIter2 C.P C.E f ds xs := by
  refine ⟨by simp [hasBody, hf, hb, hname], ?_⟩
  intro l J w F T vs hK hY hE hF hT h0 hvs hr
  have hn' := Nat.le_of_ble_eq_true hn
  refine calls_of_wp hf hb ?_
  have hr' : ∀ (j : Nat) (x : Value) (d : DV), (#[Value.func (.yield l) #[] #[]] ++ vs)[j]? = some x → ((DV.v (.func (.yield l) #[] #[])) :: ds)[j]? = some d → Rep w F x d := by
    intro j x d hx hd
    cases j with
    | zero =>
      rw [Array.getElem?_append_left (by simp)] at hx
      simp only [List.getElem?_cons_zero, Option.some.injEq] at hd
      obtain rfl : Value.func (.yield l) #[] #[] = x := by simpa using hx
      subst hd
      exact .v trivial
    | succ j =>
      rw [Array.getElem?_append_right (by simp)] at hx
      simp at hx hd
      exact hr j x d hx hd
  have hsim : SimF C.E ⟨w, F, T, []⟩ F (St.init fn.ntmps (.v (.func (.yield l) #[] #[]) :: ds) []) { tmps := (#[.func (.yield l) #[] #[]] ++ vs) ++ Array.replicate (fn.ntmps - (#[Value.func (.yield l) #[] #[]] ++ vs).size) undef, defers := [] } w := {
    keep := Step.refl _ _
    base_lt := fun b hb => (hT b hb).1
    sub := fun _ h => h
    lt := fun b hb => ⟨hF b hb, .inl hb⟩
    env := hE
    size := by simp [hvs, St.init]; omega
    slots := fun t d ht => by
      obtain ⟨_, h2⟩ := enum_get _ 0 t d ht
      simp only [Nat.sub_zero] at h2
      have hlt := (List.getElem?_eq_some_iff.1 h2).1
      simp only [List.length_cons] at hlt
      refine ⟨Nat.lt_of_lt_of_le hlt hn', ?_⟩
      have hlt' : t < (#[Value.func (.yield l) #[] #[]] ++ vs).size := by simp; omega
      have e : ((#[Value.func (.yield l) #[] #[]] ++ vs) ++ Array.replicate (fn.ntmps - (#[Value.func (.yield l) #[] #[]] ++ vs).size) undef).getD t undef = (#[Value.func (.yield l) #[] #[]] ++ vs)[t] := by
        rw [Array.getD_eq_getD_getElem?, Array.getElem?_append, if_pos hlt', Array.getElem?_eq_getElem hlt']; rfl
      rw [e]
      exact hr' t _ d (Array.getElem?_eq_getElem hlt') h2
    heap := fun p hp => by cases hp
    keys := List.nodup_nil
    defers := rfl }
  refine wp_mono (wpIn_wide.1 (h l J hK hY ⟨w, F, T, []⟩ _ w ⟨F, T, hsim, fun b hb => ⟨(hT b hb).1, (hT b hb).2, .inl hb⟩, h0⟩)) ?_
  rintro e a' w' ⟨i', st', ⟨he, hi⟩, F', T', s, _, hj⟩
  subst hi
  have fin : a'.defers = [] ∧ ∃ v, (results fn a'.tmps).run C.P w' = .ok v w' ∧ ((∃ v', Ending.returned v = .returned v') ∧ ∃ F' T', J xs.length w' F' T') :=
    let ⟨x, hx, _⟩ := run_results s (fn := fn) (d := .v (.tuple #[])) (by rw [hres]; exact .none)
    ⟨s.defers, x, hx, ⟨_, rfl⟩, F', T', hj⟩
  rcases he with rfl | rfl
  · exact fin
  · exact fin
end
section
variable {C : Ctx} {m : Bool} {st : St} {Q : Exit → Bool → St → Prop}
/-- 'for x := range g { .. }', each round leaving by the body's end. -/
theorem SMCode.range2 {g : Operand} {p p2 : Tmp} {asg bd : Code} {f : FuncId} {ds : List DV} {xs : List (DV × DV)} (hg : st.val g = some (.fn f ds)) (hit : GIter2 C.P C.E f ds xs) (Inv : Nat → DHeap → Prop) (h0 : Inv 0 st.heap) (hp : Nat.blt p st.n = true) (hp2 : Nat.blt p2 st.n = true)
    (hround : ∀ i x l H, xs[i]? = some x → Inv i H → SRound C.imp l asg ⟨st.n, (p2, x.2) :: (p, x.1) :: st.slots, H⟩ (fun e st1 => e = .normal ∧ SRound C.imp l bd st1 (fun e st2 => e = .normal ∧ Inv (i + 1) st2.heap)))
    (hdone : ∀ H, Inv xs.length H → Q .normal true ⟨st.n, st.slots, H⟩) : SMCode C (.rangeFunc g #[p, p2] asg bd) false st Q := by
  intro base ok hd0 a w ⟨F, hs⟩
  refine (wpIn_wide (n := 0)).1 (wpIn_rangeFunc (F := Fence.wide) (n := 0) ?_)
  intro fn _
  have h3 := hs.val hg
  generalize hv : a.eval g = v at h3
  cases h3 with
  | @fn _ us _ hl hr =>
  obtain ⟨rec, hrec⟩ : ∃ rec : LoopState → Loop, rec = fun s => { state := s, pending := none, fn, tmps := a.tmps, params := #[p, p2], assign := asg, body := bd, defers := w.heap.size } := ⟨_, rfl⟩
  obtain ⟨W1, hW1⟩ : ∃ W1, (w.alloc (.deferred (some []))).alloc (.loop (rec .ready)) = W1 := ⟨_, rfl⟩
  have hL1 : W1.heap[w.heap.size + 1]? = some (.loop (rec .ready)) := by
    rw [← hW1]; have := World.alloc_heap_new (w.alloc (.deferred (some []))) (.loop (rec .ready)); rwa [World.size_alloc] at this
  have hD1 : W1.heap[w.heap.size]? = some (.deferred (some [])) := by
    rw [← hW1]; exact (Below.heap_alloc _ _ _ (by simp)).trans (World.alloc_heap_new w _)
  have hst1 : Step (fun _ => False) w W1 := by rw [← hW1]; exact (Step.alloc _ w _).trans (Step.alloc _ _ _)
  have hne : ∀ s, (rec s).defers = w.heap.size ∧ (rec s).params = #[p, p2] ∧ (rec s).tmps = a.tmps ∧ (rec s).state = s ∧ (rec s).pending = none ∧ (rec s).fn = fn ∧ (rec s).assign = asg ∧ (rec s).body = bd := fun s => by rw [hrec]; exact ⟨rfl, rfl, rfl, rfl, rfl, rfl, rfl, rfl⟩
  have hrs : ∀ s s', { rec s with state := s' } = rec s' := fun s s' => by rw [hrec]
  have hrs2 : ∀ s s', { rec s with state := s', pending := none } = rec s' := fun s s' => by rw [hrec]
  obtain ⟨J, hJ⟩ : ∃ J : JT, J = fun i w' F' T => ∃ H, Inv i H ∧ SimF C.E base F' ⟨st.n, st.slots, H⟩ a w' ∧ w'.heap[w.heap.size + 1]? = some (.loop (rec .ready)) ∧ w'.heap[w.heap.size]? = some (.deferred (some [])) ∧
      (∀ q ∈ H, T q.1) ∧ T (w.heap.size + 1) ∧ T w.heap.size ∧ (∀ q ∈ H, q.1 ≠ w.heap.size + 1 ∧ q.1 ≠ w.heap.size) ∧ (∀ b, T b → base.own b ∨ base.w.heap.size ≤ b) ∧ (∀ b, T b → b < w'.heap.size ∧ ¬ F' b) := ⟨_, rfl⟩
  have hbw : base.w.heap.size ≤ w.heap.size := hs.keep.size
  have hnoF : ∀ b, w.heap.size ≤ b → ¬ F b := fun b hb hF => absurd (hs.lt b hF).1 (Nat.not_lt.2 hb)
  have hKeep : YKeeps J := by
    rw [hJ]
    rintro i w1 F1 T1 w2 F2 ⟨H, hI, hs1, k1, k2, k3, k4, k5, k6, k7, k8⟩ hst hF hF2
    have hT2 : ∀ b, T1 b → b < w2.heap.size ∧ ¬ F2 b := fun b hb => ⟨Nat.lt_of_lt_of_le (k8 b hb).1 hst.size, fun x => by
      rcases (hF2 b x).2 with y | y
      · exact (k8 b hb).2 y
      · exact absurd (k8 b hb).1 (Nat.not_lt.2 y)⟩
    exact ⟨H, hI, (hs1.world hst).wider hF (fun b hb => ⟨(hF2 b hb).1, (hF2 b hb).2.imp id (fun x => Nat.le_trans hs1.keep.size x)⟩) (fun q hq => (hT2 _ (k3 q hq)).2),
      (hst.block _ (k8 _ k4).1 (fun x => x)).trans k1, (hst.block _ (k8 _ k5).1 (fun x => x)).trans k2, k3, k4, k5, k6, k7, hT2⟩
  have hRounds : YRounds2 C.P C.E (w.heap.size + 1) xs J := by
    intro i x hx w1 F1 T1 v u hE hlt hTT hj hv1 hu1
    have hj' := hj
    rw [hJ] at hj
    obtain ⟨H, hI, hs1, k1, k2, k3, k4, k5, k6, k7, k8⟩ := hj
    have hy := run_yield (P := C.P) (args := #[v, u]) k1 (by rw [(hne _).2.1]; rfl)
    rw [(hne .ready).2.1, (hne .ready).2.2.1, (hne .ready).2.2.2.2.2.1, (hne .ready).2.2.2.2.2.2.1, (hne .ready).2.2.2.2.2.2.2] at hy
    refine ⟨fn, _, asg, bd, hy, roundIn_of_wpIn (F := Fence.wide) trivial ?_⟩
    clear hy
    have ha : ({ tmps := (#[p, p2].zip #[v, u]).foldl (fun tmps (t, a) => tmps.setIfInBounds t a) a.tmps, defers := [] } : Act) = (a.put (some p) v).put (some p2) u := by
      rw [show (#[p, p2].zip #[v, u]).foldl (fun tmps (t, a) => tmps.setIfInBounds t a) a.tmps = (a.tmps.setIfInBounds p v).setIfInBounds p2 u by simp]
      show _ = ({ tmps := (a.tmps.setIfInBounds p v).setIfInBounds p2 u, defers := a.defers } : Act)
      rw [hs1.defers, hd0]
    rw [ha]
    have hkH : ∀ b, b ∈ H.map (·.1) → T1 b := fun b hb => by obtain ⟨q, hq, rfl⟩ := List.mem_map.1 hb; exact k3 q hq
    have hlH : ¬ (w.heap.size + 1) ∈ H.map (·.1) := fun hm => by obtain ⟨q, hq, e⟩ := List.mem_map.1 hm; exact (k6 q hq).1 e
    have hDH : ¬ w.heap.size ∈ H.map (·.1) := fun hm => by obtain ⟨q, hq, e⟩ := List.mem_map.1 hm; exact (k6 q hq).2 e
    have s1 := ((hs1.rebase).put (t := p) (x := v) (d := x.1) (by simpa using hp) hv1).put (t := p2) (x := u) (d := x.2) (show p2 < st.n by simpa using hp2) hu1
    refine wpIn_mono (hround i x (w.heap.size + 1) H hx hI ⟨w1, F1, fun b => b ∈ H.map (·.1), base.dfr⟩ (fun hq => by cases hq) _ w1 ⟨F1, s1⟩) ?_
    rintro e a1 w2 ⟨st1, ⟨rfl, hb⟩, F2, s2⟩
    have hl2 : w2.heap[w.heap.size + 1]? = some (.loop (rec .ready)) := (s2.keep.block _ (k8 _ k4).1 hlH).trans k1
    have hD2 : w2.heap[w.heap.size]? = some (.deferred (some [])) := (s2.keep.block _ (k8 _ k5).1 hDH).trans k2
    have hlF2 : ∀ b, T1 b → ¬ F2 b := fun b hb x => by
      rcases (s2.lt b x).2 with y | y
      · exact (k8 b hb).2 y
      · exact absurd (k8 b hb).1 (Nat.not_lt.2 y)
    have hk1 : ∀ q ∈ st1.heap, T1 q.1 ∨ w1.heap.size ≤ q.1 := fun q hq => (s2.heap q hq).1.imp (hkH _) id
    have hl1n : ∀ q ∈ st1.heap, q.1 ≠ w.heap.size + 1 ∧ q.1 ≠ w.heap.size := fun q hq => ⟨fun e => by
        rcases (s2.heap q hq).1 with y | y
        · exact hlH (e ▸ y)
        · exact absurd (k8 _ k4).1 (Nat.not_lt.2 (e ▸ y)), fun e => by
        rcases (s2.heap q hq).1 with y | y
        · exact hDH (e ▸ y)
        · exact absurd (k8 _ k5).1 (Nat.not_lt.2 (e ▸ y))⟩
    refine ⟨_, run_beginRound hl2 (hne _).2.2.2.1, ?_⟩
    rw [hrs]
    have st2 := Step.putObj (.loop (rec .busy)) hl2 rfl
    have hlt2 := (Array.getElem?_eq_some_iff.1 hl2).1
    have s3 := ((s2.rebaseT (fun b => b ∈ st1.heap.map (·.1) ∨ b = w.heap.size + 1) (fun q hq => .inl (List.mem_map.2 ⟨q, hq, rfl⟩)) (fun b hb => hb.elim (fun h => (s2.keysLt h).1) (fun h => h ▸ hlt2))).stepT st2 (fun b hF e => hlF2 _ k4 (e ▸ hF)) (fun q hq e => (hl1n q hq).1 e) (fun b e => .inl (.inr e))).rebase
    have hl3 : (w2.putObj (w.heap.size + 1) (.loop (rec .busy))).heap[w.heap.size + 1]? = some (.loop (rec .busy)) := World.putObj_heap_same hlt2
    have hD3 : (w2.putObj (w.heap.size + 1) (.loop (rec .busy))).heap[w.heap.size]? = some (.deferred (some [])) := (World.putObj_heap_other (by omega)).trans hD2
    have hl1k : ¬ (w.heap.size + 1) ∈ st1.heap.map (·.1) := fun hm => by obtain ⟨q, hq, e⟩ := List.mem_map.1 hm; exact (hl1n q hq).1 e
    have hD1k : ¬ w.heap.size ∈ st1.heap.map (·.1) := fun hm => by obtain ⟨q, hq, e⟩ := List.mem_map.1 hm; exact (hl1n q hq).2 e
    have hsz3 : w2.heap.size ≤ (w2.putObj (w.heap.size + 1) (.loop (rec .busy))).heap.size := st2.size
    generalize w2.putObj (w.heap.size + 1) (.loop (rec .busy)) = W3 at *
    refine wpIn_mono (hb ⟨W3, F2, _, _⟩ (fun hq => by cases hq) a1 W3 ⟨F2, s3⟩) ?_
    rintro e a2 w4 ⟨st2', ⟨rfl, hI2⟩, F4, s4⟩
    have hl4 : w4.heap[w.heap.size + 1]? = some (.loop (rec .busy)) := (s4.keep.block _ (Array.getElem?_eq_some_iff.1 hl3).1 hl1k).trans hl3
    have hD4 : w4.heap[w.heap.size]? = some (.deferred (some [])) := (s4.keep.block _ (Array.getElem?_eq_some_iff.1 hD3).1 hD1k).trans hD3
    refine ⟨_, _, run_endRound none hl4, rfl, ?_⟩
    rw [show ({ rec .busy with state := if (none : Option Code).isNone then .ready else .done, pending := none } : Loop) = rec .ready from hrs2 _ _]
    have st5 := Step.putObj (.loop (rec .ready)) hl4 rfl
    have hlt4 := (Array.getElem?_eq_some_iff.1 hl4).1
    have hl5 : (w4.putObj (w.heap.size + 1) (.loop (rec .ready))).heap[w.heap.size + 1]? = some (.loop (rec .ready)) := World.putObj_heap_same hlt4
    have hD5 : (w4.putObj (w.heap.size + 1) (.loop (rec .ready))).heap[w.heap.size]? = some (.deferred (some [])) := (World.putObj_heap_other (by omega)).trans hD4
    generalize w4.putObj (w.heap.size + 1) (.loop (rec .ready)) = W5 at *
    have hw12 : w1.heap.size ≤ w2.heap.size := s2.keep.size
    have hw34 : W3.heap.size ≤ w4.heap.size := s4.keep.size
    have hF14 : ∀ b, F1 b → F4 b := fun b hb => s4.sub b (s2.sub b hb)
    have hF41 : ∀ b, F4 b → b < W5.heap.size ∧ (F1 b ∨ w1.heap.size ≤ b) := fun b hb => ⟨Nat.lt_of_lt_of_le (s4.lt b hb).1 st5.size, by
      rcases (s4.lt b hb).2 with y | y
      · exact (s2.lt b y).2
      · exact .inr (by have : W3.heap.size ≤ b := y; omega)⟩
    have hT1F : ∀ b, T1 b → ¬ F4 b := fun b hb x => by
      rcases (hF41 b x).2 with y | y
      · exact (k8 b hb).2 y
      · exact absurd (k8 b hb).1 (Nat.not_lt.2 y)
    have hk2 : ∀ q ∈ st2'.heap, T1 q.1 ∨ w1.heap.size ≤ q.1 := fun q hq => by
      rcases (s4.heap q hq).1 with y | y
      · obtain ⟨q', hq', e⟩ := List.mem_map.1 y
        rw [← e]; exact hk1 q' hq'
      · exact .inr (by have : W3.heap.size ≤ q.1 := y; omega)
    have hk2n : ∀ q ∈ st2'.heap, q.1 ≠ w.heap.size + 1 ∧ q.1 ≠ w.heap.size := fun q hq => by
      have hl3' := (Array.getElem?_eq_some_iff.1 hl3).1
      refine ⟨fun e => ?_, fun e => ?_⟩
      · rcases (s4.heap q hq).1 with y | y
        · exact hl1k (e ▸ y)
        · have : W3.heap.size ≤ q.1 := y; omega
      · rcases (s4.heap q hq).1 with y | y
        · exact hD1k (e ▸ y)
        · have : W3.heap.size ≤ q.1 := y; omega
    have hT' : ∀ b, (b ∈ st2'.heap.map (·.1) ∨ b = w.heap.size + 1 ∨ b = w.heap.size) → b < W5.heap.size ∧ ¬ F4 b ∧ (T1 b ∨ w1.heap.size ≤ b) := fun b hb => by
      rcases hb with hb | rfl | rfl
      · obtain ⟨q, hq, rfl⟩ := List.mem_map.1 hb
        exact ⟨Nat.lt_of_lt_of_le (s4.heap q hq).2.2.lt st5.size, (s4.heap q hq).2.1, hk2 q hq⟩
      · exact ⟨(Array.getElem?_eq_some_iff.1 hl5).1, hT1F _ k4, .inl k4⟩
      · exact ⟨(Array.getElem?_eq_some_iff.1 hD5).1, hT1F _ k5, .inl k5⟩
    have kall : Step T1 w1 W5 := by
      refine Step.then (Step.then (Step.then (s2.keep.mono (fun i _ h => hkH i h)) st2 (fun i hi e => e ▸ k4)) s4.keep (fun i hi hb => ?_)) st5 (fun i hi e => e ▸ k4)
      obtain ⟨q, hq, rfl⟩ := List.mem_map.1 hb
      rcases hk1 q hq with y | y
      · exact y
      · exact absurd hi (Nat.not_lt.2 y)
    have hown : ∀ b, (T1 b ∨ w1.heap.size ≤ b) → base.own b ∨ base.w.heap.size ≤ b := fun b hb => hb.elim (k7 b) (fun y => .inr (Nat.le_trans hs1.keep.size y))
    refine ⟨F4, _, hF14, hF41, hT', kall, ?_⟩
    rw [hJ]
    have hblk : ∀ b, F1 b → W5.heap[b]? = w1.heap[b]? := fun b hb => kall.block b (hlt b hb) (fun ht => (k8 b ht).2 hb)
    refine ⟨st2'.heap, hI2, ?_, hl5, hD5, fun q hq => .inl (List.mem_map.2 ⟨q, hq, rfl⟩), .inr (.inl rfl), .inr (.inr rfl), hk2n, fun b hb => hown b (hT' b hb).2.2, fun b hb => ⟨(hT' b hb).1, (hT' b hb).2.1⟩⟩
    exact {
      keep := hs1.keep.then kall (fun i hi hb => (k7 i hb).resolve_right (by omega))
      base_lt := hs1.base_lt
      sub := fun b hb => hF14 b (hs1.sub b hb)
      lt := fun b hb => ⟨(hF41 b hb).1, (hF41 b hb).2.elim (fun y => (hs1.lt b y).2) (fun y => .inr (Nat.le_trans hs1.keep.size y))⟩
      env := C.E.mono hblk hF14 hs1.env
      size := hs1.size
      slots := fun t d ht => ⟨(hs1.slots t d ht).1, (hs1.slots t d ht).2.mono hblk kall.shape hF14⟩
      heap := fun q hq => by
        obtain ⟨y1, y2, y3⟩ := s4.heap q hq
        exact ⟨hown _ (hk2 q hq), y2, y3.mono (st5.block _ y3.lt (fun e => (hk2n q hq).1 e)) (fun b hb => st5.block b (s4.lt b hb).1 (fun e => hT1F _ k4 (e ▸ hb))) st5.shape (fun _ x => x)⟩
      keys := s4.keys
      defers := hs1.defers }
  have hJ0 : J 0 W1 F (fun b => b ∈ st.heap.map (·.1) ∨ b = w.heap.size + 1 ∨ b = w.heap.size) := by
    rw [hJ]
    have hlt1 := (Array.getElem?_eq_some_iff.1 hL1).1
    refine ⟨st.heap, h0, hs.world hst1, hL1, hD1, fun q hq => .inl (List.mem_map.2 ⟨q, hq, rfl⟩), .inr (.inl rfl), .inr (.inr rfl), fun q hq => ?_, fun b hb => ?_, fun b hb => ?_⟩
    · have := (hs.heap q hq).2.2.lt
      omega
    · rcases hb with hb | rfl | rfl
      · obtain ⟨q, hq, rfl⟩ := List.mem_map.1 hb; exact (hs.heap q hq).1
      · exact .inr (by omega)
      · exact .inr (by omega)
    · rcases hb with hb | rfl | rfl
      · exact ⟨Nat.lt_of_lt_of_le (hs.keysLt hb).1 hst1.size, (hs.keysLt hb).2⟩
      · exact ⟨hlt1, hnoF _ (by omega)⟩
      · exact ⟨by omega, hnoF _ (by omega)⟩
  refine ⟨w.heap.size + 1, [{ target := .collected w.heap.size, args := #[] }], W1, { target := .fn (.func f) us, args := #[.func (.yield (w.heap.size + 1)) #[] #[]] }, W1, f, #[.func (.yield (w.heap.size + 1)) #[] #[]] ++ us, W1, ?_, ?_, fun _ _ => trivial, ?_, fun e => by simp [Fence.wide] at e, ?_⟩
  · rw [← hW1, hrec]; exact run_enterLoop_outer _ _ _ _ _
  · simp only [resolve, hv]
    simp [go_sem]
  · simp only [invoke]
    exact run_callFunc hit.1 _ _
  · refine (callsIn_wide (n := 0 - 1)).2 (Calls.mono (hit.2 (w.heap.size + 1) J W1 F _ us hKeep hRounds (hs.world hst1).env (fun b hb => ((hs.world hst1).lt b hb).1) (fun b hb => ?_) hJ0 hl (fun j x d h1 h2 => (hr j x d h1 h2).mono (fun b hb => hst1.block b (hs.lt b hb).1 (fun x => x)) hst1.shape (fun _ x => x))) ?_)
    · have := hJ0
      rw [hJ] at this
      obtain ⟨_, _, _, _, _, _, _, _, _, _, k8⟩ := this
      exact k8 b hb
    · rintro e w5 ⟨⟨v, rfl⟩, F5, T5, hj⟩
      rw [hJ] at hj
      obtain ⟨H, hI, hs1, k1, k2, k3, k4, k5, k6, k7, k8⟩ := hj
      refine ⟨none, _, (run_endLoop k1 (by rw [(hne _).2.2.2.1]; simp)).trans (by rw [(hne .ready).2.2.2.2.1]), true, _, hdone H hI, F5, w.heap.size, ?_, by rw [hs.defers, hd0]; rfl, (World.putObj_heap_other (by omega)).trans k2, (k8 _ k5).2, fun q hq => (k6 q hq).2, hbw⟩
      have e : ({ ({ a with defers := [{ target := .collected w.heap.size, args := #[] }] ++ a.defers } : Act) with defers := [] } : Act) = a := by
        show ({ tmps := a.tmps, defers := [] } : Act) = a
        rw [← hs.defers.trans hd0]
      rw [e]
      exact hs1.stepT (T := (· = w.heap.size + 1)) (Step.putObj _ k1 rfl) (fun b hF e => (k8 _ k4).2 (e ▸ hF)) (fun q hq e => (k6 q hq).1 e) (fun b e => k7 b (e ▸ k4))

/-! ### a piece that leaves the own blocks as they are -/
end
end Go.GH
namespace Go.GH
open Go Go.RowKit
/-- The operations, in whatever order may come, lead where Q says. -/
def SDraw (C : Ctx) (l : List Oper) (st : St) (Q : Exit → St → Prop) : Prop :=
  ∀ base, C.ok base → ∀ a w, Sim C.E base st a w → wpAny C.P .any l.toArray (fun e a' w' => ∃ st', Q e st' ∧ Sim C.E base st' a' w') l.toArray.size (Array.replicate l.toArray.size false) a { w with drawn := w.drawn + 1 }
theorem SDraw.code {C : Ctx} {id : Nat} {l : List Oper} {st : St} {Q : Exit → St → Prop} (hm : C.P.follows .mixedOrders = true) (h : SDraw C l st Q) : SCode C (.region id l.toArray true) st Q :=
  fun base ok a w hs => wp_region_any hm (h base ok a w hs)
theorem noDef_at {l : List Oper} : noDef l = true → ∀ {i : Nat} {o : Oper}, l[i]? = some o → (match o.op with | .defer _ => false | _ => true) = true := by
  induction l with
  | nil => intro _ i o h; simp at h
  | cons p l ih =>
    intro hd i o h
    rw [noDef, Bool.and_eq_true] at hd
    cases i with
    | zero => simp at h; subst h; exact hd.1
    | succ i => exact ih hd.2 (by simpa using h)
theorem wpAnyIn_of {P : Program} {l : List Oper} {Q : Exit → Act → World → Prop} (ro : Option Nat) (n : Nat) (hd : noDef l = true) (hQ : ∀ a w, ¬ Q .outgrown a w) : ∀ (fuel : Nat) (listed : Array Bool) (a : Act) (w : World), wpAny P .any l.toArray Q fuel listed a w → wpAnyIn (FW ro) n P .any l.toArray Q fuel listed a w
  | 0, _, _, _, h => h
  | fuel + 1, listed, a, w, h => by
    refine ⟨h.1, fun i hi => ?_⟩
    have h2 := h.2 i hi
    unfold wpOp at h2
    unfold wpOpIn
    split at h2
    · rename_i ho
      simp only [ho]
      exact wpAnyIn_of ro n hd hQ fuel _ a w h2
    · rename_i o ho
      simp only [ho]
      by_cases hw : Region.wanted o (yielded l.toArray a.tmps) = true
      · rw [if_pos hw] at h2 ⊢
        rcases h2 with h2 | ⟨_, a0, w0, h2⟩
        · refine ⟨fun _ _ => trivial, ?_⟩
          rw [Oper.semAt_eq _ _ _ (noDef_head (noDef_at hd (by simpa using ho)))]
          exact uponIn_of (fun a w h => wpAnyIn_of ro n hd hQ fuel _ a w h) _ h2
        · exact absurd h2 (hQ _ _)
      · rw [if_neg hw] at h2 ⊢
        exact ⟨fun _ _ => trivial, wpAnyIn_of ro n hd hQ fuel _ _ _ h2⟩
theorem SDraw.round {C : Ctx} {id k : Nat} {l : List Oper} {st : St} {Q : Exit → St → Prop} (hm : C.P.follows .mixedOrders = true) (h : SDraw C l st (fun e st' => e = .normal ∧ Q e st')) (hd : noDef l = true := by rfl) : SRound C k (.region id l.toArray true) st Q :=
  fun base ok a w hs => wpIn_mono (wpIn_region_any hm (wpAnyIn_of (some k) 0 hd (fun a w ⟨st', q, _⟩ => by cases q.1) _ _ _ _ (h base ok a w hs))) (fun e a' w' ⟨st', q, s⟩ => ⟨st', q.2, s⟩)
theorem SDraw.any {C : Ctx} {l : List Oper} {st : St} {Q : Exit → St → Prop} (ho : ordB l = true) (Inv : (Nat → Bool) → St → Prop) (h0 : Inv (fun _ => false) st)
    (hstep : ∀ L st i o, l[i]? = some o → L i = false → Inv L st → (∀ j, afterB o j = true → L j = true) → (∀ k o', l[k]? = some o' → afterB o' i = true → L k = false) → (∀ (k : Nat) o' j, l[k]? = some o' → L k = true → afterB o' j = true → L j = true) →
      SOps C l.toArray [o] st (fun st' => Inv (fun k => if k = i then true else L k) st'))
    (hend : ∀ L st', (∀ i, i < l.length → L i = true) → Inv L st' → ∃ s2 : St, s2.Le st' ∧ Q .normal s2) : SDraw C l st Q := by
  intro base ok a w hs
  have hord : ∀ (i : Nat) o, l[i]? = some o → ∀ e ∈ o.after.toList, Region.binds .any e = true → e.on < i := fun i o hi e he hb => by
    have h1 := List.all_eq_true.1 ho (o, i) (by rw [List.mem_iff_getElem?]; exact ⟨i, by simp [List.getElem?_zipIdx, hi]⟩)
    have h2 := Array.all_eq_true_iff_forall_mem.1 h1 e (by simpa using he)
    simp [hb] at h2
    exact h2
  have key : ∀ fuel (listed : Array Bool) a w, listed.size = l.length → (∀ (k : Nat) o j, l[k]? = some o → listed.getD k false = true → afterB o j = true → listed.getD j false = true) →
      (∃ st', Inv (fun k => listed.getD k false) st' ∧ Sim C.E base st' a w) → (listed.toList.filter (! ·)).length ≤ fuel →
      wpAny C.P .any l.toArray (fun e a' w' => ∃ st', Q e st' ∧ Sim C.E base st' a' w') fuel listed a w := by
    have hready : ∀ (listed : Array Bool), listed.size = l.length → ∀ i, i ∈ Region.ready .any l.toArray listed ↔ ∃ o, l[i]? = some o ∧ listed.getD i false = false ∧ ∀ j, afterB o j = true → listed.getD j false = true := by
      intro listed hl i
      simp only [Region.ready, List.mem_filter, List.mem_range, List.size_toArray, Bool.and_eq_true, Bool.not_eq_true', List.getElem?_toArray]
      constructor
      · rintro ⟨h1, h2, h3⟩
        rw [List.getElem?_eq_getElem h1] at h3
        refine ⟨l[i], List.getElem?_eq_getElem h1, ?_, fun j hj => ?_⟩
        · rw [← h2]; simp [Array.getD, hl, h1]
        · unfold afterB at hj
          obtain ⟨e, he, hb⟩ := List.any_eq_true.1 hj
          rw [Bool.and_eq_true] at hb
          have h4 := Array.all_eq_true_iff_forall_mem.1 (show (l[i]).after.all (fun e => !Region.binds .any e || listed.getD e.on false) = true from h3) e (by simpa using he)
          rw [hb.1] at h4
          have := Nat.eq_of_beq_eq_true hb.2
          subst this
          simpa using h4
      · rintro ⟨o, h1, h2, h3⟩
        have hlt := (List.getElem?_eq_some_iff.1 h1).1
        refine ⟨hlt, ?_, ?_⟩
        · rw [← h2]; simp [Array.getD, hl, hlt]
        · rw [h1]
          simp only [Option.map_some, Option.getD_some]
          refine Array.all_eq_true_iff_forall_mem.2 (fun e he => ?_)
          cases hb : Region.binds .any e with
          | false => rfl
          | true =>
            have := h3 e.on (List.any_eq_true.2 ⟨e, by simpa using he, by simp [hb]⟩)
            simpa using this
    have hall : ∀ (listed : Array Bool), listed.size = l.length → Region.ready .any l.toArray listed = [] → ∀ i, i < l.length → listed.getD i false = true := by
      intro listed hl hr i
      induction i using Nat.strongRecOn with
      | ind i ih =>
        intro hi
        cases hb : listed.getD i false with
        | true => rfl
        | false =>
          have : i ∈ Region.ready .any l.toArray listed := (hready listed hl i).2 ⟨l[i], List.getElem?_eq_getElem hi, hb, fun j hj => by
            unfold afterB at hj
            obtain ⟨e, he, hb⟩ := List.any_eq_true.1 hj
            rw [Bool.and_eq_true] at hb
            have h1 := Nat.eq_of_beq_eq_true hb.2
            subst h1
            have h2 := hord i _ (List.getElem?_eq_getElem hi) e (by simpa using he) hb.1
            exact ih _ h2 (by omega)⟩
          rw [hr] at this
          cases this
    intro fuel
    induction fuel with
    | zero =>
      intro listed a w hl hc ⟨st', h1, h2⟩ hf
      have hno : ∀ i, i < l.length → listed.getD i false = true := fun i hi => by
        cases hb : listed.getD i false with
        | true => rfl
        | false =>
          have hlt : i < listed.size := hl ▸ hi
          have hb' : listed[i] = false := by simpa [Array.getD, hlt] using hb
          have : (false : Bool) ∈ listed.toList.filter (! ·) := List.mem_filter.2 ⟨by rw [← hb']; simp, rfl⟩
          rw [List.eq_nil_of_length_eq_zero (Nat.le_zero.1 hf)] at this
          cases this
      refine ⟨?_, ?_⟩
      case refine_2 =>
        obtain ⟨s2, hl2, hq⟩ := hend _ st' hno h1
        obtain ⟨F', h2⟩ := h2
        exact ⟨s2, hq, F', h2.weaken hl2⟩
      cases hr : Region.ready .any l.toArray listed with
      | nil => rfl
      | cons i r =>
        obtain ⟨o, h3, h4, _⟩ := (hready listed hl i).1 (by rw [hr]; exact List.mem_cons_self ..)
        rw [hno i (List.getElem?_eq_some_iff.1 h3).1] at h4
        cases h4
    | succ fuel ih =>
      intro listed a w hl hc ⟨st', h1, h2⟩ hf
      refine ⟨fun hr => by
        obtain ⟨s2, hl2, hq⟩ := hend _ st' (hall listed hl hr) h1
        obtain ⟨F', h2⟩ := h2
        exact ⟨s2, hq, F', h2.weaken hl2⟩, fun i hi => ?_⟩
      obtain ⟨o, h3, h4, h5⟩ := (hready listed hl i).1 hi
      have hlt := (List.getElem?_eq_some_iff.1 h3).1
      have hsz : i < listed.size := hl ▸ hlt
      have hset : ∀ k, (listed.setIfInBounds i true).getD k false = if k = i then true else listed.getD k false := fun k => by
        simp only [Array.getD_eq_getD_getElem?, Array.getElem?_setIfInBounds]
        by_cases hki : k = i
        · subst hki; simp [hsz]
        · rw [if_neg (fun e => hki e.symm), if_neg hki]
      unfold wpOp
      simp only [List.getElem?_toArray, h3]
      refine SOps.one (hstep _ st' i o h3 h4 h1 h5 (fun k o' hk hka => ?_) hc) ok h2 (fun st2 a2 w2 r s => ih _ a2 w2 (by simpa using hl) (fun k o' j hk hkl hka => ?_) ⟨st2, by simpa only [hset] using r, s⟩ ?_)
      · cases hb : listed.getD k false with
        | false => rfl
        | true =>
          have := hc k o' i hk hb hka
          rw [h4] at this
          cases this
      · rw [hset] at hkl ⊢
        by_cases hji : j = i
        · rw [if_pos hji]
        · rw [if_neg hji]
          by_cases hki : k = i
          · subst hki
            rw [h3] at hk
            obtain rfl := Option.some.inj hk
            exact h5 j hka
          · rw [if_neg hki] at hkl
            exact hc k o' j hk hkl hka
      · have hb' : listed[i] = false := by simpa [Array.getD, hsz] using h4
        have e1 : listed.toList = listed.toList.take i ++ false :: listed.toList.drop (i + 1) := by
          rw [← hb']
          have : listed[i] = listed.toList[i]'(by simpa using hsz) := by simp
          rw [this, List.getElem_cons_drop, List.take_append_drop]
        have e2 : (listed.setIfInBounds i true).toList = listed.toList.take i ++ true :: listed.toList.drop (i + 1) := by
          rw [Array.toList_setIfInBounds, List.set_eq_take_append_cons_drop, if_pos (by simpa using hsz)]
        rw [e1] at hf
        rw [e2]
        simp only [List.filter_append, List.filter_cons, List.length_append] at hf ⊢
        simp at hf ⊢
        omega
  have hs' : Sim C.E base st a { w with drawn := w.drawn + 1 } := by
    obtain ⟨F, hs⟩ := hs
    exact ⟨F, hs.world (Step.drew _ w)⟩
  refine key l.toArray.size _ a _ (by simp) (fun k o j _ hk => ?_) ⟨st, ?_, hs'⟩ ?_
  · simp [Array.getD_eq_getD_getElem?, Array.getElem?_replicate] at hk
    split at hk <;> simp at hk
  · have : (fun k => (Array.replicate l.toArray.size false).getD k false) = fun _ => false := by
      funext k
      simp [Array.getD_eq_getD_getElem?, Array.getElem?_replicate]
      split <;> rfl
    rw [this]
    exact h0
  · simp

theorem SDraw.gen {C : Ctx} {l : List Oper} {n : Nat} {s : List (Nat × DV)} {H : DHeap} {Q : Exit → St → Prop} {D : List (Ids → ORes)} (f : Nat) (ts : List (Option Nat)) (srcs : List (List (Nat ⊕ Nat))) (cls : List (Option (Nat × Nat))) (Ss : List (List Nat)) (base : DHeap) (xs : List Chn)
    (hB : genB l ts srcs (xs.map (·.T)) cls Ss f = true) (hH : ∀ b, (base ++ (xs.map (fun x => x.X b 0)).flatten).Perm H)
    (hops : GOk C l.toArray n base s xs [] l srcs cls Ss D) (hts : ∀ b, D.map (fun r => (r b).map (·.1)) = ts)
    (hQ : ∀ b, Q .normal ⟨n, resO (D.map (fun r => r b)) ++ s, base ++ (xs.map (fun x => x.X b x.T.length)).flatten⟩) : SDraw C l ⟨n, s, H⟩ Q := by
  obtain ⟨hDl, hS⟩ := hops.dep
  have hX : ∀ x ∈ xs, ∀ b b', (∀ k ∈ x.T, b k = b' k) → ∀ c, x.X b c = x.X b' c := fun x _ b b' h c => by unfold Chn.X; rw [List.map_congr_left h]
  simp only [genB, Bool.and_eq_true, List.all_eq_true] at hB
  obtain ⟨⟨⟨⟨⟨hord, hdist⟩, hTs⟩, hsrc⟩, hcls⟩, hSs⟩ := hB
  have hdB : ∀ b, distO ((D.map (fun r => r b)).map (fun x => x.map (·.1))) = true := fun b => by
    have := hts b
    rw [List.map_map, show ((fun x : ORes => x.map (·.1)) ∘ fun r : Ids → ORes => r b) = (fun r => (r b).map (·.1)) from rfl, this]; exact hdist
  have hlen : ∀ i o, l[i]? = some o → ∃ r, D[i]? = some r := fun i o hi => by
    obtain ⟨_, _, r, _, _, _, h, _⟩ := hops.at i o hi
    exact ⟨r, h⟩
  have hT : ∀ x ∈ xs, x.T.Nodup ∧ (∀ y ∈ x.T, y < l.length) ∧ ∀ (j : Nat) u v, x.T[j]? = some u → x.T[j + 1]? = some v → u ∈ reqF l f v := fun x hx => by
    have := hTs x.T (List.mem_map.2 ⟨x, hx, rfl⟩)
    obtain ⟨⟨h1, h2⟩, h3⟩ := this
    refine ⟨distB_spec _ h1, fun y hy => by simpa using h2 y hy, fun j u v hu hv => ?_⟩
    have := h3 (u, v) (by
      rw [List.mem_iff_getElem?]
      refine ⟨j, ?_⟩
      rw [List.getElem?_zip_eq_some]
      exact ⟨hu, by rw [List.getElem?_drop, Nat.add_comm]; exact hv⟩)
    exact memB_iff.1 this
  refine SDraw.any hord (fun L st' => ∃ b, (⟨n, pickO L 0 (D.map (fun r => r b)) s, base ++ chnH L b xs⟩ : St).Le st') ?_ ?_ ?_
  · refine ⟨fun _ => 0, ?_⟩
    rw [pickO_false]
    refine ⟨rfl, fun t d h => .inl h, H, ?_, .refl _⟩
    have e : chnH (fun _ => false) (fun _ => 0) xs = (xs.map (fun x => x.X (fun _ => 0) 0)).flatten := by
      unfold chnH Chn.at
      congr 1
      refine List.map_congr_left (fun x _ => ?_)
      rw [show cntL (fun _ => false) x.T = 0 by simp [cntL]]
    show (base ++ chnH (fun _ => false) (fun _ => 0) xs).Perm H
    rw [e]; exact hH _
  · intro L st' i o hi hLi hinv haft hbef hcl
    obtain ⟨b, hle⟩ := hinv
    have hil := (List.getElem?_eq_some_iff.1 hi).1
    obtain ⟨ss, cl, r, nd, h1, h2, h3, h4, h5, h6⟩ := hops.at i o hi
    have hreq : ∀ x ∈ reqF l f i, L x = true := fun x hx => by
      cases f with
      | zero => simp [reqF] at hx
      | succ f =>
        simp only [reqF, hi] at hx
        rcases List.mem_append.1 hx with hx | hx
        · exact haft x (by simpa using (List.mem_filter.1 hx).2)
        · obtain ⟨js, hjs, hjx⟩ := List.mem_flatten.1 hx
          obtain ⟨y, hy, rfl⟩ := List.mem_map.1 hjs
          exact reqF_spec hcl f y (haft y (by simpa using (List.mem_filter.1 hy).2)) x hjx
    refine SOps.weaken hle ?_
    have hneed : ∀ t d, getL (nd b) t = some d → getL (pickO L 0 (D.map (fun r => r b)) s) t = some d := by
      have hn := h4 b
      simp only [List.reverse_nil, List.nil_append] at hn
      have hchk := hsrc (o, i) (by rw [List.mem_iff_getElem?]; exact ⟨i, by simp [List.getElem?_zipIdx, hi]⟩)
      simp only [h1, List.all_eq_true] at hchk
      rw [← hn]
      have key : ∀ (ss : List (Nat ⊕ Nat)), (∀ x ∈ ss, srcO l ts i o x = true) → ∀ t d, getL (needO (D.map (fun r => r b)) s ss) t = some d → getL (pickO L 0 (D.map (fun r => r b)) s) t = some d := by
        intro ss
        induction ss with
        | nil => intro _ t d h; simp [needO, getL] at h
        | cons x ss ih =>
          intro hx t d h
          have ih' := ih (fun y hy => hx y (List.mem_cons_of_mem _ hy)) t d
          have hx0 := hx x (List.mem_cons_self ..)
          cases x with
          | inl j =>
            simp only [srcO] at hx0
            simp only [needO] at h
            split at h
            · rename_i q hq
              rw [getL_cons] at h
              split at h
              · rename_i e
                subst e
                obtain rfl := Option.some.inj h
                exact pickO_some _ 0 j s q (hdB b) hq (by simpa using haft j hx0)
              · exact ih' h
            · exact ih' h
          | inr u =>
            simp only [srcO, List.all_eq_true] at hx0
            simp only [needO] at h
            split at h
            · rename_i q hq
              rw [getL_cons] at h
              split at h
              · rename_i e
                simp only at e
                subst e
                obtain rfl := Option.some.inj h
                rw [pickO_none _ 0 s (fun k p hk hp => ?_)]
                · exact hq
                · have h4 := hx0 (some p.1, k) (by
                    rw [List.mem_iff_getElem?]
                    refine ⟨k, ?_⟩
                    rw [← hts b, List.getElem?_zipIdx]
                    simp only [List.getElem?_map] at hk ⊢
                    cases hD : D[k]? with
                    | none => rw [hD] at hk; simp at hk
                    | some rr => rw [hD] at hk; simp at hk; simp [hk])
                  simp only [hp, BEq.rfl, Bool.not_true, Bool.false_or, Bool.or_eq_true] at h4
                  rw [Nat.zero_add]
                  rcases h4 with h4 | h4
                  · rw [Nat.eq_of_beq_eq_true h4]; exact hLi
                  · unfold nthB at h4
                    split at h4
                    · rename_i o' ho'
                      exact hbef k o' ho' h4
                    · cases h4
              · exact ih' h
            · exact ih' h
      exact key ss hchk
    have hnl : ∀ t, getL (nd b ++ pickO L 0 (D.map (fun r => r b)) s) t = getL (pickO L 0 (D.map (fun r => r b)) s) t := by
      intro t
      have : ∀ (nd : List (Nat × DV)), (∀ d, getL nd t = some d → getL (pickO L 0 (D.map (fun r => r b)) s) t = some d) → getL (nd ++ pickO L 0 (D.map (fun r => r b)) s) t = getL (pickO L 0 (D.map (fun r => r b)) s) t := by
        intro nd
        induction nd with
        | nil => intro _; rfl
        | cons q nd ih =>
          intro h
          rw [List.cons_append, getL_cons]
          split
          · rename_i e
            exact (h q.2 (by rw [getL_cons, if_pos e])).symm
          · rename_i e
            exact ih (fun d hd => h d (by rw [getL_cons, if_neg e]; exact hd))
      exact this (nd b) (hneed t)
    have hDi : ∀ b, (D.map (fun r => r b))[i]? = some (r b) := fun b => by simp [h3]
    -- what is known of the slots behind the operation
    have hslots : ∀ b', (∀ k, k ≠ i → b' k = b k) → ∀ t d, getL (pickO (fun k => if k = i then true else L k) 0 (D.map (fun r => r b')) s) t = some d → getL ((r b').toList ++ (nd b ++ pickO L 0 (D.map (fun r => r b)) s)) t = some d := by
      intro b' hb' t d ht
      have hcase : (∃ p, r b' = some p ∧ p.1 = t) ∨ (∀ p, r b' = some p → p.1 ≠ t) := by
        cases hr : r b' with
        | none => exact .inr (fun p h => by cases h)
        | some p =>
          by_cases e : p.1 = t
          · exact .inl ⟨p, rfl, e⟩
          · exact .inr (fun q h => by cases h; exact e)
      rcases hcase with ⟨p, hp, e⟩ | hne
      · subst e
        rw [hp]
        simp only [Option.toList_some, List.singleton_append]
        rw [getL_cons, if_pos rfl]
        rw [pickO_some _ 0 i s p (hdB b') (by rw [hDi, hp]) (by simp)] at ht
        exact ht
      · have e1 : getL ((r b').toList ++ (nd b ++ pickO L 0 (D.map (fun r => r b)) s)) t = getL (nd b ++ pickO L 0 (D.map (fun r => r b)) s) t := by
          cases hr : r b' with
          | none => rfl
          | some p => simp only [Option.toList_some, List.singleton_append]; rw [getL_cons, if_neg (hne p hr)]
        rw [e1, hnl, ← ht]
        refine pickO_set _ _ 0 (by simp) (fun k hk hLk => ?_) (fun k p hk hki => ?_) (fun k p hk hki => ?_)
        · rw [Nat.zero_add] at hk hLk
          simp only [List.getElem?_map]
          cases hDk : D[k]? with
          | none => rfl
          | some rr =>
            simp only [Option.map_some]
            congr 1
            have hkl : k < l.length := by
              rcases Nat.lt_or_ge k l.length with h | h
              · exact h
              · exfalso
                have hlt := (List.getElem?_eq_some_iff.1 hDk).1
                omega
            have hSk := hSs (l[k], k) (by rw [List.mem_iff_getElem?]; exact ⟨k, by simp [List.getElem?_zipIdx, hkl]⟩)
            cases hS' : Ss[k]? with
            | none => rw [hS'] at hSk; cases hSk
            | some S =>
              rw [hS'] at hSk
              simp only [List.all_eq_true, Bool.or_eq_true] at hSk
              refine hS k rr S hDk hS' b' b (fun u hu => hb' u (fun e => ?_))
              subst e
              rcases hSk u hu with h7 | h7
              · exact hk (Nat.eq_of_beq_eq_true h7).symm
              · rw [hcl k _ u (List.getElem?_eq_getElem hkl) hLk h7] at hLi; cases hLi
        · have : k = i := by omega
          subst this
          rw [hDi] at hk
          exact hne p (Option.some.inj hk)
        · have : k = i := by omega
          subst this
          have hb1 := hts b
          have hb2 := hts b'
          have := congrArg (fun x => x[k]?) (hb1.trans hb2.symm)
          simp only [List.getElem?_map, h3, Option.map_some, Option.some.injEq] at this
          rw [hDi] at hk
          rw [Option.some.inj hk] at this
          simp only [Option.map_some] at this
          obtain ⟨q, hq, e⟩ := Option.map_eq_some_iff.1 this.symm
          rw [← e]
          exact hne q hq
    have hci := hcls i (List.mem_range.2 hil)
    rw [h2] at hci
    cases cl with
    | none =>
      simp only [List.all_eq_true] at hci
      have hsame : ∀ x ∈ xs, Chn.at (fun k => if k = i then true else L k) b x = Chn.at L b x := fun x hx => by
        unfold Chn.at
        rw [cnt_set hLi x.T (hT x hx).1]
        have := hci x.T (List.mem_map.2 ⟨x, hx, rfl⟩)
        rw [if_neg (fun hm => by rw [memB_iff.2 hm] at this; cases this), Nat.add_zero]
      refine SOps.weaken (st' := ⟨n, nd b ++ pickO L 0 (D.map (fun r => r b)) s, base ++ chnH L b xs⟩) ⟨rfl, fun t d ht => .inl ((hnl t).symm.trans ht), _, .refl _, .refl _⟩ ((h5 rfl b (pickO L 0 (D.map (fun r => r b)) s) (chnH L b xs)).mono ?_)
      rintro st2 rfl
      exact ⟨b, rfl, fun t d ht => .inl (hslots b (fun _ _ => rfl) t d ht), _, by rw [chnH_congr hsame], .refl _⟩
    | some mc =>
      obtain ⟨m, c⟩ := mc
      obtain ⟨x, hx, hc, hstep⟩ := h6 m c rfl
      simp only [List.length_nil, Nat.zero_add] at hc hstep
      simp only [List.all_eq_true] at hci
      have hxm := List.mem_of_getElem? hx
      obtain ⟨t1, t2, t3⟩ := hT x hxm
      have hpre := cnt_prefix (L := L) x.T (fun j u v hu hv hLv => reqF_spec hcl f v hLv u (t3 j u v hu hv))
      have hcnt : cntL L x.T = c := by
        have h7 := hpre c i hc
        have h8 : ¬ c < cntL L x.T := fun h => by rw [h7.2 h] at hLi; cases hLi
        rcases Nat.eq_zero_or_pos c with h0 | h0
        · omega
        · have hlt := (List.getElem?_eq_some_iff.1 hc).1
          have h9 := t3 (c - 1) _ i (List.getElem?_eq_getElem (by omega)) (by rw [show c - 1 + 1 = c by omega]; exact hc)
          have := (hpre (c - 1) _ (List.getElem?_eq_getElem (by omega))).1 (hreq _ h9)
          omega
      have hmem : i ∈ x.T := List.mem_of_getElem? hc
      have hnot : ∀ j y, j ≠ m → xs[j]? = some y → i ∉ y.T := fun j y hj hy hm => by
        have := hci (y.T, j) (by
          rw [List.mem_iff_getElem?]
          exact ⟨j, by rw [List.getElem?_zipIdx, List.getElem?_map, hy]; simp⟩)
        simp only [Bool.or_eq_true] at this
        rcases this with h | h
        · exact hj (Nat.eq_of_beq_eq_true h)
        · rw [memB_iff.2 hm] at h; cases h
      have hat : Chn.at L b x = x.X b c := by unfold Chn.at; rw [hcnt]
      have hp := chnH_out (L := L) (b := b) hx
      rw [hat] at hp
      refine SOps.weaken (st' := ⟨n, nd b ++ pickO L 0 (D.map (fun r => r b)) s, base ++ (x.X b c ++ chnH L b (xs.eraseIdx m))⟩) ⟨rfl, fun t d ht => .inl ((hnl t).symm.trans ht), _, List.Perm.append_left _ hp.symm, .refl _⟩ ((hstep b (pickO L 0 (D.map (fun r => r b)) s) (chnH L b (xs.eraseIdx m))).mono ?_)
      rintro st2 ⟨b', hb', hle2⟩
      refine ⟨b', hle2.n, fun t d ht => ?_, ?_⟩
      · exact hle2.slots t d (hslots b' hb' t d ht)
      · obtain ⟨l2, p1, p2⟩ := hle2.heap
        refine ⟨l2, ?_, p2⟩
        refine List.Perm.trans ?_ p1
        have hp' := chnH_out (L := fun k => if k = i then true else L k) (b := b') hx
        have hat' : Chn.at (fun k => if k = i then true else L k) b' x = x.X b' (c + 1) := by
          unfold Chn.at
          rw [cnt_set hLi x.T t1, if_pos hmem, hcnt]
        have hrest : chnH (fun k => if k = i then true else L k) b' (xs.eraseIdx m) = chnH L b (xs.eraseIdx m) := chnH_congr (fun y hy => by
          obtain ⟨j, hj, hyj⟩ := mem_eraseIdx_ne hy
          have hni := hnot j y hj hyj
          have hym := List.mem_of_getElem? hyj
          unfold Chn.at
          rw [cnt_set hLi y.T (hT y hym).1, if_neg hni, Nat.add_zero]
          exact hX y hym b' b (fun k hk => hb' k (fun e => hni (e ▸ hk))) _)
        rw [hat', hrest] at hp'
        exact List.Perm.append_left _ hp'
  · intro L st' hall hinv
    obtain ⟨b, hle⟩ := hinv
    have e : chnH L b xs = (xs.map (fun x => x.X b x.T.length)).flatten := by
      unfold chnH Chn.at
      congr 1
      refine List.map_congr_left (fun x hx => ?_)
      have : cntL L x.T = x.T.length := by
        unfold cntL
        rw [List.filter_eq_self.2 (fun y hy => hall y ((hT x hx).2.1 y hy))]
      rw [this]
    rw [pickO_all _ 0 (fun k _ hk => hall k (by simp at hk; omega)), e] at hle
    exact ⟨_, hle, hQ b⟩
theorem SRound.drawG {C : Ctx} {id k : Nat} {l : List Oper} {n : Nat} {s : List (Nat × DV)} {H : DHeap} {Q : Exit → St → Prop} {D : List (Ids → ORes)} (f : Nat) (ts : List (Option Nat)) (srcs : List (List (Nat ⊕ Nat))) (Ts : List (List Nat)) (cls : List (Option (Nat × Nat))) (Ss : List (List Nat)) (base : DHeap) (xs : List Chn) (hm : C.P.follows .mixedOrders = true)
    (hB : genB l ts srcs Ts cls Ss f = true) (hT : xs.map (·.T) = Ts) (hH : ∀ b, (base ++ (xs.map (fun x => x.X b 0)).flatten).Perm H)
    (hops : GOk C l.toArray n base s xs [] l srcs cls Ss D) (hts : ∀ b, D.map (fun r => (r b).map (·.1)) = ts)
    (hQ : ∀ b, Q .normal ⟨n, resO (D.map (fun r => r b)) ++ s, base ++ (xs.map (fun x => x.X b x.T.length)).flatten⟩) (hd : noDef l = true := by rfl) : SRound C k (.region id l.toArray true) ⟨n, s, H⟩ Q :=
  SDraw.round hm (SDraw.gen f ts srcs cls Ss base xs (by rw [hT]; exact hB) hH hops hts (fun b => ⟨rfl, hQ b⟩)) hd
end Go.GH
namespace Go.GH
open Go Go.RowKit
section
variable {C : Ctx} {E : Env} {base : Base} {F : Nat → Prop} {st : St} {a : Act} {w : World} {ops : Array Oper} {rest : List Oper} {R : St → Prop}
  {t : Tmp} {ty : TypeId} {pos : String} {aft : Array Edge} {g : Option (Nat × Bool)}
theorem run_bounds3 {P : Program} (hs : SimF E base F st a w) {lo hi mx : Operand} {len cap l h m : Nat} {k1 k2 k3 : IntKind} (b : Bool) (hl : st.val lo = some (.v (.int k1 (l : Int)))) (hh : st.val hi = some (.v (.int k2 (h : Int)))) (hm : st.val mx = some (.v (.int k3 (m : Int)))) (h1 : l ≤ h) (h2 : h ≤ m) (h3 : m ≤ cap) :
    (Instr.sliceBounds b len cap (some (a.eval lo)) (some (a.eval hi)) (some (a.eval mx))).run P w = .ok (l, h, m) w := by
  have key : ∀ (k : IntKind) (n y : Nat) (c : BoundsCode), n ≤ y → (Instr.sliceBound (.int k (n : Int)) y c).run P w = .ok n w := fun k n y c hn => by
    simp [Instr.sliceBound, asIntOf, hn]
  simp [Instr.sliceBounds, (hs.val hl).inv_v.1, (hs.val hh).inv_v.1, (hs.val hm).inv_v.1, key _ _ _ _ h1, key _ _ _ _ h2, key _ _ _ _ h3]
theorem exec_slice3 (a : Act) (T : TypeId) (xo lo hi mx : Operand) : execOp a.eval ⟨some t, .slice T xo (some lo) (some hi) (some mx), ty, pos, aft, g⟩ = (do pure (.value (← Instr.sliceAt T (a.eval xo) (some (a.eval lo)) (some (a.eval hi)) (some (a.eval mx))))) := rfl
theorem SOps.sliceIsl3 {T e sz : Nat} {xo lo hi mx : Operand} {nn : Bool} {es : List (List DV)} {k1 k2 k3 : IntKind} (l h m : Nat) (hT : sliceB C.P T e sz = true) (hx : st.val xo = some (.isl nn sz es)) (hl : st.val lo = some (.v (.int k1 (l : Int)))) (hh : st.val hi = some (.v (.int k2 (h : Int)))) (hm : st.val mx = some (.v (.int k3 (m : Int)))) (h1 : l ≤ h) (h2 : h ≤ m) (h3 : m ≤ es.length)
    (hrest : SOps C ops rest (st.put t (.isl nn sz ((es.drop l).take (h - l)))) R)
    (hg : st.wants ops g = some true := by rfl) (ht : Nat.blt t st.n = true := by rfl) : SOps C ops (⟨some t, .slice T xo (some lo) (some hi) (some mx), ty, pos, aft, g⟩ :: rest) st R :=
  SOps.val rfl hg ht (fun base a w F hs => by
    have h4 := hs.val hx
    generalize hv : a.eval xo = v at h4
    obtain ⟨hu, i, hi', hsz'⟩ := sliceB_spec hT
    cases h4 with
    | @isl A len cap nn sz es b o xs hlen hcap hB hnn hA hsz hc hr =>
      have hb := run_bounds3 (P := C.P) (len := len) hs true hl hh hm h1 h2 (show m ≤ cap by omega)
      have hget : ∀ (i : Nat) e, ((es.drop l).take (h - l))[i]? = some e → i < h - l ∧ es[l + i]? = some e := fun i e he => by
        rw [List.getElem?_take] at he
        split at he
        · rename_i hlt; rw [List.getElem?_drop] at he; exact ⟨hlt, he⟩
        · cases he
      refine ⟨.slice (if m = l then A else A.map (·.add (l * sz))) (h - l) (m - l), ?_, .isl (b := b) (o := o + l * sz) (fun i j => xs (l + i) j) (by simp; omega) (by omega) (by simp; omega) (fun hn => ?_) (fun hne => ?_) (fun i e he => hsz _ e (hget i e he).2) (fun i e j d he hj => ?_) (fun i e j d he hj => hr _ e j d (hget i e he).2 hj)⟩
      · rw [exec_slice3, hv]
        simp only [Instr.sliceAt, Instr.slice, Sem.run_bind, run_underlying hu, Result.andThen_ok, hb, sizeOf, typeInfo, run_program, hi', Sem.run_pure, hsz']
      · split
        · exact hnn hn
        · intro e; exact hnn hn (Option.map_eq_none_iff.1 e)
      · have hlh : l < h := by
          rcases Nat.lt_or_ge l h with h' | h'
          · exact h'
          · exact absurd (List.eq_nil_of_length_eq_zero (by simp; omega)) hne
        have hes : es ≠ [] := by intro e; simp [e] at h3; omega
        obtain ⟨rfl, hF⟩ := hA hes
        rw [if_neg (by omega)]
        exact ⟨by simp [add_plain'], hF⟩
      · have := hc _ e j d (hget i e he).2 hj
        rw [Nat.add_mul, Nat.add_assoc] at this
        rw [Nat.add_assoc]
        exact this) hrest
theorem SOps.sliceM3 {α : Type} {T e sz : Nat} {xo lo hi mx : Operand} {nn : Bool} {f : α → List DV} {xs : List α} {k1 k2 k3 : IntKind} {zl zh zm : Int} (l h m : Nat) (hT : sliceB C.P T e sz = true) (hx : st.val xo = some (.isl nn sz (xs.map f))) (hl : st.val lo = some (.v (.int k1 zl))) (el : zl = (l : Int)) (hh : st.val hi = some (.v (.int k2 zh))) (eh : zh = (h : Int)) (hm : st.val mx = some (.v (.int k3 zm))) (em : zm = (m : Int)) (h1 : l ≤ h) (h2 : h ≤ m) (h3 : m ≤ xs.length)
    (hrest : SOps C ops rest (st.put t (.isl nn sz (((xs.drop l).take (h - l)).map f))) R)
    (hg : st.wants ops g = some true := by rfl) (ht : Nat.blt t st.n = true := by rfl) : SOps C ops (⟨some t, .slice T xo (some lo) (some hi) (some mx), ty, pos, aft, g⟩ :: rest) st R := by
  subst el; subst eh; subst em
  exact SOps.sliceIsl3 l h m hT hx hl hh hm h1 h2 (by rw [List.length_map]; exact h3) (by rw [← List.map_drop, ← List.map_take]; exact hrest) hg ht
end
end Go.GH
namespace Go.GH
open Go Go.Proofs
variable {E : Env}
theorem elemB_22_1_24 : elemB Tryz.prog 22 1 24 = true := by kernel_rfl
theorem flatB_73 : flatB Tryz.prog 73 = true := by kernel_rfl
theorem oneB_73 : oneB Tryz.prog 73 = true := by kernel_rfl
theorem zeroIs_22 : zeroIs Tryz.prog 22 (.slice none 0 0) := by unfold zeroIs; kernel_rfl
theorem zeroIs_73 : zeroIs Tryz.prog 73 (.slice none 0 0) := by unfold zeroIs; kernel_rfl
/-- How many pieces. -/
def chN (k n : Nat) : Nat := (k + n - 1) / n
def chI {α : Type} (l : List α) (n i : Nat) : List α := (l.drop (i * n)).take n
def chL {α : Type} (l : List α) (n : Nat) : List (List α) := (List.range (chN l.length n)).map (chI l n)
theorem chN_lt {k n i : Nat} (hn : 1 ≤ n) : i < chN k n ↔ i * n < k := by
  unfold chN
  rw [Nat.lt_iff_add_one_le, Nat.le_div_iff_mul_le (by omega), Nat.succ_mul]
  omega
theorem chL_len {α : Type} (l : List α) (n : Nat) : (chL l n).length = chN l.length n := by simp [chL]
theorem chL_get {α : Type} {l : List α} {n i : Nat} (hn : 1 ≤ n) (h : i * n < l.length) : (chL l n)[i]? = some (chI l n i) := by
  unfold chL
  rw [List.getElem?_map, List.getElem?_range ((chN_lt hn).2 h)]
  rfl
def chD (l : List ByteArray) (n : Nat) : List DV := (chL l n).map (fun x => DStrs x)
theorem chD_get {l : List ByteArray} {n i m : Nat} (hn : 1 ≤ n) (h : i * n < l.length) (hm : (l.drop (i * n)).take m = chI l n i) : (chD l n)[i]? = some (DStrs ((l.drop (i * n)).take m)) := by
  unfold chD
  rw [List.getElem?_map, chL_get hn h, hm]
  rfl
theorem chI_min {α : Type} (l : List α) (n i : Nat) : (l.drop (i * n)).take (min n (l.length - i * n)) = chI l n i := by
  unfold chI
  rw [List.take_eq_take_iff, List.length_drop]
  omega
theorem cChunk (l : List ByteArray) (n : Nat) (hn : 1 ≤ n) : GCall Tryz.prog E 76 [DStrs l, .v (.int .i64 (n : Int))] [] (fun d H => d = .fn 111 [.ipin [DStrs l], .ipin [.v (.int .i64 (n : Int))]] ∧ H = []) := by
 refine GCall.body (C := ⟨Tryz.prog, E, true⟩) Tryz.func76 rfl (fun _ => rfl) (by kernel_rfl) rfl ?_
 refine SCode.seqR (SOps.boxF rfl rfl rfl (SOps.boxF rfl rfl rfl (SOps.assign rfl (SOps.nil (SCode.seq (SCode.seqR (SOps.loadPin rfl flatB_3 (SOps.bin rfl rfl rfl (SOps.nil ?_)))))))))
 refine SCode.cond rfl (fun hc1 => ?_) (fun hc1 => ?_)
 ·try simp only [nmL] at hc1
  refine SCode.region ?_
  exfalso
  omega
 ·try simp only [nmL] at hc1
  refine SCode.skip ?_
  show SCode _ _ _ _
  refine SCode.seqR (SOps.makeFunc rfl (SOps.assign rfl (SOps.nil (SCode.ret ?_))))
  exact ⟨_, Res.one (.tmp rfl), rfl, rfl⟩
theorem iChunk (l : List ByteArray) (n : Nat) (hn : 1 ≤ n) (hn2 : n ≤ 1048576) (hl : l.length ≤ 1048576) : GIter Tryz.prog E 111 [.ipin [DStrs l], .ipin [.v (.int .i64 (n : Int))]] (chD l n) := by
  refine GIter.body (C := ⟨Tryz.prog, E, true⟩) Tryz.func111 rfl (by kernel_rfl) rfl rfl (fun l9 J hK hY => ?_)
  refine SYCode.seqR (SYOps.one hK (SOps.assign rfl (SOps.nil rfl)) rfl rfl (SYOps.nil (SYCode.block (SYCode.loop1 (ι := fun i => i) (hx := by rfl) (fun (i : Nat) => (⟨31, [(0, .v (.func (.yield l9) #[] #[])), (1, .ipin [DStrs l]), (2, .ipin [.v (.int .i64 (n : Int))]), (4, .v (.int .i64 ((i * n : Nat) : Int)))], []⟩ : St)) (fun (i : Nat) => i ≤ chN l.length n) (fun (i : Nat) => l.length - i * n) (0) (by exact Nat.zero_le _) (St.Le.of ⟨(by first | rfl | (show some _ = some _; simp)), (by first | rfl | (show some _ = some _; simp)), (by first | rfl | (show some _ = some _; simp)), (by first | rfl | (show some _ = some _; simp)), trivial⟩ rfl (by first | rfl | (simp))) ?_))))
  rintro i hi
  refine SYCode.seq (SYCode.seqR (SYOps.one hK (SOps.move rfl (SOps.nil rfl)) rfl rfl (SYOps.one hK (SOps.loadPin rfl flatB_22 (SOps.nil rfl)) rfl rfl (SYOps.one hK (SOps.lenM rfl sliceB_22_9_1 (SOps.nil rfl)) rfl rfl (SYOps.one hK (SOps.bin rfl rfl rfl (SOps.nil rfl)) rfl rfl (SYOps.nil ?_))))))
  refine SYCode.cond rfl (fun hc1 => ?_) (fun hc1 => ?_)
  · try simp only [nmL] at hc1
    refine SYCode.skip ?_
    show SYCode _ _ _ _ _ _
    refine SYCode.seq (SYCode.block (SYCode.seq ?_))
    have hlt : i * n < l.length := by omega
    have hsm : (i + 1) * n = i * n + n := Nat.succ_mul _ _
    have hov : i * n = 0 ∨ n ≤ i * n := by rcases Nat.eq_zero_or_pos i with h | h; exact .inl (by rw [h, Nat.zero_mul]); exact .inr (Nat.le_mul_of_pos_left _ h)
    have hsc : ((i * n : Nat) : Int) = (i : Int) * (n : Int) := Int.natCast_mul _ _
    refine SYCode.of hK rfl ?_
    apply SCode.drawAuto mixed_ [13, 14, 15, 16, 17, 18, 5] [[.inr 2], [.inr 1], [.inr 4], [.inl 1, .inl 2], [.inl 3], [.inl 0, .inl 4], [.inl 5]]
    · kernel_rfl
    · kernel_rfl
    · apply DOk.cons 13 
      · rfl
      · exact (NeedIs.inr _ rfl NeedIs.nil)
      · intro rest
        refine SOps.loadPin rfl flatB_3 ?_
        exact SOps.nil rfl
      apply DOk.cons 14 
      · rfl
      · exact (NeedIs.inr _ rfl NeedIs.nil)
      · intro rest
        refine SOps.loadPin rfl flatB_22 ?_
        exact SOps.nil rfl
      apply DOk.cons 15 
      · rfl
      · exact (NeedIs.inr _ rfl NeedIs.nil)
      · intro rest
        refine SOps.move rfl ?_
        exact SOps.nil rfl
      apply DOk.cons 16 
      · rfl
      · exact (NeedIs.inl 1 _ _ rfl rfl (NeedIs.inl 0 _ _ rfl rfl NeedIs.nil))
      · intro rest
        refine SOps.sliceD (n1 := 0) (i * n) sliceB_22_9_1 rfl rfl (by first | omega | (simp only [lenB]; omega) | (simp only [List.length_map, lenB]; omega) | (simp; done)) (by first | omega | (simp only [lenB]; omega) | (simp only [List.length_map, lenB]; omega) | (simp; done)) ?_
        exact SOps.nil rfl
      apply DOk.cons 17 
      · rfl
      · exact (NeedIs.inl 0 _ _ rfl rfl NeedIs.nil)
      · intro rest
        refine SOps.lenM rfl sliceB_22_9_1 ?_
        exact SOps.nil rfl
      apply DOk.cons 18 
      · rfl
      · exact (NeedIs.inl 4 _ _ rfl rfl (NeedIs.inl 0 _ _ rfl rfl NeedIs.nil))
      · intro rest
        refine SOps.minI rfl rfl (by split <;> exact has_i64 (by first | omega | (simp only [lenB]; omega) | (simp only [List.length_map, lenB]; omega) | (simp; done)) (by first | omega | (simp only [lenB]; omega) | (simp only [List.length_map, lenB]; omega) | (simp; done))) ?_
        exact SOps.nil rfl
      apply DOk.cons 5 
      · rfl
      · exact (NeedIs.inl 0 _ _ rfl rfl NeedIs.nil)
      · intro rest
        refine SOps.assign rfl ?_
        exact SOps.nil rfl
      exact DOk.nil
    · rfl
    · show SYCode _ _ _ _ _ _
      refine SYCode.seqR ?_
      refine SYOps.relab (t := 5) (d' := .v (.int .i64 ((min n (l.length - i * n) : Nat) : Int))) rfl (fun w F v hv => by refine Eq.mp (congrArg (fun z => Rep w F v (DV.v (Value.int .i64 z))) ?_) hv; simp only [lenB, List.length_drop, List.length_map]; split <;> omega) ?_
      refine SYOps.one hK (SOps.move rfl (SOps.nil rfl)) rfl rfl (SYOps.one hK (SOps.loadPin rfl flatB_22 (SOps.nil rfl)) rfl rfl (SYOps.one hK (SOps.move rfl (SOps.nil rfl)) rfl rfl (SYOps.one hK (SOps.move rfl (SOps.nil rfl)) rfl rfl (SYOps.one hK (SOps.move rfl (SOps.nil rfl)) rfl rfl (SYOps.one hK (SOps.addI rfl rfl (by first | omega | (simp only [lenB]; omega) | (simp only [List.length_map, lenB]; omega) | (simp; done)) (by first | omega | (simp only [lenB]; omega) | (simp only [List.length_map, lenB]; omega) | (simp; done)) (SOps.nil rfl)) rfl rfl (SYOps.one hK (SOps.move rfl (SOps.nil rfl)) rfl rfl (SYOps.one hK (SOps.move rfl (SOps.nil rfl)) rfl rfl (SYOps.one hK (SOps.addI rfl rfl (by first | omega | (simp only [lenB]; omega) | (simp only [List.length_map, lenB]; omega) | (simp; done)) (by first | omega | (simp only [lenB]; omega) | (simp only [List.length_map, lenB]; omega) | (simp; done)) (SOps.nil rfl)) rfl rfl (SYOps.one hK (SOps.sliceM3 (i * n) (i * n + min n (l.length - i * n)) (i * n + min n (l.length - i * n)) sliceB_22_9_1 rfl rfl rfl rfl (by omega) rfl (by omega) (by omega) (by omega) (by omega) (SOps.nil rfl)) rfl rfl (SYOps.yield hY rfl rfl (chD_get hn hlt (by rw [show i * n + min n (l.length - i * n) - i * n = min n (l.length - i * n) by omega]; exact chI_min _ _ _)) rfl (SYOps.one hK (SOps.un rfl rfl (SOps.nil rfl)) rfl rfl (SYOps.nil ?_))))))))))))
      refine SYCode.cond rfl (fun h => by cases h) (fun _ => ?_)
      refine SYCode.skip ?_
      show SYCode _ _ _ _ _ _
      refine SYCode.region (SYOps.one hK (SOps.move rfl (SOps.nil rfl)) rfl rfl (SYOps.one hK (SOps.loadPin rfl flatB_3 (SOps.nil rfl)) rfl rfl (SYOps.one hK (SOps.addI rfl rfl (by first | omega | (simp only [lenB]; omega) | (simp only [List.length_map, lenB]; omega) | (simp; done)) (by first | omega | (simp only [lenB]; omega) | (simp only [List.length_map, lenB]; omega) | (simp; done)) (SOps.nil rfl)) rfl rfl (SYOps.one hK (SOps.assign rfl (SOps.nil rfl)) rfl rfl (SYOps.nil ?_)))))
      exact ⟨i + 1, (chN_lt hn).2 hlt, by rw [hsm]; omega, St.Le.of ⟨rfl, rfl, rfl, (by show some _ = some _; rw [hsm]; first | done | rfl | (congr 3; omega)), trivial⟩, rfl⟩
  · try simp only [nmL] at hc1
    refine SYCode.exit ?_
    exact ⟨.inl rfl, by show i = _; rw [show (chD l n).length = chN l.length n by simp [chD, chL_len]]; have h9 := (chN_lt (k := l.length) (i := i) hn); omega⟩
theorem sClone (p : List ByteArray) (hp : p.length ≤ 1048576) : GCall Tryz.prog E 77 [DStrs p] [] (fun d H => d = DStrs p ∧ H = []) := by
 refine GCall.body (C := ⟨Tryz.prog, E, true⟩) Tryz.func77 rfl (fun _ => rfl) (by kernel_rfl) rfl ?_
 refine SCode.seqR (SOps.assign rfl (SOps.nil (SCode.seq (SCode.seqR (SOps.move rfl ?_)))))
 refine SOps.eqNilS Tryz.underlying22 rfl rfl (fun c0 hz0 => ?_)
 refine SOps.nil ?_
 refine SCode.cond rfl (fun hc1 => ?_) (fun hc1 => ?_)
 ·try simp only [nmL] at hc1
  have ha0 : p = [] := List.map_eq_nil_iff.1 (hz0 hc1)
  refine SCode.seqR (SOps.assign rfl (SOps.nil (SCode.nilIsl (t := 2) (sz := 1) rfl (SCode.ret ?_))))
  exact ⟨_, Res.one (.tmp rfl), by rw [ha0]; rfl, rfl⟩
 ·try simp only [nmL] at hc1
  refine SCode.skip ?_
  show SCode _ _ _ _
  refine SCode.seqR ?_
  refine SOps.litO sliceB_22_9_1 zeroIs_9 rfl (fun b1 hb_1 => ?_)
  refine SOps.move rfl ?_
  refine SOps.appendOwnE 0 sliceB_22_9_1 elemB_9_1_16 rfl rfl rfl (by simp) SrcD.isl (by simp [lenB]; omega) (by simp; omega) (fun bC => ?_)
  refine SOps.freezeS (t := 7) 0 rfl rfl rfl (by simp) (SOps.assign rfl (SOps.nil (SCode.ret ?_)))
  exact ⟨_, Res.one (.tmp rfl), rfl, rfl⟩
def sheetsR (l : List ByteArray) (n : Int) : List (List ByteArray) × Int := if wideB n then (chL l n.toNat, 0) else ([], 1)
theorem chL_next {α : Type} {l : List α} {n i : Nat} {x : List α} (h : (chL l n)[i]? = some x) : (chL l n).take (i + 1) = (chL l n).take i ++ [x] := by
  obtain ⟨hi, rfl⟩ := List.getElem?_eq_some_iff.1 h
  exact take_next hi
theorem chL_few {α : Type} (l : List α) {n : Nat} (hn : 1 ≤ n) : (chL l n).length ≤ l.length := by
  rw [chL_len]
  rcases Nat.lt_or_ge l.length (chN l.length n) with h | h
  · have h1 := (chN_lt hn).1 h
    have h2 := Nat.le_mul_of_pos_right l.length hn
    omega
  · exact h
theorem chI_len {α : Type} {l : List α} {n i : Nat} {x : List α} (h : (chL l n)[i]? = some x) : x.length ≤ l.length := by
  unfold chL at h
  rw [List.getElem?_map] at h
  obtain ⟨j, _, rfl⟩ := Option.map_eq_some_iff.1 h
  simp [chI]
  omega
theorem cSheets0 (l : List ByteArray) (n : Int) (hl : l.length ≤ 1048576) : GCall Tryz.prog E 32 [DStrs l, .v (.int .i64 n)] [] (fun d H => ∃ k, d = .tup [accD 1 k ((sheetsR l n).1.map encW), .v (.int .i64 (sheetsR l n).2)] ∧ ∀ p ∈ accH 22 1 k ((sheetsR l n).1.map encW), p ∈ H) := by
 refine GCall.bodyM (C := ⟨Tryz.prog, E, true⟩) Tryz.func32 rfl (fun _ => rfl) (by kernel_rfl) rfl ?_
 refine SMCode.seqRS (SOps.assign rfl (SOps.assign rfl (SOps.nil (SMCode.seqS (SCode.seqR (SOps.move rfl (SOps.callP (jLimited _) rfl ?_)))))))
 rintro _ rfl
 refine SOps.un rfl rfl (SOps.nil ?_)
 refine SCode.cond rfl (fun hc1 => ?_) (fun hc1 => ?_)
 ·try simp only [nmL] at hc1
  refine SCode.seqR (SOps.assign rfl (SOps.assign rfl (SOps.nil (SCode.ret ?_))))
  exact ⟨_, Res.two (.tmp rfl) (.tmp rfl), 0, by unfold sheetsR; rw [if_neg (by simp_all)]; rfl, by unfold sheetsR; rw [if_neg (by simp_all)]; exact fun p hp => by cases hp⟩
 ·try simp only [nmL] at hc1
  refine SCode.skip ?_
  show SMCode _ _ _ _ _
  refine SMCode.seqRS ?_
  obtain ⟨m, rfl⟩ : ∃ m : Nat, n = (m : Int) := ⟨n.toNat, by have := wideX_iff.1 (by assumption); omega⟩
  have hw := wideX_iff.1 (by assumption)
  refine SOps.alloc (sz := 1) zeroIs_73 (fun b0 hb_0 => ?_)
  refine SOps.nil (SMCode.seq (SMCode.seqRS (SOps.move rfl (SOps.move rfl (SOps.callP (cChunk _ _ (by omega)) rfl ?_)))))
  rintro _ rfl
  refine SOps.nil (SMCode.block (SMCode.weaken (st' := (⟨21, [(13, .fn 111 [.ipin [DStrs l], .ipin [.v (.int .i64 (m : Int))]]), (6, .ref b0 0)], ([(b0, .row 73 1 [[accD 1 0 (((chL l m).take 0).map encW)]])] ++ (accH 22 1 0 (((chL l m).take 0).map encW) ++ []))⟩ : St)) (St.Le.of ⟨rfl, rfl, trivial⟩ rfl rfl) ?_))
  refine SMCode.range rfl (iChunk l m (by omega) (by omega) hl) (fun i H => ∃ k, List.Sublist ([(b0, .row 73 1 [[accD 1 k (((chL l m).take i).map encW)]])] ++ (accH 22 1 k (((chL l m).take i).map encW) ++ [])) H) ⟨0, List.Sublist.refl _⟩ rfl (fun i x l9 H hx hI => ?_) (fun H hI => ?_)
  ·obtain ⟨k, hsub⟩ := hI
   obtain ⟨x, hx0, rfl⟩ : ∃ y, (chL l m)[i]? = some y ∧ DStrs y = x := by unfold chD at hx; rw [List.getElem?_map] at hx; exact Option.map_eq_some_iff.1 hx
   have hnx := chL_next hx0
   have hxl := chI_len hx0
   have hfew := chL_few l (n := m) (by omega)
   have htl : ((chL l m).take i).length ≤ l.length := by simp; omega
   refine SRound.weaken (st' := (⟨21, [(14, DStrs x), (6, .ref b0 0)], ([(b0, .row 73 1 [[accD 1 k (((chL l m).take i).map encW)]])] ++ (accH 22 1 k (((chL l m).take i).map encW) ++ []))⟩ : St)) (St.Le.ofSub ⟨rfl, rfl, trivial⟩ hsub) (SRound.region (SOps.assign rfl (SOps.nil ?_)))
   refine ⟨rfl, ?_⟩
   refine SRound.block ?_
   apply SRound.drawG 7 [some 15, some 16, some 17, some 18, some 19, none] [[.inr 6], [.inr 7], [.inl 1], [.inl 2], [.inl 0, .inl 3], [.inr 6, .inl 4]] [[0, 4, 5]] [some (0, 0), none, none, none, some (0, 1), some (0, 2)] [[], [], [], [], [4], []] ([]) [⟨[0, 4, 5], fun ids c => match c with | 0 => (b0, .row 73 1 [[accD 1 k (((chL l m).take i).map encW)]]) :: accH 22 1 k (((chL l m).take i).map encW) | 1 => (b0, .row 73 1 [[accD 1 k (((chL l m).take i).map encW)]]) :: accH 22 1 k (((chL l m).take i).map encW) | 2 => (b0, .row 73 1 [[accD 1 k (((chL l m).take i).map encW)]]) :: accH 22 1 (ids.getD 1 0) ((((chL l m).take i).map encW) ++ [[DStrs x]]) | _ => (b0, .row 73 1 [[accD 1 (ids.getD 1 0) ((((chL l m).take i).map encW) ++ [[DStrs x]])]]) :: accH 22 1 (ids.getD 1 0) ((((chL l m).take i).map encW) ++ [[DStrs x]])⟩] mixed_
   ·kernel_rfl
   ·rfl
   ·exact fun _ => .refl _
   ·apply GOk.act [] (fun ids => some (15, accD 1 k (((chL l m).take i).map encW)))
    ·rfl
    ·rfl
    ·rfl
    ·exact fun b => (NeedG.inr _ rfl NeedG.nil)
    ·intro b rest ext
     refine SOps.loadRef 0 0 0 rfl flatB_73 rfl rfl rfl rfl ?_
     exact SOps.nil ⟨b, fun _ _ => rfl, ⟨rfl, fun t d h => .inl h, _, .refl _, .refl _⟩⟩
    apply GOk.rd 16
    ·rfl
    ·exact fun b => (NeedG.inr _ rfl NeedG.nil)
    ·intro b rest ext
     refine SOps.move rfl ?_
     exact SOps.nil rfl
    apply GOk.rd 17
    ·rfl
    ·exact fun b => (NeedG.inl 0 _ _ rfl rfl rfl NeedG.nil)
    ·intro b rest ext
     refine SOps.callP (sClone _ (by first | omega | (simp; omega))) rfl ?_
     rintro _ rfl
     exact SOps.nil rfl
    apply GOk.rd 18
    ·rfl
    ·exact fun b => (NeedG.inl 0 _ _ rfl rfl rfl NeedG.nil)
    ·intro b rest ext
     refine SOps.frame1 (SOps.litF rfl sliceB_73_22_1 zeroIs_22 rfl (SOps.nil rfl)) ?_
     exact SOps.nil rfl
    apply GOk.act [4] (fun ids => some (19, accD 1 (ids.getD 0 0) ((((chL l m).take i).map encW) ++ [[DStrs x]])))
    ·rfl
    ·rfl
    ·rfl
    ·exact fun b => (NeedG.inl 3 _ _ rfl rfl rfl (NeedG.inl 0 _ _ rfl rfl rfl NeedG.nil))
    ·intro b rest ext
     refine SOps.appendAcc [_] _ sliceB_73_22_1 elemB_22_1_24 rfl rfl rfl SrcD.isl (by simp) (by first | (simp [lenB] <;> (first | omega | (simp only [lenB]; omega) | (simp only [List.length_map, lenB]; omega) | (simp; done))) | (simp only [lenB]; (first | omega | (simp only [lenB]; omega) | (simp only [List.length_map, lenB]; omega) | (simp; done)))) (by first | (simp <;> (first | omega | (simp only [lenB]; omega) | (simp only [List.length_map, lenB]; omega) | (simp; done))) | (first | omega | (simp only [lenB]; omega) | (simp only [List.length_map, lenB]; omega) | (simp; done))) (fun b1 => ?_)
     exact SOps.nil ⟨fun k => if k = 4 then b1 else b k, fun k hk => if_neg hk, ⟨rfl, fun t d h => .inl h, _, List.Perm.of_eq rfl, .refl _⟩⟩
    apply GOk.act [] (fun _ => none)
    ·rfl
    ·rfl
    ·rfl
    ·exact fun b => (NeedG.inr _ rfl (NeedG.inl 0 _ _ rfl rfl rfl NeedG.nil))
    ·intro b rest ext
     refine SOps.storeM 0 rfl rfl oneB_73 rfl ?_ (hd := accD_one _ _ _)
     exact SOps.nil ⟨b, fun _ _ => rfl, ⟨rfl, fun t d h => .inl h, _, .refl _, .refl _⟩⟩
    exact GOk.nil
   ·exact fun _ => rfl
   ·intro ids
    exact ⟨rfl, ids 4, by rw [hnx, List.map_append]; exact .refl _⟩
  ·obtain ⟨k, hsub⟩ := hI
   show SMCode _ _ _ _ _
   refine SMCode.weaken (st' := (⟨21, [(6, .ref b0 0)], ([(b0, .row 73 1 [[accD 1 k (((chL l m).take (chD l m).length).map encW)]])] ++ (accH 22 1 k (((chL l m).take (chD l m).length).map encW) ++ []))⟩ : St)) (St.Le.ofSub ⟨rfl, trivial⟩ hsub) (SMCode.seqR (SOps.loadRef 0 0 0 rfl flatB_73 rfl rfl rfl rfl (SOps.assign rfl (SOps.assign rfl (SOps.nil (SMCode.ret ?_))))))
   have hfin : (chL l m).take (chD l m).length = chL l m := by unfold chD; rw [List.length_map, List.take_length]
   have hsr : sheetsR l m = (chL l m, 0) := by unfold sheetsR; rw [if_pos (by assumption)]; rfl
   exact ⟨_, Res.two (.tmp rfl) (.tmp rfl), k, by rw [hsr, hfin], by rw [hsr, hfin]; exact fun p hp => .tail _ (by rw [List.append_nil]; exact hp)⟩
theorem cSheets (l : List ByteArray) (n : Int) (hl : l.length ≤ 1048576) : GCall Tryz.prog E 32 [DStrs l, .v (.int .i64 n)] [] (fun d H => d = .tup [DSS (sheetsR l n).1, .v (.int .i64 (sheetsR l n).2)] ∧ H = []) :=
  GCall.cleanAcc (cSheets0 l n hl)
end Go.GH
