/-
  strings.Builder, walked: what its methods do to a builder of the call's own. No conditions.
-/
import Derived.Test.YtnelkblhplellaaDoorProg
import Derived.Test.YtnelkblhplellaaDoorHx
import Derived.KernelRfl
set_option linter.unusedVariables false
set_option linter.unusedSimpArgs false
namespace Go.GH
open Go Go.Proofs
variable {E : Env}

/-! #### strings.Builder -/
def adrB (b : Nat) : Bool → DV
  | true => .vref b 68 2
  | false => .v (.pointer none)
def bldH (b g : Nat) (used : Bool) (bs : List UInt8) : DHeap := (b, .row 68 2 [[adrB b used, accD 1 g (bs.map encY)]]) :: accH 5 1 g (bs.map encY)
theorem ptr_B : ptrB Tryd.prog 65 68 := ⟨by kernel_rfl, by
  have h : (Tryd.prog.info? 68).map (fun j => decide (j.size ≠ 0)) = some true := by kernel_rfl
  obtain ⟨j, h1, h2⟩ := Option.map_eq_some_iff.1 h
  exact ⟨j, h1, of_decide_eq_true h2⟩⟩
theorem up_B : Tryd.prog.underlying 96 = some .unsafePointer := by kernel_rfl
theorem lies_B : liesAt Tryd.prog Tryd.prog.depth 68 (2 / Tryd.prog.cellsOf 68) 0 68 1 = true := by kernel_rfl
theorem noEsc_B : noEscB Tryd.prog 75 := ⟨Tryd.f75, Tryd.func75, by kernel_rfl, by kernel_rfl, by kernel_rfl, by kernel_rfl⟩
theorem fld0_B : fieldB Tryd.prog 68 0 0 = true := by kernel_rfl
theorem fld1_B : fieldB Tryd.prog 68 1 1 = true := by kernel_rfl
theorem flatP_B : flatB Tryd.prog 65 = true := by kernel_rfl
theorem flatS_B : flatB Tryd.prog 66 = true := by kernel_rfl
theorem oneP_B : oneB Tryd.prog 65 = true := by kernel_rfl
theorem oneS_B : oneB Tryd.prog 66 = true := by kernel_rfl
theorem slice_B : sliceB Tryd.prog 66 5 1 = true := by kernel_rfl
theorem elem_B : elemB Tryd.prog 5 1 1 = true := by kernel_rfl
theorem zero_By : zeroIs Tryd.prog 5 (.int .u8 0) := by unfold zeroIs; kernel_rfl
theorem mixed_B : Tryd.prog.follows .mixedOrders = true := by kernel_rfl
theorem ptr_By : Tryd.prog.underlying 89 = some (.pointer 5) := by kernel_rfl
theorem some_R : (Tryd.prog.underlying 21).isSome = true := by kernel_rfl
theorem int_U : intB Tryd.prog 49 .u32 = true := by kernel_rfl
theorem int_By : intB Tryd.prog 5 .u8 = true := by kernel_rfl
theorem cells_By : Tryd.prog.cellsOf 5 = 1 := by kernel_rfl
theorem bCopy (b : Nat) (used : Bool) (x : DV) (hx : x.one = true) : GCall Tryd.prog E 67 [.vref b 68 2] [(b, .row 68 2 [[adrB b used, x]])] (fun d H => d = .v (.tuple #[]) ∧ H = [(b, .row 68 2 [[adrB b true, x]])]) := by
  refine GCall.body (C := ⟨Tryd.prog, E, false⟩) Tryd.func67 rfl (fun h => by cases h) (by kernel_rfl) rfl ?_
  refine SCode.seqR ?_
  refine SOps.move rfl ?_
  refine SOps.nilCheck rfl rfl ?_
  refine SOps.fieldV rfl fld0_B ?_
  refine SOps.loadRef 0 0 0 rfl flatP_B rfl rfl rfl rfl ?_
  cases used with
  | true =>
    refine SOps.eqNil false ptr_B rfl (.inl ⟨rfl, rfl⟩) rfl ?_
    refine SOps.nil ?_
    refine SCode.cond rfl (fun h => by cases h) (fun _ => ?_)
    refine SCode.seqR ?_
    refine SOps.move rfl ?_
    refine SOps.nilCheck rfl rfl ?_
    refine SOps.fieldV rfl fld0_B ?_
    refine SOps.loadRef 0 0 0 rfl flatP_B rfl rfl rfl rfl ?_
    refine SOps.move rfl ?_
    refine SOps.eqPtr ptr_B rfl rfl ?_
    refine SOps.nil ?_
    refine SCode.cond rfl (fun h => by cases h) (fun _ => ?_)
    refine SCode.skip ?_
    exact ⟨_, Res.none, rfl, rfl⟩
  | false =>
    refine SOps.eqNil true ptr_B rfl (.inr ⟨rfl, rfl⟩) rfl ?_
    refine SOps.nil ?_
    refine SCode.cond rfl (fun _ => ?_) (fun h => by cases h)
    refine SCode.region ?_
    refine SOps.move rfl ?_
    refine SOps.move rfl ?_
    refine SOps.toUnsafe rfl ptr_B up_B (by decide) ?_
    refine SOps.noEscape noEsc_B rfl ?_
    refine SOps.fromUnsafe rfl up_B ptr_B lies_B ?_
    refine SOps.nilCheck rfl rfl ?_
    refine SOps.fieldV rfl fld0_B ?_
    refine SOps.store 0 0 0 rfl rfl oneP_B rfl rfl rfl (by decide) rfl ?_
    refine SOps.nil ?_
    exact ⟨_, Res.none, rfl, rfl⟩

theorem bWriteByte (b g : Nat) (used : Bool) (bs : List UInt8) (y : UInt8) (hl : bs.length ≤ 70368744177664) : GCall Tryd.prog E 48 [.vref b 68 2, .v (.int .u8 (y.toNat : Int))] (bldH b g used bs) (fun d H => ∃ g', d = .v .nilIface ∧ H = bldH b g' true (bs ++ [y])) := by
  refine GCall.body (C := ⟨Tryd.prog, E, false⟩) Tryd.func48 rfl (fun h => by cases h) (by kernel_rfl) rfl ?_
  refine SCode.seqR ?_
  refine SOps.assign rfl ?_
  refine SOps.nil ?_
  refine SCode.seqR ?_
  refine SOps.move rfl ?_
  refine SOps.call (H := [(b, .row 68 2 [[adrB b used, accD 1 g (bs.map encY)]])]) (G := accH 5 1 g (bs.map encY)) (bCopy b used _ (accD_one ..)) rfl rfl ?_
  rintro _ _ ⟨rfl, rfl⟩
  refine SOps.nil ?_
  refine SCode.seqR ?_
  refine SOps.move rfl ?_
  refine SOps.move rfl ?_
  refine SOps.nilCheck rfl rfl ?_
  refine SOps.fieldV rfl fld1_B ?_
  refine SOps.loadRef 0 0 1 rfl flatS_B rfl rfl rfl rfl ?_
  refine SOps.move rfl ?_
  refine SOps.litO slice_B zero_By rfl (fun b0 hb_0 => ?_)
  refine SOps.appendAcc [_, _] [] slice_B elem_B rfl rfl (by rw [List.append_nil]; rfl) (.own 0 rfl (Nat.le_refl _)) (by simp) (by simp [lenB]; omega) (by simp; omega) (fun g' => ?_)
  refine SOps.nilCheck rfl rfl ?_
  refine SOps.fieldV rfl fld1_B ?_
  refine SOps.store 1 0 1 rfl rfl oneS_B rfl rfl rfl (by decide) (accD_one ..) ?_
  refine SOps.nil ?_
  refine SCode.seqR ?_
  refine SOps.assign rfl ?_
  refine SOps.nil ?_
  refine SCode.weaken (st' := ⟨_, [(4, .v .nilIface)], bldH b g' true (bs ++ [y])⟩) (St.Le.ofSub ⟨rfl, trivial⟩ ?_) (SCode.ret ⟨_, Res.one (.tmp rfl), g', rfl, rfl⟩)
  have e1 : (bs ++ [y]).map encY = bs.map encY ++ [encY y] := by rw [List.map_append]; rfl
  unfold bldH
  rw [e1]
  simp only [List.append_nil]
  exact List.Sublist.cons _ (List.Sublist.refl _)

theorem bAppendNA (g c : Nat) (bs : List UInt8) (hv : Utf8.valid (c : Int) = true) (h0 : 128 ≤ c) (hl : bs.length ≤ 70368744177664) : GCall Tryd.prog E 76 [accD 1 g (bs.map encY), .v (.int .i32 (c : Int))] (accH 5 1 g (bs.map encY)) (fun d H => ∃ g', d = accD 1 g' ((bs ++ encBy (c : Int)).map encY) ∧ H = accH 5 1 g' ((bs ++ encBy (c : Int)).map encY)) := by
  have hc : c < 55296 ∨ (57344 ≤ c ∧ c ≤ 1114111) := by
    have := hv
    simp only [Utf8.valid, Bool.or_eq_true, Bool.and_eq_true, decide_eq_true_eq] at this
    omega
  have hw : IntKind.u32.wrap (c : Int) = (c : Int) := u32wrap (by omega) (by omega)
  have fin : ∀ (st : St) (b0 g' : Nat) (x : DO) (es : List (List DV)), es = (encBy (c : Int)).map encY → st.get 4 = some (accD 1 g' (bs.map encY ++ es)) → st.heap = [(b0, x)] ++ (accH 5 1 g' (bs.map encY ++ es) ++ []) →
      SCode ⟨Tryd.prog, E, false⟩ .ret st (blockQ 0 (endQ Tryd.prog Tryd.f76.results (fun d H => ∃ g', d = accD 1 g' ((bs ++ encBy (c : Int)).map encY) ∧ H = accH 5 1 g' ((bs ++ encBy (c : Int)).map encY)))) := fun st b0 g' x es he h4 hh => by
    refine SCode.weaken (st' := ⟨st.n, [(4, accD 1 g' ((bs ++ encBy (c : Int)).map encY))], accH 5 1 g' ((bs ++ encBy (c : Int)).map encY)⟩) (St.Le.ofSub ⟨by rw [List.map_append, ← he]; exact h4, trivial⟩ ?_) (SCode.ret ⟨_, Res.one (.tmp rfl), g', rfl, rfl⟩)
    rw [hh, List.map_append, ← he, List.append_nil]
    exact List.Sublist.cons _ (List.Sublist.refl _)
  have sh : ∀ (d : Nat) (hd : d ≠ 0) (q : Int), q = (d : Int) → Int.fdiv (c : Int) q = ((c / d : Nat) : Int) := fun d hd q hq => by subst hq; exact fdiv_nat c d
  have hk : ∀ (q : Nat), IntKind.i32.has (((c / q : Nat) : Int)) := fun q => i32_has (by
    have := Nat.div_le_self c q
    generalize c / q = z at this
    omega)
  refine GCall.body (C := ⟨Tryd.prog, E, false⟩) Tryd.func76 rfl (fun h => by cases h) (by kernel_rfl) rfl ?_
  refine SCode.seqR ?_
  refine SOps.assign rfl ?_
  refine SOps.nil ?_
  refine SCode.seqR ?_
  refine SOps.move rfl ?_
  refine SOps.convInt rfl some_R int_U ?_
  rw [hw]
  refine SOps.assign rfl ?_
  refine SOps.nil ?_
  refine SCode.block ?_
  refine SCode.seqR ?_
  refine SOps.move rfl ?_
  refine SOps.bin rfl rfl rfl ?_
  refine SOps.assign rfl ?_
  refine SOps.nil ?_
  refine SCode.cond rfl (fun hc1 => ?_) (fun hc1 => ?_)
  · have hc1 := of_decide_eq_true hc1
    refine SCode.seqR ?_
    refine SOps.move rfl ?_
    refine SOps.move rfl ?_
    refine SOps.shrI rfl rfl (by decide) (by rw [sh 64 (by decide) _ (by decide)]; exact hk _) ?_
    rw [sh 64 (by decide) _ (by decide)]
    refine SOps.convInt rfl some_R int_By ?_
    refine SOps.bits rfl rfl rfl ?_
    refine SOps.move rfl ?_
    refine SOps.convInt rfl some_R int_By ?_
    refine SOps.bits rfl rfl rfl ?_
    refine SOps.bits rfl rfl rfl ?_
    refine SOps.litO slice_B zero_By rfl (fun b0 hb_0 => ?_)
    refine SOps.appendAcc [_] [] slice_B elem_B rfl rfl (by rw [List.append_nil]; rfl) (.own 0 rfl (Nat.le_refl _)) (by simp) (by simp [lenB]; omega) (by simp; omega) (fun g' => ?_)
    refine SOps.assign rfl ?_
    refine SOps.nil ?_
    show SCode _ _ _ _
    refine fin _ _ g' _ _ ?_ (by exact rfl) (by exact rfl)
    rw [encBy_2 hv h0 (by omega)]
    have e1 : orB 192 (IntKind.u8.wrap ((c / 64 : Nat) : Int)) = ((192 + c / 64 : Nat) : Int) := by rw [u8nat, Nat.mod_eq_of_lt (by omega), or192' (by omega)]
    show [[DV.v (.int .u8 (orB 192 (IntKind.u8.wrap ((c / 64 : Nat) : Int))))], [DV.v (.int .u8 (orB 128 (andB (IntKind.u8.wrap (c : Int)) 63)))]] = _
    rw [e1]; simp only [low60]; rfl
  · have hc1 := of_decide_eq_false hc1
    refine SCode.seq ?_
    refine SCode.seqR ?_
    refine SOps.move rfl ?_
    refine SOps.bin rfl rfl rfl ?_
    refine SOps.assign rfl ?_
    refine SOps.nil ?_
    refine SCode.cond rfl (fun hc2 => ?_) (fun hc2 => ?_)
    · refine SCode.skip ?_
      show SCode _ _ _ _
      have hc3 := of_decide_eq_true hc2
      refine SCode.cond rfl (fun _ => ?_) (fun h => absurd hc2 (by rw [h]; simp))
      refine SCode.seqR ?_
      refine SOps.move rfl ?_
      refine SOps.move rfl ?_
      refine SOps.shrI rfl rfl (by decide) (by rw [sh 4096 (by decide) _ (by decide)]; exact hk _) ?_
      rw [sh 4096 (by decide) _ (by decide)]
      refine SOps.convInt rfl some_R int_By ?_
      refine SOps.bits rfl rfl rfl ?_
      refine SOps.move rfl ?_
      refine SOps.shrI rfl rfl (by decide) (by rw [sh 64 (by decide) _ (by decide)]; exact hk _) ?_
      rw [sh 64 (by decide) _ (by decide)]
      refine SOps.convInt rfl some_R int_By ?_
      refine SOps.bits rfl rfl rfl ?_
      refine SOps.bits rfl rfl rfl ?_
      refine SOps.move rfl ?_
      refine SOps.convInt rfl some_R int_By ?_
      refine SOps.bits rfl rfl rfl ?_
      refine SOps.bits rfl rfl rfl ?_
      refine SOps.litO slice_B zero_By rfl (fun b0 hb_0 => ?_)
      refine SOps.appendAcc [_] [] slice_B elem_B rfl rfl (by rw [List.append_nil]; rfl) (.own 0 rfl (Nat.le_refl _)) (by simp) (by simp [lenB]; omega) (by simp; omega) (fun g' => ?_)
      refine SOps.assign rfl ?_
      refine SOps.nil ?_
      show SCode _ _ _ _
      refine fin _ _ g' _ _ ?_ (by exact rfl) (by exact rfl)
      rw [encBy_3 hv (by omega) (by omega)]
      have e1 : orB 224 (IntKind.u8.wrap ((c / 4096 : Nat) : Int)) = ((224 + c / 4096 : Nat) : Int) := by rw [u8nat, Nat.mod_eq_of_lt (by omega), or224' (by omega)]
      show [[DV.v (.int .u8 (orB 224 (IntKind.u8.wrap ((c / 4096 : Nat) : Int))))], [DV.v (.int .u8 (orB 128 (andB (IntKind.u8.wrap ((c / 64 : Nat) : Int)) 63)))], [DV.v (.int .u8 (orB 128 (andB (IntKind.u8.wrap (c : Int)) 63)))]] = _
      rw [e1]; simp only [low60]; rfl
    · have hc3 := of_decide_eq_false hc2
      refine SCode.region ?_
      refine SOps.move rfl ?_
      refine SOps.bin rfl rfl rfl ?_
      refine SOps.move rfl ?_
      refine SOps.caseB 30 rfl (fun hb1 => ?_) (fun hb1 => ?_)
      · refine SOps.move rfl ?_
        refine SOps.bin rfl rfl rfl ?_
        refine SOps.pick rfl rfl ?_
        refine SOps.assign rfl ?_
        refine SOps.nil ?_
        show SCode _ _ _ _
        refine SCode.cond rfl (fun hc4 => ?_) (fun hc4 => ?_)
        · have hc4 := of_decide_eq_true hc4
          refine SCode.seqR ?_
          refine SOps.move rfl ?_
          refine SOps.move rfl ?_
          refine SOps.shrI rfl rfl (by decide) (by rw [sh 4096 (by decide) _ (by decide)]; exact hk _) ?_
          rw [sh 4096 (by decide) _ (by decide)]
          refine SOps.convInt rfl some_R int_By ?_
          refine SOps.bits rfl rfl rfl ?_
          refine SOps.move rfl ?_
          refine SOps.shrI rfl rfl (by decide) (by rw [sh 64 (by decide) _ (by decide)]; exact hk _) ?_
          rw [sh 64 (by decide) _ (by decide)]
          refine SOps.convInt rfl some_R int_By ?_
          refine SOps.bits rfl rfl rfl ?_
          refine SOps.bits rfl rfl rfl ?_
          refine SOps.move rfl ?_
          refine SOps.convInt rfl some_R int_By ?_
          refine SOps.bits rfl rfl rfl ?_
          refine SOps.bits rfl rfl rfl ?_
          refine SOps.litO slice_B zero_By rfl (fun b0 hb_0 => ?_)
          refine SOps.appendAcc [_] [] slice_B elem_B rfl rfl (by rw [List.append_nil]; rfl) (.own 0 rfl (Nat.le_refl _)) (by simp) (by simp [lenB]; omega) (by simp; omega) (fun g' => ?_)
          refine SOps.assign rfl ?_
          refine SOps.nil ?_
          show SCode _ _ _ _
          refine fin _ _ g' _ _ ?_ (by exact rfl) (by exact rfl)
          rw [encBy_3 hv (by omega) (by omega)]
          have e1 : orB 224 (IntKind.u8.wrap ((c / 4096 : Nat) : Int)) = ((224 + c / 4096 : Nat) : Int) := by rw [u8nat, Nat.mod_eq_of_lt (by omega), or224' (by omega)]
          show [[DV.v (.int .u8 (orB 224 (IntKind.u8.wrap ((c / 4096 : Nat) : Int))))], [DV.v (.int .u8 (orB 128 (andB (IntKind.u8.wrap ((c / 64 : Nat) : Int)) 63)))], [DV.v (.int .u8 (orB 128 (andB (IntKind.u8.wrap (c : Int)) 63)))]] = _
          rw [e1]; simp only [low60]; rfl
        · have hc4 := of_decide_eq_false hc4
          refine SCode.seqR ?_
          refine SOps.move rfl ?_
          refine SOps.bin rfl rfl rfl ?_
          refine SOps.move rfl ?_
          refine SOps.caseB 53 rfl (fun hb2 => ?_) (fun hb2 => absurd (of_decide_eq_false hb2) (by omega))
          refine SOps.move rfl ?_
          refine SOps.bin rfl rfl rfl ?_
          refine SOps.pick rfl rfl ?_
          refine SOps.assign rfl ?_
          refine SOps.nil ?_
          refine SCode.cond rfl (fun hc5 => ?_) (fun hc5 => absurd (of_decide_eq_false hc5) (by omega))
          refine SCode.seqR ?_
          refine SOps.move rfl ?_
          refine SOps.move rfl ?_
          refine SOps.shrI rfl rfl (by decide) (by rw [sh 262144 (by decide) _ (by decide)]; exact hk _) ?_
          rw [sh 262144 (by decide) _ (by decide)]
          refine SOps.convInt rfl some_R int_By ?_
          refine SOps.bits rfl rfl rfl ?_
          refine SOps.move rfl ?_
          refine SOps.shrI rfl rfl (by decide) (by rw [sh 4096 (by decide) _ (by decide)]; exact hk _) ?_
          rw [sh 4096 (by decide) _ (by decide)]
          refine SOps.convInt rfl some_R int_By ?_
          refine SOps.bits rfl rfl rfl ?_
          refine SOps.bits rfl rfl rfl ?_
          refine SOps.move rfl ?_
          refine SOps.shrI rfl rfl (by decide) (by rw [sh 64 (by decide) _ (by decide)]; exact hk _) ?_
          rw [sh 64 (by decide) _ (by decide)]
          refine SOps.convInt rfl some_R int_By ?_
          refine SOps.bits rfl rfl rfl ?_
          refine SOps.bits rfl rfl rfl ?_
          refine SOps.move rfl ?_
          refine SOps.convInt rfl some_R int_By ?_
          refine SOps.bits rfl rfl rfl ?_
          refine SOps.bits rfl rfl rfl ?_
          refine SOps.litO slice_B zero_By rfl (fun b0 hb_0 => ?_)
          refine SOps.appendAcc [_] [] slice_B elem_B rfl rfl (by rw [List.append_nil]; rfl) (.own 0 rfl (Nat.le_refl _)) (by simp) (by simp [lenB]; omega) (by simp; omega) (fun g' => ?_)
          refine SOps.assign rfl ?_
          refine SOps.nil ?_
          show SCode _ _ _ _
          refine fin _ _ g' _ _ ?_ (by exact rfl) (by exact rfl)
          rw [encBy_4 hv (by omega) (by omega)]
          have e1 : orB 240 (IntKind.u8.wrap ((c / 262144 : Nat) : Int)) = ((240 + c / 262144 : Nat) : Int) := by rw [u8nat, Nat.mod_eq_of_lt (by omega), or240' (by omega)]
          show [[DV.v (.int .u8 (orB 240 (IntKind.u8.wrap ((c / 262144 : Nat) : Int))))], [DV.v (.int .u8 (orB 128 (andB (IntKind.u8.wrap ((c / 4096 : Nat) : Int)) 63)))], [DV.v (.int .u8 (orB 128 (andB (IntKind.u8.wrap ((c / 64 : Nat) : Int)) 63)))], [DV.v (.int .u8 (orB 128 (andB (IntKind.u8.wrap (c : Int)) 63)))]] = _
          rw [e1]; simp only [low60]; rfl
      · exact absurd (of_decide_eq_false hb1) (by omega)

theorem bAppendRune (g : Nat) (r : Int) (bs : List UInt8) (hv : Utf8.valid r = true) (hl : bs.length ≤ 70368744177664) : GCall Tryd.prog E 68 [accD 1 g (bs.map encY), .v (.int .i32 r)] (accH 5 1 g (bs.map encY)) (fun d H => ∃ g', d = accD 1 g' ((bs ++ encBy r).map encY) ∧ H = accH 5 1 g' ((bs ++ encBy r).map encY)) := by
  obtain ⟨c, rfl, hc⟩ := valid_cases hv
  have hw : IntKind.u32.wrap (c : Int) = (c : Int) := u32wrap (by omega) (by omega)
  refine GCall.body (C := ⟨Tryd.prog, E, false⟩) Tryd.func68 rfl (fun h => by cases h) (by kernel_rfl) rfl ?_
  refine SCode.seqR ?_
  refine SOps.assign rfl ?_
  refine SOps.nil ?_
  refine SCode.seq ?_
  refine SCode.seqR ?_
  refine SOps.move rfl ?_
  refine SOps.convInt rfl some_R int_U ?_
  rw [hw]
  refine SOps.bin rfl rfl rfl ?_
  refine SOps.nil ?_
  refine SCode.cond rfl (fun hc1 => ?_) (fun hc1 => ?_)
  · have hc1 := of_decide_eq_true hc1
    refine SCode.seqR ?_
    refine SOps.move rfl ?_
    refine SOps.move rfl ?_
    refine SOps.convInt rfl some_R int_By ?_
    refine SOps.litO slice_B zero_By rfl (fun b0 hb_0 => ?_)
    refine SOps.appendAcc [_] [] slice_B elem_B rfl rfl (by rw [List.append_nil]; rfl) (.own 0 rfl (Nat.le_refl _)) (by simp) (by simp [lenB]; omega) (by simp; omega) (fun g' => ?_)
    refine SOps.assign rfl ?_
    refine SOps.nil ?_
    have he : [[DV.v (.int .u8 (IntKind.u8.wrap (c : Int)))]] = (encBy (c : Int)).map encY := by
      rw [encBy_1 hv (by omega), u8nat, Nat.mod_eq_of_lt (by omega)]; rfl
    refine SCode.weaken (st' := ⟨_, [(4, accD 1 g' ((bs ++ encBy (c : Int)).map encY))], accH 5 1 g' ((bs ++ encBy (c : Int)).map encY)⟩) (St.Le.ofSub ⟨by rw [List.map_append, ← he]; rfl, trivial⟩ ?_) (SCode.ret ⟨_, Res.one (.tmp rfl), g', rfl, rfl⟩)
    rw [List.map_append, ← he]
    show List.Sublist _ ([_] ++ (_ ++ []))
    rw [List.append_nil]
    exact List.Sublist.cons _ (List.Sublist.refl _)
  · have hc1 := of_decide_eq_false hc1
    refine SCode.skip ?_
    show SCode _ _ _ _
    refine SCode.seqR ?_
    refine SOps.move rfl ?_
    refine SOps.move rfl ?_
    refine SOps.call (H := accH 5 1 g (bs.map encY)) (G := []) (bAppendNA g c bs hv (by omega) hl) rfl (List.append_nil _).symm ?_
    rintro _ _ ⟨g', rfl, rfl⟩
    refine SOps.assign rfl ?_
    refine SOps.nil ?_
    exact SCode.ret ⟨_, Res.one (.tmp rfl), g', rfl, List.append_nil _⟩
theorem bWriteRune (b g : Nat) (used : Bool) (bs : List UInt8) (r : Int) (hv : Utf8.valid r = true) (hl : bs.length ≤ 70368744177664) : GCall Tryd.prog E 49 [.vref b 68 2, .v (.int .i32 r)] (bldH b g used bs) (fun d H => ∃ g' n, d = .tup [.v (.int .i64 n), .v .nilIface] ∧ H = bldH b g' true (bs ++ encBy r)) := by
  have hel := encBy_len r
  refine GCall.body (C := ⟨Tryd.prog, E, false⟩) Tryd.func49 rfl (fun h => by cases h) (by kernel_rfl) rfl ?_
  refine SCode.seqR ?_
  refine SOps.assign rfl ?_
  refine SOps.assign rfl ?_
  refine SOps.nil ?_
  refine SCode.seqR ?_
  refine SOps.move rfl ?_
  refine SOps.call (H := [(b, .row 68 2 [[adrB b used, accD 1 g (bs.map encY)]])]) (G := accH 5 1 g (bs.map encY)) (bCopy b used _ (accD_one ..)) rfl rfl ?_
  rintro _ _ ⟨rfl, rfl⟩
  refine SOps.nil ?_
  refine SCode.seqR ?_
  refine SOps.move rfl ?_
  refine SOps.nilCheck rfl rfl ?_
  refine SOps.fieldV rfl fld1_B ?_
  refine SOps.loadRef 0 0 1 rfl flatS_B rfl rfl rfl rfl ?_
  refine SOps.lenAcc rfl slice_B ?_
  refine SOps.assign rfl ?_
  refine SOps.nil ?_
  refine SCode.seqR ?_
  refine SOps.move rfl ?_
  refine SOps.move rfl ?_
  refine SOps.nilCheck rfl rfl ?_
  refine SOps.fieldV rfl fld1_B ?_
  refine SOps.loadRef 0 0 1 rfl flatS_B rfl rfl rfl rfl ?_
  refine SOps.move rfl ?_
  refine SOps.weaken (st' := ⟨_, [(0, .vref b 68 2), (6, .v (.int .i64 ((bs.map encY).length : Int))), (14, .vref b 68 2), (18, accD 1 g (bs.map encY)), (19, .v (.int .i32 r))], accH 5 1 g (bs.map encY) ++ [(b, .row 68 2 [[adrB b true, accD 1 g (bs.map encY)]])]⟩) (St.Le.ofPerm ⟨rfl, rfl, rfl, rfl, rfl, trivial⟩ (List.perm_append_comm (l₂ := [(b, DO.row 68 2 [[adrB b true, accD 1 g (bs.map encY)]])])) (List.Sublist.refl _)) ?_
  refine SOps.call (H := accH 5 1 g (bs.map encY)) (G := [(b, .row 68 2 [[adrB b true, accD 1 g (bs.map encY)]])]) (bAppendRune g r bs hv hl) rfl rfl ?_
  rintro _ _ ⟨g', rfl, rfl⟩
  refine SOps.weaken (st' := ⟨_, [(0, .vref b 68 2), (6, .v (.int .i64 ((bs.map encY).length : Int))), (14, .vref b 68 2), (20, accD 1 g' ((bs ++ encBy r).map encY))], (b, .row 68 2 [[adrB b true, accD 1 g (bs.map encY)]]) :: accH 5 1 g' ((bs ++ encBy r).map encY)⟩) (St.Le.ofPerm ⟨rfl, rfl, rfl, rfl, trivial⟩ (List.perm_append_comm (l₁ := [(b, DO.row 68 2 [[adrB b true, accD 1 g (bs.map encY)]])])) (List.Sublist.refl _)) ?_
  refine SOps.nilCheck rfl rfl ?_
  refine SOps.fieldV rfl fld1_B ?_
  refine SOps.store 0 0 1 rfl rfl oneS_B rfl rfl rfl (by decide) (accD_one ..) ?_
  refine SOps.nil ?_
  refine SCode.seqR ?_
  refine SOps.move rfl ?_
  refine SOps.nilCheck rfl rfl ?_
  refine SOps.fieldV rfl fld1_B ?_
  refine SOps.loadRef 0 0 1 rfl flatS_B rfl rfl rfl rfl ?_
  refine SOps.lenAcc rfl slice_B ?_
  refine SOps.move rfl ?_
  refine SOps.subI rfl rfl (by simp only [List.length_map, List.length_append]; omega) (by simp only [List.length_map, List.length_append]; omega) ?_
  refine SOps.assign rfl ?_
  refine SOps.assign rfl ?_
  refine SOps.nil ?_
  exact SCode.ret ⟨_, Res.two (.tmp rfl) (.tmp rfl), g', _, rfl, rfl⟩

theorem bString (b g : Nat) (used : Bool) (bs : List UInt8) (hl : bs.length ≤ 70368744177664) : GCall Tryd.prog E 50 [.vref b 68 2] (bldH b g used bs) (fun d H => d = .v (.string ⟨bs.toArray⟩) ∧ H = []) := by
  refine GCall.body (C := ⟨Tryd.prog, E, false⟩) Tryd.func50 rfl (fun h => by cases h) (by kernel_rfl) rfl ?_
  refine SCode.seqR ?_
  refine SOps.assign rfl ?_
  refine SOps.nil ?_
  refine SCode.seq ?_
  refine SCode.drawSeqAt 10 (fun st => ∃ s2 : St, s2.Le st ∧ s2.get 2 = some (.v (.string ⟨bs.toArray⟩))) 8 mixed_B
    [(3, .vref b 68 2), (4, .vref b 68 2), (5, .ref b 1), (6, accD 1 g (bs.map encY)), (7, dataD g bs), (8, .vref b 68 2), (9, .vref b 68 2), (10, .ref b 1), (11, accD 1 g (bs.map encY)), (12, .v (.int .i64 (bs.length : Int)))] [3, 4, 5, 6, 7, 8, 9, 10, 11, 12]
    [[.inr 0], [.inl 0], [.inl 1], [.inl 2], [.inl 3], [.inr 0], [.inl 5], [.inl 6], [.inl 7], [.inl 8]] [[(0, .vref b 68 2)], [(3, .vref b 68 2)], [(4, .vref b 68 2)], [(5, .ref b 1)], [(6, accD 1 g (bs.map encY))], [(0, .vref b 68 2)], [(8, .vref b 68 2)], [(9, .vref b 68 2)], [(10, .ref b 1)], [(11, accD 1 g (bs.map encY))]]
    rfl (by kernel_rfl) (by kernel_rfl) (by kernel_rfl) (by kernel_rfl) rfl rfl ?_ ?_ ?_
  · refine OpsOk.cons (fun rest => SOps.move rfl (SOps.nil rfl)) ?_
    refine OpsOk.cons (fun rest => SOps.nilCheck rfl rfl (SOps.nil rfl)) ?_
    refine OpsOk.cons (fun rest => SOps.fieldV rfl fld1_B (SOps.nil rfl)) ?_
    refine OpsOk.cons (fun rest => SOps.loadRef 0 0 1 rfl flatS_B rfl rfl rfl rfl (SOps.nil rfl)) ?_
    refine OpsOk.cons (fun rest => SOps.sliceData rfl (SOps.nil rfl)) ?_
    refine OpsOk.cons (fun rest => SOps.move rfl (SOps.nil rfl)) ?_
    refine OpsOk.cons (fun rest => SOps.nilCheck rfl rfl (SOps.nil rfl)) ?_
    refine OpsOk.cons (fun rest => SOps.fieldV rfl fld1_B (SOps.nil rfl)) ?_
    refine OpsOk.cons (fun rest => SOps.loadRef 0 0 1 rfl flatS_B rfl rfl rfl rfl (SOps.nil rfl)) ?_
    refine OpsOk.cons (fun rest => SOps.lenAcc rfl slice_B (SOps.nil (by rw [List.length_map]; rfl))) ?_
    exact OpsOk.nil
  · refine SeqOk.cons (R1 := fun st => ∃ s2 : St, s2.Le st ∧ s2.n = 14 ∧ s2.get 13 = some (.v (.string ⟨bs.toArray⟩))) (fun st hle => SOps.weaken hle ?_) ?_
    · exact SOps.unsafeStr [_] [] ptr_By cells_By rfl rfl (by rw [List.append_nil]; rfl) (SOps.nil ⟨_, ⟨rfl, fun t d h => .inl h, _, .refl _, List.Sublist.refl _⟩, rfl, rfl⟩)
    · refine SeqOk.cons (fun st ⟨s2, h1, h2, h3⟩ => SOps.weaken h1 ?_) SeqOk.nil
      exact SOps.assign h3 (SOps.nil ⟨_, ⟨rfl, fun t d h => .inl h, _, .refl _, List.Sublist.refl _⟩, St.get_put_same s2 2 _⟩) rfl (by rw [h2]; rfl)
  · rintro st ⟨s2, h1, h2⟩
    refine ⟨⟨st.n, [(2, .v (.string ⟨bs.toArray⟩))], []⟩, ⟨rfl, fun t d h => .inl ?_, [], .refl _, List.nil_sublist _⟩, SCode.ret ⟨_, Res.one (.tmp rfl), rfl, rfl⟩⟩
    have h3 := h1.slots 2 _ h2
    have ht : t = 2 ∧ d = .v (.string ⟨bs.toArray⟩) := by
      have h : getL [(2, DV.v (.string ⟨bs.toArray⟩))] t = some d := h
      rw [getL_cons] at h
      split at h
      · rename_i e; exact ⟨e.symm, (Option.some.inj h).symm⟩
      · simp [getL] at h
    obtain ⟨rfl, rfl⟩ := ht
    rcases h3 with h3 | ⟨h3, _⟩
    · exact h3
    · cases h3

end Go.GH
