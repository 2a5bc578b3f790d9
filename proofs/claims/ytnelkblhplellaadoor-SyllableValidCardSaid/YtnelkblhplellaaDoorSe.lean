/-
  SyllableValid: for every input the law returns true and leaves its arguments as they were. Conditions: those of the given card (the library's two tables of utf8 read as listed, which the tie pays).
-/
import Derived.Test.YtnelkblhplellaaDoorCards
import Derived.Test.YtnelkblhplellaaDoorTie
import Derived.Test.YtnelkblhplellaaDoorSg
import Derived.Test.YtnelkblhplellaaDoorHd
import Derived.WalkKit
import Derived.ProofKit
import Derived.OpenShut
import Derived.ChangeOld
import Derived.Below
import Derived.SizedLaws
import Derived.Deep.DeepHandedRow
set_option linter.unusedVariables false
namespace Go.Proofs.YtnelkblhplellaaDoor.syllableValid
open Go Go.ChangeShapes Go.WideShapes Go.ChangeAt Go.RowKit Go.GH

theorem own : ownKnob Tryd.prog.godebug = none := by kernel_rfl
theorem laidOut : laidOutB Tryd.prog = true := by kernel_rfl
theorem tyP : TyIs Tryd.prog 24 [.sl [.sl [.int .u32]], .int .i64, .int .i64] := by
  refine TyIs.struct [[.sl [.sl [.int .u32]]], [.int .i64], [.int .i64]] Tryd.underlying24 (by kernel_rfl) rfl ?_ ?_
  · intro i f Li hf hl
    match i, hf, hl with
    | 0, hf, hl => simp at hf hl; subst hf; subst hl; exact .sl Tryd.underlying22 (.sl Tryd.underlying33 (.int Tryd.underlying49) (by kernel_rfl) (by simp)) (by kernel_rfl) (by simp)
    | 1, hf, hl => simp at hf hl; subst hf; subst hl; exact .int Tryd.underlying3
    | 2, hf, hl => simp at hf hl; subst hf; subst hl; exact .int Tryd.underlying3
    | i + 3, hf, hl => simp at hl
  · intro i f Li hf hl
    match i, hf, hl with
    | 0, hf, hl => simp at hf hl; subst hf; subst hl; exact ⟨rfl, by kernel_rfl⟩
    | 1, hf, hl => simp at hf hl; subst hf; subst hl; exact ⟨rfl, by kernel_rfl⟩
    | 2, hf, hl => simp at hf hl; subst hf; subst hl; exact ⟨rfl, by kernel_rfl⟩
    | i + 3, hf, hl => simp at hl

set_option maxRecDepth 100000 in
theorem contract (E : Env) (hA : AW E) (hE : ∀ W, laidMetH Tryd.prog Rows.syllableValidRow.laid W → E.holds W (AllF W)) (H : Type) (enc : TypeId × Value → H) (W : World) (base : Nat) (args : Array Value) (ds gs : List (DataW H)) (before : List MemPlace)
    (hval : ∀ (j : Nat) t v, Tryd.f3.params[j]? = some t → args[j]? = some v → Value.okWide Tryd.prog W .any base t v)
    (hW : DataW.Whole enc Tryd.prog Tryd.f3.params.toList Rows.syllableValidSpec.vars false W args.toList ds gs before) (hL : laidMetH Tryd.prog Rows.syllableValidRow.laid W) :
    Calls Tryd.prog 3 args W fun e W' => ∃ v, e = .returned v ∧ Rows.syllableValidSpec.post enc Tryd.prog Tryd.f3 false true false false W args v W' := by
  have hW' := hW
  obtain ⟨p, q, hA0, hV, rfl, hfz, hnd⟩ := hW
  have hA1 : DataW.TrodAll enc Tryd.prog W 0 (fun _ => true) true Tryd.f3.params.toList args.toList ds p := hA0
  rw [Tryd.params3] at hA1 hval
  obtain ⟨v0, vs0, d0, ds0, p0, q0, hargs, rfl, rfl, h0, r0⟩ := trodAll_cons hA1
  obtain ⟨rfl, rfl, rfl⟩ := trodAll_nil r0
  obtain rfl : args = #[v0] := by cases args; simp_all
  obtain ⟨rfl, rfl⟩ := trodVars_none hV
  have lt0 : ∀ x ∈ p0, x.block < W.heap.size := by obtain ⟨m, hm⟩ := h0; exact DataW.trod_lt m _ _ _ hm
  have ok0 := hval 0 24 v0 rfl rfl
  obtain ⟨us, rfl⟩ : ∃ us, v0 = .agg us := by
    unfold Value.okWide at ok0
    rw [Tryd.underlying24] at ok0
    obtain ⟨cs, h, _⟩ := ok0
    exact ⟨cs, h⟩
  obtain ⟨es, k1, k2⟩ := arg_repA tyP h0
  obtain ⟨x1, x2, x3, rfl, y1, y2, y3⟩ := k2.three
  obtain ⟨ons, rfl⟩ : ∃ ons, x1 = DOns ons := y1.slice (f := encO) (fun e he => by
    obtain ⟨d1, rfl, h1⟩ := he.one
    obtain ⟨l, rfl⟩ := h1.masks
    exact ⟨l, rfl⟩)
  obtain ⟨ml, rfl, _⟩ := y2.int_inv
  obtain ⟨mr, rfl, _⟩ := y3.int_inv
  refine ((lawValid hA ons ml mr).told (hE W hL) rfl (fun j v d hv hd => ?_)).mono fun e W' ⟨he, bel⟩ => ?_
  · match j, hv, hd with
    | 0, hv, hd => simp at hv hd; subst hv; subst hd; exact k1
    | j + 1, hv, hd => simp at hv
  · subst he
    simp only [List.append_nil] at hW'
    exact ⟨_, rfl, _, _, _, [], _, [], hW', trodAll_mk1 (shut_bool Tryd.underlying4 _), trodAll_cons_mk (Below.trod laidOut (by kernel_rfl) (of_decide_eq_true (by kernel_rfl)) h0 bel lt0) trodAll_mk0, rfl, bel.frame _, fun h => by cases h⟩

def layFirst : Obj → Obj
  | .cells _ t frozen => .cells (Go.Pinned.utf8FirstZ.map (fun (n : Nat) => Value.int .u8 (n : Int))).toArray t frozen
  | o => o
def layAccept : Obj → Obj
  | .cells _ t frozen => .cells #[.int .u8 128, .int .u8 191, .int .u8 160, .int .u8 191, .int .u8 128, .int .u8 159, .int .u8 144, .int .u8 191, .int .u8 128, .int .u8 143, .int .u8 0, .int .u8 0, .int .u8 0, .int .u8 0, .int .u8 0, .int .u8 0, .int .u8 0, .int .u8 0, .int .u8 0, .int .u8 0, .int .u8 0, .int .u8 0, .int .u8 0, .int .u8 0, .int .u8 0, .int .u8 0, .int .u8 0, .int .u8 0, .int .u8 0, .int .u8 0, .int .u8 0, .int .u8 0] t frozen
  | o => o
noncomputable def laidWorld (os : Os) : World :=
  { World.holding Tryd.prog os ⟨#[], #[], []⟩ with heap := ((World.holding Tryd.prog os ⟨#[], #[], []⟩).heap.modify 0 layFirst).modify 1 layAccept }
def zeroP : Value := .agg #[.slice none 0 0, .int .i64 0, .int .i64 0]
theorem laid_met (os : Os) : laidMet Tryd.prog Rows.syllableValidRow.laid ((laidWorld os).forCall (fun _ _ => 0) ⟨#[], #[zeroP], []⟩).memory :=
  laidMet_of_run' 8 (by kernel_rfl) (by kernel_rfl)
theorem reads (os : Os) {H : Type} (enc : TypeId × Value → H) : ∃ places, DataW.whole enc Tryd.prog ((laidWorld os).forCall (fun _ _ => 0) ⟨#[], #[zeroP], []⟩).memory Tryd.f3.params.toList Rows.syllableValidSpec.vars false #[zeroP].toList 8 = some ([.agg [.nil, .lit (.int .i64 0), .lit (.int .i64 0)]], [], places) :=
  ⟨[], by kernel_rfl⟩
set_option maxRecDepth 100000 in
theorem lifted (E : Env) (hA : AW E) (hE : ∀ W, laidMetH Tryd.prog Rows.syllableValidRow.laid W → E.holds W (AllF W)) (os : Os) (started : os.Started) (H : Type) (enc : TypeId × Value → H) (F : Stop.Interp) :
    ReturnsInHanded {} Tryd.checked os 3 .any ((OpenSpec.ofChange Rows.syllableValidSpec).preRow enc Tryd.prog Tryd.f3 Rows.syllableValidRow.domain false Rows.syllableValidRow.laid) (((OpenSpec.ofChange Rows.syllableValidSpec).at F).post enc Tryd.prog Tryd.f3 false true false false) := by
  obtain ⟨places, hx⟩ := reads os enc
  refine returnsInHanded_of_row (C := Tryd.checked) (s := OpenSpec.ofChange Rows.syllableValidSpec) own started (by kernel_rfl) Tryd.func3
    (witness_row_at (enc := enc) (C := Tryd.checked) false (laidWorld os) #[zeroP] rfl (by kernel_rfl) (by kernel_rfl) (by kernel_rfl)
      (OpenSpec.preRow_of_cond 8 hx (by kernel_rfl) (fun k hk => by cases hk) (by kernel_rfl) (laid_met os))) ?_
  intro W base args ds gs before hval hW _ _ _ hL _ _
  exact contract E hA hE H enc W base args ds gs before hval hW hL
theorem said (E : Env) (hA : AW E) (hE : ∀ W, laidMetH Tryd.prog Rows.syllableValidRow.laid W → E.holds W (AllF W)) : Rows.SyllableValidSaid :=
  OpenClaim.holds_of_cond 3 Tryd.f3 rfl rfl rfl rfl rfl rfl rfl ⟨rfl, rfl, rfl, rfl, rfl⟩ rfl rfl rfl rfl rfl (by kernel_rfl) Tryd.func3 (by kernel_rfl)
    (of_decide_eq_true (by kernel_rfl)) (by unfold Func.isWrapper; first | (rw [if_pos (by decide +kernel)]; kernel_rfl) | (rw [if_neg (by decide +kernel)]; exact ⟨rfl, rfl⟩))
    (fun os started H enc _ F => by rw [OpenClaim.pre_eq_preRow]; exact lifted E hA hE os started H enc F)
theorem plain (f : FuncId) (fn : Func) (hf : Tryd.pinned.checked.prog.funcNamed "pentaglot/pentaglotlaw13.SyllableValid" = some f) (hfn : Tryd.pinned.checked.prog.funcs[f]? = some fn) :
    false = Tryd.pinned.checked.prog.looks [] ∧ ∀ (j : Nat) t, fn.params[j]? = some t → Tryd.pinned.checked.prog.wantsStandIn t = false := by
  obtain rfl : f = 3 := Option.some.inj ((show Tryd.prog.funcNamed "pentaglot/pentaglotlaw13.SyllableValid" = some 3 by kernel_rfl).symm.trans hf) |>.symm
  obtain rfl : fn = Tryd.f3 := (Option.some.inj (Tryd.func3.symm.trans hfn)).symm
  refine ⟨by kernel_rfl, fun j t ht => ?_⟩
  rw [Tryd.params3] at ht
  obtain rfl : t = 24 := by simpa using Array.mem_of_getElem? ht
  exact (show Tryd.prog.wantsStandIn 24 = false by kernel_rfl)
theorem card : Rows.SyllableValidCardSaid :=
  Claim7.holds_tied_plain_at .later [] _ _ _ _ (said E0 awE0 laid_E0) (fun _ h => by cases h) (by kernel_rfl) (fun _ h => by cases h) syllableValid_row_tie rfl ⟨rfl, rfl⟩ (by kernel_rfl) rfl plain (by kernel_rfl)
end Go.Proofs.YtnelkblhplellaaDoor.syllableValid
