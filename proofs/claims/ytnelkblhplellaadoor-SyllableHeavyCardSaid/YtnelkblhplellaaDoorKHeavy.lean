/-
  SyllableHeavy: for every input the law returns true and leaves its arguments as they were. Conditions: those of the given card (the library's two tables of utf8 read as listed, which the tie pays).
-/
import Derived.Test.YtnelkblhplellaaDoorCards
import Derived.Test.YtnelkblhplellaaDoorTie
import Derived.Test.YtnelkblhplellaaDoorSg
import Derived.Test.YtnelkblhplellaaDoorHd
import Derived.Test.YtnelkblhplellaaDoorSi
import Derived.Test.YtnelkblhplellaaDoorSk
import Derived.WalkKit
import Derived.ProofKit
import Derived.OpenShut
import Derived.ChangeOld
import Derived.Below
import Derived.SizedLaws
import Derived.Deep.DeepHandedRow
import Derived.WideShapes
set_option linter.unusedVariables false
namespace Go.Proofs.YtnelkblhplellaaDoor.syllableHeavy
open Go Go.ChangeShapes Go.WideShapes Go.ChangeAt Go.RowKit Go.GH

theorem own : ownKnob Tryd.prog.godebug = none := by kernel_rfl
theorem laidOut : laidOutB Tryd.prog = true := by kernel_rfl
theorem ty_21 : TyIs Tryd.prog 21 [.int .i32] := .int Tryd.underlying21
theorem ty_49 : TyIs Tryd.prog 49 [.int .u32] := .int Tryd.underlying49
theorem ty_51 : TyIs Tryd.prog 51 [.int .i32, .int .u32] := by
  refine TyIs.struct [[.int .i32], [.int .u32]] Tryd.underlying51 (by kernel_rfl) rfl ?_ ?_
  · intro i f Li hf hl
    match i, hf, hl with
    | 0, hf, hl => simp at hf hl; subst hf; subst hl; exact ty_21
    | 1, hf, hl => simp at hf hl; subst hf; subst hl; exact ty_49
    | i + 2, hf, hl => simp at hl
  · intro i f Li hf hl
    match i, hf, hl with
    | 0, hf, hl => simp at hf hl; subst hf; subst hl; exact ⟨rfl, by kernel_rfl⟩
    | 1, hf, hl => simp at hf hl; subst hf; subst hl; exact ⟨rfl, by kernel_rfl⟩
    | i + 2, hf, hl => simp at hl
theorem ty_28 : TyIs Tryd.prog 28 [.sl [.int .i32, .int .u32]] := .sl Tryd.underlying28 ty_51 (by kernel_rfl) (by simp)
theorem ty_33 : TyIs Tryd.prog 33 [.sl [.int .u32]] := .sl Tryd.underlying33 ty_49 (by kernel_rfl) (by simp)
theorem ty_22 : TyIs Tryd.prog 22 [.sl [.sl [.int .u32]]] := .sl Tryd.underlying22 ty_33 (by kernel_rfl) (by simp)
theorem ty_3 : TyIs Tryd.prog 3 [.int .i64] := .int Tryd.underlying3
theorem ty_24 : TyIs Tryd.prog 24 [.sl [.sl [.int .u32]], .int .i64, .int .i64] := by
  refine TyIs.struct [[.sl [.sl [.int .u32]]], [.int .i64], [.int .i64]] Tryd.underlying24 (by kernel_rfl) rfl ?_ ?_
  · intro i f Li hf hl
    match i, hf, hl with
    | 0, hf, hl => simp at hf hl; subst hf; subst hl; exact ty_22
    | 1, hf, hl => simp at hf hl; subst hf; subst hl; exact ty_3
    | 2, hf, hl => simp at hf hl; subst hf; subst hl; exact ty_3
    | i + 3, hf, hl => simp at hl
  · intro i f Li hf hl
    match i, hf, hl with
    | 0, hf, hl => simp at hf hl; subst hf; subst hl; exact ⟨rfl, by kernel_rfl⟩
    | 1, hf, hl => simp at hf hl; subst hf; subst hl; exact ⟨rfl, by kernel_rfl⟩
    | 2, hf, hl => simp at hf hl; subst hf; subst hl; exact ⟨rfl, by kernel_rfl⟩
    | i + 3, hf, hl => simp at hl
theorem ty_9 : TyIs Tryd.prog 9 [.str] := .str Tryd.underlying9
set_option maxRecDepth 100000 in
theorem contract (H : Type) (enc : TypeId × Value → H) (W : World) (base : Nat) (args : Array Value) (ds gs : List (DataW H)) (before : List MemPlace)
    (hval : ∀ (j : Nat) t v, Tryd.f11.params[j]? = some t → args[j]? = some v → Value.okWide Tryd.prog W .any base t v)
    (hW : DataW.Whole enc Tryd.prog Tryd.f11.params.toList Rows.syllableHeavySpec.vars false W args.toList ds gs before) (hL : laidMetH Tryd.prog Rows.syllableHeavyRow.laid W) :
    Calls Tryd.prog 11 args W fun e W' => ∃ v, e = .returned v ∧ Rows.syllableHeavySpec.post enc Tryd.prog Tryd.f11 false true false false W args v W' := by
  have hW' := hW
  obtain ⟨p, q, hA0, hV, rfl, hfz, hnd⟩ := hW
  have hA1 : DataW.TrodAll enc Tryd.prog W 0 (fun _ => true) true Tryd.f11.params.toList args.toList ds p := hA0
  rw [Tryd.params11] at hA1 hval
  obtain ⟨v0, vs0, d0, ds0, p0, q0, hargs0, rfl, rfl, h0, r0⟩ := trodAll_cons hA1
  obtain ⟨v1, vs1, d1, ds1, p1, q1, hargs1, rfl, rfl, h1, r1⟩ := trodAll_cons r0
  subst hargs1
  obtain ⟨v2, vs2, d2, ds2, p2, q2, hargs2, rfl, rfl, h2, r2⟩ := trodAll_cons r1
  subst hargs2
  obtain ⟨rfl, rfl, rfl⟩ := trodAll_nil r2
  obtain rfl : args = #[v0, v1, v2] := by cases args; simp_all
  obtain ⟨rfl, rfl⟩ := trodVars_none hV
  have lt0 : ∀ x ∈ p0, x.block < W.heap.size := by obtain ⟨m, hm⟩ := h0; exact DataW.trod_lt m _ _ _ hm
  have ok0 := hval 0 28 v0 rfl rfl
  obtain ⟨A0, L0, C0, rfl⟩ := okWide_slice Tryd.underlying28 ok0
  obtain ⟨x0, k0, y0⟩ := arg_rep ty_28 h0 rfl
  obtain ⟨a0, rfl⟩ := y0.letters
  have lt1 : ∀ x ∈ p1, x.block < W.heap.size := by obtain ⟨m, hm⟩ := h1; exact DataW.trod_lt m _ _ _ hm
  have ok1 := hval 1 24 v1 rfl rfl
  obtain ⟨us1, rfl, _⟩ := okWide_struct Tryd.underlying24 ok1
  obtain ⟨x1, k1, y1⟩ := arg_repA ty_24 h1
  obtain ⟨x11, x21, x31, rfl, y11, y21, y31⟩ := y1.three
  obtain ⟨ons1, rfl⟩ : ∃ ons, x11 = DOns ons := y11.slice (f := encO) (fun e he => by obtain ⟨d1, rfl, h1⟩ := he.one; obtain ⟨l, rfl⟩ := h1.masks; exact ⟨l, rfl⟩)
  obtain ⟨ml1, rfl, hml1⟩ := y21.int_inv
  obtain ⟨mr1, rfl, hmr1⟩ := y31.int_inv
  have lt2 : ∀ x ∈ p2, x.block < W.heap.size := by obtain ⟨m, hm⟩ := h2; exact DataW.trod_lt m _ _ _ hm
  have ok2 := hval 2 9 v2 rfl rfl
  obtain ⟨z2, rfl⟩ := okWide_string Tryd.underlying9 ok2
  obtain ⟨x2, k2, y2⟩ := arg_rep ty_9 h2 rfl
  obtain ⟨s2, rfl⟩ := y2.str_inv
  refine ((lawHeavy vsE0 dlE0 awE0 a0 ons1 ml1 mr1 s2).told (laid_E0 W hL) rfl (fun j v d hv hd => ?_)).mono fun e W' ⟨he, bel⟩ => ?_
  · match j, hv, hd with
    | 0, hv, hd => simp at hv hd; subst hv; subst hd; exact k0
    | 1, hv, hd => simp at hv hd; subst hv; subst hd; exact k1
    | 2, hv, hd => simp at hv hd; subst hv; subst hd; exact k2
    | j + 3, hv, hd => simp at hv
  · subst he
    simp only [List.append_nil] at hW'
    exact ⟨_, rfl, _, _, _, [], _, [], hW', trodAll_mk1 (shut_bool Tryd.underlying4 _), (trodAll_cons_mk (Below.trod laidOut (by kernel_rfl) (of_decide_eq_true (by kernel_rfl)) h0 bel lt0) (trodAll_cons_mk (Below.trod laidOut (by kernel_rfl) (of_decide_eq_true (by kernel_rfl)) h1 bel lt1) (trodAll_cons_mk (Below.trod laidOut (by kernel_rfl) (of_decide_eq_true (by kernel_rfl)) h2 bel lt2) trodAll_mk0))), rfl, bel.frame _, fun h => by cases h⟩

def layFirst : Obj → Obj
  | .cells _ t frozen => .cells (Go.Pinned.utf8FirstZ.map (fun (n : Nat) => Value.int .u8 (n : Int))).toArray t frozen
  | o => o
def layAccept : Obj → Obj
  | .cells _ t frozen => .cells #[.int .u8 128, .int .u8 191, .int .u8 160, .int .u8 191, .int .u8 128, .int .u8 159, .int .u8 144, .int .u8 191, .int .u8 128, .int .u8 143, .int .u8 0, .int .u8 0, .int .u8 0, .int .u8 0, .int .u8 0, .int .u8 0, .int .u8 0, .int .u8 0, .int .u8 0, .int .u8 0, .int .u8 0, .int .u8 0, .int .u8 0, .int .u8 0, .int .u8 0, .int .u8 0, .int .u8 0, .int .u8 0, .int .u8 0, .int .u8 0, .int .u8 0, .int .u8 0] t frozen
  | o => o
noncomputable def laidWorld (os : Os) : World :=
  { World.holding Tryd.prog os ⟨#[], #[], []⟩ with heap := ((World.holding Tryd.prog os ⟨#[], #[], []⟩).heap.modify 0 layFirst).modify 1 layAccept }
theorem laid_met (os : Os) : laidMet Tryd.prog Rows.syllableHeavyRow.laid ((laidWorld os).forCall (fun _ _ => 0) ⟨#[], #[(.slice none 0 0 : Value), (.agg #[.slice none 0 0, .int .i64 0, .int .i64 0] : Value), (.string .empty : Value)], []⟩).memory :=
  laidMet_of_run' 8 (by kernel_rfl) (by kernel_rfl)
theorem reads (os : Os) {H : Type} (enc : TypeId × Value → H) : ∃ places, DataW.whole enc Tryd.prog ((laidWorld os).forCall (fun _ _ => 0) ⟨#[], #[(.slice none 0 0 : Value), (.agg #[.slice none 0 0, .int .i64 0, .int .i64 0] : Value), (.string .empty : Value)], []⟩).memory Tryd.f11.params.toList Rows.syllableHeavySpec.vars false (#[(.slice none 0 0 : Value), (.agg #[.slice none 0 0, .int .i64 0, .int .i64 0] : Value), (.string .empty : Value)]).toList 8 = some ([.nil, .agg [.nil, .lit (.int .i64 0), .lit (.int .i64 0)], .lit (.string [])], [], places) :=
  ⟨[], by kernel_rfl⟩
set_option maxRecDepth 100000 in
theorem lifted (os : Os) (started : os.Started) (H : Type) (enc : TypeId × Value → H) (F : Stop.Interp) :
    ReturnsInHanded {} Tryd.checked os 11 .any ((OpenSpec.ofChange Rows.syllableHeavySpec).preRow enc Tryd.prog Tryd.f11 Rows.syllableHeavyRow.domain false Rows.syllableHeavyRow.laid) (((OpenSpec.ofChange Rows.syllableHeavySpec).at F).post enc Tryd.prog Tryd.f11 false true false false) := by
  obtain ⟨places, hx⟩ := reads os enc
  refine returnsInHanded_of_row (C := Tryd.checked) (s := OpenSpec.ofChange Rows.syllableHeavySpec) own started (by kernel_rfl) Tryd.func11
    (witness_row_at (enc := enc) (C := Tryd.checked) false (laidWorld os) (#[(.slice none 0 0 : Value), (.agg #[.slice none 0 0, .int .i64 0, .int .i64 0] : Value), (.string .empty : Value)]) rfl (by kernel_rfl) (by kernel_rfl) (by kernel_rfl)
      (OpenSpec.preRow_of_cond 8 hx (by kernel_rfl) (fun k hk => by cases hk) (by kernel_rfl) (laid_met os))) ?_
  intro W base args ds gs before hval hW _ _ _ hL _ _
  exact contract H enc W base args ds gs before hval hW hL
theorem said : Rows.SyllableHeavySaid :=
  OpenClaim.holds_of_cond 11 Tryd.f11 rfl rfl rfl rfl rfl rfl rfl ⟨rfl, rfl, rfl, rfl, rfl⟩ rfl rfl rfl rfl rfl (by kernel_rfl) Tryd.func11 (by kernel_rfl)
    (of_decide_eq_true (by kernel_rfl)) (by unfold Func.isWrapper; first | (rw [if_pos (by decide +kernel)]; kernel_rfl) | (rw [if_neg (by decide +kernel)]; exact ⟨rfl, rfl⟩))
    (fun os started H enc _ F => by rw [OpenClaim.pre_eq_preRow]; exact lifted os started H enc F)
theorem plain (f : FuncId) (fn : Func) (hf : Tryd.pinned.checked.prog.funcNamed Rows.syllableHeavyRow.func = some f) (hfn : Tryd.pinned.checked.prog.funcs[f]? = some fn) :
    false = Tryd.pinned.checked.prog.looks [] ∧ ∀ (j : Nat) t, fn.params[j]? = some t → Tryd.pinned.checked.prog.wantsStandIn t = false := by
  obtain rfl : f = 11 := Option.some.inj ((show Tryd.prog.funcNamed Rows.syllableHeavyRow.func = some 11 by kernel_rfl).symm.trans hf) |>.symm
  obtain rfl : fn = Tryd.f11 := (Option.some.inj (Tryd.func11.symm.trans hfn)).symm
  refine ⟨by kernel_rfl, fun j t ht => ?_⟩
  rw [Tryd.params11] at ht
  have hm := Array.mem_of_getElem? ht
  simp only [List.mem_toArray, List.mem_cons, List.not_mem_nil, or_false] at hm
  rcases hm with rfl | rfl | rfl
  · exact (show Tryd.prog.wantsStandIn 28 = false by kernel_rfl)
  · exact (show Tryd.prog.wantsStandIn 24 = false by kernel_rfl)
  · exact (show Tryd.prog.wantsStandIn 9 = false by kernel_rfl)
theorem card : Rows.SyllableHeavyCardSaid :=
  Claim7.holds_tied_plain_at .later [] _ _ _ _ said (fun _ h => by cases h) (by kernel_rfl) (fun _ h => by cases h) syllableHeavy_row_tie rfl ⟨rfl, rfl⟩ (by kernel_rfl) rfl plain (by kernel_rfl)
end Go.Proofs.YtnelkblhplellaaDoor.syllableHeavy
