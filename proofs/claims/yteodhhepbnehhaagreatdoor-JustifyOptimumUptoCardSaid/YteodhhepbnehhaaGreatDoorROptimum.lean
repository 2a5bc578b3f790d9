/-
  JustifyOptimum: for every input the law returns true and leaves its arguments as they were. Conditions: those of the given card (the library's two tables of utf8 read as listed, which the tie pays).
-/
import Derived.Test.YteodhhepbnehhaaGreatDoorCards
import Derived.Test.YteodhhepbnehhaaGreatDoorTie
import Derived.Test.YteodhhepbnehhaaGreatDoorMz6
import Derived.WalkKit
import Derived.ProofKit
import Derived.OpenShut
import Derived.ChangeOld
import Derived.Below
import Derived.SizedLaws
import Derived.Deep.DeepHandedRow
import Derived.WideShapes
set_option linter.unusedVariables false
namespace Go.Proofs.YteodhhepbnehhaaGreatDoor.justifyOptimum
open Go Go.ChangeShapes Go.WideShapes Go.ChangeAt Go.RowKit Go.GH

theorem own : ownKnob Tryz.prog.godebug = none := by kernel_rfl
theorem laidOut : laidOutB Tryz.prog = true := by kernel_rfl
theorem ty_9 : TyIs Tryz.prog 9 [.str] := .str Tryz.underlying9
theorem ty_3 : TyIs Tryz.prog 3 [.int .i64] := .int Tryz.underlying3
theorem ty_98 : TyIs Tryz.prog 98 [.sl [.int .i64]] := .sl Tryz.underlying98 ty_3 (by kernel_rfl) (by simp)
theorem ty_111 : TyIs Tryz.prog 111 [.str, .sl [.int .i64]] := by
  refine TyIs.struct [[.str], [.sl [.int .i64]]] Tryz.underlying111 (by kernel_rfl) rfl ?_ ?_
  · intro i f Li hf hl
    match i, hf, hl with
    | 0, hf, hl => simp at hf hl; subst hf; subst hl; exact ty_9
    | 1, hf, hl => simp at hf hl; subst hf; subst hl; exact ty_98
    | i + 2, hf, hl => simp at hl
  · intro i f Li hf hl
    match i, hf, hl with
    | 0, hf, hl => simp at hf hl; subst hf; subst hl; exact ⟨rfl, by kernel_rfl⟩
    | 1, hf, hl => simp at hf hl; subst hf; subst hl; exact ⟨rfl, by kernel_rfl⟩
    | i + 2, hf, hl => simp at hl
theorem ty_33 : TyIs Tryz.prog 33 [.sl [.str, .sl [.int .i64]]] := .sl Tryz.underlying33 ty_111 (by kernel_rfl) (by simp)
set_option maxRecDepth 100000 in
theorem contract (H : Type) (enc : TypeId × Value → H) (W : World) (base : Nat) (args : Array Value) (ds gs : List (DataW H)) (before : List MemPlace)
    (hval : ∀ (j : Nat) t v, Tryz.f6.params[j]? = some t → args[j]? = some v → Value.okWide Tryz.prog W .any base t v)
    (hW : DataW.Whole enc Tryz.prog Tryz.f6.params.toList Rows.justifyOptimumSpec.vars false W args.toList ds gs before) (hL : laidMetH Tryz.prog Rows.justifyOptimumUptoRow.laid W) (hS : W.ShapedOpen Tryz.prog) (hk : Rows.uptoSmall H (ds ++ gs) = true) :
    Calls Tryz.prog 6 args W fun e W' => ∃ v, e = .returned v ∧ Rows.justifyOptimumSpec.post enc Tryz.prog Tryz.f6 false true false false W args v W' := by
  have hW' := hW
  obtain ⟨p, q, hA0, hV, rfl, hfz, hnd⟩ := hW
  have hA1 : DataW.TrodAll enc Tryz.prog W 0 (fun _ => true) true Tryz.f6.params.toList args.toList ds p := hA0
  rw [Tryz.params6] at hA1 hval
  obtain ⟨v0, vs0, d0, ds0, p0, q0, hargs0, rfl, rfl, h0, r0⟩ := trodAll_cons hA1
  obtain ⟨v1, vs1, d1, ds1, p1, q1, hargs1, rfl, rfl, h1, r1⟩ := trodAll_cons r0
  subst hargs1
  obtain ⟨v2, vs2, d2, ds2, p2, q2, hargs2, rfl, rfl, h2, r2⟩ := trodAll_cons r1
  subst hargs2
  obtain ⟨rfl, rfl, rfl⟩ := trodAll_nil r2
  obtain rfl : args = #[v0, v1, v2] := by cases args; simp_all
  obtain ⟨rfl, rfl⟩ := trodVars_none hV
  have hbulk := of_decide_eq_true hk
  have lt0 : ∀ x ∈ p0, x.block < W.heap.size := by obtain ⟨m, hm⟩ := h0; exact DataW.trod_lt m _ _ _ hm
  have ok0 := hval 0 33 v0 rfl rfl
  obtain ⟨A0, L0, C0, rfl⟩ := okWide_slice Tryz.underlying33 ok0
  have hb0 : Rows.uptoBulk d0 ≤ 1048576 := Nat.le_trans (bulk_part (by simp)) hbulk
  obtain ⟨x0, k0, y0, z90⟩ := arg_repS ty_33 h0 rfl hb0
  obtain ⟨l0_, rfl⟩ := y0.boxes
  have hs0 := SmallD.boxes z90
  have lt1 : ∀ x ∈ p1, x.block < W.heap.size := by obtain ⟨m, hm⟩ := h1; exact DataW.trod_lt m _ _ _ hm
  have ok1 := hval 1 3 v1 rfl rfl
  obtain ⟨z1, rfl⟩ := okWide_int Tryz.underlying3 ok1
  have hb1 : Rows.uptoBulk d1 ≤ 1048576 := Nat.le_trans (bulk_part (by simp)) hbulk
  obtain ⟨x1, k1, y1, z91⟩ := arg_repS ty_3 h1 rfl hb1
  obtain ⟨n1, rfl, hn1_⟩ := y1.int_inv
  have lt2 : ∀ x ∈ p2, x.block < W.heap.size := by obtain ⟨m, hm⟩ := h2; exact DataW.trod_lt m _ _ _ hm
  have ok2 := hval 2 3 v2 rfl rfl
  obtain ⟨z2, rfl⟩ := okWide_int Tryz.underlying3 ok2
  have hb2 : Rows.uptoBulk d2 ≤ 1048576 := Nat.le_trans (bulk_part (by simp)) hbulk
  obtain ⟨x2, k2, y2, z92⟩ := arg_repS ty_3 h2 rfl hb2
  obtain ⟨n2, rfl, hn2_⟩ := y2.int_inv
  refine ((l50Optimum l0_ n1 n2 hs0).told (laid_E50 W hL hS) rfl (fun j v d hv hd => ?_)).mono fun e W' ⟨he, bel⟩ => ?_
  · match j, hv, hd with
    | 0, hv, hd => simp at hv hd; subst hv; subst hd; exact k0
    | 1, hv, hd => simp at hv hd; subst hv; subst hd; exact k1
    | 2, hv, hd => simp at hv hd; subst hv; subst hd; exact k2
    | j + 3, hv, hd => simp at hv
  · subst he
    simp only [List.append_nil] at hW'
    exact ⟨_, rfl, _, _, _, [], _, [], hW', trodAll_mk1 (shut_bool Tryz.underlying4 _), (trodAll_cons_mk (Below.trod laidOut (by kernel_rfl) (of_decide_eq_true (by kernel_rfl)) h0 bel lt0) (trodAll_cons_mk (Below.trod laidOut (by kernel_rfl) (of_decide_eq_true (by kernel_rfl)) h1 bel lt1) (trodAll_cons_mk (Below.trod laidOut (by kernel_rfl) (of_decide_eq_true (by kernel_rfl)) h2 bel lt2) trodAll_mk0))), rfl, bel.frame _, fun h => by cases h⟩

def layFirst : Obj → Obj
  | .cells _ t frozen => .cells (Go.Pinned.utf8FirstZ.map (fun (n : Nat) => Value.int .u8 (n : Int))).toArray t frozen
  | o => o
def layAccept : Obj → Obj
  | .cells _ t frozen => .cells #[.int .u8 128, .int .u8 191, .int .u8 160, .int .u8 191, .int .u8 128, .int .u8 159, .int .u8 144, .int .u8 191, .int .u8 128, .int .u8 143, .int .u8 0, .int .u8 0, .int .u8 0, .int .u8 0, .int .u8 0, .int .u8 0, .int .u8 0, .int .u8 0, .int .u8 0, .int .u8 0, .int .u8 0, .int .u8 0, .int .u8 0, .int .u8 0, .int .u8 0, .int .u8 0, .int .u8 0, .int .u8 0, .int .u8 0, .int .u8 0, .int .u8 0, .int .u8 0] t frozen
  | o => o
noncomputable def laidWorld (os : Os) : World :=
  { World.holding Tryz.prog os ⟨#[], #[], []⟩ with heap := ((World.holding Tryz.prog os ⟨#[], #[], []⟩).heap.modify 0 layFirst).modify 1 layAccept }
theorem laid_met (os : Os) : laidMet Tryz.prog Rows.justifyOptimumUptoRow.laid ((laidWorld os).forCall (fun _ _ => 0) ⟨#[], #[(.slice none 0 0 : Value), (.int .i64 0 : Value), (.int .i64 0 : Value)], []⟩).memory :=
  laidMet_of_run' 8 (by kernel_rfl) (by kernel_rfl)
theorem reads (os : Os) {H : Type} (enc : TypeId × Value → H) : ∃ places, DataW.whole enc Tryz.prog ((laidWorld os).forCall (fun _ _ => 0) ⟨#[], #[(.slice none 0 0 : Value), (.int .i64 0 : Value), (.int .i64 0 : Value)], []⟩).memory Tryz.f6.params.toList Rows.justifyOptimumSpec.vars false (#[(.slice none 0 0 : Value), (.int .i64 0 : Value), (.int .i64 0 : Value)]).toList 8 = some ([.nil, .lit (.int .i64 0), .lit (.int .i64 0)], [], places) :=
  ⟨[], by kernel_rfl⟩
set_option maxRecDepth 100000 in
theorem lifted (os : Os) (started : os.Started) (H : Type) (enc : TypeId × Value → H) (F : Stop.Interp) :
    ReturnsInHanded {} Tryz.checked os 6 .any ((Rows.OpenSpec.upto Rows.justifyOptimumSpec).preRow enc Tryz.prog Tryz.f6 Rows.justifyOptimumUptoRow.domain false Rows.justifyOptimumUptoRow.laid) (((Rows.OpenSpec.upto Rows.justifyOptimumSpec).at F).post enc Tryz.prog Tryz.f6 false true false false) := by
  obtain ⟨places, hx⟩ := reads os enc
  refine returnsInHanded_of_row (C := Tryz.checked) (s := (Rows.OpenSpec.upto Rows.justifyOptimumSpec)) own started (by kernel_rfl) Tryz.func6
    (witness_row_at (enc := enc) (C := Tryz.checked) false (laidWorld os) (#[(.slice none 0 0 : Value), (.int .i64 0 : Value), (.int .i64 0 : Value)]) rfl (by kernel_rfl) (by kernel_rfl) (by kernel_rfl)
      (OpenSpec.preRow_of_cond 8 hx (by kernel_rfl) (fun k hk => by cases hk; kernel_rfl) (by kernel_rfl) (laid_met os))) ?_
  intro W base args ds gs before hval hW _ hcond _ hL hS _
  exact contract H enc W base args ds gs before hval hW hL hS (hcond _ rfl)
theorem said : Rows.JustifyOptimumUptoSaid :=
  OpenClaim.holds_of_cond 6 Tryz.f6 rfl rfl rfl rfl rfl rfl rfl ⟨rfl, rfl, rfl, rfl, rfl⟩ rfl rfl rfl rfl rfl (by kernel_rfl) Tryz.func6 (by kernel_rfl)
    (of_decide_eq_true (by kernel_rfl)) (by unfold Func.isWrapper; first | (rw [if_pos (by decide +kernel)]; kernel_rfl) | (rw [if_neg (by decide +kernel)]; exact ⟨rfl, rfl⟩))
    (fun os started H enc _ F => by rw [OpenClaim.pre_eq_preRow]; exact lifted os started H enc F)
theorem plain (f : FuncId) (fn : Func) (hf : Tryz.pinned.checked.prog.funcNamed Rows.justifyOptimumUptoRow.func = some f) (hfn : Tryz.pinned.checked.prog.funcs[f]? = some fn) :
    false = Tryz.pinned.checked.prog.looks [] ∧ ∀ (j : Nat) t, fn.params[j]? = some t → Tryz.pinned.checked.prog.wantsStandIn t = false := by
  obtain rfl : f = 6 := Option.some.inj ((show Tryz.prog.funcNamed Rows.justifyOptimumUptoRow.func = some 6 by kernel_rfl).symm.trans hf) |>.symm
  obtain rfl : fn = Tryz.f6 := (Option.some.inj (Tryz.func6.symm.trans hfn)).symm
  refine ⟨by kernel_rfl, fun j t ht => ?_⟩
  rw [Tryz.params6] at ht
  have hm := Array.mem_of_getElem? ht
  simp only [List.mem_toArray, List.mem_cons, List.not_mem_nil, or_false] at hm
  rcases hm with rfl | rfl | rfl
  · exact (show Tryz.prog.wantsStandIn 33 = false by kernel_rfl)
  · exact (show Tryz.prog.wantsStandIn 3 = false by kernel_rfl)
  · exact (show Tryz.prog.wantsStandIn 3 = false by kernel_rfl)
theorem cardUpto : Rows.JustifyOptimumUptoCardSaid :=
  Claim7.holds_tied_plain_at .later [] _ _ _ _ said (fun _ h => by cases h) (by kernel_rfl) (fun _ h => by cases h) justifyOptimumUpto_row_tie rfl ⟨rfl, rfl⟩ (by kernel_rfl) rfl plain (by kernel_rfl)
end Go.Proofs.YteodhhepbnehhaaGreatDoor.justifyOptimum
