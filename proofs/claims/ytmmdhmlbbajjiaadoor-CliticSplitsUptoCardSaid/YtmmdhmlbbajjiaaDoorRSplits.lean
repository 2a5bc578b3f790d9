/-
  CliticSplits: for every input of bulk at most 1048576 the law returns true and leaves its arguments as they were. Conditions: those of the given card (the bulk, and the library's two tables of utf8 read as listed, which the tie pays).
-/
import Derived.Test.YtmmdhmlbbajjiaaDoorCards
import Derived.Test.YtmmdhmlbbajjiaaDoorTie
import Derived.Test.YtmmdhmlbbajjiaaDoorMa5
import Derived.WalkKit
import Derived.ProofKit
import Derived.OpenShut
import Derived.ChangeOld
import Derived.Below
import Derived.SizedLaws
import Derived.Deep.DeepHandedRow
import Derived.WideShapes
set_option linter.unusedVariables false
namespace Go.Proofs.YtmmdhmlbbajjiaaDoor.cliticSplits
open Go Go.ChangeShapes Go.WideShapes Go.ChangeAt Go.RowKit Go.GH

theorem own : ownKnob Tryd.prog.godebug = none := by kernel_rfl
theorem laidOut : laidOutB Tryd.prog = true := by kernel_rfl
theorem ty_21 : TyIs Tryd.prog 21 [.int .i32] := .int Tryd.underlying21
theorem ty_26 : TyIs Tryd.prog 26 [.int .u32] := .int Tryd.underlying26
theorem ty_28 : TyIs Tryd.prog 28 [.int .i32, .int .u32] := by
  refine TyIs.struct [[.int .i32], [.int .u32]] Tryd.underlying28 (by kernel_rfl) rfl ?_ ?_
  · intro i f Li hf hl
    match i, hf, hl with
    | 0, hf, hl => simp at hf hl; subst hf; subst hl; exact ty_21
    | 1, hf, hl => simp at hf hl; subst hf; subst hl; exact ty_26
    | i + 2, hf, hl => simp at hl
  · intro i f Li hf hl
    match i, hf, hl with
    | 0, hf, hl => simp at hf hl; subst hf; subst hl; exact ⟨rfl, by kernel_rfl⟩
    | 1, hf, hl => simp at hf hl; subst hf; subst hl; exact ⟨rfl, by kernel_rfl⟩
    | i + 2, hf, hl => simp at hl
theorem ty_22 : TyIs Tryd.prog 22 [.sl [.int .i32, .int .u32]] := .sl Tryd.underlying22 ty_28 (by kernel_rfl) (by simp)
theorem ty_9 : TyIs Tryd.prog 9 [.str] := .str Tryd.underlying9
theorem ty_4 : TyIs Tryd.prog 4 [.bool] := .bool Tryd.underlying4
theorem ty_87 : TyIs Tryd.prog 87 [.int .u32, .str, .bool, .bool] := by
  refine TyIs.struct [[.int .u32], [.str], [.bool], [.bool]] Tryd.underlying87 (by kernel_rfl) rfl ?_ ?_
  · intro i f Li hf hl
    match i, hf, hl with
    | 0, hf, hl => simp at hf hl; subst hf; subst hl; exact ty_26
    | 1, hf, hl => simp at hf hl; subst hf; subst hl; exact ty_9
    | 2, hf, hl => simp at hf hl; subst hf; subst hl; exact ty_4
    | 3, hf, hl => simp at hf hl; subst hf; subst hl; exact ty_4
    | i + 4, hf, hl => simp at hl
  · intro i f Li hf hl
    match i, hf, hl with
    | 0, hf, hl => simp at hf hl; subst hf; subst hl; exact ⟨rfl, by kernel_rfl⟩
    | 1, hf, hl => simp at hf hl; subst hf; subst hl; exact ⟨rfl, by kernel_rfl⟩
    | 2, hf, hl => simp at hf hl; subst hf; subst hl; exact ⟨rfl, by kernel_rfl⟩
    | 3, hf, hl => simp at hf hl; subst hf; subst hl; exact ⟨rfl, by kernel_rfl⟩
    | i + 4, hf, hl => simp at hl
theorem ty_45 : TyIs Tryd.prog 45 [.sl [.int .u32, .str, .bool, .bool]] := .sl Tryd.underlying45 ty_87 (by kernel_rfl) (by simp)
theorem ty_47 : TyIs Tryd.prog 47 [.int .i32, .str, .sl [.int .u32, .str, .bool, .bool], .sl [.int .u32, .str, .bool, .bool], .bool, .bool] := by
  refine TyIs.struct [[.int .i32], [.str], [.sl [.int .u32, .str, .bool, .bool]], [.sl [.int .u32, .str, .bool, .bool]], [.bool], [.bool]] Tryd.underlying47 (by kernel_rfl) rfl ?_ ?_
  · intro i f Li hf hl
    match i, hf, hl with
    | 0, hf, hl => simp at hf hl; subst hf; subst hl; exact ty_21
    | 1, hf, hl => simp at hf hl; subst hf; subst hl; exact ty_9
    | 2, hf, hl => simp at hf hl; subst hf; subst hl; exact ty_45
    | 3, hf, hl => simp at hf hl; subst hf; subst hl; exact ty_45
    | 4, hf, hl => simp at hf hl; subst hf; subst hl; exact ty_4
    | 5, hf, hl => simp at hf hl; subst hf; subst hl; exact ty_4
    | i + 6, hf, hl => simp at hl
  · intro i f Li hf hl
    match i, hf, hl with
    | 0, hf, hl => simp at hf hl; subst hf; subst hl; exact ⟨rfl, by kernel_rfl⟩
    | 1, hf, hl => simp at hf hl; subst hf; subst hl; exact ⟨rfl, by kernel_rfl⟩
    | 2, hf, hl => simp at hf hl; subst hf; subst hl; exact ⟨rfl, by kernel_rfl⟩
    | 3, hf, hl => simp at hf hl; subst hf; subst hl; exact ⟨rfl, by kernel_rfl⟩
    | 4, hf, hl => simp at hf hl; subst hf; subst hl; exact ⟨rfl, by kernel_rfl⟩
    | 5, hf, hl => simp at hf hl; subst hf; subst hl; exact ⟨rfl, by kernel_rfl⟩
    | i + 6, hf, hl => simp at hl
theorem ty_23 : TyIs Tryd.prog 23 [.sl [.int .i32, .str, .sl [.int .u32, .str, .bool, .bool], .sl [.int .u32, .str, .bool, .bool], .bool, .bool]] := .sl Tryd.underlying23 ty_47 (by kernel_rfl) (by simp)
theorem ty_35 : TyIs Tryd.prog 35 [.sl [.str]] := .sl Tryd.underlying35 ty_9 (by kernel_rfl) (by simp)
set_option maxRecDepth 100000 in
theorem contract (H : Type) (enc : TypeId × Value → H) (W : World) (base : Nat) (args : Array Value) (ds gs : List (DataW H)) (before : List MemPlace)
    (hval : ∀ (j : Nat) t v, Tryd.f5.params[j]? = some t → args[j]? = some v → Value.okWide Tryd.prog W .any base t v)
    (hW : DataW.Whole enc Tryd.prog Tryd.f5.params.toList Rows.cliticSplitsSpec.vars false W args.toList ds gs before) (hL : laidMetH Tryd.prog Rows.cliticSplitsUptoRow.laid W) (hk : Rows.uptoSmall H (ds ++ gs) = true) :
    Calls Tryd.prog 5 args W fun e W' => ∃ v, e = .returned v ∧ Rows.cliticSplitsSpec.post enc Tryd.prog Tryd.f5 false true false false W args v W' := by
  have hW' := hW
  obtain ⟨p, q, hA0, hV, rfl, hfz, hnd⟩ := hW
  have hA1 : DataW.TrodAll enc Tryd.prog W 0 (fun _ => true) true Tryd.f5.params.toList args.toList ds p := hA0
  rw [Tryd.params5] at hA1 hval
  obtain ⟨v0, vs0, d0, ds0, p0, q0, hargs0, rfl, rfl, h0, r0⟩ := trodAll_cons hA1
  obtain ⟨v1, vs1, d1, ds1, p1, q1, hargs1, rfl, rfl, h1, r1⟩ := trodAll_cons r0
  subst hargs1
  obtain ⟨v2, vs2, d2, ds2, p2, q2, hargs2, rfl, rfl, h2, r2⟩ := trodAll_cons r1
  subst hargs2
  obtain ⟨v3, vs3, d3, ds3, p3, q3, hargs3, rfl, rfl, h3, r3⟩ := trodAll_cons r2
  subst hargs3
  obtain ⟨v4, vs4, d4, ds4, p4, q4, hargs4, rfl, rfl, h4, r4⟩ := trodAll_cons r3
  subst hargs4
  obtain ⟨rfl, rfl, rfl⟩ := trodAll_nil r4
  obtain rfl : args = #[v0, v1, v2, v3, v4] := by cases args; simp_all
  obtain ⟨rfl, rfl⟩ := trodVars_none hV
  have hbulk := of_decide_eq_true hk
  have lt0 : ∀ x ∈ p0, x.block < W.heap.size := by obtain ⟨m, hm⟩ := h0; exact DataW.trod_lt m _ _ _ hm
  have ok0 := hval 0 22 v0 rfl rfl
  obtain ⟨A0, L0, C0, rfl⟩ := okWide_slice Tryd.underlying22 ok0
  have hb0 : Rows.uptoBulk d0 ≤ 1048576 := Nat.le_trans (bulk_part (by simp)) hbulk
  obtain ⟨x0, k0, y0, z90⟩ := arg_repS ty_22 h0 rfl hb0
  obtain ⟨a0, rfl⟩ := y0.letters
  have lt1 : ∀ x ∈ p1, x.block < W.heap.size := by obtain ⟨m, hm⟩ := h1; exact DataW.trod_lt m _ _ _ hm
  have ok1 := hval 1 23 v1 rfl rfl
  obtain ⟨A1, L1, C1, rfl⟩ := okWide_slice Tryd.underlying23 ok1
  have hb1 : Rows.uptoBulk d1 ≤ 1048576 := Nat.le_trans (bulk_part (by simp)) hbulk
  obtain ⟨x1, k1, y1, z91⟩ := arg_repS ty_23 h1 rfl hb1
  obtain ⟨l1, rfl⟩ := y1.rules
  have hr1 := z91.rules
  have lt2 : ∀ x ∈ p2, x.block < W.heap.size := by obtain ⟨m, hm⟩ := h2; exact DataW.trod_lt m _ _ _ hm
  have ok2 := hval 2 35 v2 rfl rfl
  obtain ⟨A2, L2, C2, rfl⟩ := okWide_slice Tryd.underlying35 ok2
  have hb2 : Rows.uptoBulk d2 ≤ 1048576 := Nat.le_trans (bulk_part (by simp)) hbulk
  obtain ⟨x2, k2, y2, z92⟩ := arg_repS ty_35 h2 rfl hb2
  obtain ⟨w2, rfl⟩ := y2.strs
  have hw2 := z92.strs
  have lt3 : ∀ x ∈ p3, x.block < W.heap.size := by obtain ⟨m, hm⟩ := h3; exact DataW.trod_lt m _ _ _ hm
  have ok3 := hval 3 35 v3 rfl rfl
  obtain ⟨A3, L3, C3, rfl⟩ := okWide_slice Tryd.underlying35 ok3
  have hb3 : Rows.uptoBulk d3 ≤ 1048576 := Nat.le_trans (bulk_part (by simp)) hbulk
  obtain ⟨x3, k3, y3, z93⟩ := arg_repS ty_35 h3 rfl hb3
  obtain ⟨w3, rfl⟩ := y3.strs
  have hw3 := z93.strs
  have lt4 : ∀ x ∈ p4, x.block < W.heap.size := by obtain ⟨m, hm⟩ := h4; exact DataW.trod_lt m _ _ _ hm
  have ok4 := hval 4 9 v4 rfl rfl
  obtain ⟨z4, rfl⟩ := okWide_string Tryd.underlying9 ok4
  have hb4 : Rows.uptoBulk d4 ≤ 1048576 := Nat.le_trans (bulk_part (by simp)) hbulk
  obtain ⟨x4, k4, y4, z94⟩ := arg_repS ty_9 h4 rfl hb4
  obtain ⟨s4, rfl⟩ := y4.str_inv
  have hs4 := z94.str
  refine ((l14Splits vsE0 awE0 a0 l1 w2 w3 s4 hr1 hw2 hw3 hs4).told (laid_E0 W hL) rfl (fun j v d hv hd => ?_)).mono fun e W' ⟨he, bel⟩ => ?_
  · match j, hv, hd with
    | 0, hv, hd => simp at hv hd; subst hv; subst hd; exact k0
    | 1, hv, hd => simp at hv hd; subst hv; subst hd; exact k1
    | 2, hv, hd => simp at hv hd; subst hv; subst hd; exact k2
    | 3, hv, hd => simp at hv hd; subst hv; subst hd; exact k3
    | 4, hv, hd => simp at hv hd; subst hv; subst hd; exact k4
    | j + 5, hv, hd => simp at hv
  · subst he
    simp only [List.append_nil] at hW'
    exact ⟨_, rfl, _, _, _, [], _, [], hW', trodAll_mk1 (shut_bool Tryd.underlying4 _), (trodAll_cons_mk (Below.trod laidOut (by kernel_rfl) (of_decide_eq_true (by kernel_rfl)) h0 bel lt0) (trodAll_cons_mk (Below.trod laidOut (by kernel_rfl) (of_decide_eq_true (by kernel_rfl)) h1 bel lt1) (trodAll_cons_mk (Below.trod laidOut (by kernel_rfl) (of_decide_eq_true (by kernel_rfl)) h2 bel lt2) (trodAll_cons_mk (Below.trod laidOut (by kernel_rfl) (of_decide_eq_true (by kernel_rfl)) h3 bel lt3) (trodAll_cons_mk (Below.trod laidOut (by kernel_rfl) (of_decide_eq_true (by kernel_rfl)) h4 bel lt4) trodAll_mk0))))), rfl, bel.frame _, fun h => by cases h⟩

def layFirst : Obj → Obj
  | .cells _ t frozen => .cells (Go.Pinned.utf8FirstZ.map (fun (n : Nat) => Value.int .u8 (n : Int))).toArray t frozen
  | o => o
def layAccept : Obj → Obj
  | .cells _ t frozen => .cells #[.int .u8 128, .int .u8 191, .int .u8 160, .int .u8 191, .int .u8 128, .int .u8 159, .int .u8 144, .int .u8 191, .int .u8 128, .int .u8 143, .int .u8 0, .int .u8 0, .int .u8 0, .int .u8 0, .int .u8 0, .int .u8 0, .int .u8 0, .int .u8 0, .int .u8 0, .int .u8 0, .int .u8 0, .int .u8 0, .int .u8 0, .int .u8 0, .int .u8 0, .int .u8 0, .int .u8 0, .int .u8 0, .int .u8 0, .int .u8 0, .int .u8 0, .int .u8 0] t frozen
  | o => o
noncomputable def laidWorld (os : Os) : World :=
  { World.holding Tryd.prog os ⟨#[], #[], []⟩ with heap := ((World.holding Tryd.prog os ⟨#[], #[], []⟩).heap.modify 1 layFirst).modify 2 layAccept }
theorem laid_met (os : Os) : laidMet Tryd.prog Rows.cliticSplitsUptoRow.laid ((laidWorld os).forCall (fun _ _ => 0) ⟨#[], #[(.slice none 0 0 : Value), (.slice none 0 0 : Value), (.slice none 0 0 : Value), (.slice none 0 0 : Value), (.string .empty : Value)], []⟩).memory :=
  laidMet_of_run' 8 (by kernel_rfl) (by kernel_rfl)
theorem reads (os : Os) {H : Type} (enc : TypeId × Value → H) : ∃ places, DataW.whole enc Tryd.prog ((laidWorld os).forCall (fun _ _ => 0) ⟨#[], #[(.slice none 0 0 : Value), (.slice none 0 0 : Value), (.slice none 0 0 : Value), (.slice none 0 0 : Value), (.string .empty : Value)], []⟩).memory Tryd.f5.params.toList Rows.cliticSplitsSpec.vars false (#[(.slice none 0 0 : Value), (.slice none 0 0 : Value), (.slice none 0 0 : Value), (.slice none 0 0 : Value), (.string .empty : Value)]).toList 8 = some ([.nil, .nil, .nil, .nil, .lit (.string [])], [], places) :=
  ⟨[], by kernel_rfl⟩
set_option maxRecDepth 100000 in
theorem lifted (os : Os) (started : os.Started) (H : Type) (enc : TypeId × Value → H) (F : Stop.Interp) :
    ReturnsInHanded {} Tryd.checked os 5 .any ((Rows.OpenSpec.upto Rows.cliticSplitsSpec).preRow enc Tryd.prog Tryd.f5 Rows.cliticSplitsUptoRow.domain false Rows.cliticSplitsUptoRow.laid) (((Rows.OpenSpec.upto Rows.cliticSplitsSpec).at F).post enc Tryd.prog Tryd.f5 false true false false) := by
  obtain ⟨places, hx⟩ := reads os enc
  refine returnsInHanded_of_row (C := Tryd.checked) (s := (Rows.OpenSpec.upto Rows.cliticSplitsSpec)) own started (by kernel_rfl) Tryd.func5
    (witness_row_at (enc := enc) (C := Tryd.checked) false (laidWorld os) (#[(.slice none 0 0 : Value), (.slice none 0 0 : Value), (.slice none 0 0 : Value), (.slice none 0 0 : Value), (.string .empty : Value)]) rfl (by kernel_rfl) (by kernel_rfl) (by kernel_rfl)
      (OpenSpec.preRow_of_cond 8 hx (by kernel_rfl) (fun k hk => by cases hk; kernel_rfl) (by kernel_rfl) (laid_met os))) ?_
  intro W base args ds gs before hval hW _ hcond _ hL hS _
  exact contract H enc W base args ds gs before hval hW hL (hcond _ rfl)
theorem said : Rows.CliticSplitsUptoSaid :=
  OpenClaim.holds_of_cond 5 Tryd.f5 rfl rfl rfl rfl rfl rfl rfl ⟨rfl, rfl, rfl, rfl, rfl⟩ rfl rfl rfl rfl rfl (by kernel_rfl) Tryd.func5 (by kernel_rfl)
    (of_decide_eq_true (by kernel_rfl)) (by unfold Func.isWrapper; first | (rw [if_pos (by decide +kernel)]; kernel_rfl) | (rw [if_neg (by decide +kernel)]; exact ⟨rfl, rfl⟩))
    (fun os started H enc _ F => by rw [OpenClaim.pre_eq_preRow]; exact lifted os started H enc F)
theorem plain (f : FuncId) (fn : Func) (hf : Tryd.pinned.checked.prog.funcNamed Rows.cliticSplitsUptoRow.func = some f) (hfn : Tryd.pinned.checked.prog.funcs[f]? = some fn) :
    false = Tryd.pinned.checked.prog.looks [] ∧ ∀ (j : Nat) t, fn.params[j]? = some t → Tryd.pinned.checked.prog.wantsStandIn t = false := by
  obtain rfl : f = 5 := Option.some.inj ((show Tryd.prog.funcNamed Rows.cliticSplitsUptoRow.func = some 5 by kernel_rfl).symm.trans hf) |>.symm
  obtain rfl : fn = Tryd.f5 := (Option.some.inj (Tryd.func5.symm.trans hfn)).symm
  refine ⟨by kernel_rfl, fun j t ht => ?_⟩
  rw [Tryd.params5] at ht
  have hm := Array.mem_of_getElem? ht
  simp only [List.mem_toArray, List.mem_cons, List.not_mem_nil, or_false] at hm
  rcases hm with rfl | rfl | rfl | rfl | rfl
  · exact (show Tryd.prog.wantsStandIn 22 = false by kernel_rfl)
  · exact (show Tryd.prog.wantsStandIn 23 = false by kernel_rfl)
  · exact (show Tryd.prog.wantsStandIn 35 = false by kernel_rfl)
  · exact (show Tryd.prog.wantsStandIn 35 = false by kernel_rfl)
  · exact (show Tryd.prog.wantsStandIn 9 = false by kernel_rfl)
theorem cardUpto : Rows.CliticSplitsUptoCardSaid :=
  Claim7.holds_tied_plain_at .later [] _ _ _ _ said (fun _ h => by cases h) (by kernel_rfl) (fun _ h => by cases h) cliticSplitsUpto_row_tie rfl ⟨rfl, rfl⟩ (by kernel_rfl) rfl plain (by kernel_rfl)
end Go.Proofs.YtmmdhmlbbajjiaaDoor.cliticSplits
