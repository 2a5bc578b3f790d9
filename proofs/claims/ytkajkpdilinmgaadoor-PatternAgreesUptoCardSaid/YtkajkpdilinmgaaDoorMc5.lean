/-
  Part 5 of the texts behind the walks of this claim: an own layer over the kit's wp, plain laws, and walks. No conditions.
-/
import Derived.Test.YtkajkpdilinmgaaDoorMc4
set_option linter.unusedVariables false
set_option linter.unusedSimpArgs false
set_option linter.deprecated false
namespace Go.GH
open Go
abbrev TIt : List DTy := [.int .u32, .str, .bool, .bool]
abbrev TAc : List DTy := [.int .i64, .sl [.bool], .sl [.sl [.int .i64]]]
theorem ElemIs.item {e : List DV} (h : ElemIs TIt e) : ∃ x : Item, e = encIt x := by
  obtain ⟨h1, h2⟩ := h
  match e, h1 with
  | [d0, d1, d2, d3], _ =>
    obtain ⟨n, rfl, _⟩ := (h2 0 d0 _ rfl rfl).int_inv
    obtain ⟨s, rfl⟩ := (h2 1 d1 _ rfl rfl).str_inv
    obtain ⟨b, rfl⟩ := (h2 2 d2 _ rfl rfl).bool_inv
    obtain ⟨c, rfl⟩ := (h2 3 d3 _ rfl rfl).bool_inv
    exact ⟨⟨n, s, b, c⟩, rfl⟩
theorem HasD.items {d : DV} (h : HasD (.sl TIt) d) : ∃ p, d = DIts p := h.slice (f := encIt) (fun e he => he.item)
theorem HasD.bools {d : DV} (h : HasD (.sl [.bool]) d) : ∃ l, d = DBools l :=
  h.slice (f := encB) (fun e he => by
    obtain ⟨d1, rfl, h1⟩ := he.one
    obtain ⟨r, rfl⟩ := h1.bool_inv
    exact ⟨r, rfl⟩)
theorem ElemIs.acc {e : List DV} (h : ElemIs TAc e) : ∃ x : Acc, e = encAcc x := by
  obtain ⟨d0, d1, d2, rfl, h0, h1, h2⟩ := h.three
  obtain ⟨n, rfl, _⟩ := h0.int_inv
  obtain ⟨f, rfl⟩ := h1.bools
  obtain ⟨t, rfl⟩ := h2.slice (f := encRI) (fun e he => by
    obtain ⟨d1, rfl, h1⟩ := he.one
    obtain ⟨l, rfl⟩ := h1.ints
    exact ⟨l, rfl⟩)
  exact ⟨⟨n, f, t⟩, rfl⟩
theorem SmallD.str {N : Nat} {s : ByteArray} (h : SmallD N (.v (.string s))) : s.size ≤ N := by cases h with | v h => exact h s rfl
theorem SmallD.items {N : Nat} {p : List Item} (h : SmallD N (DIts p)) : ∀ x ∈ p, x.lets.size ≤ N := fun x hx => by
  obtain ⟨i, hi⟩ := List.mem_iff_getElem?.1 hx
  cases h with
  | isl hl h => exact (h i (encIt x) 1 (.v (.string x.lets)) (by rw [List.getElem?_map, hi]; rfl) rfl).str
end Go.GH
namespace Go.GH
open Go Go.Proofs
variable {E : Env}
theorem l6Agrees (hV : VS E) (hA : AW6 E) (a : List Letter) (p : List Item) (s : ByteArray) (hp : ∀ x ∈ p, x.lets.size ≤ 1048576) (hs : s.size ≤ 1048576) : GCall Tryd.prog E 4 [DLs a, DIts p, .v (.string s)] [] (fun d H => d = .v (.bool true) ∧ H = []) := by
  refine GCall.body (C := ⟨Tryd.prog, E, true⟩) Tryd.func4 rfl (fun _ => rfl) (by kernel_rfl) rfl ?_
  refine SCode.seqR ?_
  refine SOps.assign rfl ?_
  refine SOps.nil ?_
  refine SCode.seq ?_
  refine SCode.seqR ?_
  refine SOps.callP hA rfl ?_
  rintro _ rfl
  refine SOps.un rfl rfl ?_
  refine SOps.nil ?_
  refine SCode.cond rfl (fun h => by cases h) (fun _ => ?_)
  refine SCode.skip ?_
  show SCode _ _ _ _
  refine SCode.seq ?_
  refine SCode.seqR ?_
  refine SOps.move rfl ?_
  refine SOps.move rfl ?_
  refine SOps.callP (small6 _ _) rfl ?_
  rintro _ rfl
  refine SOps.un rfl rfl ?_
  refine SOps.move rfl ?_
  refine SOps.caseB 17 rfl (fun hb1 => ?_) (fun hb1 => ?_)
  · try simp only [decide_eq_true_eq, decide_eq_false_iff_not, Bool.not_eq_true', Bool.not_eq_false', beq_iff_eq, bne_iff_ne, ne_eq, beq_eq_false_iff_ne, bne_eq_false_iff_eq, Int.not_lt, Int.not_le, Nat.not_lt, Nat.not_le, Int.ofNat_lt, Int.ofNat_le, Bool.not_eq_eq_eq_not, Bool.not_true, Bool.not_false] at hb1
    refine SOps.skip rfl ?_
    refine SOps.skip rfl ?_
    refine SOps.skip rfl ?_
    refine SOps.skip rfl ?_
    refine SOps.pick rfl rfl ?_
    refine SOps.nil ?_
    refine SCode.cond rfl (fun _ => ?_) (fun h => by cases h)
    refine SCode.seqR ?_
    refine SOps.assign rfl ?_
    refine SOps.nil ?_
    refine SCode.ret ?_
    exact ⟨_, Res.one (.tmp rfl), rfl, rfl⟩
  · try simp only [decide_eq_true_eq, decide_eq_false_iff_not, Bool.not_eq_true', Bool.not_eq_false', beq_iff_eq, bne_iff_ne, ne_eq, beq_eq_false_iff_ne, bne_eq_false_iff_eq, Int.not_lt, Int.not_le, Nat.not_lt, Nat.not_le, Int.ofNat_lt, Int.ofNat_le, Bool.not_eq_eq_eq_not, Bool.not_true, Bool.not_false] at hb1
    refine SOps.move rfl ?_
    refine SOps.move rfl ?_
    refine SOps.callP (pValid hV _ _ (by assumption)) rfl ?_
    rintro _ rfl
    refine SOps.un rfl rfl ?_
    refine SOps.pick rfl rfl ?_
    refine SOps.nil ?_
    refine SCode.cond rfl (fun hc2 => ?_) (fun hc2 => ?_)
    · try simp only [decide_eq_true_eq, decide_eq_false_iff_not, Bool.not_eq_true', Bool.not_eq_false', beq_iff_eq, bne_iff_ne, ne_eq, beq_eq_false_iff_ne, bne_eq_false_iff_eq, Int.not_lt, Int.not_le, Nat.not_lt, Nat.not_le, Int.ofNat_lt, Int.ofNat_le, Bool.not_eq_eq_eq_not, Bool.not_true, Bool.not_false] at hc2
      refine SCode.seqR ?_
      refine SOps.assign rfl ?_
      refine SOps.nil ?_
      refine SCode.ret ?_
      exact ⟨_, Res.one (.tmp rfl), rfl, rfl⟩
    · try simp only [decide_eq_true_eq, decide_eq_false_iff_not, Bool.not_eq_true', Bool.not_eq_false', beq_iff_eq, bne_iff_ne, ne_eq, beq_eq_false_iff_ne, bne_eq_false_iff_eq, Int.not_lt, Int.not_le, Nat.not_lt, Nat.not_le, Int.ofNat_lt, Int.ofNat_le, Bool.not_eq_eq_eq_not, Bool.not_true, Bool.not_false] at hc2
      refine SCode.skip ?_
      show SCode _ _ _ _
      refine SCode.seqR ?_
      have hv : validPat a p = true := by simp_all
      have hvl := validPat_len hv
      have hok := accR_ok a (p := p) (by omega)
      have hmx : minX (accX a p) = minA (accR a p) := by rw [accX_ok hv, minX_ok hok.1 (by rw [hok.2]; omega)]
      have hax : acceptsA a (accX a p) s = matchesP a p s := by rw [accX_ok hv, accepts_accR hv]
      have hay : acceptsA a (minX (accX a p)) s = matchesP a p s := by rw [hmx, accepts_minA hok.1, accepts_accR hv]
      have hle : (minX (accX a p)).nxt.length ≤ (accX a p).nxt.length := by rw [hmx, accX_ok hv]; exact minA_len hok.1
      refine SOps.move rfl ?_
      refine SOps.move rfl ?_
      refine SOps.callP (aAccT hV _ _ (by assumption)) rfl ?_
      rintro _ rfl
      refine SOps.move rfl ?_
      refine SOps.extract rfl rfl ?_
      refine SOps.extract rfl rfl ?_
      refine SOps.alloc (sz := 3) zeroIs_28 (fun b0 hb_0 => ?_)
      refine SOps.storeAM 0 rfl rfl aggB_28_3 rfl ?_
      refine SOps.freezeRef (t := 7) 0 0 rfl rfl rfl rfl rfl ?_
      refine SOps.assign rfl ?_
      refine SOps.nil ?_
      refine SCode.seqR ?_
      refine SOps.loadPinA rfl aggB_28_3 (Nat.le_of_ble_eq_true rfl) ?_
      refine SOps.callP (aMinT _) rfl ?_
      rintro _ rfl
      refine SOps.alloc (sz := 3) zeroIs_28 (fun b1 hb_1 => ?_)
      refine SOps.storeAM 0 rfl rfl aggB_28_3 rfl ?_
      refine SOps.freezeRef (t := 9) 0 0 rfl rfl rfl rfl rfl ?_
      refine SOps.nil ?_
      refine SCode.seqR ?_
      refine SOps.move rfl ?_
      refine SOps.move rfl ?_
      refine SOps.move rfl ?_
      refine SOps.callP (pMatches hV _ _ _ (by assumption) (by assumption)) rfl ?_
      rintro _ rfl
      refine SOps.assign rfl ?_
      refine SOps.nil ?_
      refine SCode.seqR ?_
      refine SOps.move rfl ?_
      refine SOps.bin rfl rfl rfl ?_
      refine SOps.reSlot (t := 36) rfl (show _ = DV.v (.bool true) from congrArg (fun b => DV.v (.bool b)) (by rw [if_pos hv]; rfl)) ?_
      refine SOps.move rfl ?_
      refine SOps.move rfl ?_
      refine SOps.loadPinA rfl aggB_28_3 (Nat.le_of_ble_eq_true rfl) ?_
      refine SOps.move rfl ?_
      refine SOps.callP (aAccepts hV _ _ _ (by assumption)) rfl ?_
      rintro _ rfl
      refine SOps.move rfl ?_
      refine SOps.boolEq rfl rfl boolTy_4 ?_
      refine SOps.reSlot (t := 43) rfl (show _ = DV.v (.bool true) from congrArg (fun b => DV.v (.bool b)) (by rw [hax]; exact beq_self_eq_true _)) ?_
      refine SOps.pick rfl rfl ?_
      refine SOps.move rfl ?_
      refine SOps.move rfl ?_
      refine SOps.loadPinA rfl aggB_28_3 (Nat.le_of_ble_eq_true rfl) ?_
      refine SOps.move rfl ?_
      refine SOps.callP (aAccepts hV _ _ _ (by assumption)) rfl ?_
      rintro _ rfl
      refine SOps.move rfl ?_
      refine SOps.boolEq rfl rfl boolTy_4 ?_
      refine SOps.reSlot (t := 51) rfl (show _ = DV.v (.bool true) from congrArg (fun b => DV.v (.bool b)) (by rw [hay]; exact beq_self_eq_true _)) ?_
      refine SOps.pick rfl rfl ?_
      refine SOps.move rfl ?_
      refine SOps.fieldPin rfl fieldB_28_2_2 ?_
      refine SOps.loadPin rfl flatB_26 ?_
      refine SOps.lenM rfl sliceB_26_39_1 ?_
      refine SOps.fieldPin rfl fieldB_28_2_2 ?_
      refine SOps.loadPin rfl flatB_26 ?_
      refine SOps.lenM rfl sliceB_26_39_1 ?_
      refine SOps.bin rfl rfl rfl ?_
      refine SOps.reSlot (t := 60) rfl (show _ = DV.v (.bool true) from congrArg (fun b => DV.v (.bool b)) (decide_eq_true (by omega))) ?_
      refine SOps.pick rfl rfl ?_
      refine SOps.assign rfl ?_
      refine SOps.nil ?_
      refine SCode.ret ?_
      exact ⟨_, Res.one (.tmp rfl), rfl, rfl⟩
end Go.GH
