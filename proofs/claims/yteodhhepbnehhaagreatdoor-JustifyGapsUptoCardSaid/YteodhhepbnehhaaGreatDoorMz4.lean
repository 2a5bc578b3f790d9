/-
  Part 4 of the texts behind the walks of this claim: an own layer over the kit's wp, plain laws, and walks. No conditions.
-/
import Derived.Test.YteodhhepbnehhaaGreatDoorMz3
import Derived.KernelRfl
import Derived.Shelf.Unicode.DecodeSlow
import Derived.Lib.DecodeN
import Derived.OrdersIn
import Derived.Shelf.Strings.FieldsFuncAny
import Derived.Shelf.Strings.SplitShaped
import Derived.Test.YteodhhepbnehhaaGreatDoorRows
set_option linter.unusedVariables false
set_option linter.unusedSimpArgs false
set_option linter.deprecated false
namespace Go.GH
open Go
def prB (l : Ln) : Bool := decide (0 < l.words.length) && l.words.all wordB
def gapN (m g i : Nat) : Nat := 1 + m / g + (if i < m % g then 1 else 0)
/-- The first words of a line with the gaps behind them. -/
def sprK (ws : List ByteArray) (g m : Nat) : Nat → ByteArray
  | 0 => .empty
  | k + 1 => if k < g then sprK ws g m k ++ ws.getD k .empty ++ blB (gapN m g k) else sprK ws g m k ++ ws.getD k .empty
def sprL (l : Ln) (m : Nat) : ByteArray := if l.hyph then sprK l.words (l.words.length - 1) m l.words.length ++ hy1 else sprK l.words (l.words.length - 1) m l.words.length
def spreadR (l : Ln) (w : Int) (last : Bool) : ByteArray × Int :=
  if wideB w && prB l then
    if w < (wlen (textL l) : Int) then (⟨#[]⟩, 2)
    else if last || decide (l.words.length = 1) then (textL l ++ blB (w - (wlen (textL l) : Int)).toNat, 0)
    else (sprL l (w - (wlen (textL l) : Int)).toNat, 0)
  else (⟨#[]⟩, 1)
theorem gapN_le {m g i : Nat} (h : m ≤ 200) : gapN m g i ≤ 202 := by
  unfold gapN
  have := Nat.div_le_self m g
  split <;> omega
theorem sprK_size {ws : List ByteArray} {g m M : Nat} (hm : m ≤ 200) (hw : ∀ w ∈ ws, w.size ≤ M) : ∀ k, (sprK ws g m k).size ≤ (M + 202) * k
  | 0 => Nat.zero_le _
  | k + 1 => by
    have ih := sprK_size (g := g) hm hw k
    have hg : (ws.getD k .empty).size ≤ M := by
      rw [List.getD_eq_getElem?_getD]
      by_cases h : k < ws.length
      · rw [List.getElem?_eq_getElem h]; exact hw _ (List.getElem_mem h)
      · rw [List.getElem?_eq_none (by omega)]; exact Nat.zero_le _
    have hl := gapN_le (m := m) (g := g) (i := k) hm
    rw [sprK, Nat.mul_add, Nat.mul_one]
    split
    · rw [ByteArray.size_append, ByteArray.size_append, blB_size]; omega
    · rw [ByteArray.size_append]; omega
theorem getD_w {l : List ByteArray} {i : Nat} (h : i < l.length) : l.getD i .empty = l[i] := by rw [List.getD_eq_getElem?_getD, List.getElem?_eq_getElem h]; rfl
theorem prB_iff {l : Ln} : prB l = true ↔ 0 < l.words.length ∧ ∀ w ∈ l.words, wordB w = true := by simp [prB]
theorem wideX_iff {w : Int} : wideB w = true ↔ 1 ≤ w ∧ w ≤ 200 := by simp [wideB]
theorem spread_bad {l : Ln} {w : Int} {last : Bool} (h : ¬ (wideB w && prB l) = true) : spreadR l w last = (⟨#[]⟩, 1) := by unfold spreadR; rw [if_neg h]
theorem spread_tight {l : Ln} {w : Int} {last : Bool} (h : (wideB w && prB l) = true) (h2 : w - (wlen (textL l) : Int) < 0) : spreadR l w last = (⟨#[]⟩, 2) := by unfold spreadR; rw [if_pos h, if_pos (by omega)]
theorem spread_last {l : Ln} {w : Int} {last : Bool} {m : Nat} (h : (wideB w && prB l) = true) (h2 : w - (wlen (textL l) : Int) = (m : Int)) (h3 : last = true ∨ l.words.length = 1) : spreadR l w last = (textL l ++ blB m, 0) := by
  unfold spreadR
  rw [if_pos h, if_neg (by omega), if_pos (by simpa using h3), h2]; rfl
theorem spread_gaps {l : Ln} {w : Int} {last : Bool} {m : Nat} (h : (wideB w && prB l) = true) (h2 : w - (wlen (textL l) : Int) = (m : Int)) (h3 : last = false) (h4 : ¬ l.words.length = 1) : spreadR l w last = (sprL l m, 0) := by
  unfold spreadR
  rw [if_pos h, if_neg (by omega), if_neg (by simp [h3, h4]), h2]; rfl
end Go.GH
namespace Go.GH
open Go Go.Proofs
variable {E : Env}
theorem fieldB_24_0_0 : fieldB Tryz.prog 24 0 0 = true := by kernel_rfl
theorem fieldB_24_1_1 : fieldB Tryz.prog 24 1 1 = true := by kernel_rfl
theorem flatB_22 : flatB Tryz.prog 22 = true := by kernel_rfl
theorem flatB_4 : flatB Tryz.prog 4 = true := by kernel_rfl
end Go.GH
namespace Go.GH
open Go Go.Proofs
variable {E : Env}
theorem sText (ln : Ln) (hw : ∀ w ∈ ln.words, w.size ≤ 1048576) (hl : ln.words.length ≤ 1048576) : GCall Tryz.prog E 38 [.agg (encLn ln)] [] (fun d H => d = .v (.string (textL ln)) ∧ H = []) := by
 refine GCall.body (C := ⟨Tryz.prog, E, true⟩) Tryz.func38 rfl (fun _ => rfl) (by kernel_rfl) rfl ?_
 refine SCode.seqR (SOps.boxAM rfl rfl (SOps.assign rfl (SOps.nil (SCode.seqR ?_))))
 refine SOps.allocV (sz := 2) zeroBld (fun b0 hb_0 => ?_)
 refine SOps.nil (SCode.seq (SCode.seqR (SOps.fieldPin rfl fieldB_24_0_0 (SOps.loadPin rfl flatB_22 (SOps.lenM rfl sliceB_22_9_1 (SOps.move rfl (SOps.nil (SCode.block (SCode.loop3 (fun (i : Nat) (g : Nat) (u : Bool) => (⟨24, [(1, .ipin (encLn ln)), (3, .vref b0 86 2), (7, DStrs ln.words), (8, .v (.int .i64 (ln.words.length : Int))), (9, .v (.int .i64 (i : Int)))], bldH b0 g u (catW (ln.words.take i)).data.toList⟩ : St)) (fun (i : Nat) (g : Nat) (u : Bool) => i ≤ ln.words.length) (fun (i : Nat) (g : Nat) (u : Bool) => ln.words.length - i) (0) (0) (false) (by exact Nat.zero_le _) (St.Le.of ⟨(by first | rfl | (show some _ = some _; simp)), (by first | rfl | (show some _ = some _; simp)), (by first | rfl | (show some _ = some _; simp)), (by first | rfl | (show some _ = some _; simp)), (by first | rfl | (show some _ = some _; simp)), trivial⟩ rfl (by first | rfl | (simp))) ?_)))))))))
 rintro i g u hi
 have hcs := catW_size i hw hi
 have hcl : (catW (ln.words.take i)).data.toList.length = (catW (ln.words.take i)).size := by simp
 refine SCode.seqR (SOps.bin rfl rfl rfl (SOps.nil (SCode.seq ?_)))
 refine SCode.cond rfl (fun hc1 => ?_) (fun hc1 => ?_)
 ·try simp only [nmL] at hc1
  refine SCode.skip ?_
  show SCode _ _ _ _
  refine SCode.seq (SCode.block (SCode.seqR ?_))
  have hil : i < ln.words.length := by omega
  have hwi := hw _ (List.getElem_mem hil)
  have hct := catW_take hil
  refine SOps.move rfl (SOps.indexM (i) rfl rfl sliceB_22_9_1 (by first | omega | (simp only [lenB] <;> omega)) (by first | omega | (simp only [lenB] <;> omega)) (SOps.loadPin rfl flatB_9 (SOps.assign rfl (SOps.assign rfl (SOps.nil (SCode.seq (SCode.seqR (SOps.move rfl (SOps.bin rfl rfl rfl (SOps.nil ?_))))))))))
  refine SCode.cond rfl (fun hc2 => ?_) (fun hc2 => ?_)
  ·try simp only [nmL] at hc2
   have h0 : ¬ i = 0 := by omega
   have hctA : (catW (ln.words.take (i + 1))).data.toList = (catW (ln.words.take i)).data.toList ++ [32] ++ (ln.words[i]).data.toList := by rw [hct, if_neg h0, data_app2, data_app2]; rfl
   refine SCode.region (SOps.callR (bldH _ _ _ _) [] (bWriteByte _ _ _ _ 32 (by first | (simp; omega) | (simp [ByteArray.size_append]; omega))) rfl rfl ?_)
   rintro _ _ ⟨g7, rfl, rfl⟩
   refine SOps.nil ?_
   show SCode _ _ _ _
   refine SCode.region (SOps.move rfl (SOps.callR (bldH _ _ _ _) [] (bWriteString _ _ _ _ _ (by first | (simp; omega) | (simp [ByteArray.size_append]; omega))) rfl rfl ?_))
   rintro _ _ ⟨g7, rfl, rfl⟩
   refine SOps.nil ?_
   show SCode _ _ _ _
   refine SCode.region (SOps.addI rfl rfl (by first | omega | (simp only [lenB] <;> omega)) (by first | omega | (simp only [lenB] <;> omega)) (SOps.move rfl (SOps.nil ?_)))
   first
    | exact ⟨i + 1, g7, true, by omega, by omega, St.Le.of ⟨rfl, rfl, rfl, rfl, rfl, trivial⟩ rfl (congrArg (bldH b0 g7 true) hctA)⟩
    | exact ⟨i + 1, g7, true, by omega, by omega, St.Le.of ⟨rfl, rfl, rfl, rfl, rfl, trivial⟩ rfl (congrArg (bldH b0 g7 true) hctB)⟩
  ·try simp only [nmL] at hc2
   have h0 : i = 0 := by omega
   have hctB : (catW (ln.words.take (i + 1))).data.toList = (catW (ln.words.take i)).data.toList ++ (ln.words[i]).data.toList := by rw [hct, if_pos h0, show (catW (ln.words.take i)) = .empty from by rw [h0]; rfl]; rfl
   refine SCode.skip ?_
   show SCode _ _ _ _
   refine SCode.region (SOps.move rfl (SOps.callR (bldH _ _ _ _) [] (bWriteString _ _ _ _ _ (by first | (simp; omega) | (simp [ByteArray.size_append]; omega))) rfl rfl ?_))
   rintro _ _ ⟨g7, rfl, rfl⟩
   refine SOps.nil ?_
   show SCode _ _ _ _
   refine SCode.region (SOps.addI rfl rfl (by first | omega | (simp only [lenB] <;> omega)) (by first | omega | (simp only [lenB] <;> omega)) (SOps.move rfl (SOps.nil ?_)))
   first
    | exact ⟨i + 1, g7, true, by omega, by omega, St.Le.of ⟨rfl, rfl, rfl, rfl, rfl, trivial⟩ rfl (congrArg (bldH b0 g7 true) hctA)⟩
    | exact ⟨i + 1, g7, true, by omega, by omega, St.Le.of ⟨rfl, rfl, rfl, rfl, rfl, trivial⟩ rfl (congrArg (bldH b0 g7 true) hctB)⟩
 ·try simp only [nmL] at hc1
  refine SCode.exit ?_
  show SCode _ _ _ _
  refine SCode.seq (SCode.seqR (SOps.fieldPin rfl fieldB_24_1_1 (SOps.loadPin rfl flatB_4 (SOps.nil ?_))))
  refine SCode.cond rfl (fun hc3 => ?_) (fun hc3 => ?_)
  ·try simp only [nmL] at hc3
   have hk9 : ln.words.take i = ln.words := List.take_of_length_le (by omega)
   have hx : textL ln = catW ln.words ++ hy1 := by rw [textL, if_pos hc3]
   refine SCode.region (SOps.callR (bldH _ _ _ _) [] (bWriteByte _ _ _ _ 45 (by first | (simp; omega) | (simp [ByteArray.size_append]; omega))) rfl rfl ?_)
   rintro _ _ ⟨g7, rfl, rfl⟩
   refine SOps.nil ?_
   show SCode _ _ _ _
   refine SCode.seqR (SOps.callR (bldH _ _ _ _) [] (bString _ _ _ _ (by first | (simp; omega) | (simp [ByteArray.size_append]; omega))) rfl rfl ?_)
   rintro _ _ ⟨rfl, rfl⟩
   refine SOps.assign rfl (SOps.nil (SCode.ret ?_))
   exact ⟨_, Res.one (.tmp rfl), (by rw [hx]; exact congrArg (fun z => DV.v (.string z)) (by rw [hk9]; exact ba_list (catW ln.words ++ hy1))), rfl⟩
  ·try simp only [nmL] at hc3
   have hk9 : ln.words.take i = ln.words := List.take_of_length_le (by omega)
   have hx : textL ln = catW ln.words := by rw [textL, if_neg (by rw [hc3]; simp)]
   refine SCode.skip ?_
   show SCode _ _ _ _
   refine SCode.seqR (SOps.callR (bldH _ _ _ _) [] (bString _ _ _ _ (by first | (simp; omega) | (simp [ByteArray.size_append]; omega))) rfl rfl ?_)
   rintro _ _ ⟨rfl, rfl⟩
   refine SOps.assign rfl (SOps.nil (SCode.ret ?_))
   exact ⟨_, Res.one (.tmp rfl), (by rw [hx]; exact congrArg (fun z => DV.v (.string z)) (by rw [hk9] <;> exact ba_list (catW ln.words))), rfl⟩
end Go.GH
namespace Go.GH
open Go Go.Lib
def bigB (n m : Nat) (b : Bx) : Bool := decide (n < b.word.size) || decide (m < b.pts.length)
def cntB (l : List Bx) : Nat := 1 + (l.map (fun b => 1 + b.pts.length)).sum
def manyB (l : List Bx) : Bool := l.any (bigB 100 20) || decide (40 < l.length)
theorem cntB_take {l : List Bx} {i : Nat} (h : i < l.length) : cntB (l.take (i + 1)) = cntB (l.take i) + (1 + (l[i]).pts.length) := by
  unfold cntB
  rw [List.take_add_one, List.getElem?_eq_getElem h, List.map_append, List.sum_append]
  show 1 + (_ + ([1 + (l[i]).pts.length]).sum) = _
  rw [List.sum_cons, List.sum_nil]
  omega
theorem bigB_iff {n m : Nat} {b : Bx} : bigB n m b = true ↔ n < b.word.size ∨ m < b.pts.length := by simp [bigB]
end Go.GH
namespace Go.GH
open Go Go.Proofs
variable {E : Env}
end Go.GH
namespace Go.GH
open Go Go.Lib
/-- Lines of which no text is long. -/
def LnOK (l : Ln) : Prop := l.words.length ≤ 1000 ∧ ∀ w ∈ l.words, w.size ≤ 1000
theorem LnOK.size {l : Ln} (h : LnOK l) : wlen (textL l) ≤ 1001001 := by
  have h1 := catW_size l.words.length h.2 (Nat.le_refl _)
  rw [List.take_length] at h1
  have h2 : (1000 + 1) * l.words.length ≤ 1001 * 1000 := Nat.mul_le_mul_left _ h.1
  have h3 : (textL l).size ≤ 1001001 := by
    unfold textL
    split
    · rw [ByteArray.size_append]; have : hy1.size = 1 := rfl; omega
    · omega
  have := runes_len (textL l)
  unfold wlen; omega
theorem LnOK.words {l : Ln} (h : LnOK l) : (∀ w ∈ l.words, w.size ≤ 1048576) ∧ l.words.length ≤ 1048576 :=
  ⟨fun w hw => by have := h.2 w hw; omega, by have := h.1; omega⟩
end Go.GH
namespace Go.GH
open Go Go.Proofs
variable {E : Env}
theorem aggB_24_2 : aggB Tryz.prog 24 2 = true := by kernel_rfl
theorem zeroIs_24 : zeroIs Tryz.prog 24 (.agg #[.slice none 0 0, .bool false]) := by unfold zeroIs; kernel_rfl
end Go.GH
namespace Go.GH
open Go Go.Lib
end Go.GH
namespace Go.GH
open Go Go.Proofs
variable {E : Env}

end Go.GH
namespace Go.GH
open Go Go.Proofs
variable {E : Env}

end Go.GH
namespace Go.GH
open Go Go.Lib
def ptsF (l : List Bx) : List (Nat × Int) := (l.zipIdx.map (fun p => (p.2, 0) :: p.1.pts.map (fun q => (p.2, q)))).flatten
def pointsL (l : List Bx) : List (Nat × Int) := ptsF l ++ [(l.length, 0)]
theorem ptsF_take {l : List Bx} {k : Nat} (h : k < l.length) : ptsF (l.take (k + 1)) = ptsF (l.take k) ++ (k, 0) :: (l[k]).pts.map (fun q => (k, q)) := by
  unfold ptsF
  rw [List.take_add_one, List.getElem?_eq_getElem h, List.zipIdx_append, List.map_append, List.flatten_append]
  have : (l.take k).length = k := by simp; omega
  simp [this]
end Go.GH
namespace Go.GH
open Go Go.Proofs
variable {E : Env}
end Go.GH
namespace Go.GH
open Go Go.Lib
def stB (l : List Bx) (k : Nat) : Nat := ((l.take k).map (fun b => wlen b.word + 1)).sum
def up3 (l : List Bx) (k : Nat × Int) : Nat × Int × Int := (k.1, k.2, (stB l k.1 : Int) + k.2)
def pts3 (l : List Bx) : List (Nat × Int × Int) := (pointsL l).map (up3 l)
def ptN (l : List Bx) : Nat := (pts3 l).length
def pt3 (l : List Bx) (i : Nat) : Nat × Int × Int := (pts3 l).getD i (0, 0, 0)
theorem pt3_lt {l : List Bx} {i : Nat} (h : i < (pts3 l).length) : pt3 l i = (pts3 l)[i] := by
  unfold pt3; rw [List.getD_eq_getElem?_getD, List.getElem?_eq_getElem h]; rfl
def lenP (l : List Bx) (i j : Nat) : Int := (pt3 l j).2.2 - (pt3 l i).2.2 + (if 0 < (pt3 l j).2.1 then 1 else -1)
/-- No break point lies far. -/
def Near (l : List Bx) : Prop := ptN l ≤ 1000000 ∧ 0 < ptN l ∧ ∀ x ∈ pts3 l, -1000000000 ≤ x.2.2 ∧ x.2.2 ≤ 1000000000
theorem Near.at {l : List Bx} (h : Near l) {i : Nat} (hi : i < ptN l) : -1000000000 ≤ (pt3 l i).2.2 ∧ (pt3 l i).2.2 ≤ 1000000000 := by
  rw [pt3_lt hi]; exact h.2.2 _ (List.getElem_mem hi)
end Go.GH
namespace Go.GH
open Go Go.Proofs
variable {E : Env}
end Go.GH
namespace Go.GH
open Go Go.Proofs
variable {E : Env}
end Go.GH
namespace Go.GH
open Go Go.Proofs
variable {E : Env}

end Go.GH
namespace Go.GH
open Go Go.Lib
end Go.GH
namespace Go.GH
open Go Go.Proofs
variable {E : Env}
end Go.GH
namespace Go.GH
open Go Go.Lib
theorem stB_succ {l : List Bx} {k : Nat} (h : k < l.length) : stB l (k + 1) = stB l k + (wlen (l[k]).word + 1) := by
  unfold stB
  rw [List.take_add_one, List.getElem?_eq_getElem h, List.map_append, List.sum_append]
  show _ + ([wlen (l[k]).word + 1]).sum = _
  rw [List.sum_cons, List.sum_nil]; omega
def q3 (l : List Bx) (k : Nat) : List (Nat × Int × Int) := (ptsF (l.take k)).map (up3 l)
end Go.GH
namespace Go.GH
open Go Go.RowKit
section
variable {C : Ctx} {st : St} {ops : Array Oper} {R : St → Prop} {t : Tmp}
end
end Go.GH
namespace Go.GH
open Go Go.Proofs
variable {E : Env}
end Go.GH
namespace Go.GH
open Go Go.Lib
def wAt (l : List Bx) (j : Nat) : List Int := match l[j]? with
  | some b => runes b.word
  | none => []
theorem wAt_lt {l : List Bx} {j : Nat} (h : j < l.length) : wAt l j = runes (l[j]).word := by
  unfold wAt; rw [List.getElem?_eq_getElem h]
/-- Whole words, from a up to w. -/
def wsA (l : List Bx) (a w : Nat) : List ByteArray := ((l.take w).drop a).map (fun b => encs (runes b.word))
def wsB (l : List Bx) (a b : Nat × Int × Int) : List ByteArray := if 0 < b.2.1 then wsA l a.1 b.1 ++ [encs ((wAt l b.1).take b.2.1.toNat)] else wsA l a.1 b.1
/-- Between these points there is a line. -/
structure LineOK (l : List Bx) (a b : Nat × Int × Int) : Prop where
  le : a.1 ≤ b.1
  len : b.1 ≤ l.length
  hy : 0 < b.2.1 → b.1 < l.length ∧ b.2.1 ≤ ((wAt l b.1).length : Int)
  cut : 0 < a.2.1 → 0 < (wsB l a b).length ∧ a.2.1 ≤ ((runes ((wsB l a b).getD 0 .empty)).length : Int) ∧ (runes ((wsB l a b).getD 0 .empty)).length ≤ 1000000
end Go.GH
namespace Go.GH
open Go Go.Proofs
variable {E : Env}
theorem oneB_22 : oneB Tryz.prog 22 = true := by kernel_rfl
theorem oneB_4 : oneB Tryz.prog 4 = true := by kernel_rfl
theorem oneB_9 : oneB Tryz.prog 9 = true := by kernel_rfl
end Go.GH
namespace Go.GH
open Go Go.Lib
def ltP (x y : Nat × Int) : Prop := x.1 < y.1 ∨ (x.1 = y.1 ∧ x.2 < y.2)
def PtOK (l : List Bx) (x : Nat × Int) : Prop := x.1 < l.length ∧ 0 ≤ x.2 ∧ x.2 < ((wAt l x.1).length : Int)
theorem encs_size4 (rs : List Int) : (encs rs).size ≤ 4 * rs.length := by
  induction rs with
  | nil => exact Nat.le_refl 0
  | cons r rs ih =>
    have := encode_size r
    show (Utf8.encode r ++ encs rs).size ≤ _
    rw [ByteArray.size_append, List.length_cons]
    omega
theorem boxB_pts {b : Bx} (h : boxB b = true) : (∀ q ∈ b.pts, 1 ≤ q ∧ q < (wlen b.word : Int)) ∧ b.pts.Pairwise (· < ·) := by
  obtain ⟨h1, h2, h3⟩ := boxB_iff.1 h
  refine ⟨fun q hq => ?_, ?_⟩
  · obtain ⟨i, hi, rfl⟩ := List.mem_iff_getElem.1 hq
    have := (ptB_at hi).1 (h3 i hi)
    exact ⟨this.1, this.2.1⟩
  · rw [List.pairwise_iff_getElem]
    intro i j hi hj hij
    induction j with
    | zero => omega
    | succ j ih =>
      have hj1 : j < b.pts.length := by omega
      have h5 := ((ptB_at hj).1 (h3 (j + 1) hj)).2.2
      have h6 : b.pts[j] < b.pts[j + 1] := by
        rcases h5 with h5 | ⟨h6, h5⟩
        · omega
        · exact h5
      rcases Nat.lt_or_ge i j with h7 | h7
      · have := ih hj1 h7; omega
      · obtain rfl : i = j := by omega
        exact h6
theorem pairwise_len {n : Int} : ∀ {l : List Int} {a : Int}, (∀ q ∈ l, a < q ∧ q < n) → l.Pairwise (· < ·) → a < n → (l.length : Int) < n - a
  | [], a, _, _, h => by simp; omega
  | q :: l, a, h1, h2, _ => by
    have hq := h1 q (List.mem_cons_self ..)
    have := pairwise_len (l := l) (a := q) (fun x hx => ⟨(List.pairwise_cons.1 h2).1 x hx, (h1 x (List.mem_cons_of_mem _ hx)).2⟩) (List.pairwise_cons.1 h2).2 hq.2
    rw [List.length_cons]; omega
/-- What is bounded in valid boxes. -/
structure Bnds (l : List Bx) : Prop where
  len : l.length ≤ 200
  word : ∀ b ∈ l, b.word.size ≤ 800
  wlen : ∀ b ∈ l, wlen b.word ≤ 200
  pts : ∀ b ∈ l, b.pts.length ≤ 200
  pos : ∀ b ∈ l, ∀ q ∈ b.pts, 1 ≤ q ∧ q ≤ 200
  cor : ∀ b ∈ l, encs (runes b.word) = b.word
theorem bnds_of {l : List Bx} (h : boxesB l = true) : Bnds l := by
  obtain ⟨h1, h2⟩ := boxesB_iff.1 h
  have hw : ∀ b ∈ l, encs (runes b.word) = b.word := fun b hb => (utf8R_iff _).1 (wordB_iff.1 (boxB_iff.1 (h2 b hb)).1).2.1
  refine ⟨h1, fun b hb => ?_, fun b hb => (boxB_iff.1 (h2 b hb)).2.1, fun b hb => ?_, fun b hb q hq => ?_, hw⟩
  · have h3 := encs_size4 (runes b.word)
    rw [hw b hb] at h3
    have := (boxB_iff.1 (h2 b hb)).2.1
    unfold Go.GH.wlen at this; omega
  · have h3 := boxB_pts (h2 b hb)
    have h4 := (boxB_iff.1 (h2 b hb)).2.1
    rcases Nat.eq_zero_or_pos b.pts.length with h0 | h0
    · omega
    · have h5 := h3.1 _ (List.getElem_mem h0)
      have := pairwise_len (a := 0) (fun q hq => ⟨by have := (h3.1 q hq).1; omega, (h3.1 q hq).2⟩) h3.2 (by omega)
      omega
  · have h3 := (boxB_pts (h2 b hb)).1 q hq
    have h4 := (boxB_iff.1 (h2 b hb)).2.1
    omega
theorem ptsF_ok {l : List Bx} (h : boxesB l = true) : ∀ k, k ≤ l.length → (∀ x ∈ ptsF (l.take k), x.1 < k ∧ PtOK l x) ∧ (ptsF (l.take k)).Pairwise ltP
  | 0, _ => by rw [List.take_zero]; exact ⟨fun x hx => by simp [ptsF] at hx, List.Pairwise.nil⟩
  | k + 1, hk => by
    have hkl : k < l.length := by omega
    obtain ⟨ih1, ih2⟩ := ptsF_ok h k (by omega)
    have hb := (boxesB_iff.1 h).2 _ (List.getElem_mem hkl)
    obtain ⟨hp1, hp2⟩ := boxB_pts hb
    have hne : 0 < wlen (l[k]).word := by
      rcases Nat.eq_zero_or_pos (wlen (l[k]).word) with h0 | h0
      · have h3 := (bnds_of h).cor _ (List.getElem_mem hkl)
        have h4 : runes (l[k]).word = [] := List.length_eq_zero_iff.1 h0
        rw [h4] at h3
        exact absurd h3.symm (wordB_iff.1 (boxB_iff.1 hb).1).1
      · exact h0
    rw [ptsF_take hkl]
    have hwk : wAt l k = runes (l[k]).word := wAt_lt hkl
    have hnew : ∀ x ∈ (k, (0 : Int)) :: (l[k]).pts.map (fun q => (k, q)), x.1 = k ∧ PtOK l x := fun x hx => by
      rcases List.mem_cons.1 hx with rfl | hx
      · exact ⟨rfl, hkl, Int.le_refl _, by rw [hwk]; unfold wlen at hne; show (0 : Int) < _; omega⟩
      · obtain ⟨q, hq, rfl⟩ := List.mem_map.1 hx
        have := hp1 q hq
        exact ⟨rfl, hkl, by show (0 : Int) ≤ q; omega, by rw [hwk]; exact this.2⟩
    refine ⟨fun x hx => ?_, ?_⟩
    · rcases List.mem_append.1 hx with hx | hx
      · exact ⟨by have := (ih1 x hx).1; omega, (ih1 x hx).2⟩
      · exact ⟨by have := (hnew x hx).1; omega, (hnew x hx).2⟩
    · refine List.pairwise_append.2 ⟨ih2, ?_, fun x hx y hy => .inl (by rw [(hnew y hy).1]; exact (ih1 x hx).1)⟩
      refine List.pairwise_cons.2 ⟨fun y hy => ?_, ?_⟩
      · obtain ⟨q, hq, rfl⟩ := List.mem_map.1 hy
        exact .inr ⟨rfl, by have := (hp1 q hq).1; show (0 : Int) < q; omega⟩
      · rw [List.pairwise_map]
        exact hp2.imp (fun h => .inr ⟨rfl, h⟩)
theorem pointsL_ok {l : List Bx} (h : boxesB l = true) : (∀ x ∈ pointsL l, PtOK l x ∨ x = (l.length, 0)) ∧ (pointsL l).Pairwise ltP := by
  have h1 := ptsF_ok h l.length (Nat.le_refl _)
  rw [List.take_length] at h1
  unfold pointsL
  refine ⟨fun x hx => ?_, List.pairwise_append.2 ⟨h1.2, List.pairwise_singleton .., fun x hx y hy => ?_⟩⟩
  · rcases List.mem_append.1 hx with hx | hx
    · exact .inl (h1.1 x hx).2
    · exact .inr (List.mem_singleton.1 hx)
  · rw [List.mem_singleton.1 hy]
    exact .inl (h1.1 x hx).1
theorem ptN_eq (l : List Bx) : ptN l = (pointsL l).length := by unfold ptN pts3; simp
def ptQ (l : List Bx) (i : Nat) : Nat × Int := (pointsL l).getD i (0, 0)
theorem ptQ_lt {l : List Bx} {i : Nat} (h : i < ptN l) : ptQ l i = (pointsL l)[i]'(by rw [← ptN_eq]; exact h) := by
  unfold ptQ; rw [List.getD_eq_getElem?_getD, List.getElem?_eq_getElem (by rw [← ptN_eq]; exact h)]; rfl
theorem pt3_eq {l : List Bx} {i : Nat} (h : i < ptN l) : pt3 l i = up3 l (ptQ l i) := by
  unfold pt3 pts3 ptQ
  have h2 : i < (pointsL l).length := by rw [← ptN_eq]; exact h
  rw [List.getD_eq_getElem?_getD, List.getD_eq_getElem?_getD, List.getElem?_map, List.getElem?_eq_getElem h2]
  rfl
theorem ptQ_ok {l : List Bx} {i : Nat} (h : boxesB l = true) (hi : i < ptN l) : PtOK l (ptQ l i) ∨ ptQ l i = (l.length, 0) := by
  rw [ptQ_lt hi]; exact (pointsL_ok h).1 _ (List.getElem_mem _)
theorem ptQ_ltP {l : List Bx} {i k : Nat} (h : boxesB l = true) (hik : i < k) (hk : k < ptN l) : ltP (ptQ l i) (ptQ l k) := by
  rw [ptQ_lt (show i < ptN l by omega), ptQ_lt hk]
  exact List.pairwise_iff_getElem.1 (pointsL_ok h).2 i k _ _ hik
theorem ptN_pos (l : List Bx) : 0 < ptN l := by rw [ptN_eq, pointsL]; simp
theorem ptQ_last (l : List Bx) : ptQ l (ptN l - 1) = (l.length, 0) := by
  rw [ptQ_lt (by have := ptN_pos l; omega)]
  simp only [ptN_eq, pointsL]
  simp
theorem ptQ_small {l : List Bx} {i : Nat} (h : boxesB l = true) (hi : i < ptN l - 1) : PtOK l (ptQ l i) := by
  rcases ptQ_ok h (show i < ptN l by omega) with h1 | h1
  · exact h1
  · have h2 := ptQ_ltP h hi (by have := ptN_pos l; omega)
    rw [h1, ptQ_last] at h2
    unfold ltP at h2
    simp at h2
theorem stB_mono {l : List Bx} {i : Nat} : ∀ {k : Nat}, i ≤ k → k ≤ l.length → stB l i ≤ stB l k
  | 0, h, _ => by obtain rfl : i = 0 := by omega
                  exact Nat.le_refl _
  | k + 1, h, hk => by
    rcases Nat.lt_or_ge k i with h1 | h1
    · obtain rfl : i = k + 1 := by omega
      exact Nat.le_refl _
    · have := stB_mono (l := l) h1 (by omega)
      rw [stB_succ (by omega)]
      omega
end Go.GH
namespace Go.GH
open Go Go.Lib
/-- From a by nx through the list to z. -/
def Pth (nx : List Int) : Nat → List Nat → Nat → Prop
  | a, [], z => a = z
  | a, k :: ks, z => a < k ∧ nx.getD a 0 = (k : Int) ∧ Pth nx k ks z
theorem Pth.le {nx : List Int} : ∀ {a z : Nat} {ks : List Nat}, Pth nx a ks z → a ≤ z
  | _, _, [], h => Nat.le_of_eq h
  | _, _, k :: ks, ⟨h1, _, h2⟩ => by have := h2.le; omega
theorem Pth.cons {nx : List Int} {a z : Nat} {ks : List Nat} (h : Pth nx a ks z) (hz : a < z) : ∃ k ks2, ks = k :: ks2 ∧ a < k ∧ k ≤ z ∧ nx.getD a 0 = (k : Int) ∧ Pth nx k ks2 z := by
  cases ks with
  | nil => exact absurd h (by simp only [Pth]; omega)
  | cons k ks => exact ⟨k, ks, rfl, h.1, h.2.2.le, h.2.1, h.2.2⟩
theorem Pth.nil {nx : List Int} {a z : Nat} {ks : List Nat} (h : Pth nx a ks z) (hz : z ≤ a) : ks = [] := by
  cases ks with
  | nil => rfl
  | cons k ks => have := h.2.2.le; have := h.1; omega
theorem Pth.set {nx : List Int} {i : Nat} {v : Int} : ∀ {a z : Nat} {ks : List Nat}, Pth nx a ks z → z ≤ i → Pth (nx.set i v) a ks z
  | _, _, [], h, _ => h
  | a, z, k :: ks, ⟨h1, h2, h3⟩, hz => by
    have := h3.le
    refine ⟨h1, ?_, h3.set hz⟩
    rw [← h2, List.getD_eq_getElem?_getD, List.getD_eq_getElem?_getD, List.getElem?_set_ne (by omega)]
/-! counting -/
/-! the cheapest -/
end Go.GH
namespace Go.GH
open Go Go.Proofs
variable {E : Env}
end Go.GH
namespace Go.GH
open Go Go.Proofs
variable {E : Env}

end Go.GH
namespace Go.GH
open Go Go.Lib
end Go.GH
namespace Go.GH
open Go Go.Proofs
variable {E : Env}

end Go.GH
namespace Go.GH
open Go Go.Proofs
variable {E : Env}
end Go.GH
namespace Go.GH
open Go Go.Lib
end Go.GH
namespace Go.GH
open Go Go.Proofs
variable {E : Env}
end Go.GH
namespace Go.GH
open Go Go.Lib
theorem many_ok {l : List Bx} (h : manyB l = false) : l.length ≤ 40 ∧ ∀ x ∈ l, x.word.size ≤ 100 ∧ x.pts.length ≤ 20 := by
  unfold manyB at h
  rw [Bool.or_eq_false_iff, decide_eq_false_iff_not, List.any_eq_false] at h
  exact ⟨by omega, fun x hx => by
    have h1 := h.1 x hx
    rw [Bool.not_eq_true] at h1
    have h2 : ¬ bigB 100 20 x = true := by rw [h1]; simp
    rw [bigB_iff] at h2; omega⟩
end Go.GH
namespace Go.GH
open Go Go.Lib
theorem accD_ne {sz b : Nat} {es : List (List DV)} (h : 0 < es.length) : accD sz b es = .sl b sz 0 es.length := by
  cases es with
  | nil => simp at h
  | cons x l => rfl
theorem accH_ne {e sz b : Nat} {es : List (List DV)} (h : 0 < es.length) : accH e sz b es = [(b, .row e sz es)] := by
  cases es with
  | nil => simp at h
  | cons x l => rfl
end Go.GH
namespace Go.GH
open Go Go.Proofs
variable {E : Env}

end Go.GH
namespace Go.GH
open Go Go.Proofs
variable {E : Env}
theorem jLimited (w : Int)  : GCall Tryz.prog E 36 [.v (.int .i64 w)] [] (fun d H => d = .v (.bool (wideB w)) ∧ H = []) := by
 refine GCall.body (C := ⟨Tryz.prog, E, true⟩) Tryz.func36 rfl (fun _ => rfl) (by kernel_rfl) rfl ?_
 refine SCode.seqR (SOps.assign rfl (SOps.nil (SCode.seqR (SOps.move rfl (SOps.bin rfl rfl rfl (SOps.move rfl ?_))))))
 refine SOps.caseB 5 rfl (fun hb1 => ?_) (fun hb1 => ?_)
 ·try simp only [nmL] at hb1
  refine SOps.move rfl (SOps.bin rfl rfl rfl (SOps.pick rfl rfl (SOps.assign rfl (SOps.nil (SCode.ret ?_)))))
  exact ⟨_, Res.one (.tmp rfl), congrArg (fun b => DV.v (.bool b)) (by rw [Bool.eq_iff_iff]; simp only [wideB, Bool.and_eq_true, decide_eq_true_eq, Bool.false_eq_true, Bool.true_eq_false, beq_iff_eq]; first | omega | (simp; omega)), rfl⟩
 ·try simp only [nmL] at hb1
  refine SOps.skip rfl (SOps.skip rfl (SOps.pick rfl rfl (SOps.assign rfl (SOps.nil (SCode.ret ?_)))))
  exact ⟨_, Res.one (.tmp rfl), congrArg (fun b => DV.v (.bool b)) (by rw [Bool.eq_iff_iff]; simp only [wideB, Bool.and_eq_true, decide_eq_true_eq, Bool.false_eq_true, Bool.true_eq_false, beq_iff_eq]; first | omega | (simp; omega)), rfl⟩
theorem jBlanks (n : Nat) (hn : n ≤ 1048576) : GCall Tryz.prog E 40 [.v (.int .i64 (n : Int))] [] (fun d H => d = .v (.string (blB n)) ∧ H = []) := by
 refine GCall.body (C := ⟨Tryz.prog, E, true⟩) Tryz.func40 rfl (fun _ => rfl) (by kernel_rfl) rfl ?_
 refine SCode.seqR (SOps.assign rfl (SOps.nil (SCode.seqR (SOps.move rfl (SOps.callP (sRepeat n hn) rfl ?_)))))
 rintro _ rfl
 refine SOps.assign rfl (SOps.nil (SCode.ret ?_))
 exact ⟨_, Res.one (.tmp rfl), rfl, rfl⟩
theorem jPrintable (hV : VS E) (ln : Ln) (hw : ∀ w ∈ ln.words, w.size ≤ 1048576) (hl : ln.words.length ≤ 1048576) : GCall Tryz.prog E 37 [.agg (encLn ln)] [] (fun d H => d = .v (.bool (prB ln)) ∧ H = []) := by
 refine GCall.body (C := ⟨Tryz.prog, E, true⟩) Tryz.func37 rfl (fun _ => rfl) (by kernel_rfl) rfl ?_
 refine SCode.seqR (SOps.boxAM rfl rfl (SOps.assign rfl (SOps.nil (SCode.seq (SCode.seqR (SOps.fieldPin rfl fieldB_24_0_0 (SOps.loadPin rfl flatB_22 (SOps.lenM rfl sliceB_22_9_1 (SOps.move rfl (SOps.nil (SCode.block (SCode.loop1 (fun (i : Nat) => (⟨28, [(1, .ipin (encLn ln)), (6, DStrs ln.words), (7, .v (.int .i64 (ln.words.length : Int))), (8, .v (.int .i64 (i : Int)))], []⟩ : St)) (fun (i : Nat) => i ≤ ln.words.length ∧ ∀ w ∈ ln.words.take i, wordB w = true) (fun (i : Nat) => ln.words.length - i) (0) (by simp) (St.Le.of ⟨rfl, rfl, rfl, rfl, trivial⟩ rfl rfl) ?_))))))))))))
 rintro i ⟨hi, hf⟩
 refine SCode.seqR (SOps.bin rfl rfl rfl (SOps.nil (SCode.seq ?_)))
 refine SCode.cond rfl (fun hc1 => ?_) (fun hc1 => ?_)
 ·try simp only [nmL] at hc1
  refine SCode.skip ?_
  show SCode _ _ _ _
  refine SCode.seq (SCode.block (SCode.seqR ?_))
  have hil : i < ln.words.length := by omega
  have hwi := hw _ (List.getElem_mem hil)
  refine SOps.indexM (i) rfl rfl sliceB_22_9_1 (by omega) (by omega) (SOps.loadPin rfl flatB_9 (SOps.assign rfl (SOps.nil (SCode.seqR (SOps.move rfl (SOps.bin rfl rfl rfl (SOps.move rfl ?_)))))))
  refine SOps.caseB 14 rfl (fun hb2 => ?_) (fun hb2 => ?_)
  ·try simp only [nmL] at hb2
   refine SOps.skip rfl (SOps.skip rfl (SOps.skip rfl (SOps.pick rfl rfl (SOps.move rfl (SOps.skip rfl (SOps.skip rfl (SOps.pick rfl rfl (SOps.nil ?_))))))))
   refine SCode.cond rfl (fun _ => ?_) (fun h => by cases h)
   refine SCode.seqR (SOps.assign rfl (SOps.nil (SCode.ret ?_)))
   exact ⟨_, Res.one (.tmp rfl), congrArg (fun b => DV.v (.bool b)) (Eq.symm (Bool.eq_false_iff.2 (fun h => by have h9 := (prB_iff.1 h).2 _ (List.getElem_mem hil); unfold wordB at h9; simp_all))), rfl⟩
  ·try simp only [nmL] at hb2
   refine SOps.move rfl (SOps.callP (hV _) rfl ?_)
   rintro _ rfl
   refine SOps.un rfl rfl (SOps.pick rfl rfl (SOps.move rfl ?_))
   refine SOps.caseB 19 rfl (fun hb3 => ?_) (fun hb3 => ?_)
   ·try simp only [nmL] at hb3
    refine SOps.skip rfl (SOps.skip rfl (SOps.pick rfl rfl (SOps.nil ?_)))
    refine SCode.cond rfl (fun _ => ?_) (fun h => by cases h)
    refine SCode.seqR (SOps.assign rfl (SOps.nil (SCode.ret ?_)))
    exact ⟨_, Res.one (.tmp rfl), congrArg (fun b => DV.v (.bool b)) (Eq.symm (Bool.eq_false_iff.2 (fun h => by have h9 := (prB_iff.1 h).2 _ (List.getElem_mem hil); unfold wordB at h9; simp_all))), rfl⟩
   ·try simp only [nmL] at hb3
    refine SOps.move rfl (SOps.callP (sContainsAny _ (by assumption) hwi) rfl ?_)
    rintro _ rfl
    refine SOps.pick rfl rfl (SOps.nil ?_)
    refine SCode.cond rfl (fun hc4 => ?_) (fun hc4 => ?_)
    ·try simp only [nmL] at hc4
     refine SCode.seqR (SOps.assign rfl (SOps.nil (SCode.ret ?_)))
     exact ⟨_, Res.one (.tmp rfl), congrArg (fun b => DV.v (.bool b)) (Eq.symm (Bool.eq_false_iff.2 (fun h => by have h9 := (prB_iff.1 h).2 _ (List.getElem_mem hil); unfold wordB at h9; simp_all))), rfl⟩
    ·try simp only [nmL] at hc4
     refine SCode.skip ?_
     show SCode _ _ _ _
     refine SCode.region (SOps.addI rfl rfl (by omega) (by omega) (SOps.move rfl (SOps.nil ?_)))
     exact ⟨i + 1, by exact ⟨by omega, take_more hf hil (by unfold wordB; simp_all)⟩, by omega, (St.Le.of ⟨rfl, rfl, rfl, rfl, trivial⟩ rfl rfl)⟩
 ·try simp only [nmL] at hc1
  refine SCode.exit ?_
  show SCode _ _ _ _
  refine SCode.seqR (SOps.fieldPin rfl fieldB_24_0_0 (SOps.loadPin rfl flatB_22 (SOps.lenM rfl sliceB_22_9_1 (SOps.bin rfl rfl rfl (SOps.assign rfl (SOps.nil (SCode.ret ?_)))))))
  exact ⟨_, Res.one (.tmp rfl), congrArg (fun b => DV.v (.bool b)) (by rw [prB, List.all_eq_true.2 (all_of (by omega) hf), Bool.and_true, Bool.eq_iff_iff]; simp), rfl⟩
theorem jSpread (hV : VS E) (ln : Ln) (w : Int) (last : Bool) (hw : ∀ w ∈ ln.words, w.size ≤ 1048576) (hl : ln.words.length ≤ 1048576) : GCall Tryz.prog E 13 [.agg (encLn ln), .v (.int .i64 w), .v (.bool last)] [] (fun d H => d = tupA (spreadR ln w last) ∧ H = []) := by
 refine GCall.body (C := ⟨Tryz.prog, E, true⟩) Tryz.func13 rfl (fun _ => rfl) (by kernel_rfl) rfl ?_
 refine SCode.seqR (SOps.boxAM rfl rfl (SOps.assign rfl (SOps.assign rfl (SOps.nil (SCode.seq (SCode.seqR (SOps.move rfl (SOps.callP (jLimited _) rfl ?_))))))))
 rintro _ rfl
 refine SOps.un rfl rfl (SOps.move rfl ?_)
 refine SOps.caseB 20 rfl (fun hb1 => ?_) (fun hb1 => ?_)
 ·try simp only [nmL] at hb1
  refine SOps.skip rfl (SOps.skip rfl (SOps.skip rfl (SOps.pick rfl rfl (SOps.nil ?_))))
  refine SCode.cond rfl (fun _ => ?_) (fun h => by cases h)
  refine SCode.seqR (SOps.assign rfl (SOps.assign rfl (SOps.nil (SCode.ret ?_))))
  exact ⟨_, Res.two (.tmp rfl) (.tmp rfl), (by rw [spread_bad (by simp_all)]; rfl), rfl⟩
 ·try simp only [nmL] at hb1
  refine SOps.loadPinA rfl aggB_24_2 (Nat.le_of_ble_eq_true rfl) (SOps.callP (jPrintable hV _ (by assumption) (by assumption)) rfl ?_)
  rintro _ rfl
  refine SOps.un rfl rfl (SOps.pick rfl rfl (SOps.nil ?_))
  refine SCode.cond rfl (fun hc2 => ?_) (fun hc2 => ?_)
  ·try simp only [nmL] at hc2
   refine SCode.seqR (SOps.assign rfl (SOps.assign rfl (SOps.nil (SCode.ret ?_))))
   exact ⟨_, Res.two (.tmp rfl) (.tmp rfl), (by rw [spread_bad (by simp_all)]; rfl), rfl⟩
  ·try simp only [nmL] at hc2
   refine SCode.skip ?_
   show SCode _ _ _ _
   refine SCode.seqR (SOps.loadPinA rfl aggB_24_2 (Nat.le_of_ble_eq_true rfl) (SOps.callP (sText _ (by assumption) (by assumption)) rfl ?_))
   rintro _ rfl
   refine SOps.assign rfl (SOps.nil (SCode.seqR ?_))
   have hgood : (wideB w && prB ln) = true := by simp_all
   have hw12 := wideX_iff.1 (Bool.and_eq_true_iff.1 hgood).1
   have hpr := prB_iff.1 (Bool.and_eq_true_iff.1 hgood).2
   have hcl := catW_sz hw
   have htl : (textL ln).size ≤ 1048577 * ln.words.length + 1 := by unfold textL; split; rw [ByteArray.size_append]; have : hy1.size = 1 := rfl; omega; omega
   have hwl : wlen (textL ln) ≤ (textL ln).size := runes_len _
   refine SOps.move rfl (SOps.move rfl (SOps.callP (uRuneCountW _) rfl ?_))
   rintro _ rfl
   refine SOps.subI rfl rfl (by omega) (by omega) (SOps.assign rfl (SOps.nil (SCode.seq (SCode.seqR (SOps.move rfl (SOps.bin rfl rfl rfl (SOps.nil ?_)))))))
   refine SCode.cond rfl (fun hc3 => ?_) (fun hc3 => ?_)
   ·try simp only [nmL] at hc3
    refine SCode.seqR (SOps.assign rfl (SOps.assign rfl (SOps.nil (SCode.ret ?_))))
    exact ⟨_, Res.two (.tmp rfl) (.tmp rfl), (by rw [spread_tight hgood (by omega)]; rfl), rfl⟩
   ·try simp only [nmL] at hc3
    refine SCode.skip ?_
    show SCode _ _ _ _
    refine SCode.seqR ?_
    obtain ⟨m, hm⟩ : ∃ m : Nat, w - (wlen (textL ln) : Int) = (m : Int) := ⟨(w - (wlen (textL ln) : Int)).toNat, by omega⟩
    refine SOps.reSlot (t := 9) rfl (show _ = DV.v (.int .i64 (m : Int)) from congrArg (fun z => DV.v (.int .i64 z)) hm) (SOps.fieldPin rfl fieldB_24_0_0 (SOps.loadPin rfl flatB_22 (SOps.lenM rfl sliceB_22_9_1 (SOps.subI rfl rfl (by omega) (by omega) (SOps.assign rfl (SOps.nil (SCode.seq (SCode.seqR ?_))))))))
    obtain ⟨g, hg⟩ : ∃ g : Nat, (ln.words.length : Int) - 1 = (g : Int) := ⟨ln.words.length - 1, by omega⟩
    refine SOps.reSlot (t := 10) rfl (show _ = DV.v (.int .i64 (g : Int)) from congrArg (fun z => DV.v (.int .i64 z)) hg) (SOps.move rfl (SOps.move rfl ?_))
    refine SOps.caseB 38 rfl (fun hb4 => ?_) (fun hb4 => ?_)
    ·try simp only [nmL] at hb4
     refine SOps.skip rfl (SOps.skip rfl (SOps.pick rfl rfl (SOps.nil ?_)))
     refine SCode.cond rfl (fun _ => ?_) (fun h => by cases h)
     refine SCode.seqR (SOps.move rfl (SOps.move rfl (SOps.callP (jBlanks m (by omega)) rfl ?_)))
     rintro _ rfl
     refine SOps.concat rfl rfl (by simp only [lenB, ByteArray.size_append, blB_size]; omega) (SOps.assign rfl (SOps.assign rfl (SOps.nil (SCode.ret ?_))))
     exact ⟨_, Res.two (.tmp rfl) (.tmp rfl), (by rw [spread_last hgood hm (by simp_all)]; rfl), rfl⟩
    ·try simp only [nmL] at hb4
     refine SOps.move rfl (SOps.bin rfl rfl rfl (SOps.pick rfl rfl (SOps.nil ?_)))
     refine SCode.cond rfl (fun hc5 => ?_) (fun hc5 => ?_)
     ·try simp only [nmL] at hc5
      refine SCode.seqR (SOps.move rfl (SOps.move rfl (SOps.callP (jBlanks m (by omega)) rfl ?_)))
      rintro _ rfl
      refine SOps.concat rfl rfl (by simp only [lenB, ByteArray.size_append, blB_size]; omega) (SOps.assign rfl (SOps.assign rfl (SOps.nil (SCode.ret ?_))))
      exact ⟨_, Res.two (.tmp rfl) (.tmp rfl), (by rw [spread_last hgood hm (.inr (by omega))]; rfl), rfl⟩
     ·try simp only [nmL] at hc5
      refine SCode.skip ?_
      show SCode _ _ _ _
      refine SCode.seq ?_
      apply SCode.drawAuto mixed_ [46, 47, 48, 49, 50, 51, 11, 12] [[.inr 9], [.inr 10], [.inl 0, .inl 1], [.inr 9], [.inr 10], [.inl 3, .inl 4], [.inl 2], [.inl 5]]
      ·kernel_rfl
      ·kernel_rfl
      ·apply DOk.cons 46 
       ·rfl
       ·exact (NeedIs.inr _ rfl NeedIs.nil)
       ·intro rest
        refine SOps.move rfl ?_
        exact SOps.nil rfl
       apply DOk.cons 47 
       ·rfl
       ·exact (NeedIs.inr _ rfl NeedIs.nil)
       ·intro rest
        refine SOps.move rfl ?_
        exact SOps.nil rfl
       apply DOk.cons 48 
       ·rfl
       ·exact (NeedIs.inl 1 _ _ rfl rfl (NeedIs.inl 0 _ _ rfl rfl NeedIs.nil))
       ·intro rest
        refine SOps.quoN (m) (g) rfl rfl rfl rfl (by omega) (has_div (by omega)) ?_
        exact SOps.nil rfl
       apply DOk.cons 49 
       ·rfl
       ·exact (NeedIs.inr _ rfl NeedIs.nil)
       ·intro rest
        refine SOps.move rfl ?_
        exact SOps.nil rfl
       apply DOk.cons 50 
       ·rfl
       ·exact (NeedIs.inr _ rfl NeedIs.nil)
       ·intro rest
        refine SOps.move rfl ?_
        exact SOps.nil rfl
       apply DOk.cons 51 
       ·rfl
       ·exact (NeedIs.inl 1 _ _ rfl rfl (NeedIs.inl 0 _ _ rfl rfl NeedIs.nil))
       ·intro rest
        refine SOps.remN (m) (g) rfl rfl rfl rfl (by omega) (has_mod (by omega)) ?_
        exact SOps.nil rfl
       apply DOk.cons 11 
       ·rfl
       ·exact (NeedIs.inl 3 _ _ rfl rfl NeedIs.nil)
       ·intro rest
        refine SOps.assign rfl ?_
        exact SOps.nil rfl
       apply DOk.cons 12 
       ·rfl
       ·exact (NeedIs.inl 1 _ _ rfl rfl NeedIs.nil)
       ·intro rest
        refine SOps.assign rfl ?_
        exact SOps.nil rfl
       exact DOk.nil
      ·rfl
      ·show SCode _ _ _ _
       refine SCode.seqR ?_
       refine SOps.allocV (sz := 2) zeroBld (fun b0 hb_0 => ?_)
       refine SOps.nil (SCode.seq (SCode.seqR (SOps.fieldPin rfl fieldB_24_0_0 (SOps.loadPin rfl flatB_22 (SOps.lenM rfl sliceB_22_9_1 (SOps.move rfl (SOps.nil (SCode.block (SCode.loop3 (fun (i : Nat) (gg : Nat) (u : Bool) => (⟨80, [(3, .ipin (encLn ln)), (10, .v (.int .i64 (g : Int))), (11, .v (.int .i64 ((m / g : Nat) : Int))), (12, .v (.int .i64 ((m % g : Nat) : Int))), (13, .vref b0 86 2), (53, DStrs ln.words), (54, .v (.int .i64 (ln.words.length : Int))), (55, .v (.int .i64 (i : Int)))], bldH b0 gg u (sprK ln.words g m i).data.toList⟩ : St)) (fun (i : Nat) (gg : Nat) (u : Bool) => i ≤ ln.words.length) (fun (i : Nat) (gg : Nat) (u : Bool) => ln.words.length - i) (0) (0) (false) (by exact Nat.zero_le _) (St.Le.of ⟨rfl, rfl, rfl, rfl, rfl, rfl, rfl, rfl, trivial⟩ rfl rfl) ?_)))))))))
       rintro i gg u hi
       have hss := sprK_size (g := g) (show m ≤ 200 by omega) hw i
       have hsl : (sprK ln.words g m i).data.toList.length ≤ (1048576 + 202) * i := by rw [show (sprK ln.words g m i).data.toList.length = (sprK ln.words g m i).size from by simp]; exact hss
       have hdl := Nat.div_le_self m g
       have hdn : (0 : Int) ≤ ((m / g : Nat) : Int) := Int.natCast_nonneg _
       refine SCode.seqR (SOps.bin rfl rfl rfl (SOps.nil (SCode.seq ?_)))
       refine SCode.cond rfl (fun hc6 => ?_) (fun hc6 => ?_)
       ·try simp only [nmL] at hc6
        refine SCode.skip ?_
        show SCode _ _ _ _
        refine SCode.seq (SCode.block (SCode.seqR ?_))
        have hil : i < ln.words.length := by omega
        have hwi := hw _ (List.getElem_mem hil)
        have hsp : (sprK ln.words g m (i + 1)) = if i < g then (sprK ln.words g m i) ++ ln.words[i] ++ blB (gapN m g i) else (sprK ln.words g m i) ++ ln.words[i] := by rw [sprK, getD_w hil]
        have hwd : (ln.words[i]).data.toList.length = (ln.words[i]).size := by simp
        have hgb := blB_size (gapN m g i)
        have hgl := gapN_le (m := m) (g := g) (i := i) (by omega)
        refine SOps.move rfl (SOps.indexM (i) rfl rfl sliceB_22_9_1 (by omega) (by omega) (SOps.loadPin rfl flatB_9 (SOps.assign rfl (SOps.assign rfl (SOps.nil (SCode.seqR (SOps.move rfl (SOps.callR (bldH _ _ _ _) [] (bWriteString _ _ _ _ _ (by first | omega | (rw [List.length_append]; omega) | (rw [List.length_append, List.length_append]; omega) | (simp only [List.length_append, List.length_cons, List.length_nil]; omega))) rfl rfl ?_))))))))
        rintro _ _ ⟨g7, rfl, rfl⟩
        refine SOps.nil (SCode.seqR (SOps.move rfl (SOps.move rfl (SOps.bin rfl rfl rfl (SOps.nil ?_)))))
        refine SCode.cond rfl (fun hc7 => ?_) (fun hc7 => ?_)
        ·try simp only [nmL] at hc7
         have hctA : (sprK ln.words g m (i + 1)).data.toList = (sprK ln.words g m i).data.toList ++ (ln.words[i]).data.toList ++ (blB (gapN m g i)).data.toList := by rw [hsp, if_pos (by omega), data_app2, data_app2]
         refine SCode.seqR (SOps.move rfl (SOps.addI rfl rfl (by omega) (by omega) (SOps.assign rfl (SOps.nil (SCode.seq (SCode.seqR (SOps.move rfl (SOps.move rfl (SOps.bin rfl rfl rfl (SOps.nil ?_))))))))))
         refine SCode.cond rfl (fun hc8 => ?_) (fun hc8 => ?_)
         ·try simp only [nmL] at hc8
          refine SCode.region (SOps.move rfl (SOps.addI rfl rfl (by omega) (by omega) (SOps.assign rfl (SOps.nil ?_))))
          show SCode _ _ _ _
          refine SCode.region (SOps.reSlot (t := 16) rfl (show _ = DV.v (.int .i64 ((gapN m g i : Nat) : Int)) from congrArg (fun z => DV.v (.int .i64 z)) (by unfold gapN; first | (rw [if_pos (by omega)]; omega) | (rw [if_neg (by omega)]; omega))) (SOps.move rfl (SOps.callP (jBlanks (gapN m g i) (by omega)) rfl ?_)))
          rintro _ rfl
          refine SOps.callR (bldH _ _ _ _) [] (bWriteString _ _ _ _ _ (by first | omega | (rw [List.length_append]; omega) | (rw [List.length_append, List.length_append]; omega) | (simp only [List.length_append, List.length_cons, List.length_nil]; omega))) rfl rfl ?_
          rintro _ _ ⟨g7, rfl, rfl⟩
          refine SOps.nil ?_
          show SCode _ _ _ _
          refine SCode.region (SOps.addI rfl rfl (by omega) (by omega) (SOps.move rfl (SOps.nil ?_)))
          first
           | exact ⟨i + 1, g7, true, by omega, by omega, St.Le.of ⟨rfl, rfl, rfl, rfl, rfl, rfl, rfl, rfl, trivial⟩ rfl (congrArg (bldH b0 g7 true) hctA)⟩
           | exact ⟨i + 1, g7, true, by omega, by omega, St.Le.of ⟨rfl, rfl, rfl, rfl, rfl, rfl, rfl, rfl, trivial⟩ rfl (congrArg (bldH b0 g7 true) hctB)⟩
         ·try simp only [nmL] at hc8
          refine SCode.skip ?_
          show SCode _ _ _ _
          refine SCode.region (SOps.reSlot (t := 16) rfl (show _ = DV.v (.int .i64 ((gapN m g i : Nat) : Int)) from congrArg (fun z => DV.v (.int .i64 z)) (by unfold gapN; first | (rw [if_pos (by omega)]; omega) | (rw [if_neg (by omega)]; omega))) (SOps.move rfl (SOps.callP (jBlanks (gapN m g i) (by omega)) rfl ?_)))
          rintro _ rfl
          refine SOps.callR (bldH _ _ _ _) [] (bWriteString _ _ _ _ _ (by first | omega | (rw [List.length_append]; omega) | (rw [List.length_append, List.length_append]; omega) | (simp only [List.length_append, List.length_cons, List.length_nil]; omega))) rfl rfl ?_
          rintro _ _ ⟨g7, rfl, rfl⟩
          refine SOps.nil ?_
          show SCode _ _ _ _
          refine SCode.region (SOps.addI rfl rfl (by omega) (by omega) (SOps.move rfl (SOps.nil ?_)))
          first
           | exact ⟨i + 1, g7, true, by omega, by omega, St.Le.of ⟨rfl, rfl, rfl, rfl, rfl, rfl, rfl, rfl, trivial⟩ rfl (congrArg (bldH b0 g7 true) hctA)⟩
           | exact ⟨i + 1, g7, true, by omega, by omega, St.Le.of ⟨rfl, rfl, rfl, rfl, rfl, rfl, rfl, rfl, trivial⟩ rfl (congrArg (bldH b0 g7 true) hctB)⟩
        ·try simp only [nmL] at hc7
         have hctB : (sprK ln.words g m (i + 1)).data.toList = (sprK ln.words g m i).data.toList ++ (ln.words[i]).data.toList := by rw [hsp, if_neg (by omega), data_app2]
         refine SCode.skip ?_
         show SCode _ _ _ _
         refine SCode.region (SOps.addI rfl rfl (by omega) (by omega) (SOps.move rfl (SOps.nil ?_)))
         first
          | exact ⟨i + 1, g7, true, by omega, by omega, St.Le.of ⟨rfl, rfl, rfl, rfl, rfl, rfl, rfl, rfl, trivial⟩ rfl (congrArg (bldH b0 g7 true) hctA)⟩
          | exact ⟨i + 1, g7, true, by omega, by omega, St.Le.of ⟨rfl, rfl, rfl, rfl, rfl, rfl, rfl, rfl, trivial⟩ rfl (congrArg (bldH b0 g7 true) hctB)⟩
       ·try simp only [nmL] at hc6
        refine SCode.exit ?_
        show SCode _ _ _ _
        refine SCode.seq (SCode.seqR (SOps.fieldPin rfl fieldB_24_1_1 (SOps.loadPin rfl flatB_4 (SOps.nil ?_))))
        refine SCode.cond rfl (fun hc9 => ?_) (fun hc9 => ?_)
        ·try simp only [nmL] at hc9
         refine SCode.region (SOps.callR (bldH _ _ _ _) [] (bWriteByte _ _ _ _ 45 (by first | omega | (rw [List.length_append]; omega) | (rw [List.length_append, List.length_append]; omega) | (simp only [List.length_append, List.length_cons, List.length_nil]; omega))) rfl rfl ?_)
         rintro _ _ ⟨g7, rfl, rfl⟩
         refine SOps.nil ?_
         show SCode _ _ _ _
         refine SCode.seqR (SOps.callR (bldH _ _ _ _) [] (bString _ _ _ _ (by first | omega | (rw [List.length_append]; omega) | (rw [List.length_append, List.length_append]; omega) | (simp only [List.length_append, List.length_cons, List.length_nil]; omega))) rfl rfl ?_)
         rintro _ _ ⟨rfl, rfl⟩
         refine SOps.assign rfl (SOps.assign rfl (SOps.nil (SCode.ret ?_)))
         have hx : sprL ln m = (sprK ln.words g m i) ++ hy1 := by unfold sprL; rw [if_pos (by simp_all), show ln.words.length - 1 = g by omega, show ln.words.length = i by omega]
         exact ⟨_, Res.two (.tmp rfl) (.tmp rfl), (by rw [spread_gaps hgood hm (by simp_all) (by omega), hx]; exact congrArg (fun z => DV.tup [DV.v (.string z), .v (.int .i64 0)]) (ba_list ((sprK ln.words g m i) ++ hy1))), rfl⟩
        ·try simp only [nmL] at hc9
         refine SCode.skip ?_
         show SCode _ _ _ _
         refine SCode.seqR (SOps.callR (bldH _ _ _ _) [] (bString _ _ _ _ (by first | omega | (rw [List.length_append]; omega) | (rw [List.length_append, List.length_append]; omega) | (simp only [List.length_append, List.length_cons, List.length_nil]; omega))) rfl rfl ?_)
         rintro _ _ ⟨rfl, rfl⟩
         refine SOps.assign rfl (SOps.assign rfl (SOps.nil (SCode.ret ?_)))
         have hx : sprL ln m = (sprK ln.words g m i) := by unfold sprL; rw [if_neg (by simp_all), show ln.words.length - 1 = g by omega, show ln.words.length = i by omega]
         exact ⟨_, Res.two (.tmp rfl) (.tmp rfl), (by rw [spread_gaps hgood hm (by simp_all) (by omega), hx]; exact congrArg (fun z => DV.tup [DV.v (.string z), .v (.int .i64 0)]) (ba_list ((sprK ln.words g m i)))), rfl⟩
end Go.GH
namespace Go.GH
open Go
def clsR (r : Int) : Int := if 1488 ≤ r ∧ r ≤ 1514 then 2 else if (65 ≤ r ∧ r ≤ 90) ∨ (97 ≤ r ∧ r ≤ 122) ∨ 192 ≤ r then 1 else if 48 ≤ r ∧ r ≤ 57 then 3 else if r = 32 then 4 else 5
/-- How far a run reaches: to the last border before a barrier. -/
def lastN (e : Int → Bool) (nv : Int) : List Int → Nat
  | [] => 0
  | c :: l => if c = nv then 0 else match lastN e nv l with
    | 0 => if e c then 1 else 0
    | n + 1 => n + 2
def raiseK (e : Int → Bool) (nv : Int) : Nat → List Int → List Bool
  | _, [] => []
  | 0, c :: l => if e c then true :: raiseK e nv (lastN e nv (c :: l) - 1) l else false :: raiseK e nv 0 l
  | k + 1, c :: l => true :: raiseK e nv k l
def e0 (c : Int) : Bool := decide (c = 2)
def e1 (c : Int) : Bool := decide (c = 1) || decide (c = 3)
def levels (base : Int) (rs : List Int) : List Int :=
  if base = 0 then (List.zip (raiseK e0 1 0 (rs.map clsR)) (rs.map clsR)).map (fun p => if p.1 then (if p.2 = 3 then 2 else 1) else 0)
  else (raiseK e1 2 0 (rs.map clsR)).map (fun b => if b then 2 else 1)
/-- Every longest run of what p holds of, the other way round. -/
def turnA {α : Type} (p : α → Bool) : List α → List α → List α
  | acc, [] => acc
  | acc, x :: l => if p x then turnA p (x :: acc) l else acc ++ x :: turnA p [] l
def turnL {α : Type} (p : α → Bool) (l : List α) : List α := turnA p [] l
end Go.GH
namespace Go.GH
open Go
/-! #### a segment -/
def revS {α : Type} (xs : List α) (off len : Nat) : List α := xs.take off ++ (((xs.drop off).take len).reverse ++ xs.drop (off + len))
theorem revS_get {α : Type} {xs : List α} {off len : Nat} (h : off + len ≤ xs.length) (k : Nat) (hk : k < xs.length) : (revS xs off len)[k]? = if h1 : off ≤ k ∧ k < off + len then xs[2 * off + len - 1 - k]? else xs[k]? := by
  unfold revS
  have e1 : (xs.take off).length = off := by rw [List.length_take]; omega
  have e2 : (((xs.drop off).take len).reverse).length = len := by rw [List.length_reverse, List.length_take, List.length_drop]; omega
  by_cases h1 : k < off
  · rw [List.getElem?_append_left (by omega), List.getElem?_take, if_pos h1, dif_neg (by omega)]
  · rw [List.getElem?_append_right (by omega), e1]
    by_cases h2 : k < off + len
    · rw [List.getElem?_append_left (by omega), List.getElem?_reverse (by rw [List.length_take, List.length_drop]; omega), List.length_take, List.length_drop, List.getElem?_take, if_pos (by omega), List.getElem?_drop, dif_pos ⟨by omega, h2⟩]
      congr 1; omega
    · rw [List.getElem?_append_right (by omega), e2, List.getElem?_drop, dif_neg (by omega)]
      congr 1; omega
theorem revS_len {α : Type} {xs : List α} {off len : Nat} (h : off + len ≤ xs.length) : (revS xs off len).length = xs.length := by
  unfold revS
  simp
  omega
/-- After i swaps. -/
def SegOK {α : Type} (xs ys : List α) (off len i : Nat) : Prop := ys.length = xs.length ∧ ∀ (k : Nat), k < xs.length → ys[k]? = if off ≤ k ∧ k < off + len ∧ (k < off + i ∨ off + len < k + i + 1) then xs[2 * off + len - 1 - k]? else xs[k]?
theorem SegOK.zero {α : Type} (xs : List α) (off len : Nat) : SegOK xs xs off len 0 := ⟨rfl, fun k hk => by rw [if_neg (by omega)]⟩
theorem SegOK.step {α : Type} {xs ys : List α} {off len i a b : Nat} (h : SegOK xs ys off len i) (ho : off + len ≤ xs.length) (ha : a = off + i) (hb : b = off + len - 1 - i) (hi : a < b) (h1 : a < ys.length) (h2 : b < ys.length) : SegOK xs ((ys.set a ys[b]).set b ys[a]) off len (i + 1) := by
  obtain ⟨hl, hf⟩ := h
  refine ⟨by simp [hl], fun k hk => ?_⟩
  have ea := hf a (by omega)
  have eb := hf b (by omega)
  rw [if_neg (by omega), List.getElem?_eq_getElem h1] at ea
  rw [if_neg (by omega), List.getElem?_eq_getElem h2] at eb
  rw [List.getElem?_set, List.getElem?_set]
  by_cases kb : b = k
  · subst kb
    rw [if_pos rfl, if_pos (by simp; omega), if_pos (by omega), ea]
    congr 1; omega
  · rw [if_neg kb]
    by_cases ka : a = k
    · subst ka
      rw [if_pos rfl, if_pos (by omega), if_pos (by omega), eb]
      congr 1; omega
    · rw [if_neg ka, hf k hk]
      by_cases hc : off ≤ k ∧ k < off + len ∧ (k < off + i ∨ off + len < k + i + 1)
      · rw [if_pos hc, if_pos (by omega)]
      · rw [if_neg hc, if_neg (by omega)]
theorem SegOK.fin {α : Type} {xs ys : List α} {off len i : Nat} (h : SegOK xs ys off len i) (ho : off + len ≤ xs.length) (hi : len ≤ 2 * i + 1) : ys = revS xs off len := by
  obtain ⟨hl, hf⟩ := h
  apply List.ext_getElem?
  intro k
  by_cases hk : k < xs.length
  · rw [hf k hk, revS_get ho k hk]
    by_cases h1 : off ≤ k ∧ k < off + len
    · rw [dif_pos h1]
      by_cases h2 : k < off + i ∨ off + len < k + i + 1
      · rw [if_pos ⟨h1.1, h1.2, h2⟩]
      · rw [if_neg (by omega)]
        congr 1; omega
    · rw [dif_neg h1, if_neg (by omega)]
  · rw [List.getElem?_eq_none (by omega), List.getElem?_eq_none (by rw [revS_len ho]; omega)]
/-! #### runs -/
theorem turnA_run {α : Type} {p : α → Bool} : ∀ (r acc l : List α), (∀ x ∈ r, p x = true) → turnA p acc (r ++ l) = turnA p (r.reverse ++ acc) l
  | [], acc, l, h => rfl
  | x :: r, acc, l, h => by
    rw [List.cons_append, turnA, if_pos (h x (List.mem_cons_self ..)), turnA_run r (x :: acc) l (fun y hy => h y (List.mem_cons_of_mem _ hy)), List.reverse_cons, List.append_assoc]; rfl
theorem turnL_run {α : Type} {p : α → Bool} {r l : List α} (h : ∀ x ∈ r, p x = true) (hl : ∀ x ∈ l.head?, p x = false) : turnL p (r ++ l) = r.reverse ++ turnL p l := by
  unfold turnL
  rw [turnA_run r [] l h, List.append_nil]
  cases l with
  | nil => rw [turnA, turnA, List.append_nil]
  | cons x l =>
    have := hl x rfl
    rw [turnA, if_neg (by rw [this]; simp), turnA, if_neg (by rw [this]; simp), List.nil_append]
theorem turnL_no {α : Type} {p : α → Bool} {x : α} {l : List α} (h : p x = false) : turnL p (x :: l) = x :: turnL p l := by
  have := turnL_run (p := p) (r := []) (l := x :: l) (fun y hy => by cases hy) (fun y hy => by simp at hy; subst hy; exact h)
  unfold turnL at this ⊢
  rw [turnA, if_neg (by rw [h]; simp)]; rfl
/-- The order while it is turned: what lies before i is done. -/
structure TurnOK (p : Nat → Bool) (ord cur : List Nat) (i : Nat) : Prop where
  len : cur.length = ord.length
  mem : ∀ x ∈ cur, x ∈ ord
  eq : cur.take i ++ turnL p (cur.drop i) = turnL p ord
theorem TurnOK.zero (p : Nat → Bool) (ord : List Nat) : TurnOK p ord ord 0 := ⟨rfl, fun _ h => h, rfl⟩
theorem TurnOK.skip {p : Nat → Bool} {ord cur : List Nat} {i : Nat} (h : TurnOK p ord cur i) (hi : i < cur.length) (hp : p cur[i] = false) : TurnOK p ord cur (i + 1) :=
  ⟨h.len, h.mem, by rw [← h.eq, List.drop_eq_getElem_cons hi, turnL_no hp, show cur.take (i + 1) = cur.take i ++ [cur[i]] by rw [List.take_add_one, List.getElem?_eq_getElem hi]; rfl, List.append_assoc]; rfl⟩
theorem revS_mem {α : Type} {xs : List α} {off len : Nat} {x : α} (h : x ∈ revS xs off len) : x ∈ xs := by
  unfold revS at h
  rcases List.mem_append.1 h with h | h
  · exact List.mem_of_mem_take h
  · rcases List.mem_append.1 h with h | h
    · exact List.mem_of_mem_drop (List.mem_of_mem_take (List.mem_reverse.1 h))
    · exact List.mem_of_mem_drop h
theorem TurnOK.run {p : Nat → Bool} {ord cur : List Nat} {i k : Nat} (h : TurnOK p ord cur i) (hk : i ≤ k) (hkl : k ≤ cur.length) (hr : ∀ (j : Nat) (h1 : j < cur.length), i ≤ j → j < k → p cur[j] = true) (hn : ∀ (h1 : k < cur.length), p cur[k] = false) : TurnOK p ord (revS cur i (k - i)) k := by
  have e1 : (cur.take i).length = i := by rw [List.length_take]; omega
  have e2 : ((cur.drop i).take (k - i)).length = k - i := by rw [List.length_take, List.length_drop]; omega
  have e3 : i + (k - i) = k := by omega
  have ht : (revS cur i (k - i)).take k = cur.take i ++ ((cur.drop i).take (k - i)).reverse := by
    unfold revS
    rw [← List.append_assoc, List.take_left' (by rw [List.length_append, e1, List.length_reverse, e2]; omega)]
  have hd : (revS cur i (k - i)).drop k = cur.drop k := by
    unfold revS
    rw [← List.append_assoc, List.drop_left' (by rw [List.length_append, e1, List.length_reverse, e2]; omega), e3]
  refine ⟨by rw [revS_len (by omega)]; exact h.len, fun x hx => h.mem x (revS_mem hx), ?_⟩
  have hsp : cur.drop i = (cur.drop i).take (k - i) ++ cur.drop k := by
    conv => lhs; rw [← List.take_append_drop (k - i) (cur.drop i), List.drop_drop, e3]
  rw [ht, hd, ← h.eq]
  conv => rhs; rw [hsp]
  rw [turnL_run (fun x hx => ?_) (fun x hx => ?_), List.append_assoc]
  · obtain ⟨j, hj, rfl⟩ := List.mem_iff_getElem.1 hx
    rw [List.getElem_take, List.getElem_drop]
    exact hr _ _ (by omega) (by omega)
  · rw [List.head?_drop] at hx
    obtain ⟨h1, rfl⟩ := List.getElem?_eq_some_iff.1 (Option.mem_def.1 hx)
    exact hn h1
theorem TurnOK.fin {p : Nat → Bool} {ord cur : List Nat} {i : Nat} (h : TurnOK p ord cur i) (hi : ord.length ≤ i) : cur = turnL p ord := by
  have := h.eq
  rw [List.take_of_length_le (by have := h.len; omega), List.drop_eq_nil_of_le (by have := h.len; omega)] at this
  rw [← this]
  show cur = cur ++ []
  rw [List.append_nil]
/-! #### the numbers in order, one after the other -/
def NumOK (ys : List Nat) (n i : Nat) : Prop := ys.length = n ∧ ∀ j, j < i → ys[j]? = some j
theorem NumOK.step {ys : List Nat} {n i : Nat} (h : NumOK ys n i) (hi : i < n) : NumOK (ys.set i i) n (i + 1) :=
  ⟨by simp [h.1], fun j hj => by
    rw [List.getElem?_set]
    by_cases e : i = j
    · subst e; rw [if_pos rfl, if_pos (by have := h.1; omega)]
    · rw [if_neg e]; exact h.2 j (by omega)⟩
theorem NumOK.fin {ys : List Nat} {n i : Nat} (h : NumOK ys n i) (hi : n ≤ i) : ys = List.range n := by
  apply List.ext_getElem?
  intro j
  by_cases hj : j < n
  · rw [h.2 j (by omega), List.getElem?_range hj]
  · rw [List.getElem?_eq_none (by have := h.1; omega), List.getElem?_eq_none (by simp; omega)]
/-! #### where a run ends -/
theorem raise_no {e : Int → Bool} {nv c : Int} {l : List Int} (he : e c = false) : raiseK e nv 0 (c :: l) = false :: raiseK e nv 0 l := by rw [raiseK, if_neg (by simp [he])]
def RaiseOK (e : Int → Bool) (nv : Int) (cs : List Int) (i : Nat) : Prop := raiseK e nv 0 (cs.drop i) = (raiseK e nv 0 cs).drop i
theorem RaiseOK.zero (e : Int → Bool) (nv : Int) (cs : List Int) : RaiseOK e nv cs 0 := rfl
theorem RaiseOK.no {e : Int → Bool} {nv : Int} {cs : List Int} {i : Nat} (h : RaiseOK e nv cs i) (hi : i < cs.length) (he : e cs[i] = false) : (raiseK e nv 0 cs)[i]? = some false ∧ RaiseOK e nv cs (i + 1) := by
  have h' := h
  unfold RaiseOK at h'
  rw [List.drop_eq_getElem_cons hi, raise_no he] at h'
  refine ⟨?_, ?_⟩
  · have := congrArg (fun l => l[0]?) h'
    simp only [List.getElem?_drop, Nat.add_zero] at this
    exact this.symm
  · unfold RaiseOK
    have := congrArg (List.drop 1) h'
    rw [List.drop_drop] at this
    exact this
/-! #### levels, position by position -/
end Go.GH
namespace Go.GH
open Go Go.Proofs
variable {E : Env}
end Go.GH
namespace Go.GH
open Go Go.Proofs
variable {E : Env}
theorem GCall.«to» {P : Program} {E : Env} {f : FuncId} {ds : List DV} {H H1 H2 : DHeap} (h : GCall P E f ds H (fun d H' => H' = H1)) (e : H1 = H2) : GCall P E f ds H (fun d H' => H' = H2) := e ▸ h
theorem GCall.fr {P : Program} {E : Env} {f : FuncId} {ds : List DV} {H H1 : DHeap} {R : DV → DHeap → Prop} (h : GCall P E f ds H R) (e : H = H1) : GCall P E f ds H1 R := e ▸ h
def OneOK (ys : List Int) (n i : Nat) : Prop := ys.length = n ∧ ∀ j, j < i → ys[j]? = some 1
theorem OneOK.step {ys : List Int} {n i : Nat} (h : OneOK ys n i) (hi : i < n) : OneOK (ys.set i 1) n (i + 1) :=
  ⟨by rw [List.length_set]; exact h.1, fun j hj => by
    rw [List.getElem?_set]
    by_cases e : i = j
    · subst e; rw [if_pos rfl, if_pos (by rw [h.1]; exact hi)]
    · rw [if_neg e]; exact h.2 j (by omega)⟩
theorem OneOK.fin {ys : List Int} {n i : Nat} (h : OneOK ys n i) (hi : n ≤ i) : ys = List.replicate n 1 := by
  apply List.ext_getElem?
  intro j
  by_cases hj : j < n
  · rw [h.2 j (by omega), List.getElem?_replicate, if_pos hj]
  · rw [List.getElem?_eq_none (by rw [h.1]; omega), List.getElem?_eq_none (by simp; omega)]

end Go.GH
namespace Go.GH
open Go
/-- What has been read. -/
structure RdS where
  out : List (List ByteArray)
  ws : List ByteArray
  cur : List Int
  bl : Bool
  en : Bool
end Go.GH
namespace Go.GH
open Go Go.Proofs
variable {E : Env}
end Go.GH
namespace Go.GH
open Go Go.Lib Go.Proofs
/-- A language: what the pages read, and the rest. -/
structure Lng where
  o : Nat → DV
  ho : ∀ k, (o k).one = true
  rtl : Bool
  alph : List Letter
  ons : List (List Int)
  ml : Int
  mr : Int
  san : List Rule
  stop : ByteArray
def encG (l : Lng) : List DV := [l.o 0, .v (.bool l.rtl), DLs l.alph, l.o 3, l.o 4, l.o 5, DOns l.ons, .v (.int .i64 l.ml), .v (.int .i64 l.mr), DRs l.san, l.o 10, l.o 11, l.o 12, l.o 13, l.o 14, l.o 15, l.o 16, l.o 17, l.o 18, l.o 19, l.o 20, l.o 21, l.o 22, l.o 23, l.o 24, l.o 25, l.o 26, l.o 27, l.o 28, .v (.string l.stop)]
theorem encG_one (l : Lng) : (encG l).all DV.one = true := by
  unfold encG
  simp only [List.all_cons, List.all_nil, l.ho, Bool.true_and, Bool.and_true]
  rfl
end Go.GH
namespace Go.GH
open Go Go.Proofs
variable {E : Env}
end Go.GH
namespace Go.GH
open Go
theorem look_upd {d : TypeDesc} {k k' : Value} {v : DV} (hk : isKey d k = true) (hk' : isKey d k' = true) : ∀ (es : List (Value × DV)), (∀ p ∈ es, isKey d p.1 = true) → lookupL (updL es k v) k' = if sameKey k' k then some v else lookupL es k'
  | [], _ => rfl
  | p :: es, hs => by
    have hp := hs p (List.mem_cons_self ..)
    have ih := look_upd (v := v) hk hk' es (fun q hq => hs q (List.mem_cons_of_mem _ hq))
    rw [updL]
    by_cases h : sameKey k p.1 = true
    · rw [if_pos h]
      have e := (sameKey_iff hk hp).1 h
      simp only [lookupL]
      rw [← e]
      split <;> rfl
    · rw [if_neg h]
      simp only [lookupL]
      rw [ih]
      by_cases h2 : sameKey k' p.1 = true
      · rw [if_pos h2, if_pos h2]
        have e := (sameKey_iff hk' hp).1 h2
        rw [if_neg]
        intro h3
        have e3 := (sameKey_iff hk' hk).1 h3
        exact h ((sameKey_iff hk hp).2 (e3.symm.trans e))
      · rw [if_neg h2, if_neg h2]
theorem keys_upd {d : TypeDesc} {k : Value} {v : DV} (hk : isKey d k = true) : ∀ (es : List (Value × DV)), (∀ p ∈ es, isKey d p.1 = true) → ∀ p ∈ updL es k v, isKey d p.1 = true
  | [], _, p, hp => by rw [updL, List.mem_singleton] at hp; subst hp; exact hk
  | q :: es, hs, p, hp => by
    rw [updL] at hp
    split at hp
    · rcases List.mem_cons.1 hp with rfl | hp
      · exact hk
      · exact hs p (List.mem_cons_of_mem _ hp)
    · rcases List.mem_cons.1 hp with rfl | hp
      · exact hs p (List.mem_cons_self ..)
      · exact keys_upd hk es (fun q hq => hs q (List.mem_cons_of_mem _ hq)) p hp
def KI (es : List (Value × DV)) : Prop := ∀ p ∈ es, isKey (.int .i32) p.1 = true
def KS (es : List (Value × DV)) : Prop := ∀ p ∈ es, isKey .string p.1 = true
def tT : DV := .v (.bool true)
/-- A set of runes. -/
structure SetI (es : List (Value × DV)) (ks : List Int) : Prop where
  keys : KI es
  look : ∀ r : Int, lookupL es (.int .i32 r) = (if ks.contains r then some () else none).map (fun _ => tT)
theorem SetI.nil : SetI [] [] := ⟨(fun p hp => by cases hp), fun r => rfl⟩
theorem SetI.add {es : List (Value × DV)} {ks : List Int} (h : SetI es ks) (r : Int) : SetI (updL es (.int .i32 r) tT) (ks ++ [r]) := by
  refine ⟨keys_upd rfl es h.keys, fun q => ?_⟩
  rw [look_upd (d := .int .i32) rfl rfl es h.keys, h.look]
  by_cases e : q = r
  · subst e; simp [sameKey]
  · simp [sameKey, e]
/-- A set of strings. -/
structure SetS (es : List (Value × DV)) (ks : List ByteArray) : Prop where
  keys : KS es
  look : ∀ s : ByteArray, lookupL es (.string s) = (if memS s ks then some () else none).map (fun _ => tT)
theorem SetS.nil : SetS [] [] := ⟨(fun p hp => by cases hp), fun r => rfl⟩
theorem SetS.add {es : List (Value × DV)} {ks : List ByteArray} (h : SetS es ks) (r : ByteArray) : SetS (updL es (.string r) tT) (ks ++ [r]) := by
  refine ⟨keys_upd rfl es h.keys, fun q => ?_⟩
  rw [look_upd (d := .string) rfl rfl es h.keys, h.look, memS_snoc]
  by_cases e : q = r
  · subst e; simp [sameKey]
  · have e2 : ¬ r = q := fun x => e x.symm
    simp [sameKey, e, e2]
/-- What strings are mapped to what f says. -/
structure MapS (f : ByteArray → ByteArray) (es : List (Value × DV)) (ks : List ByteArray) : Prop where
  keys : KS es
  look : ∀ s : ByteArray, lookupL es (.string s) = (if memS s ks then some (f s) else none).map (fun x => DV.v (.string x))
theorem MapS.nil (f : ByteArray → ByteArray) : MapS f [] [] := ⟨(fun p hp => by cases hp), fun r => rfl⟩
theorem MapS.add {f : ByteArray → ByteArray} {es : List (Value × DV)} {ks : List ByteArray} (h : MapS f es ks) (r : ByteArray) : MapS f (updL es (.string r) (.v (.string (f r)))) (ks ++ [r]) := by
  refine ⟨keys_upd rfl es h.keys, fun q => ?_⟩
  rw [look_upd (d := .string) rfl rfl es h.keys, h.look, memS_snoc]
  by_cases e : q = r
  · subst e; simp [sameKey]
  · have e2 : ¬ r = q := fun x => e x.symm
    simp [sameKey, e, e2]
theorem SetS.more {es : List (Value × DV)} {ks : List ByteArray} (h : SetS es ks) {r : ByteArray} (hr : memS r ks = true) : SetS es (ks ++ [r]) := by
  refine ⟨h.keys, fun q => ?_⟩
  rw [h.look, memS_snoc]
  by_cases e : r = q
  · subst e; rw [hr]; rfl
  · simp [e]
theorem take_next {α : Type} {l : List α} {i : Nat} (h : i < l.length) : l.take (i + 1) = l.take i ++ [l[i]] := by
  rw [List.take_succ, List.getElem?_eq_getElem h]; rfl
end Go.GH
namespace Go.GH
open Go
section
variable {C : Ctx} {st : St} {ops : Array Oper} {R : St → Prop}
end
end Go.GH
namespace Go.GH
open Go Go.Proofs
variable {E : Env}
theorem aggB_62_30 : aggB Tryz.prog 62 30 = true := by kernel_rfl
end Go.GH
namespace Go.GH
open Go Go.Proofs
def encW (ws : List ByteArray) : List DV := [DStrs ws]
section
variable {C : Ctx} {st : St} {ops : Array Oper} {R : St → Prop}
end
theorem g6 {x y z : Nat × DO} {A B X : DHeap} : [x, y] ++ ((z :: (A ++ B)) ++ X) = ([x, y, z] ++ A) ++ (B ++ X) := by simp
theorem g7 {x y z : Nat × DO} {A B X : DHeap} : [x, y] ++ ((z :: (A ++ B)) ++ X) = [x, y, z] ++ (A ++ (B ++ X)) := by simp
variable {E : Env}
end Go.GH
namespace Go.GH
open Go Go.Proofs
variable {E : Env}
theorem fieldB_62_1_1 : fieldB Tryz.prog 62 1 1 = true := by kernel_rfl
theorem sliceB_73_22_1 : sliceB Tryz.prog 73 22 1 = true := by kernel_rfl
def baseR (l : Lng) : Int := if l.rtl then 1 else 0
theorem jBase (l : Lng)  : GCall Tryz.prog E 68 [.agg (encG l)] [] (fun d H => d = .v (.int .i64 (baseR l)) ∧ H = []) := by
 refine GCall.body (C := ⟨Tryz.prog, E, true⟩) Tryz.func68 rfl (fun _ => rfl) (by kernel_rfl) rfl ?_
 refine SCode.seqR ?_
 refine SOps.boxAM rfl rfl ?_ (hd := encG_one l)
 refine SOps.assign rfl (SOps.nil (SCode.seq (SCode.seqR (SOps.fieldPin rfl fieldB_62_1_1 (SOps.loadPin rfl flatB_4 (SOps.nil ?_))))))
 refine SCode.cond rfl (fun hc1 => ?_) (fun hc1 => ?_)
 ·try simp only [nmL] at hc1
  refine SCode.seqR (SOps.assign rfl (SOps.nil (SCode.ret ?_)))
  exact ⟨_, Res.one (.tmp rfl), congrArg (fun z => DV.v (.int .i64 z)) (by unfold baseR; simp_all), rfl⟩
 ·try simp only [nmL] at hc1
  refine SCode.skip ?_
  show SCode _ _ _ _
  refine SCode.seqR (SOps.assign rfl (SOps.nil (SCode.ret ?_)))
  exact ⟨_, Res.one (.tmp rfl), congrArg (fun z => DV.v (.int .i64 z)) (by unfold baseR; simp_all), rfl⟩
abbrev DSS (l : List (List ByteArray)) : DV := .isl false 1 (l.map encW)
theorem q50Length (s : ByteArray)  : GCall Tryz.prog E 16 [.v (.string s)] [] (fun d H => d = .v (.int .i64 ((runes s).length : Int)) ∧ H = []) := by
 refine GCall.body (C := ⟨Tryz.prog, E, true⟩) Tryz.func16 rfl (fun _ => rfl) (by kernel_rfl) rfl ?_
 refine SCode.seqR (SOps.assign rfl (SOps.nil (SCode.seqR (SOps.move rfl (SOps.runesF rfl rfl strB_9 sliceB_94_21_1 intB_21_i32 (SOps.lenM rfl sliceB_94_21_1 (SOps.assign rfl (SOps.nil (SCode.ret ?_)))))))))
 exact ⟨_, Res.one (.tmp rfl), rfl, rfl⟩
end Go.GH
namespace Go.GH
open Go Go.RowKit
def YRounds2 (P : Program) (E : Env) (l : Nat) (xs : List (DV × DV)) (J : JT) : Prop :=
  ∀ i x, xs[i]? = some x → ∀ w F T v u, E.holds w F → (∀ b, F b → b < w.heap.size) → (∀ b, T b → b < w.heap.size ∧ ¬ F b) → J i w F T → Rep w F v x.1 → Rep w F u x.2 →
    YieldAt Fence.wide 0 P l #[v, u] w (fun e w' => e = .returned (.bool true) ∧ YNext J (i + 1) w F T w')
/-- The contract of an iterator: with what it has captured it hands over xs, and no more. -/
def GIter2 (P : Program) (E : Env) (f : FuncId) (ds : List DV) (xs : List (DV × DV)) : Prop :=
  hasBody P f = true ∧ ∀ (l : Nat) (J : JT) w F T (vs : Array Value), YKeeps J → YRounds2 P E l xs J → E.holds w F → (∀ b, F b → b < w.heap.size) → (∀ b, T b → b < w.heap.size ∧ ¬ F b) → J 0 w F T → vs.size = ds.length →
    (∀ (j : Nat) (x : Value) (d : DV), vs[j]? = some x → ds[j]? = some d → Rep w F x d) →
    Calls P f (#[.func (.yield l) #[] #[]] ++ vs) w (fun e w' => (∃ v, e = .returned v) ∧ ∃ F' T', J xs.length w' F' T')

section
variable {C : Ctx} {J : JT} {i : Nat} {st : St} {Q : Exit → Nat → St → Prop} {ops : Array Oper} {rest : List Oper} {R : Nat → St → Prop}
/-- One call of yield. -/
theorem SYOps.yield2 {xs : List (DV × DV)} {l : Nat} {t : Tmp} {ty : TypeId} {pos : String} {aft : Array Edge} {xo xa xb : Operand} {ats : Array TypeId} {x : DV × DV} (hY : YRounds2 C.P C.E l xs J) (hx : st.val xo = some (.v (.func (.yield l) #[] #[]))) (ha : st.val xa = some x.1) (hb : st.val xb = some x.2) (hi : xs[i]? = some x) (hh : st.heap = [])
    (hrest : SYOps C J ops rest (i + 1) (st.put t (.v (.bool true))) R) (ht : Nat.blt t st.n = true := by rfl) :
    SYOps C J ops (⟨some t, .call { callee := .value xo, args := #[xa, xb], argTypes := ats }, ty, pos, aft, none⟩ :: rest) i st R := by
  intro base a w ⟨F, T, hs, hT, hj⟩ Q hQ
  obtain ⟨fn, tmps, asg, bd, hy, hR⟩ := hY i x hi w F T (a.eval xa) (a.eval xb) hs.env (fun b hb => (hs.lt b hb).1) (fun b hb => ⟨(hT b hb).1, (hT b hb).2.1⟩) hj (hs.val ha) (hs.val hb)
  refine wpListIn_plain rfl (fun K hK => ⟨fun _ _ => trivial, ?_⟩)
  have hsem : ((⟨some t, .call { callee := .value xo, args := #[xa, xb], argTypes := ats }, ty, pos, aft, none⟩ : Oper).semAt Fence.wide.round a.eval).run C.P w = .ok (.round l fn tmps asg bd) w := by
    rw [show (⟨some t, .call { callee := .value xo, args := #[xa, xb], argTypes := ats }, ty, pos, aft, none⟩ : Oper).semAt Fence.wide.round a.eval = (do let d ← Deferred.ofValue (a.eval xo) (#[xa, xb].map a.eval); invoke d.target d.args) from rfl, (hs.val hx).inv_v.1]
    simp only [Deferred.ofValue, invoke, pure_bind]
    simpa using hy
  rw [hsem, Oper.uponIn_round]
  refine ⟨fun e => by simp [Fence.wide] at e, hR.mono ?_⟩
  rintro e w' ⟨rfl, F', T', h1, h2, h3, h4, h5⟩
  refine hK _ _ (hrest base _ w' ⟨F', T', ?_, fun b hb => ⟨(h3 b hb).1, (h3 b hb).2.1, ?_⟩, h5⟩ Q hQ)
  · have s1 := hs.stepT h4 (fun b hb ht => (hT b ht).2.1 hb) (fun p hp => by rw [hh] at hp; cases hp) (fun b hb => (hT b hb).2.2)
    have s2 := s1.wider h1 (fun b hb => ⟨(h2 b hb).1, (h2 b hb).2.imp id (fun x => Nat.le_trans hs.keep.size x)⟩) (fun p hp => by rw [hh] at hp; cases hp)
    exact s2.put (by simpa using ht) (.v trivial)
  · rcases (h3 b hb).2.2 with x | x
    · exact (hT b x).2.2
    · exact .inr (Nat.le_trans hs.keep.size x)
/-- An iterator's contract from its body. -/
theorem GIter2.body {f : FuncId} {fn : Func} {c : Code} {ds : List DV} {xs : List (DV × DV)} (hf : C.P.funcs[f]? = some fn) (hb : fn.body = some c) (hname : (fn.name == "runtime.NumGoroutine") = false) (hn : Nat.ble (ds.length + 1) fn.ntmps = true) (hres : fn.results = #[])
    (h : ∀ (l : Nat) (J : JT), YKeeps J → YRounds2 C.P C.E l xs J → SYCode C J c 0 (St.init fn.ntmps (.v (.func (.yield l) #[] #[]) :: ds) []) (fun e i st => (e = .normal ∨ e = .ret) ∧ i = xs.length)) : GIter2 C.P C.E f ds xs := by
  refine ⟨by simp [hasBody, hf, hb, hname], ?_⟩
  intro l J w F T vs hK hY hE hF hT h0 hvs hr
  have hn' := Nat.le_of_ble_eq_true hn
  refine calls_of_wp hf hb ?_
  have hr' : ∀ (j : Nat) (x : Value) (d : DV), (#[Value.func (.yield l) #[] #[]] ++ vs)[j]? = some x → ((DV.v (.func (.yield l) #[] #[])) :: ds)[j]? = some d → Rep w F x d := by
    intro j x d hx hd
    cases j with
    | zero =>
      rw [Array.getElem?_append_left (by simp)] at hx
      simp only [List.getElem?_cons_zero, Option.some.injEq] at hd
      obtain rfl : Value.func (.yield l) #[] #[] = x := by simpa using hx
      subst hd
      exact .v trivial
    | succ j =>
      rw [Array.getElem?_append_right (by simp)] at hx
      simp at hx hd
      exact hr j x d hx hd
  have hsim : SimF C.E ⟨w, F, T, []⟩ F (St.init fn.ntmps (.v (.func (.yield l) #[] #[]) :: ds) []) { tmps := (#[.func (.yield l) #[] #[]] ++ vs) ++ Array.replicate (fn.ntmps - (#[Value.func (.yield l) #[] #[]] ++ vs).size) undef, defers := [] } w := {
    keep := Step.refl _ _
    base_lt := fun b hb => (hT b hb).1
    sub := fun _ h => h
    lt := fun b hb => ⟨hF b hb, .inl hb⟩
    env := hE
    size := by simp [hvs, St.init]; omega
    slots := fun t d ht => by
      obtain ⟨_, h2⟩ := enum_get _ 0 t d ht
      simp only [Nat.sub_zero] at h2
      have hlt := (List.getElem?_eq_some_iff.1 h2).1
      simp only [List.length_cons] at hlt
      refine ⟨Nat.lt_of_lt_of_le hlt hn', ?_⟩
      have hlt' : t < (#[Value.func (.yield l) #[] #[]] ++ vs).size := by simp; omega
      have e : ((#[Value.func (.yield l) #[] #[]] ++ vs) ++ Array.replicate (fn.ntmps - (#[Value.func (.yield l) #[] #[]] ++ vs).size) undef).getD t undef = (#[Value.func (.yield l) #[] #[]] ++ vs)[t] := by
        rw [Array.getD_eq_getD_getElem?, Array.getElem?_append, if_pos hlt', Array.getElem?_eq_getElem hlt']; rfl
      rw [e]
      exact hr' t _ d (Array.getElem?_eq_getElem hlt') h2
    heap := fun p hp => by cases hp
    keys := List.nodup_nil
    defers := rfl }
  refine wp_mono (wpIn_wide.1 (h l J hK hY ⟨w, F, T, []⟩ _ w ⟨F, T, hsim, fun b hb => ⟨(hT b hb).1, (hT b hb).2, .inl hb⟩, h0⟩)) ?_
  rintro e a' w' ⟨i', st', ⟨he, hi⟩, F', T', s, _, hj⟩
  subst hi
  have fin : a'.defers = [] ∧ ∃ v, (results fn a'.tmps).run C.P w' = .ok v w' ∧ ((∃ v', Ending.returned v = .returned v') ∧ ∃ F' T', J xs.length w' F' T') :=
    let ⟨x, hx, _⟩ := run_results s (fn := fn) (d := .v (.tuple #[])) (by rw [hres]; exact .none)
    ⟨s.defers, x, hx, ⟨_, rfl⟩, F', T', hj⟩
  rcases he with rfl | rfl
  · exact fin
  · exact fin
end
section
variable {C : Ctx} {m : Bool} {st : St} {Q : Exit → Bool → St → Prop}
/-- 'for x := range g { .. }', each round leaving by the body's end. -/
theorem SMCode.range2 {g : Operand} {p p2 : Tmp} {asg bd : Code} {f : FuncId} {ds : List DV} {xs : List (DV × DV)} (hg : st.val g = some (.fn f ds)) (hit : GIter2 C.P C.E f ds xs) (Inv : Nat → DHeap → Prop) (h0 : Inv 0 st.heap) (hp : Nat.blt p st.n = true) (hp2 : Nat.blt p2 st.n = true)
    (hround : ∀ i x l H, xs[i]? = some x → Inv i H → SRound C.imp l asg ⟨st.n, (p2, x.2) :: (p, x.1) :: st.slots, H⟩ (fun e st1 => e = .normal ∧ SRound C.imp l bd st1 (fun e st2 => e = .normal ∧ Inv (i + 1) st2.heap)))
    (hdone : ∀ H, Inv xs.length H → Q .normal true ⟨st.n, st.slots, H⟩) : SMCode C (.rangeFunc g #[p, p2] asg bd) false st Q := by
  intro base ok hd0 a w ⟨F, hs⟩
  refine (wpIn_wide (n := 0)).1 (wpIn_rangeFunc (F := Fence.wide) (n := 0) ?_)
  intro fn _
  have h3 := hs.val hg
  generalize hv : a.eval g = v at h3
  cases h3 with
  | @fn _ us _ hl hr =>
  obtain ⟨rec, hrec⟩ : ∃ rec : LoopState → Loop, rec = fun s => { state := s, pending := none, fn, tmps := a.tmps, params := #[p, p2], assign := asg, body := bd, defers := w.heap.size } := ⟨_, rfl⟩
  obtain ⟨W1, hW1⟩ : ∃ W1, (w.alloc (.deferred (some []))).alloc (.loop (rec .ready)) = W1 := ⟨_, rfl⟩
  have hL1 : W1.heap[w.heap.size + 1]? = some (.loop (rec .ready)) := by
    rw [← hW1]; have := World.alloc_heap_new (w.alloc (.deferred (some []))) (.loop (rec .ready)); rwa [World.size_alloc] at this
  have hD1 : W1.heap[w.heap.size]? = some (.deferred (some [])) := by
    rw [← hW1]; exact (Below.heap_alloc _ _ _ (by simp)).trans (World.alloc_heap_new w _)
  have hst1 : Step (fun _ => False) w W1 := by rw [← hW1]; exact (Step.alloc _ w _).trans (Step.alloc _ _ _)
  have hne : ∀ s, (rec s).defers = w.heap.size ∧ (rec s).params = #[p, p2] ∧ (rec s).tmps = a.tmps ∧ (rec s).state = s ∧ (rec s).pending = none ∧ (rec s).fn = fn ∧ (rec s).assign = asg ∧ (rec s).body = bd := fun s => by rw [hrec]; exact ⟨rfl, rfl, rfl, rfl, rfl, rfl, rfl, rfl⟩
  have hrs : ∀ s s', { rec s with state := s' } = rec s' := fun s s' => by rw [hrec]
  have hrs2 : ∀ s s', { rec s with state := s', pending := none } = rec s' := fun s s' => by rw [hrec]
  obtain ⟨J, hJ⟩ : ∃ J : JT, J = fun i w' F' T => ∃ H, Inv i H ∧ SimF C.E base F' ⟨st.n, st.slots, H⟩ a w' ∧ w'.heap[w.heap.size + 1]? = some (.loop (rec .ready)) ∧ w'.heap[w.heap.size]? = some (.deferred (some [])) ∧
      (∀ q ∈ H, T q.1) ∧ T (w.heap.size + 1) ∧ T w.heap.size ∧ (∀ q ∈ H, q.1 ≠ w.heap.size + 1 ∧ q.1 ≠ w.heap.size) ∧ (∀ b, T b → base.own b ∨ base.w.heap.size ≤ b) ∧ (∀ b, T b → b < w'.heap.size ∧ ¬ F' b) := ⟨_, rfl⟩
  have hbw : base.w.heap.size ≤ w.heap.size := hs.keep.size
  have hnoF : ∀ b, w.heap.size ≤ b → ¬ F b := fun b hb hF => absurd (hs.lt b hF).1 (Nat.not_lt.2 hb)
  have hKeep : YKeeps J := by
    rw [hJ]
    rintro i w1 F1 T1 w2 F2 ⟨H, hI, hs1, k1, k2, k3, k4, k5, k6, k7, k8⟩ hst hF hF2
    have hT2 : ∀ b, T1 b → b < w2.heap.size ∧ ¬ F2 b := fun b hb => ⟨Nat.lt_of_lt_of_le (k8 b hb).1 hst.size, fun x => by
      rcases (hF2 b x).2 with y | y
      · exact (k8 b hb).2 y
      · exact absurd (k8 b hb).1 (Nat.not_lt.2 y)⟩
    exact ⟨H, hI, (hs1.world hst).wider hF (fun b hb => ⟨(hF2 b hb).1, (hF2 b hb).2.imp id (fun x => Nat.le_trans hs1.keep.size x)⟩) (fun q hq => (hT2 _ (k3 q hq)).2),
      (hst.block _ (k8 _ k4).1 (fun x => x)).trans k1, (hst.block _ (k8 _ k5).1 (fun x => x)).trans k2, k3, k4, k5, k6, k7, hT2⟩
  have hRounds : YRounds2 C.P C.E (w.heap.size + 1) xs J := by
    intro i x hx w1 F1 T1 v u hE hlt hTT hj hv1 hu1
    have hj' := hj
    rw [hJ] at hj
    obtain ⟨H, hI, hs1, k1, k2, k3, k4, k5, k6, k7, k8⟩ := hj
    have hy := run_yield (P := C.P) (args := #[v, u]) k1 (by rw [(hne _).2.1]; rfl)
    rw [(hne .ready).2.1, (hne .ready).2.2.1, (hne .ready).2.2.2.2.2.1, (hne .ready).2.2.2.2.2.2.1, (hne .ready).2.2.2.2.2.2.2] at hy
    refine ⟨fn, _, asg, bd, hy, roundIn_of_wpIn (F := Fence.wide) trivial ?_⟩
    clear hy
    have ha : ({ tmps := (#[p, p2].zip #[v, u]).foldl (fun tmps (t, a) => tmps.setIfInBounds t a) a.tmps, defers := [] } : Act) = (a.put (some p) v).put (some p2) u := by
      rw [show (#[p, p2].zip #[v, u]).foldl (fun tmps (t, a) => tmps.setIfInBounds t a) a.tmps = (a.tmps.setIfInBounds p v).setIfInBounds p2 u by simp]
      show _ = ({ tmps := (a.tmps.setIfInBounds p v).setIfInBounds p2 u, defers := a.defers } : Act)
      rw [hs1.defers, hd0]
    rw [ha]
    have hkH : ∀ b, b ∈ H.map (·.1) → T1 b := fun b hb => by obtain ⟨q, hq, rfl⟩ := List.mem_map.1 hb; exact k3 q hq
    have hlH : ¬ (w.heap.size + 1) ∈ H.map (·.1) := fun hm => by obtain ⟨q, hq, e⟩ := List.mem_map.1 hm; exact (k6 q hq).1 e
    have hDH : ¬ w.heap.size ∈ H.map (·.1) := fun hm => by obtain ⟨q, hq, e⟩ := List.mem_map.1 hm; exact (k6 q hq).2 e
    have s1 := ((hs1.rebase).put (t := p) (x := v) (d := x.1) (by simpa using hp) hv1).put (t := p2) (x := u) (d := x.2) (show p2 < st.n by simpa using hp2) hu1
    refine wpIn_mono (hround i x (w.heap.size + 1) H hx hI ⟨w1, F1, fun b => b ∈ H.map (·.1), base.dfr⟩ (fun hq => by cases hq) _ w1 ⟨F1, s1⟩) ?_
    rintro e a1 w2 ⟨st1, ⟨rfl, hb⟩, F2, s2⟩
    have hl2 : w2.heap[w.heap.size + 1]? = some (.loop (rec .ready)) := (s2.keep.block _ (k8 _ k4).1 hlH).trans k1
    have hD2 : w2.heap[w.heap.size]? = some (.deferred (some [])) := (s2.keep.block _ (k8 _ k5).1 hDH).trans k2
    have hlF2 : ∀ b, T1 b → ¬ F2 b := fun b hb x => by
      rcases (s2.lt b x).2 with y | y
      · exact (k8 b hb).2 y
      · exact absurd (k8 b hb).1 (Nat.not_lt.2 y)
    have hk1 : ∀ q ∈ st1.heap, T1 q.1 ∨ w1.heap.size ≤ q.1 := fun q hq => (s2.heap q hq).1.imp (hkH _) id
    have hl1n : ∀ q ∈ st1.heap, q.1 ≠ w.heap.size + 1 ∧ q.1 ≠ w.heap.size := fun q hq => ⟨fun e => by
        rcases (s2.heap q hq).1 with y | y
        · exact hlH (e ▸ y)
        · exact absurd (k8 _ k4).1 (Nat.not_lt.2 (e ▸ y)), fun e => by
        rcases (s2.heap q hq).1 with y | y
        · exact hDH (e ▸ y)
        · exact absurd (k8 _ k5).1 (Nat.not_lt.2 (e ▸ y))⟩
    refine ⟨_, run_beginRound hl2 (hne _).2.2.2.1, ?_⟩
    rw [hrs]
    have st2 := Step.putObj (.loop (rec .busy)) hl2 rfl
    have hlt2 := (Array.getElem?_eq_some_iff.1 hl2).1
    have s3 := ((s2.rebaseT (fun b => b ∈ st1.heap.map (·.1) ∨ b = w.heap.size + 1) (fun q hq => .inl (List.mem_map.2 ⟨q, hq, rfl⟩)) (fun b hb => hb.elim (fun h => (s2.keysLt h).1) (fun h => h ▸ hlt2))).stepT st2 (fun b hF e => hlF2 _ k4 (e ▸ hF)) (fun q hq e => (hl1n q hq).1 e) (fun b e => .inl (.inr e))).rebase
    have hl3 : (w2.putObj (w.heap.size + 1) (.loop (rec .busy))).heap[w.heap.size + 1]? = some (.loop (rec .busy)) := World.putObj_heap_same hlt2
    have hD3 : (w2.putObj (w.heap.size + 1) (.loop (rec .busy))).heap[w.heap.size]? = some (.deferred (some [])) := (World.putObj_heap_other (by omega)).trans hD2
    have hl1k : ¬ (w.heap.size + 1) ∈ st1.heap.map (·.1) := fun hm => by obtain ⟨q, hq, e⟩ := List.mem_map.1 hm; exact (hl1n q hq).1 e
    have hD1k : ¬ w.heap.size ∈ st1.heap.map (·.1) := fun hm => by obtain ⟨q, hq, e⟩ := List.mem_map.1 hm; exact (hl1n q hq).2 e
    have hsz3 : w2.heap.size ≤ (w2.putObj (w.heap.size + 1) (.loop (rec .busy))).heap.size := st2.size
    generalize w2.putObj (w.heap.size + 1) (.loop (rec .busy)) = W3 at *
    refine wpIn_mono (hb ⟨W3, F2, _, _⟩ (fun hq => by cases hq) a1 W3 ⟨F2, s3⟩) ?_
    rintro e a2 w4 ⟨st2', ⟨rfl, hI2⟩, F4, s4⟩
    have hl4 : w4.heap[w.heap.size + 1]? = some (.loop (rec .busy)) := (s4.keep.block _ (Array.getElem?_eq_some_iff.1 hl3).1 hl1k).trans hl3
    have hD4 : w4.heap[w.heap.size]? = some (.deferred (some [])) := (s4.keep.block _ (Array.getElem?_eq_some_iff.1 hD3).1 hD1k).trans hD3
    refine ⟨_, _, run_endRound none hl4, rfl, ?_⟩
    rw [show ({ rec .busy with state := if (none : Option Code).isNone then .ready else .done, pending := none } : Loop) = rec .ready from hrs2 _ _]
    have st5 := Step.putObj (.loop (rec .ready)) hl4 rfl
    have hlt4 := (Array.getElem?_eq_some_iff.1 hl4).1
    have hl5 : (w4.putObj (w.heap.size + 1) (.loop (rec .ready))).heap[w.heap.size + 1]? = some (.loop (rec .ready)) := World.putObj_heap_same hlt4
    have hD5 : (w4.putObj (w.heap.size + 1) (.loop (rec .ready))).heap[w.heap.size]? = some (.deferred (some [])) := (World.putObj_heap_other (by omega)).trans hD4
    generalize w4.putObj (w.heap.size + 1) (.loop (rec .ready)) = W5 at *
    have hw12 : w1.heap.size ≤ w2.heap.size := s2.keep.size
    have hw34 : W3.heap.size ≤ w4.heap.size := s4.keep.size
    have hF14 : ∀ b, F1 b → F4 b := fun b hb => s4.sub b (s2.sub b hb)
    have hF41 : ∀ b, F4 b → b < W5.heap.size ∧ (F1 b ∨ w1.heap.size ≤ b) := fun b hb => ⟨Nat.lt_of_lt_of_le (s4.lt b hb).1 st5.size, by
      rcases (s4.lt b hb).2 with y | y
      · exact (s2.lt b y).2
      · exact .inr (by have : W3.heap.size ≤ b := y; omega)⟩
    have hT1F : ∀ b, T1 b → ¬ F4 b := fun b hb x => by
      rcases (hF41 b x).2 with y | y
      · exact (k8 b hb).2 y
      · exact absurd (k8 b hb).1 (Nat.not_lt.2 y)
    have hk2 : ∀ q ∈ st2'.heap, T1 q.1 ∨ w1.heap.size ≤ q.1 := fun q hq => by
      rcases (s4.heap q hq).1 with y | y
      · obtain ⟨q', hq', e⟩ := List.mem_map.1 y
        rw [← e]; exact hk1 q' hq'
      · exact .inr (by have : W3.heap.size ≤ q.1 := y; omega)
    have hk2n : ∀ q ∈ st2'.heap, q.1 ≠ w.heap.size + 1 ∧ q.1 ≠ w.heap.size := fun q hq => by
      have hl3' := (Array.getElem?_eq_some_iff.1 hl3).1
      refine ⟨fun e => ?_, fun e => ?_⟩
      · rcases (s4.heap q hq).1 with y | y
        · exact hl1k (e ▸ y)
        · have : W3.heap.size ≤ q.1 := y; omega
      · rcases (s4.heap q hq).1 with y | y
        · exact hD1k (e ▸ y)
        · have : W3.heap.size ≤ q.1 := y; omega
    have hT' : ∀ b, (b ∈ st2'.heap.map (·.1) ∨ b = w.heap.size + 1 ∨ b = w.heap.size) → b < W5.heap.size ∧ ¬ F4 b ∧ (T1 b ∨ w1.heap.size ≤ b) := fun b hb => by
      rcases hb with hb | rfl | rfl
      · obtain ⟨q, hq, rfl⟩ := List.mem_map.1 hb
        exact ⟨Nat.lt_of_lt_of_le (s4.heap q hq).2.2.lt st5.size, (s4.heap q hq).2.1, hk2 q hq⟩
      · exact ⟨(Array.getElem?_eq_some_iff.1 hl5).1, hT1F _ k4, .inl k4⟩
      · exact ⟨(Array.getElem?_eq_some_iff.1 hD5).1, hT1F _ k5, .inl k5⟩
    have kall : Step T1 w1 W5 := by
      refine Step.then (Step.then (Step.then (s2.keep.mono (fun i _ h => hkH i h)) st2 (fun i hi e => e ▸ k4)) s4.keep (fun i hi hb => ?_)) st5 (fun i hi e => e ▸ k4)
      obtain ⟨q, hq, rfl⟩ := List.mem_map.1 hb
      rcases hk1 q hq with y | y
      · exact y
      · exact absurd hi (Nat.not_lt.2 y)
    have hown : ∀ b, (T1 b ∨ w1.heap.size ≤ b) → base.own b ∨ base.w.heap.size ≤ b := fun b hb => hb.elim (k7 b) (fun y => .inr (Nat.le_trans hs1.keep.size y))
    refine ⟨F4, _, hF14, hF41, hT', kall, ?_⟩
    rw [hJ]
    have hblk : ∀ b, F1 b → W5.heap[b]? = w1.heap[b]? := fun b hb => kall.block b (hlt b hb) (fun ht => (k8 b ht).2 hb)
    refine ⟨st2'.heap, hI2, ?_, hl5, hD5, fun q hq => .inl (List.mem_map.2 ⟨q, hq, rfl⟩), .inr (.inl rfl), .inr (.inr rfl), hk2n, fun b hb => hown b (hT' b hb).2.2, fun b hb => ⟨(hT' b hb).1, (hT' b hb).2.1⟩⟩
    exact {
      keep := hs1.keep.then kall (fun i hi hb => (k7 i hb).resolve_right (by omega))
      base_lt := hs1.base_lt
      sub := fun b hb => hF14 b (hs1.sub b hb)
      lt := fun b hb => ⟨(hF41 b hb).1, (hF41 b hb).2.elim (fun y => (hs1.lt b y).2) (fun y => .inr (Nat.le_trans hs1.keep.size y))⟩
      env := C.E.mono hblk hF14 hs1.env
      size := hs1.size
      slots := fun t d ht => ⟨(hs1.slots t d ht).1, (hs1.slots t d ht).2.mono hblk kall.shape hF14⟩
      heap := fun q hq => by
        obtain ⟨y1, y2, y3⟩ := s4.heap q hq
        exact ⟨hown _ (hk2 q hq), y2, y3.mono (st5.block _ y3.lt (fun e => (hk2n q hq).1 e)) (fun b hb => st5.block b (s4.lt b hb).1 (fun e => hT1F _ k4 (e ▸ hb))) st5.shape (fun _ x => x)⟩
      keys := s4.keys
      defers := hs1.defers }
  have hJ0 : J 0 W1 F (fun b => b ∈ st.heap.map (·.1) ∨ b = w.heap.size + 1 ∨ b = w.heap.size) := by
    rw [hJ]
    have hlt1 := (Array.getElem?_eq_some_iff.1 hL1).1
    refine ⟨st.heap, h0, hs.world hst1, hL1, hD1, fun q hq => .inl (List.mem_map.2 ⟨q, hq, rfl⟩), .inr (.inl rfl), .inr (.inr rfl), fun q hq => ?_, fun b hb => ?_, fun b hb => ?_⟩
    · have := (hs.heap q hq).2.2.lt
      omega
    · rcases hb with hb | rfl | rfl
      · obtain ⟨q, hq, rfl⟩ := List.mem_map.1 hb; exact (hs.heap q hq).1
      · exact .inr (by omega)
      · exact .inr (by omega)
    · rcases hb with hb | rfl | rfl
      · exact ⟨Nat.lt_of_lt_of_le (hs.keysLt hb).1 hst1.size, (hs.keysLt hb).2⟩
      · exact ⟨hlt1, hnoF _ (by omega)⟩
      · exact ⟨by omega, hnoF _ (by omega)⟩
  refine ⟨w.heap.size + 1, [{ target := .collected w.heap.size, args := #[] }], W1, { target := .fn (.func f) us, args := #[.func (.yield (w.heap.size + 1)) #[] #[]] }, W1, f, #[.func (.yield (w.heap.size + 1)) #[] #[]] ++ us, W1, ?_, ?_, fun _ _ => trivial, ?_, fun e => by simp [Fence.wide] at e, ?_⟩
  · rw [← hW1, hrec]; exact run_enterLoop_outer _ _ _ _ _
  · simp only [resolve, hv]
    simp [go_sem]
  · simp only [invoke]
    exact run_callFunc hit.1 _ _
  · refine (callsIn_wide (n := 0 - 1)).2 (Calls.mono (hit.2 (w.heap.size + 1) J W1 F _ us hKeep hRounds (hs.world hst1).env (fun b hb => ((hs.world hst1).lt b hb).1) (fun b hb => ?_) hJ0 hl (fun j x d h1 h2 => (hr j x d h1 h2).mono (fun b hb => hst1.block b (hs.lt b hb).1 (fun x => x)) hst1.shape (fun _ x => x))) ?_)
    · have := hJ0
      rw [hJ] at this
      obtain ⟨_, _, _, _, _, _, _, _, _, _, k8⟩ := this
      exact k8 b hb
    · rintro e w5 ⟨⟨v, rfl⟩, F5, T5, hj⟩
      rw [hJ] at hj
      obtain ⟨H, hI, hs1, k1, k2, k3, k4, k5, k6, k7, k8⟩ := hj
      refine ⟨none, _, (run_endLoop k1 (by rw [(hne _).2.2.2.1]; simp)).trans (by rw [(hne .ready).2.2.2.2.1]), true, _, hdone H hI, F5, w.heap.size, ?_, by rw [hs.defers, hd0]; rfl, (World.putObj_heap_other (by omega)).trans k2, (k8 _ k5).2, fun q hq => (k6 q hq).2, hbw⟩
      have e : ({ ({ a with defers := [{ target := .collected w.heap.size, args := #[] }] ++ a.defers } : Act) with defers := [] } : Act) = a := by
        show ({ tmps := a.tmps, defers := [] } : Act) = a
        rw [← hs.defers.trans hd0]
      rw [e]
      exact hs1.stepT (T := (· = w.heap.size + 1)) (Step.putObj _ k1 rfl) (fun b hF e => (k8 _ k4).2 (e ▸ hF)) (fun q hq e => (k6 q hq).1 e) (fun b e => k7 b (e ▸ k4))

/-! ### a piece that leaves the own blocks as they are -/
end
end Go.GH
namespace Go.GH
open Go Go.RowKit
/-- The operations, in whatever order may come, lead where Q says. -/
theorem noDef_at {l : List Oper} : noDef l = true → ∀ {i : Nat} {o : Oper}, l[i]? = some o → (match o.op with | .defer _ => false | _ => true) = true := by
  induction l with
  | nil => intro _ i o h; simp at h
  | cons p l ih =>
    intro hd i o h
    rw [noDef, Bool.and_eq_true] at hd
    cases i with
    | zero => simp at h; subst h; exact hd.1
    | succ i => exact ih hd.2 (by simpa using h)
theorem wpAnyIn_of {P : Program} {l : List Oper} {Q : Exit → Act → World → Prop} (ro : Option Nat) (n : Nat) (hd : noDef l = true) (hQ : ∀ a w, ¬ Q .outgrown a w) : ∀ (fuel : Nat) (listed : Array Bool) (a : Act) (w : World), wpAny P .any l.toArray Q fuel listed a w → wpAnyIn (FW ro) n P .any l.toArray Q fuel listed a w
  | 0, _, _, _, h => h
  | fuel + 1, listed, a, w, h => by
    refine ⟨h.1, fun i hi => ?_⟩
    have h2 := h.2 i hi
    unfold wpOp at h2
    unfold wpOpIn
    split at h2
    · rename_i ho
      simp only [ho]
      exact wpAnyIn_of ro n hd hQ fuel _ a w h2
    · rename_i o ho
      simp only [ho]
      by_cases hw : Region.wanted o (yielded l.toArray a.tmps) = true
      · rw [if_pos hw] at h2 ⊢
        rcases h2 with h2 | ⟨_, a0, w0, h2⟩
        · refine ⟨fun _ _ => trivial, ?_⟩
          rw [Oper.semAt_eq _ _ _ (noDef_head (noDef_at hd (by simpa using ho)))]
          exact uponIn_of (fun a w h => wpAnyIn_of ro n hd hQ fuel _ a w h) _ h2
        · exact absurd h2 (hQ _ _)
      · rw [if_neg hw] at h2 ⊢
        exact ⟨fun _ _ => trivial, wpAnyIn_of ro n hd hQ fuel _ _ _ h2⟩
theorem SDraw.round {C : Ctx} {id k : Nat} {l : List Oper} {st : St} {Q : Exit → St → Prop} (hm : C.P.follows .mixedOrders = true) (h : SDraw C l st (fun e st' => e = .normal ∧ Q e st')) (hd : noDef l = true := by rfl) : SRound C k (.region id l.toArray true) st Q :=
  fun base ok a w hs => wpIn_mono (wpIn_region_any hm (wpAnyIn_of (some k) 0 hd (fun a w ⟨st', q, _⟩ => by cases q.1) _ _ _ _ (h base ok a w hs))) (fun e a' w' ⟨st', q, s⟩ => ⟨st', q.2, s⟩)
theorem SRound.drawG {C : Ctx} {id k : Nat} {l : List Oper} {n : Nat} {s : List (Nat × DV)} {H : DHeap} {Q : Exit → St → Prop} {D : List (Ids → ORes)} (f : Nat) (ts : List (Option Nat)) (srcs : List (List (Nat ⊕ Nat))) (Ts : List (List Nat)) (cls : List (Option (Nat × Nat))) (Ss : List (List Nat)) (base : DHeap) (xs : List Chn) (hm : C.P.follows .mixedOrders = true)
    (hB : genB l ts srcs Ts cls Ss f = true) (hT : xs.map (·.T) = Ts) (hH : ∀ b, (base ++ (xs.map (fun x => x.X b 0)).flatten).Perm H)
    (hops : GOk C l.toArray n base s xs [] l srcs cls Ss D) (hts : ∀ b, D.map (fun r => (r b).map (·.1)) = ts)
    (hQ : ∀ b, Q .normal ⟨n, resO (D.map (fun r => r b)) ++ s, base ++ (xs.map (fun x => x.X b x.T.length)).flatten⟩) (hd : noDef l = true := by rfl) : SRound C k (.region id l.toArray true) ⟨n, s, H⟩ Q :=
  SDraw.round hm (SDraw.gen f ts srcs cls Ss base xs (by rw [hT]; exact hB) hH hops hts (fun b => ⟨rfl, hQ b⟩)) hd
end Go.GH
namespace Go.GH
open Go Go.RowKit
section
variable {C : Ctx} {E : Env} {base : Base} {F : Nat → Prop} {st : St} {a : Act} {w : World} {ops : Array Oper} {rest : List Oper} {R : St → Prop}
  {t : Tmp} {ty : TypeId} {pos : String} {aft : Array Edge} {g : Option (Nat × Bool)}
theorem run_bounds3 {P : Program} (hs : SimF E base F st a w) {lo hi mx : Operand} {len cap l h m : Nat} {k1 k2 k3 : IntKind} (b : Bool) (hl : st.val lo = some (.v (.int k1 (l : Int)))) (hh : st.val hi = some (.v (.int k2 (h : Int)))) (hm : st.val mx = some (.v (.int k3 (m : Int)))) (h1 : l ≤ h) (h2 : h ≤ m) (h3 : m ≤ cap) :
    (Instr.sliceBounds b len cap (some (a.eval lo)) (some (a.eval hi)) (some (a.eval mx))).run P w = .ok (l, h, m) w := by
  have key : ∀ (k : IntKind) (n y : Nat) (c : BoundsCode), n ≤ y → (Instr.sliceBound (.int k (n : Int)) y c).run P w = .ok n w := fun k n y c hn => by
    simp [Instr.sliceBound, asIntOf, hn]
  simp [Instr.sliceBounds, (hs.val hl).inv_v.1, (hs.val hh).inv_v.1, (hs.val hm).inv_v.1, key _ _ _ _ h1, key _ _ _ _ h2, key _ _ _ _ h3]
theorem exec_slice3 (a : Act) (T : TypeId) (xo lo hi mx : Operand) : execOp a.eval ⟨some t, .slice T xo (some lo) (some hi) (some mx), ty, pos, aft, g⟩ = (do pure (.value (← Instr.sliceAt T (a.eval xo) (some (a.eval lo)) (some (a.eval hi)) (some (a.eval mx))))) := rfl
theorem SOps.sliceIsl3 {T e sz : Nat} {xo lo hi mx : Operand} {nn : Bool} {es : List (List DV)} {k1 k2 k3 : IntKind} (l h m : Nat) (hT : sliceB C.P T e sz = true) (hx : st.val xo = some (.isl nn sz es)) (hl : st.val lo = some (.v (.int k1 (l : Int)))) (hh : st.val hi = some (.v (.int k2 (h : Int)))) (hm : st.val mx = some (.v (.int k3 (m : Int)))) (h1 : l ≤ h) (h2 : h ≤ m) (h3 : m ≤ es.length)
    (hrest : SOps C ops rest (st.put t (.isl nn sz ((es.drop l).take (h - l)))) R)
    (hg : st.wants ops g = some true := by rfl) (ht : Nat.blt t st.n = true := by rfl) : SOps C ops (⟨some t, .slice T xo (some lo) (some hi) (some mx), ty, pos, aft, g⟩ :: rest) st R :=
  SOps.val rfl hg ht (fun base a w F hs => by
    have h4 := hs.val hx
    generalize hv : a.eval xo = v at h4
    obtain ⟨hu, i, hi', hsz'⟩ := sliceB_spec hT
    cases h4 with
    | @isl A len cap nn sz es b o xs hlen hcap hB hnn hA hsz hc hr =>
      have hb := run_bounds3 (P := C.P) (len := len) hs true hl hh hm h1 h2 (show m ≤ cap by omega)
      have hget : ∀ (i : Nat) e, ((es.drop l).take (h - l))[i]? = some e → i < h - l ∧ es[l + i]? = some e := fun i e he => by
        rw [List.getElem?_take] at he
        split at he
        · rename_i hlt; rw [List.getElem?_drop] at he; exact ⟨hlt, he⟩
        · cases he
      refine ⟨.slice (if m = l then A else A.map (·.add (l * sz))) (h - l) (m - l), ?_, .isl (b := b) (o := o + l * sz) (fun i j => xs (l + i) j) (by simp; omega) (by omega) (by simp; omega) (fun hn => ?_) (fun hne => ?_) (fun i e he => hsz _ e (hget i e he).2) (fun i e j d he hj => ?_) (fun i e j d he hj => hr _ e j d (hget i e he).2 hj)⟩
      · rw [exec_slice3, hv]
        simp only [Instr.sliceAt, Instr.slice, Sem.run_bind, run_underlying hu, Result.andThen_ok, hb, sizeOf, typeInfo, run_program, hi', Sem.run_pure, hsz']
      · split
        · exact hnn hn
        · intro e; exact hnn hn (Option.map_eq_none_iff.1 e)
      · have hlh : l < h := by
          rcases Nat.lt_or_ge l h with h' | h'
          · exact h'
          · exact absurd (List.eq_nil_of_length_eq_zero (by simp; omega)) hne
        have hes : es ≠ [] := by intro e; simp [e] at h3; omega
        obtain ⟨rfl, hF⟩ := hA hes
        rw [if_neg (by omega)]
        exact ⟨by simp [add_plain'], hF⟩
      · have := hc _ e j d (hget i e he).2 hj
        rw [Nat.add_mul, Nat.add_assoc] at this
        rw [Nat.add_assoc]
        exact this) hrest
theorem SOps.sliceM3 {α : Type} {T e sz : Nat} {xo lo hi mx : Operand} {nn : Bool} {f : α → List DV} {xs : List α} {k1 k2 k3 : IntKind} {zl zh zm : Int} (l h m : Nat) (hT : sliceB C.P T e sz = true) (hx : st.val xo = some (.isl nn sz (xs.map f))) (hl : st.val lo = some (.v (.int k1 zl))) (el : zl = (l : Int)) (hh : st.val hi = some (.v (.int k2 zh))) (eh : zh = (h : Int)) (hm : st.val mx = some (.v (.int k3 zm))) (em : zm = (m : Int)) (h1 : l ≤ h) (h2 : h ≤ m) (h3 : m ≤ xs.length)
    (hrest : SOps C ops rest (st.put t (.isl nn sz (((xs.drop l).take (h - l)).map f))) R)
    (hg : st.wants ops g = some true := by rfl) (ht : Nat.blt t st.n = true := by rfl) : SOps C ops (⟨some t, .slice T xo (some lo) (some hi) (some mx), ty, pos, aft, g⟩ :: rest) st R := by
  subst el; subst eh; subst em
  exact SOps.sliceIsl3 l h m hT hx hl hh hm h1 h2 (by rw [List.length_map]; exact h3) (by rw [← List.map_drop, ← List.map_take]; exact hrest) hg ht
end
end Go.GH
namespace Go.GH
open Go Go.Proofs
variable {E : Env}
theorem elemB_22_1_24 : elemB Tryz.prog 22 1 24 = true := by kernel_rfl
theorem flatB_73 : flatB Tryz.prog 73 = true := by kernel_rfl
theorem oneB_73 : oneB Tryz.prog 73 = true := by kernel_rfl
theorem zeroIs_22 : zeroIs Tryz.prog 22 (.slice none 0 0) := by unfold zeroIs; kernel_rfl
theorem zeroIs_73 : zeroIs Tryz.prog 73 (.slice none 0 0) := by unfold zeroIs; kernel_rfl
/-- How many pieces. -/
def chN (k n : Nat) : Nat := (k + n - 1) / n
def chI {α : Type} (l : List α) (n i : Nat) : List α := (l.drop (i * n)).take n
def chL {α : Type} (l : List α) (n : Nat) : List (List α) := (List.range (chN l.length n)).map (chI l n)
theorem chN_lt {k n i : Nat} (hn : 1 ≤ n) : i < chN k n ↔ i * n < k := by
  unfold chN
  rw [Nat.lt_iff_add_one_le, Nat.le_div_iff_mul_le (by omega), Nat.succ_mul]
  omega
theorem chL_len {α : Type} (l : List α) (n : Nat) : (chL l n).length = chN l.length n := by simp [chL]
theorem chL_get {α : Type} {l : List α} {n i : Nat} (hn : 1 ≤ n) (h : i * n < l.length) : (chL l n)[i]? = some (chI l n i) := by
  unfold chL
  rw [List.getElem?_map, List.getElem?_range ((chN_lt hn).2 h)]
  rfl
def chD (l : List ByteArray) (n : Nat) : List DV := (chL l n).map (fun x => DStrs x)
theorem chD_get {l : List ByteArray} {n i m : Nat} (hn : 1 ≤ n) (h : i * n < l.length) (hm : (l.drop (i * n)).take m = chI l n i) : (chD l n)[i]? = some (DStrs ((l.drop (i * n)).take m)) := by
  unfold chD
  rw [List.getElem?_map, chL_get hn h, hm]
  rfl
theorem chI_min {α : Type} (l : List α) (n i : Nat) : (l.drop (i * n)).take (min n (l.length - i * n)) = chI l n i := by
  unfold chI
  rw [List.take_eq_take_iff, List.length_drop]
  omega
theorem cChunk (l : List ByteArray) (n : Nat) (hn : 1 ≤ n) : GCall Tryz.prog E 76 [DStrs l, .v (.int .i64 (n : Int))] [] (fun d H => d = .fn 111 [.ipin [DStrs l], .ipin [.v (.int .i64 (n : Int))]] ∧ H = []) := by
 refine GCall.body (C := ⟨Tryz.prog, E, true⟩) Tryz.func76 rfl (fun _ => rfl) (by kernel_rfl) rfl ?_
 refine SCode.seqR (SOps.boxF rfl rfl rfl (SOps.boxF rfl rfl rfl (SOps.assign rfl (SOps.nil (SCode.seq (SCode.seqR (SOps.loadPin rfl flatB_3 (SOps.bin rfl rfl rfl (SOps.nil ?_)))))))))
 refine SCode.cond rfl (fun hc1 => ?_) (fun hc1 => ?_)
 ·try simp only [nmL] at hc1
  refine SCode.region ?_
  exfalso
  omega
 ·try simp only [nmL] at hc1
  refine SCode.skip ?_
  show SCode _ _ _ _
  refine SCode.seqR (SOps.makeFunc rfl (SOps.assign rfl (SOps.nil (SCode.ret ?_))))
  exact ⟨_, Res.one (.tmp rfl), rfl, rfl⟩
theorem iChunk (l : List ByteArray) (n : Nat) (hn : 1 ≤ n) (hn2 : n ≤ 1048576) (hl : l.length ≤ 1048576) : GIter Tryz.prog E 111 [.ipin [DStrs l], .ipin [.v (.int .i64 (n : Int))]] (chD l n) := by
  refine GIter.body (C := ⟨Tryz.prog, E, true⟩) Tryz.func111 rfl (by kernel_rfl) rfl rfl (fun l9 J hK hY => ?_)
  refine SYCode.seqR (SYOps.one hK (SOps.assign rfl (SOps.nil rfl)) rfl rfl (SYOps.nil (SYCode.block (SYCode.loop1 (ι := fun i => i) (hx := by rfl) (fun (i : Nat) => (⟨31, [(0, .v (.func (.yield l9) #[] #[])), (1, .ipin [DStrs l]), (2, .ipin [.v (.int .i64 (n : Int))]), (4, .v (.int .i64 ((i * n : Nat) : Int)))], []⟩ : St)) (fun (i : Nat) => i ≤ chN l.length n) (fun (i : Nat) => l.length - i * n) (0) (by exact Nat.zero_le _) (St.Le.of ⟨(by first | rfl | (show some _ = some _; simp)), (by first | rfl | (show some _ = some _; simp)), (by first | rfl | (show some _ = some _; simp)), (by first | rfl | (show some _ = some _; simp)), trivial⟩ rfl (by first | rfl | (simp))) ?_))))
  rintro i hi
  refine SYCode.seq (SYCode.seqR (SYOps.one hK (SOps.move rfl (SOps.nil rfl)) rfl rfl (SYOps.one hK (SOps.loadPin rfl flatB_22 (SOps.nil rfl)) rfl rfl (SYOps.one hK (SOps.lenM rfl sliceB_22_9_1 (SOps.nil rfl)) rfl rfl (SYOps.one hK (SOps.bin rfl rfl rfl (SOps.nil rfl)) rfl rfl (SYOps.nil ?_))))))
  refine SYCode.cond rfl (fun hc1 => ?_) (fun hc1 => ?_)
  · try simp only [nmL] at hc1
    refine SYCode.skip ?_
    show SYCode _ _ _ _ _ _
    refine SYCode.seq (SYCode.block (SYCode.seq ?_))
    have hlt : i * n < l.length := by omega
    have hsm : (i + 1) * n = i * n + n := Nat.succ_mul _ _
    have hov : i * n = 0 ∨ n ≤ i * n := by rcases Nat.eq_zero_or_pos i with h | h; exact .inl (by rw [h, Nat.zero_mul]); exact .inr (Nat.le_mul_of_pos_left _ h)
    have hsc : ((i * n : Nat) : Int) = (i : Int) * (n : Int) := Int.natCast_mul _ _
    refine SYCode.of hK rfl ?_
    apply SCode.drawAuto mixed_ [13, 14, 15, 16, 17, 18, 5] [[.inr 2], [.inr 1], [.inr 4], [.inl 1, .inl 2], [.inl 3], [.inl 0, .inl 4], [.inl 5]]
    · kernel_rfl
    · kernel_rfl
    · apply DOk.cons 13 
      · rfl
      · exact (NeedIs.inr _ rfl NeedIs.nil)
      · intro rest
        refine SOps.loadPin rfl flatB_3 ?_
        exact SOps.nil rfl
      apply DOk.cons 14 
      · rfl
      · exact (NeedIs.inr _ rfl NeedIs.nil)
      · intro rest
        refine SOps.loadPin rfl flatB_22 ?_
        exact SOps.nil rfl
      apply DOk.cons 15 
      · rfl
      · exact (NeedIs.inr _ rfl NeedIs.nil)
      · intro rest
        refine SOps.move rfl ?_
        exact SOps.nil rfl
      apply DOk.cons 16 
      · rfl
      · exact (NeedIs.inl 1 _ _ rfl rfl (NeedIs.inl 0 _ _ rfl rfl NeedIs.nil))
      · intro rest
        refine SOps.sliceD (n1 := 0) (i * n) sliceB_22_9_1 rfl rfl (by first | omega | (simp only [lenB]; omega) | (simp only [List.length_map, lenB]; omega) | (simp; done)) (by first | omega | (simp only [lenB]; omega) | (simp only [List.length_map, lenB]; omega) | (simp; done)) ?_
        exact SOps.nil rfl
      apply DOk.cons 17 
      · rfl
      · exact (NeedIs.inl 0 _ _ rfl rfl NeedIs.nil)
      · intro rest
        refine SOps.lenM rfl sliceB_22_9_1 ?_
        exact SOps.nil rfl
      apply DOk.cons 18 
      · rfl
      · exact (NeedIs.inl 4 _ _ rfl rfl (NeedIs.inl 0 _ _ rfl rfl NeedIs.nil))
      · intro rest
        refine SOps.minI rfl rfl (by split <;> exact has_i64 (by first | omega | (simp only [lenB]; omega) | (simp only [List.length_map, lenB]; omega) | (simp; done)) (by first | omega | (simp only [lenB]; omega) | (simp only [List.length_map, lenB]; omega) | (simp; done))) ?_
        exact SOps.nil rfl
      apply DOk.cons 5 
      · rfl
      · exact (NeedIs.inl 0 _ _ rfl rfl NeedIs.nil)
      · intro rest
        refine SOps.assign rfl ?_
        exact SOps.nil rfl
      exact DOk.nil
    · rfl
    · show SYCode _ _ _ _ _ _
      refine SYCode.seqR ?_
      refine SYOps.relab (t := 5) (d' := .v (.int .i64 ((min n (l.length - i * n) : Nat) : Int))) rfl (fun w F v hv => by refine Eq.mp (congrArg (fun z => Rep w F v (DV.v (Value.int .i64 z))) ?_) hv; simp only [lenB, List.length_drop, List.length_map]; split <;> omega) ?_
      refine SYOps.one hK (SOps.move rfl (SOps.nil rfl)) rfl rfl (SYOps.one hK (SOps.loadPin rfl flatB_22 (SOps.nil rfl)) rfl rfl (SYOps.one hK (SOps.move rfl (SOps.nil rfl)) rfl rfl (SYOps.one hK (SOps.move rfl (SOps.nil rfl)) rfl rfl (SYOps.one hK (SOps.move rfl (SOps.nil rfl)) rfl rfl (SYOps.one hK (SOps.addI rfl rfl (by first | omega | (simp only [lenB]; omega) | (simp only [List.length_map, lenB]; omega) | (simp; done)) (by first | omega | (simp only [lenB]; omega) | (simp only [List.length_map, lenB]; omega) | (simp; done)) (SOps.nil rfl)) rfl rfl (SYOps.one hK (SOps.move rfl (SOps.nil rfl)) rfl rfl (SYOps.one hK (SOps.move rfl (SOps.nil rfl)) rfl rfl (SYOps.one hK (SOps.addI rfl rfl (by first | omega | (simp only [lenB]; omega) | (simp only [List.length_map, lenB]; omega) | (simp; done)) (by first | omega | (simp only [lenB]; omega) | (simp only [List.length_map, lenB]; omega) | (simp; done)) (SOps.nil rfl)) rfl rfl (SYOps.one hK (SOps.sliceM3 (i * n) (i * n + min n (l.length - i * n)) (i * n + min n (l.length - i * n)) sliceB_22_9_1 rfl rfl rfl rfl (by omega) rfl (by omega) (by omega) (by omega) (by omega) (SOps.nil rfl)) rfl rfl (SYOps.yield hY rfl rfl (chD_get hn hlt (by rw [show i * n + min n (l.length - i * n) - i * n = min n (l.length - i * n) by omega]; exact chI_min _ _ _)) rfl (SYOps.one hK (SOps.un rfl rfl (SOps.nil rfl)) rfl rfl (SYOps.nil ?_))))))))))))
      refine SYCode.cond rfl (fun h => by cases h) (fun _ => ?_)
      refine SYCode.skip ?_
      show SYCode _ _ _ _ _ _
      refine SYCode.region (SYOps.one hK (SOps.move rfl (SOps.nil rfl)) rfl rfl (SYOps.one hK (SOps.loadPin rfl flatB_3 (SOps.nil rfl)) rfl rfl (SYOps.one hK (SOps.addI rfl rfl (by first | omega | (simp only [lenB]; omega) | (simp only [List.length_map, lenB]; omega) | (simp; done)) (by first | omega | (simp only [lenB]; omega) | (simp only [List.length_map, lenB]; omega) | (simp; done)) (SOps.nil rfl)) rfl rfl (SYOps.one hK (SOps.assign rfl (SOps.nil rfl)) rfl rfl (SYOps.nil ?_)))))
      exact ⟨i + 1, (chN_lt hn).2 hlt, by rw [hsm]; omega, St.Le.of ⟨rfl, rfl, rfl, (by show some _ = some _; rw [hsm]; first | done | rfl | (congr 3; omega)), trivial⟩, rfl⟩
  · try simp only [nmL] at hc1
    refine SYCode.exit ?_
    exact ⟨.inl rfl, by show i = _; rw [show (chD l n).length = chN l.length n by simp [chD, chL_len]]; have h9 := (chN_lt (k := l.length) (i := i) hn); omega⟩
theorem sClone (p : List ByteArray) (hp : p.length ≤ 1048576) : GCall Tryz.prog E 77 [DStrs p] [] (fun d H => d = DStrs p ∧ H = []) := by
 refine GCall.body (C := ⟨Tryz.prog, E, true⟩) Tryz.func77 rfl (fun _ => rfl) (by kernel_rfl) rfl ?_
 refine SCode.seqR (SOps.assign rfl (SOps.nil (SCode.seq (SCode.seqR (SOps.move rfl ?_)))))
 refine SOps.eqNilS Tryz.underlying22 rfl rfl (fun c0 hz0 => ?_)
 refine SOps.nil ?_
 refine SCode.cond rfl (fun hc1 => ?_) (fun hc1 => ?_)
 ·try simp only [nmL] at hc1
  have ha0 : p = [] := List.map_eq_nil_iff.1 (hz0 hc1)
  refine SCode.seqR (SOps.assign rfl (SOps.nil (SCode.nilIsl (t := 2) (sz := 1) rfl (SCode.ret ?_))))
  exact ⟨_, Res.one (.tmp rfl), by rw [ha0]; rfl, rfl⟩
 ·try simp only [nmL] at hc1
  refine SCode.skip ?_
  show SCode _ _ _ _
  refine SCode.seqR ?_
  refine SOps.litO sliceB_22_9_1 zeroIs_9 rfl (fun b1 hb_1 => ?_)
  refine SOps.move rfl ?_
  refine SOps.appendOwnE 0 sliceB_22_9_1 elemB_9_1_16 rfl rfl rfl (by simp) SrcD.isl (by simp [lenB]; omega) (by simp; omega) (fun bC => ?_)
  refine SOps.freezeS (t := 7) 0 rfl rfl rfl (by simp) (SOps.assign rfl (SOps.nil (SCode.ret ?_)))
  exact ⟨_, Res.one (.tmp rfl), rfl, rfl⟩
def sheetsR (l : List ByteArray) (n : Int) : List (List ByteArray) × Int := if wideB n then (chL l n.toNat, 0) else ([], 1)
theorem chL_next {α : Type} {l : List α} {n i : Nat} {x : List α} (h : (chL l n)[i]? = some x) : (chL l n).take (i + 1) = (chL l n).take i ++ [x] := by
  obtain ⟨hi, rfl⟩ := List.getElem?_eq_some_iff.1 h
  exact take_next hi
theorem chL_few {α : Type} (l : List α) {n : Nat} (hn : 1 ≤ n) : (chL l n).length ≤ l.length := by
  rw [chL_len]
  rcases Nat.lt_or_ge l.length (chN l.length n) with h | h
  · have h1 := (chN_lt hn).1 h
    have h2 := Nat.le_mul_of_pos_right l.length hn
    omega
  · exact h
theorem chI_len {α : Type} {l : List α} {n i : Nat} {x : List α} (h : (chL l n)[i]? = some x) : x.length ≤ l.length := by
  unfold chL at h
  rw [List.getElem?_map] at h
  obtain ⟨j, _, rfl⟩ := Option.map_eq_some_iff.1 h
  simp [chI]
  omega
theorem cSheets0 (l : List ByteArray) (n : Int) (hl : l.length ≤ 1048576) : GCall Tryz.prog E 32 [DStrs l, .v (.int .i64 n)] [] (fun d H => ∃ k, d = .tup [accD 1 k ((sheetsR l n).1.map encW), .v (.int .i64 (sheetsR l n).2)] ∧ ∀ p ∈ accH 22 1 k ((sheetsR l n).1.map encW), p ∈ H) := by
 refine GCall.bodyM (C := ⟨Tryz.prog, E, true⟩) Tryz.func32 rfl (fun _ => rfl) (by kernel_rfl) rfl ?_
 refine SMCode.seqRS (SOps.assign rfl (SOps.assign rfl (SOps.nil (SMCode.seqS (SCode.seqR (SOps.move rfl (SOps.callP (jLimited _) rfl ?_)))))))
 rintro _ rfl
 refine SOps.un rfl rfl (SOps.nil ?_)
 refine SCode.cond rfl (fun hc1 => ?_) (fun hc1 => ?_)
 ·try simp only [nmL] at hc1
  refine SCode.seqR (SOps.assign rfl (SOps.assign rfl (SOps.nil (SCode.ret ?_))))
  exact ⟨_, Res.two (.tmp rfl) (.tmp rfl), 0, by unfold sheetsR; rw [if_neg (by simp_all)]; rfl, by unfold sheetsR; rw [if_neg (by simp_all)]; exact fun p hp => by cases hp⟩
 ·try simp only [nmL] at hc1
  refine SCode.skip ?_
  show SMCode _ _ _ _ _
  refine SMCode.seqRS ?_
  obtain ⟨m, rfl⟩ : ∃ m : Nat, n = (m : Int) := ⟨n.toNat, by have := wideX_iff.1 (by assumption); omega⟩
  have hw := wideX_iff.1 (by assumption)
  refine SOps.alloc (sz := 1) zeroIs_73 (fun b0 hb_0 => ?_)
  refine SOps.nil (SMCode.seq (SMCode.seqRS (SOps.move rfl (SOps.move rfl (SOps.callP (cChunk _ _ (by omega)) rfl ?_)))))
  rintro _ rfl
  refine SOps.nil (SMCode.block (SMCode.weaken (st' := (⟨21, [(13, .fn 111 [.ipin [DStrs l], .ipin [.v (.int .i64 (m : Int))]]), (6, .ref b0 0)], ([(b0, .row 73 1 [[accD 1 0 (((chL l m).take 0).map encW)]])] ++ (accH 22 1 0 (((chL l m).take 0).map encW) ++ []))⟩ : St)) (St.Le.of ⟨rfl, rfl, trivial⟩ rfl rfl) ?_))
  refine SMCode.range rfl (iChunk l m (by omega) (by omega) hl) (fun i H => ∃ k, List.Sublist ([(b0, .row 73 1 [[accD 1 k (((chL l m).take i).map encW)]])] ++ (accH 22 1 k (((chL l m).take i).map encW) ++ [])) H) ⟨0, List.Sublist.refl _⟩ rfl (fun i x l9 H hx hI => ?_) (fun H hI => ?_)
  ·obtain ⟨k, hsub⟩ := hI
   obtain ⟨x, hx0, rfl⟩ : ∃ y, (chL l m)[i]? = some y ∧ DStrs y = x := by unfold chD at hx; rw [List.getElem?_map] at hx; exact Option.map_eq_some_iff.1 hx
   have hnx := chL_next hx0
   have hxl := chI_len hx0
   have hfew := chL_few l (n := m) (by omega)
   have htl : ((chL l m).take i).length ≤ l.length := by simp; omega
   refine SRound.weaken (st' := (⟨21, [(14, DStrs x), (6, .ref b0 0)], ([(b0, .row 73 1 [[accD 1 k (((chL l m).take i).map encW)]])] ++ (accH 22 1 k (((chL l m).take i).map encW) ++ []))⟩ : St)) (St.Le.ofSub ⟨rfl, rfl, trivial⟩ hsub) (SRound.region (SOps.assign rfl (SOps.nil ?_)))
   refine ⟨rfl, ?_⟩
   refine SRound.block ?_
   apply SRound.drawG 7 [some 15, some 16, some 17, some 18, some 19, none] [[.inr 6], [.inr 7], [.inl 1], [.inl 2], [.inl 0, .inl 3], [.inr 6, .inl 4]] [[0, 4, 5]] [some (0, 0), none, none, none, some (0, 1), some (0, 2)] [[], [], [], [], [4], []] ([]) [⟨[0, 4, 5], fun ids c => match c with | 0 => (b0, .row 73 1 [[accD 1 k (((chL l m).take i).map encW)]]) :: accH 22 1 k (((chL l m).take i).map encW) | 1 => (b0, .row 73 1 [[accD 1 k (((chL l m).take i).map encW)]]) :: accH 22 1 k (((chL l m).take i).map encW) | 2 => (b0, .row 73 1 [[accD 1 k (((chL l m).take i).map encW)]]) :: accH 22 1 (ids.getD 1 0) ((((chL l m).take i).map encW) ++ [[DStrs x]]) | _ => (b0, .row 73 1 [[accD 1 (ids.getD 1 0) ((((chL l m).take i).map encW) ++ [[DStrs x]])]]) :: accH 22 1 (ids.getD 1 0) ((((chL l m).take i).map encW) ++ [[DStrs x]])⟩] mixed_
   ·kernel_rfl
   ·rfl
   ·exact fun _ => .refl _
   ·apply GOk.act [] (fun ids => some (15, accD 1 k (((chL l m).take i).map encW)))
    ·rfl
    ·rfl
    ·rfl
    ·exact fun b => (NeedG.inr _ rfl NeedG.nil)
    ·intro b rest ext
     refine SOps.loadRef 0 0 0 rfl flatB_73 rfl rfl rfl rfl ?_
     exact SOps.nil ⟨b, fun _ _ => rfl, ⟨rfl, fun t d h => .inl h, _, .refl _, .refl _⟩⟩
    apply GOk.rd 16
    ·rfl
    ·exact fun b => (NeedG.inr _ rfl NeedG.nil)
    ·intro b rest ext
     refine SOps.move rfl ?_
     exact SOps.nil rfl
    apply GOk.rd 17
    ·rfl
    ·exact fun b => (NeedG.inl 0 _ _ rfl rfl rfl NeedG.nil)
    ·intro b rest ext
     refine SOps.callP (sClone _ (by first | omega | (simp; omega))) rfl ?_
     rintro _ rfl
     exact SOps.nil rfl
    apply GOk.rd 18
    ·rfl
    ·exact fun b => (NeedG.inl 0 _ _ rfl rfl rfl NeedG.nil)
    ·intro b rest ext
     refine SOps.frame1 (SOps.litF rfl sliceB_73_22_1 zeroIs_22 rfl (SOps.nil rfl)) ?_
     exact SOps.nil rfl
    apply GOk.act [4] (fun ids => some (19, accD 1 (ids.getD 0 0) ((((chL l m).take i).map encW) ++ [[DStrs x]])))
    ·rfl
    ·rfl
    ·rfl
    ·exact fun b => (NeedG.inl 3 _ _ rfl rfl rfl (NeedG.inl 0 _ _ rfl rfl rfl NeedG.nil))
    ·intro b rest ext
     refine SOps.appendAcc [_] _ sliceB_73_22_1 elemB_22_1_24 rfl rfl rfl SrcD.isl (by simp) (by first | (simp [lenB] <;> (first | omega | (simp only [lenB]; omega) | (simp only [List.length_map, lenB]; omega) | (simp; done))) | (simp only [lenB]; (first | omega | (simp only [lenB]; omega) | (simp only [List.length_map, lenB]; omega) | (simp; done)))) (by first | (simp <;> (first | omega | (simp only [lenB]; omega) | (simp only [List.length_map, lenB]; omega) | (simp; done))) | (first | omega | (simp only [lenB]; omega) | (simp only [List.length_map, lenB]; omega) | (simp; done))) (fun b1 => ?_)
     exact SOps.nil ⟨fun k => if k = 4 then b1 else b k, fun k hk => if_neg hk, ⟨rfl, fun t d h => .inl h, _, List.Perm.of_eq rfl, .refl _⟩⟩
    apply GOk.act [] (fun _ => none)
    ·rfl
    ·rfl
    ·rfl
    ·exact fun b => (NeedG.inr _ rfl (NeedG.inl 0 _ _ rfl rfl rfl NeedG.nil))
    ·intro b rest ext
     refine SOps.storeM 0 rfl rfl oneB_73 rfl ?_ (hd := accD_one _ _ _)
     exact SOps.nil ⟨b, fun _ _ => rfl, ⟨rfl, fun t d h => .inl h, _, .refl _, .refl _⟩⟩
    exact GOk.nil
   ·exact fun _ => rfl
   ·intro ids
    exact ⟨rfl, ids 4, by rw [hnx, List.map_append]; exact .refl _⟩
  ·obtain ⟨k, hsub⟩ := hI
   show SMCode _ _ _ _ _
   refine SMCode.weaken (st' := (⟨21, [(6, .ref b0 0)], ([(b0, .row 73 1 [[accD 1 k (((chL l m).take (chD l m).length).map encW)]])] ++ (accH 22 1 k (((chL l m).take (chD l m).length).map encW) ++ []))⟩ : St)) (St.Le.ofSub ⟨rfl, trivial⟩ hsub) (SMCode.seqR (SOps.loadRef 0 0 0 rfl flatB_73 rfl rfl rfl rfl (SOps.assign rfl (SOps.assign rfl (SOps.nil (SMCode.ret ?_))))))
   have hfin : (chL l m).take (chD l m).length = chL l m := by unfold chD; rw [List.length_map, List.take_length]
   have hsr : sheetsR l m = (chL l m, 0) := by unfold sheetsR; rw [if_pos (by assumption)]; rfl
   exact ⟨_, Res.two (.tmp rfl) (.tmp rfl), k, by rw [hsr, hfin], by rw [hsr, hfin]; exact fun p hp => .tail _ (by rw [List.append_nil]; exact hp)⟩
theorem cSheets (l : List ByteArray) (n : Int) (hl : l.length ≤ 1048576) : GCall Tryz.prog E 32 [DStrs l, .v (.int .i64 n)] [] (fun d H => d = .tup [DSS (sheetsR l n).1, .v (.int .i64 (sheetsR l n).2)] ∧ H = []) :=
  GCall.cleanAcc (cSheets0 l n hl)
end Go.GH
namespace Go.GH
open Go Go.RowKit
theorem GCall.thaw {P : Program} {E : Env} {f : FuncId} {ds ds' : List DV} {H : DHeap} {x : Value} (h : GCall P E f ds' [] (fun d H => d = .v x ∧ H = [])) (hl : ds'.length = ds.length)
    (hc : ∀ (w : World) (F : Nat → Prop), (∀ p ∈ H, ObjRep w F p.1 p.2) → ∀ (j : Nat) (d d' : DV) (v : Value), ds[j]? = some d → ds'[j]? = some d' → Rep w F v d → Rep w (fun c => F c ∨ c ∈ H.map (·.1)) v d') :
    GCall P E f ds H (fun d H' => d = .v x ∧ H' = H) := by
  refine ⟨h.1, fun w F vs hE hF hvs hr hH hk => ?_⟩
  have hlt : ∀ b, b ∈ H.map (·.1) → b < w.heap.size ∧ ¬ F b := fun b hb => by
    obtain ⟨p, hp, rfl⟩ := List.mem_map.1 hb
    exact ⟨(hH p hp).2.lt, (hH p hp).1⟩
  refine (h.2 w (fun c => F c ∨ c ∈ H.map (·.1)) vs (E.mono (fun _ _ => rfl) (fun _ x => .inl x) hE) (fun b hb => hb.elim (hF b) (fun hm => (hlt b hm).1)) (by omega) (fun j v d hv hd => ?_) (fun p hp => by cases hp) List.nodup_nil).mono ?_
  · have hj : j < ds.length := by have := (List.getElem?_eq_some_iff.1 hd).1; omega
    exact hc w F (fun p hp => (hH p hp).2) j ds[j] d v (List.getElem?_eq_getElem hj) hd (hr j v _ hv (List.getElem?_eq_getElem hj))
  · rintro e w' ⟨u, d, H', F', rfl, ⟨rfl, rfl⟩, h3, h4, h5, _, _, h8⟩
    have hb : ∀ b, b < w.heap.size → w'.heap[b]? = w.heap[b]? := fun b hb => h8.block b hb (fun x => by cases x)
    refine ⟨u, _, H, fun b => F' b ∧ b ∉ H.map (·.1), rfl, ⟨rfl, rfl⟩, fun b hb' => ⟨h3 b (.inl hb'), fun hm => (hlt b hm).2 hb'⟩, fun b hb' => ⟨(h4 b hb'.1).1, (h4 b hb'.1).2.elim (fun y => y.elim .inl (fun hm => absurd hm hb'.2)) .inr⟩, ?_, fun p hp => ?_, hk, h8.mono (fun _ _ hm => by cases hm)⟩
    · obtain ⟨e1, e2⟩ := h5.inv_v
      rw [e1]
      exact .v e2
    · exact ⟨.inl (List.mem_map.2 ⟨p, hp, rfl⟩), fun hb' => hb'.2 (List.mem_map.2 ⟨p, hp, rfl⟩), (hH p hp).2.mono (hb _ (hH p hp).2.lt) (fun b hb' => hb b (hF b hb')) h8.shape (fun b hb' => ⟨h3 b (.inl hb'), fun hm => (hlt b hm).2 hb'⟩)⟩
/-- A slice that has grown in a row of its own. -/
theorem GCall.thawAcc {P : Program} {E : Env} {f : FuncId} {e sz k : Nat} {es : List (List DV)} {ds : List DV} {x : Value} (h : GCall P E f (.isl false sz es :: ds) [] (fun d H => d = .v x ∧ H = [])) :
    GCall P E f (accD sz k es :: ds) (accH e sz k es) (fun d H => d = .v x ∧ H = accH e sz k es) := by
  cases es with
  | nil => exact (GCall.nil0 h).mono (fun d H h => h)
  | cons y ys =>
    refine GCall.thaw (H := [(k, .row e sz (y :: ys))]) h rfl (fun w F hH j d d' v hd hd' hr => ?_)
    cases j with
    | zero =>
      simp only [List.getElem?_cons_zero, Option.some.injEq] at hd hd'
      subst hd; subst hd'
      exact (rep_row (hH _ (List.mem_singleton.2 rfl)) hr).mono (fun _ _ => rfl) (fun _ _ h => h) (fun c hc => hc.imp id (fun e => by subst e; exact List.mem_singleton.2 rfl))
    | succ j =>
      simp only [List.getElem?_cons_succ] at hd hd'
      rw [hd] at hd'
      obtain rfl := Option.some.inj hd'
      exact hr.mono (fun _ _ => rfl) (fun _ _ h => h) (fun _ h => .inl h)
section
variable {C : Ctx} {st : St} {ops : Array Oper} {rest : List Oper} {R : St → Prop} {t : Tmp} {ty : TypeId} {pos : String} {aft : Array Edge} {g : Option (Nat × Bool)}
theorem SOps.indexRefA {T n e sz b o : Nat} {xo io : Operand} {k : IntKind} {m : Int} (i : Nat) (hx : st.val xo = some (.ref b o)) (hi : st.val io = some (.v (.int k m)))
    (hT : arrayB C.P T n e sz = true) (hm : m = (i : Int)) (hlt : i < n) (hrest : SOps C ops rest (st.put t (.ref b (o + i * sz))) R)
    (hg : st.wants ops g = some true := by rfl) (ht : Nat.blt t st.n = true := by rfl) : SOps C ops (⟨some t, .indexAddr T xo io, ty, pos, aft, g⟩ :: rest) st R :=
  SOps.val rfl hg ht (fun base a w F hs => by
    have h1 := hs.val hx
    have h2 := (hs.val (hm ▸ hi)).inv_v.1
    generalize hv : a.eval xo = v at h1
    cases h1 with
    | ref => exact ⟨_, by simp [execOp, hv, h2, run_indexArr hT b o k i hlt], .ref _ _⟩) hrest
end
/-! ### lists of lists -/
theorem flat_len {α : Type} {L : List (List α)} {i : Nat} {x : List α} (h : L[i]? = some x) : (L.take (i + 1)).flatten.length = (L.take i).flatten.length + x.length := by
  obtain ⟨hi, rfl⟩ := List.getElem?_eq_some_iff.1 h
  have e : L.take (i + 1) = L.take i ++ [L[i]] := by rw [List.take_add_one, h]; rfl
  rw [e, List.flatten_append, List.length_append]
  congr 1
  rw [List.flatten_cons, List.flatten_nil, List.append_nil]
theorem flat_get {α : Type} {L : List (List α)} {i j : Nat} {x : List α} {y : α} (h : L[i]? = some x) (hj : x[j]? = some y) : L.flatten[(L.take i).flatten.length + j]? = some y := by
  obtain ⟨hi, rfl⟩ := List.getElem?_eq_some_iff.1 h
  have hjl := (List.getElem?_eq_some_iff.1 hj).1
  have e : L.flatten = (L.take i).flatten ++ (L[i] ++ (L.drop (i + 1)).flatten) := by
    conv => lhs; rw [← List.take_append_drop i L, List.flatten_append, List.drop_eq_getElem_cons hi, List.flatten_cons]
  rw [e, List.getElem?_append_right (by omega), Nat.add_sub_cancel_left, List.getElem?_append_left hjl]
  exact hj
end Go.GH
namespace Go.GH
open Go Go.Proofs
variable {E : Env}
theorem arrayB_124_2_4_1 : arrayB Tryz.prog 124 2 4 1 = true := by kernel_rfl
theorem zeroIs_124 : zeroIs Tryz.prog 124 (.agg #[.bool false, .bool false]) := by unfold zeroIs; kernel_rfl
/-- The words of a line, each with the marks of the first and the last. -/
def wrdL (fs : List ByteArray) : List (ByteArray × Bool × Bool) := fs.zipIdx.map (fun p => (p.1, decide ((p.2 : Int) = 0), decide ((p.2 : Int) = (fs.length : Int) - 1)))
def wrdD (x : ByteArray × Bool × Bool) : DV × DV := (.v (.string x.1), .agg [.v (.bool x.2.1), .v (.bool x.2.2)])
def wrdA (fl : ByteArray → List ByteArray) (pg : List ByteArray) : List (ByteArray × Bool × Bool) := (pg.map (fun w => wrdL (fl w))).flatten
def wrdO (fl : ByteArray → List ByteArray) (pg : List ByteArray) (i : Nat) : Nat := ((pg.map (fun w => wrdL (fl w))).take i).flatten.length
theorem wrdL_len (fs : List ByteArray) : (wrdL fs).length = fs.length := by simp [wrdL]
theorem wrdL_get {fs : List ByteArray} {j : Nat} (h : j < fs.length) : (wrdL fs)[j]? = some (fs[j], decide ((j : Int) = 0), decide ((j : Int) = (fs.length : Int) - 1)) := by
  unfold wrdL
  rw [List.getElem?_map, List.getElem?_zipIdx, List.getElem?_eq_getElem h]
  simp
theorem wrdO_next {fl : ByteArray → List ByteArray} {pg : List ByteArray} {i : Nat} (h : i < pg.length) : wrdO fl pg (i + 1) = wrdO fl pg i + (fl pg[i]).length := by
  unfold wrdO
  rw [flat_len (x := wrdL (fl pg[i])) (by rw [List.getElem?_map, List.getElem?_eq_getElem h]; rfl), wrdL_len]
theorem wrdO_all (fl : ByteArray → List ByteArray) (pg : List ByteArray) : wrdO fl pg pg.length = (wrdA fl pg).length := by
  unfold wrdO wrdA
  rw [List.take_of_length_le (by simp)]
theorem wrdA_get {fl : ByteArray → List ByteArray} {pg : List ByteArray} {i j : Nat} {fs : List ByteArray} (h : i < pg.length) (hf : fs = fl pg[i]) (hj : j < fs.length) : ((wrdA fl pg).map wrdD)[wrdO fl pg i + j]? = some (.v (.string fs[j]), .agg [.v (.bool (decide ((j : Int) = 0))), .v (.bool (decide ((j : Int) = (fs.length : Int) - 1)))]) := by
  subst hf
  rw [List.getElem?_map]
  unfold wrdA wrdO
  rw [flat_get (x := wrdL (fl pg[i])) (by rw [List.getElem?_map, List.getElem?_eq_getElem h]; rfl) (wrdL_get hj)]
  rfl
theorem cWords (l : Lng) (pg : List ByteArray)  : GCall Tryz.prog E 71 [.agg (encG l), DStrs pg] [] (fun d H => d = .fn 105 [.ipin [DStrs pg], .ipin (encG l)] ∧ H = []) := by
 refine GCall.body (C := ⟨Tryz.prog, E, true⟩) Tryz.func71 rfl (fun _ => rfl) (by kernel_rfl) rfl ?_
 refine SCode.seqR ?_
 refine SOps.boxAM rfl rfl ?_ (hd := encG_one l)
 refine SOps.boxF rfl rfl rfl (SOps.assign rfl (SOps.nil (SCode.seqR (SOps.makeFunc rfl (SOps.assign rfl (SOps.nil (SCode.ret ?_)))))))
 exact ⟨_, Res.one (.tmp rfl), rfl, rfl⟩
theorem iWords (l : Lng) (pg : List ByteArray) (lg : ByteArray → ByteArray) (fl : ByteArray → List ByteArray) (hLg : ∀ w ∈ pg, GCall Tryz.prog E 28 [.v (.int .i64 (baseR l)), .v (.string w)] [] (fun d H => d = .v (.string (lg w)) ∧ H = []))
    (hFF : ∀ w ∈ pg, GCall Tryz.prog E 106 [.v (.string (lg w)), .fn 107 []] [] (fun d H => d = DStrs (fl w) ∧ H = [])) : GIter2 Tryz.prog E 105 [.ipin [DStrs pg], .ipin (encG l)] ((wrdA fl pg).map wrdD) := by
  refine GIter2.body (C := ⟨Tryz.prog, E, true⟩) Tryz.func105 rfl (by kernel_rfl) rfl rfl (fun l9 J hK hY => ?_)
  refine SYCode.seqR (SYOps.one hK (SOps.loadPin rfl flatB_22 (SOps.nil rfl)) rfl rfl (SYOps.one hK (SOps.lenM rfl sliceB_22_9_1 (SOps.nil rfl)) rfl rfl (SYOps.one hK (SOps.move rfl (SOps.nil rfl)) rfl rfl (SYOps.nil (SYCode.block (SYCode.loop1 (ι := fun i => wrdO fl pg i) (hx := by rfl) (fun (i : Nat) => (⟨41, [(0, .v (.func (.yield l9) #[] #[])), (1, .ipin [DStrs pg]), (2, .ipin (encG l)), (9, DStrs pg), (10, .v (.int .i64 ((pg.length : Nat) : Int))), (11, .v (.int .i64 (i : Int)))], []⟩ : St)) (fun (i : Nat) => i ≤ pg.length) (fun (i : Nat) => pg.length - i) (0) (by exact Nat.zero_le _) (St.Le.of ⟨rfl, rfl, rfl, rfl, rfl, rfl, trivial⟩ rfl rfl) ?_))))))
  rintro i hi
  refine SYCode.fact (isl_len (t := 9) rfl) (fun hB => ?_)
  simp only [List.length_map, lenB] at hB
  refine SYCode.seqR (SYOps.one hK (SOps.bin rfl rfl rfl (SOps.nil rfl)) rfl rfl (SYOps.nil (SYCode.seq ?_)))
  refine SYCode.cond rfl (fun hc1 => ?_) (fun hc1 => ?_)
  · try simp only [nmL] at hc1
    refine SYCode.skip ?_
    show SYCode _ _ _ _ _ _
    refine SYCode.seq (SYCode.block (SYCode.seqR ?_))
    have hil : i < pg.length := by omega
    have hml := List.getElem_mem hil
    refine SYOps.one hK (SOps.indexM (i) rfl rfl sliceB_22_9_1 (by omega) (by omega) (SOps.nil rfl)) rfl rfl (SYOps.one hK (SOps.loadPin rfl flatB_9 (SOps.nil rfl)) rfl rfl (SYOps.one hK (SOps.assign rfl (SOps.nil rfl)) rfl rfl (SYOps.nil ?_)))
    refine SYCode.seq (SYCode.of hK rfl (SCode.region ?_))
    refine SOps.loadPinA rfl aggB_62_30 (Nat.le_of_ble_eq_true rfl) (SOps.callP (jBase l) rfl ?_)
    rintro _ rfl
    refine SOps.move rfl (SOps.callP (hLg _ hml) rfl ?_)
    rintro _ rfl
    refine SOps.callP (hFF _ hml) rfl ?_
    rintro _ rfl
    refine SOps.assign rfl (SOps.nil ?_)
    show SYCode _ _ _ _ _ _
    refine SYCode.seqR (SYOps.one hK (SOps.move rfl (SOps.nil rfl)) rfl rfl (SYOps.one hK (SOps.lenM rfl sliceB_22_9_1 (SOps.nil rfl)) rfl rfl (SYOps.one hK (SOps.move rfl (SOps.nil rfl)) rfl rfl (SYOps.nil (SYCode.block (SYCode.loop1 (ι := fun j => wrdO fl pg i + j) (hx := by rfl) (fun (j : Nat) => (⟨41, [(0, .v (.func (.yield l9) #[] #[])), (1, .ipin [DStrs pg]), (2, .ipin (encG l)), (5, .v (.string pg[i])), (6, DStrs (fl pg[i])), (9, DStrs pg), (10, .v (.int .i64 ((pg.length : Nat) : Int))), (11, .v (.int .i64 (i : Int))), (20, DStrs (fl pg[i])), (21, .v (.int .i64 (((fl pg[i]).length : Nat) : Int))), (22, .v (.int .i64 (j : Int)))], []⟩ : St)) (fun (j : Nat) => j ≤ (fl pg[i]).length) (fun (j : Nat) => (fl pg[i]).length - j) (0) (by exact Nat.zero_le _) (St.Le.of ⟨rfl, rfl, rfl, rfl, rfl, rfl, rfl, rfl, rfl, rfl, rfl, trivial⟩ rfl rfl) ?_))))))
    rintro j hj
    refine SYCode.fact (isl_len (t := 20) rfl) (fun hB2 => ?_)
    simp only [List.length_map, lenB] at hB2
    refine SYCode.seqR (SYOps.one hK (SOps.bin rfl rfl rfl (SOps.nil rfl)) rfl rfl (SYOps.nil (SYCode.seq ?_)))
    refine SYCode.cond rfl (fun hc2 => ?_) (fun hc2 => ?_)
    · try simp only [nmL] at hc2
      refine SYCode.skip ?_
      show SYCode _ _ _ _ _ _
      refine SYCode.seq (SYCode.block (SYCode.seqR ?_))
      have hjl : j < (fl pg[i]).length := by omega
      refine SYOps.one hK (SOps.move rfl (SOps.nil rfl)) rfl rfl (SYOps.one hK (SOps.indexM (j) rfl rfl sliceB_22_9_1 (by omega) (by omega) (SOps.nil rfl)) rfl rfl (SYOps.one hK (SOps.loadPin rfl flatB_9 (SOps.nil rfl)) rfl rfl (SYOps.one hK (SOps.assign rfl (SOps.nil rfl)) rfl rfl (SYOps.one hK (SOps.assign rfl (SOps.nil rfl)) rfl rfl (SYOps.nil (SYCode.seqR (SYOps.one hK (SOps.move rfl (SOps.nil rfl)) rfl rfl (SYOps.one hK (SOps.move rfl (SOps.nil rfl)) rfl rfl (SYOps.one hK (SOps.move rfl (SOps.nil rfl)) rfl rfl (SYOps.one hK (SOps.bin rfl rfl rfl (SOps.nil rfl)) rfl rfl (SYOps.one hK (SOps.move rfl (SOps.nil rfl)) rfl rfl (SYOps.one hK (SOps.move rfl (SOps.nil rfl)) rfl rfl (SYOps.one hK (SOps.lenM rfl sliceB_22_9_1 (SOps.nil rfl)) rfl rfl (SYOps.one hK (SOps.subI rfl rfl (by omega) (by omega) (SOps.nil rfl)) rfl rfl (SYOps.one hK (SOps.bin rfl rfl rfl (SOps.nil rfl)) rfl rfl (SYOps.one hK (SOps.buildArrM arrayB_124_2_4_1 zeroIs_124 rfl rfl (SOps.nil rfl)) rfl rfl (SYOps.yield2 hY rfl rfl rfl (wrdA_get hil rfl hjl) rfl (SYOps.one hK (SOps.un rfl rfl (SOps.nil rfl)) rfl rfl (SYOps.nil ?_)))))))))))))))))))
      refine SYCode.cond rfl (fun h => by cases h) (fun _ => ?_)
      refine SYCode.skip ?_
      show SYCode _ _ _ _ _ _
      refine SYCode.region (SYOps.one hK (SOps.addI rfl rfl (by omega) (by omega) (SOps.nil rfl)) rfl rfl (SYOps.one hK (SOps.move rfl (SOps.nil rfl)) rfl rfl (SYOps.nil ?_)))
      exact ⟨j + 1, by omega, by omega, St.Le.of ⟨rfl, rfl, rfl, rfl, rfl, rfl, rfl, rfl, rfl, rfl, rfl, trivial⟩, rfl⟩
    · try simp only [nmL] at hc2
      refine SYCode.exit ?_
      show SYCode _ _ _ _ _ _
      refine SYCode.region (SYOps.one hK (SOps.addI rfl rfl (by omega) (by omega) (SOps.nil rfl)) rfl rfl (SYOps.one hK (SOps.move rfl (SOps.nil rfl)) rfl rfl (SYOps.nil ?_)))
      exact ⟨i + 1, by omega, by omega, St.Le.of ⟨rfl, rfl, rfl, rfl, rfl, rfl, trivial⟩, by show wrdO fl pg (i + 1) = wrdO fl pg i + j; rw [wrdO_next hil]; omega⟩
  · try simp only [nmL] at hc1
    refine SYCode.exit ?_
    exact ⟨.inl rfl, by show wrdO fl pg i = _; rw [List.length_map, ← wrdO_all, show i = pg.length by omega]⟩
end Go.GH
namespace Go.GH
open Go Go.RowKit
section
variable {C : Ctx} {m : Bool} {st : St} {Q : Exit → Bool → St → Prop}
theorem SMCode.cond {c : Operand} {x y : Code} {b : Bool} (hc : st.val c = some (.v (.bool b))) (hT : b = true → SMCode C x m st Q) (hF : b = false → SMCode C y m st Q) : SMCode C (.cond c x y) m st Q := by
  intro base ok hd0 a w hs
  refine wp_cond_split (t := b) ?_ (fun e => hT e base ok hd0 a w hs) (fun e => hF e base ok hd0 a w hs)
  cases m with
  | false => obtain ⟨F, hs⟩ := hs; exact (hs.val hc).inv_v.1
  | true =>
    obtain ⟨F, D, hs, _⟩ := hs
    have := (hs.val hc).inv_v.1
    rw [show ({ a with defers := [] } : Act).eval c = a.eval c by cases c <;> rfl] at this
    exact this
theorem SMCode.skip (h : Q .normal m st) : SMCode C .skip m st Q := fun _ _ _ _ _ hs => wp_skip ⟨m, st, h, hs⟩
end
end Go.GH
namespace Go.GH
open Go Go.Proofs
variable {E : Env}
theorem aggB_124_2 : aggB Tryz.prog 124 2 = true := by kernel_rfl
theorem zeroIs_4 : zeroIs Tryz.prog 4 (.bool false) := by unfold zeroIs; kernel_rfl
/-- One word more: it goes on an open word, or stands by itself. -/
def plStep (s : List ByteArray × Bool) (x : ByteArray × Bool × Bool) : List ByteArray × Bool :=
  (if x.2.1 && s.2 then s.1.set (s.1.length - 1) (trimB (s.1.getD (s.1.length - 1) .empty) hy1 ++ x.1) else s.1 ++ [x.1], x.2.2 && sufB x.1 hy1)
def plR (xs : List (ByteArray × Bool × Bool)) (i : Nat) : List ByteArray × Bool := (xs.take i).foldl plStep ([], false)
theorem plR_next {xs : List (ByteArray × Bool × Bool)} {i : Nat} {x : ByteArray × Bool × Bool} (h : xs[i]? = some x) : plR xs (i + 1) = plStep (plR xs i) x := by
  obtain ⟨hi, rfl⟩ := List.getElem?_eq_some_iff.1 h
  unfold plR
  rw [take_next hi, List.foldl_append]
  rfl
theorem trimB_size (s p : ByteArray) : (trimB s p).size ≤ s.size := by
  have : (Lib.trimSuffix s.data.toList p.data.toList).length ≤ s.data.toList.length := by unfold Lib.trimSuffix; split <;> simp
  have e : (trimB s p).size = (Lib.trimSuffix s.data.toList p.data.toList).length := by unfold trimB; simp [ByteArray.size]
  have e2 : s.data.toList.length = s.size := by simp
  omega
theorem plR_inv {xs : List (ByteArray × Bool × Bool)} {M : Nat} (hM : ∀ x ∈ xs, x.1.size ≤ M) : ∀ i, i ≤ xs.length → ((plR xs i).2 = true → (plR xs i).1 ≠ []) ∧ (plR xs i).1.length ≤ i ∧ ∀ w ∈ (plR xs i).1, w.size ≤ i * M
  | 0, _ => ⟨fun h => (Bool.noConfusion h), Nat.le_refl _, fun w h => by cases h⟩
  | i + 1, hi => by
    obtain ⟨h1, h2, h3⟩ := plR_inv hM i (by omega)
    have hx := hM _ (List.getElem_mem (show i < xs.length by omega))
    rw [plR_next (List.getElem?_eq_getElem (show i < xs.length by omega))]
    generalize xs[i] = x at hx
    generalize plR xs i = s at *
    unfold plStep
    rw [Nat.succ_mul]
    cases hc : (x.2.1 && s.2) with
    | true =>
      rw [Bool.and_eq_true] at hc
      have hne := h1 hc.2
      refine ⟨fun _ h => ?_, by simp; omega, fun w hw => ?_⟩
      · have := congrArg List.length h
        simp at this
        exact hne (by cases hs : s.1 with | nil => rfl | cons a b => rw [hs] at this; simp at this)
      · simp only [if_true] at hw
        rcases List.mem_or_eq_of_mem_set hw with h | rfl
        · have := h3 w h; omega
        · have hl : s.1.length - 1 < s.1.length := by cases hs : s.1 with | nil => exact absurd hs hne | cons a b => simp
          have h9 := h3 _ (List.getElem_mem hl)
          have h8 := trimB_size (s.1.getD (s.1.length - 1) .empty) hy1
          rw [show s.1.getD (s.1.length - 1) .empty = s.1[s.1.length - 1] from by rw [List.getD_eq_getElem?_getD, List.getElem?_eq_getElem hl]; rfl] at h8 ⊢
          rw [ByteArray.size_append]
          omega
    | false =>
      refine ⟨fun _ h => ?_, by simp; omega, fun w hw => ?_⟩
      · simp at h
      · simp only [Bool.false_eq_true, if_false] at hw
        rcases List.mem_append.1 hw with h | h
        · have := h3 w h; omega
        · rw [List.mem_singleton.1 h]; omega
theorem plJ {o : List ByteArray} {op b : Bool} {y : ByteArray × Bool × Bool} (h0 : 0 < o.length) (h1 : y.2.1 = true) (h2 : op = true) (h3 : y.2.2 = b) : plStep (o, op) y = (o.set (o.length - 1) (trimB (o[o.length - 1]'(by omega)) hy1 ++ y.1), b && sufB y.1 hy1) := by
  unfold plStep
  rw [h1, h2, h3]
  show (o.set (o.length - 1) (trimB (o.getD (o.length - 1) .empty) hy1 ++ y.1), b && sufB y.1 hy1) = _
  rw [show (o.getD (o.length - 1) .empty) = o[o.length - 1]'(by omega) from by rw [List.getD_eq_getElem?_getD, List.getElem?_eq_getElem (by omega)]; rfl]
theorem plN {o : List ByteArray} {op b : Bool} {y : ByteArray × Bool × Bool} (h1 : y.2.1 = false ∨ op = false) (h3 : y.2.2 = b) : plStep (o, op) y = (o ++ [y.1], b && sufB y.1 hy1) := by
  unfold plStep
  rw [h3, if_neg (by rcases h1 with h | h <;> simp [h])]
/-- The text of a page: vd: the language serves; se: the reader's word on the text. -/
def plainR (vd : Bool) (se : Int) (fl : ByteArray → List ByteArray) (pg : List ByteArray) : ByteArray × Int :=
  if vd = false then (.empty, 1) else if pg.all utf8R = false then (.empty, 3) else if (plR (wrdA fl pg) (wrdA fl pg).length).2 then (.empty, 3) else if se ≠ 0 then (.empty, se) else ((catW (plR (wrdA fl pg) (wrdA fl pg).length).1), 0)
theorem cPlain0 (hV : VS E) (l : Lng) (pg : List ByteArray) (lg : ByteArray → ByteArray) (fl : ByteArray → List ByteArray) (vd : Bool) (se : Int) (M : Nat) (hM : ∀ x ∈ (wrdA fl pg), x.1.size ≤ M) (hX : (wrdA fl pg).length * M ≤ 1048576) (hX2 : (wrdA fl pg).length ≤ 1048576)
  (hLg : ∀ w ∈ pg, GCall Tryz.prog E 28 [.v (.int .i64 (baseR l)), .v (.string w)] [] (fun d H => d = .v (.string (lg w)) ∧ H = [])) (hFF : ∀ w ∈ pg, GCall Tryz.prog E 106 [.v (.string (lg w)), .fn 107 []] [] (fun d H => d = DStrs (fl w) ∧ H = []))
  (h64 : GCall Tryz.prog E 64 [.agg (encG l)] [] (fun d H => d = .v (.bool vd) ∧ H = [])) (h65 : GCall Tryz.prog E 65 [.agg (encG l), .v (.string (catW (plR (wrdA fl pg) (wrdA fl pg).length).1))] [] (fun d H => (∃ d4, d = .tup [d4, .v (.int .i64 se)]) ∧ H = [])) : GCall Tryz.prog E 30 [.agg (encG l), DStrs pg] [] (fun d H => d = .tup [.v (.string (plainR vd se fl pg).1), .v (.int .i64 (plainR vd se fl pg).2)]) := by
 refine GCall.bodyM (C := ⟨Tryz.prog, E, true⟩) Tryz.func30 rfl (fun _ => rfl) (by kernel_rfl) rfl ?_
 refine SMCode.seqRS ?_
 refine SOps.boxAM rfl rfl ?_ (hd := encG_one l)
 refine SOps.assign rfl (SOps.assign rfl (SOps.nil (SMCode.seqS (SCode.seqR (SOps.loadPinA rfl aggB_62_30 (Nat.le_of_ble_eq_true rfl) (SOps.callP h64 rfl ?_))))))
 rintro _ rfl
 refine SOps.un rfl rfl (SOps.nil ?_)
 refine SCode.cond rfl (fun hc1 => ?_) (fun hc1 => ?_)
 ·try simp only [nmL] at hc1
  refine SCode.seqR (SOps.assign rfl (SOps.assign rfl (SOps.nil (SCode.ret ?_))))
  exact ⟨_, Res.two (.tmp rfl) (.tmp rfl), congrArg (fun p : ByteArray × Int => DV.tup [.v (.string p.1), .v (.int .i64 p.2)]) (show (.empty, 1) = plainR vd se fl pg from Eq.symm (by unfold plainR; rw [if_pos (by simp_all)]))⟩
 ·try simp only [nmL] at hc1
  refine SCode.skip ?_
  show SMCode _ _ _ _ _
  refine SMCode.seqS (SCode.seqR (SOps.move rfl (SOps.lenM rfl sliceB_22_9_1 (SOps.move rfl (SOps.nil (SCode.block (SCode.loop1 (fun (i : Nat) => (⟨75, [(1, DStrs pg), (2, .ipin (encG l)), (19, DStrs pg), (20, .v (.int .i64 ((pg.length : Nat) : Int))), (21, .v (.int .i64 (i : Int)))], []⟩ : St)) (fun (i : Nat) => i ≤ pg.length ∧ ∀ w ∈ pg.take i, utf8R w = true) (fun (i : Nat) => pg.length - i) (0) (by exact ⟨Nat.zero_le _, fun w h => by cases h⟩) (St.Le.of ⟨rfl, rfl, rfl, rfl, rfl, trivial⟩ rfl rfl) ?_)))))))
  rintro i ⟨hi, hu⟩
  refine SCode.fact (isl_len (t := 19) rfl) (fun hB => ?_)
  simp only [List.length_map, lenB] at hB
  refine SCode.seqR (SOps.bin rfl rfl rfl (SOps.nil (SCode.seq ?_)))
  refine SCode.cond rfl (fun hc2 => ?_) (fun hc2 => ?_)
  ·try simp only [nmL] at hc2
   refine SCode.skip ?_
   show SCode _ _ _ _
   refine SCode.seq (SCode.block (SCode.seqR ?_))
   have hil : i < pg.length := by omega
   refine SOps.indexM (i) rfl rfl sliceB_22_9_1 (by omega) (by omega) (SOps.loadPin rfl flatB_9 (SOps.assign rfl (SOps.nil (SCode.seqR (SOps.move rfl (SOps.callP (hV _) rfl ?_))))))
   rintro _ rfl
   refine SOps.un rfl rfl (SOps.nil ?_)
   refine SCode.cond rfl (fun hc3 => ?_) (fun hc3 => ?_)
   ·try simp only [nmL] at hc3
    refine SCode.seqR (SOps.assign rfl (SOps.assign rfl (SOps.nil (SCode.ret ?_))))
    exact ⟨_, Res.two (.tmp rfl) (.tmp rfl), congrArg (fun p : ByteArray × Int => DV.tup [.v (.string p.1), .v (.int .i64 p.2)]) (show (.empty, 3) = plainR vd se fl pg from Eq.symm (by unfold plainR; rw [if_neg (by simp_all), if_pos (by rw [Bool.eq_false_iff]; intro h9; have h8 := List.all_eq_true.1 h9 _ (List.getElem_mem hil); simp_all)]))⟩
   ·try simp only [nmL] at hc3
    refine SCode.skip ?_
    show SCode _ _ _ _
    refine SCode.region (SOps.addI rfl rfl (by omega) (by omega) (SOps.move rfl (SOps.nil ?_)))
    exact ⟨i + 1, ⟨by omega, fun w h => by rw [take_next hil] at h; rcases List.mem_append.1 h with h | h; exact hu w h; rw [List.mem_singleton.1 h]; simp_all⟩, by omega, St.Le.of ⟨rfl, rfl, rfl, rfl, rfl, trivial⟩⟩
  ·try simp only [nmL] at hc2
   refine SCode.exit ?_
   show SMCode _ _ _ _ _
   refine SMCode.seqRS ?_
   refine SOps.alloc (sz := 1) zeroIs_22 (fun b0 hb_0 => ?_)
   refine SOps.nil (SMCode.seqRS ?_)
   refine SOps.alloc (sz := 1) zeroIs_4 (fun b1 hb_1 => ?_)
   refine SOps.storeM 0 rfl rfl oneB_4 rfl (SOps.nil (SMCode.seq (SMCode.seqRS (SOps.loadPinA rfl aggB_62_30 (Nat.le_of_ble_eq_true rfl) (SOps.move rfl (SOps.callP (cWords _ _) rfl ?_))))))
   rintro _ rfl
   refine SOps.nil (SMCode.block ?_)
   have hua : pg.all utf8R = true := List.all_eq_true.2 (fun w hw => hu w (by rw [List.take_of_length_le (by omega)]; exact hw))
   clear hu
   refine SMCode.weaken (st' := (⟨75, [(2, .ipin (encG l)), (8, .ref b0 0), (9, .ref b1 0), (31, .fn 105 [.ipin [DStrs pg], .ipin (encG l)])], ([(b1, .row 4 1 [[.v (.bool (plR (wrdA fl pg) 0).2)]]), (b0, .row 22 1 [[accD 1 0 ((plR (wrdA fl pg) 0).1.map encS)]])] ++ (accH 9 1 0 ((plR (wrdA fl pg) 0).1.map encS) ++ []))⟩ : St)) (St.Le.of ⟨rfl, rfl, rfl, rfl, trivial⟩ rfl rfl) ?_
   refine SMCode.range2 rfl (iWords l pg lg fl hLg hFF) (fun i H => ∃ k, List.Sublist ([(b1, .row 4 1 [[.v (.bool (plR (wrdA fl pg) i).2)]]), (b0, .row 22 1 [[accD 1 k ((plR (wrdA fl pg) i).1.map encS)]])] ++ (accH 9 1 k ((plR (wrdA fl pg) i).1.map encS) ++ [])) H) ⟨0, List.Sublist.refl _⟩ rfl rfl (fun i x l9 H hx hI => ?_) (fun H hI => ?_)
   ·obtain ⟨k, hsub⟩ := hI
    obtain ⟨y, hy, rfl⟩ : ∃ y, (wrdA fl pg)[i]? = some y ∧ wrdD y = x := by rw [List.getElem?_map] at hx; exact Option.map_eq_some_iff.1 hx
    have hil : i < (wrdA fl pg).length := (List.getElem?_eq_some_iff.1 hy).1
    have hnx := plR_next hy
    obtain ⟨hop, hol, how⟩ := plR_inv hM i (by omega)
    have hyM := hM y (List.mem_of_getElem? hy)
    have hiM : i * M ≤ 1048576 := Nat.le_trans (Nat.mul_le_mul_right _ (by omega)) hX
    have hMl : M ≤ 1048576 := Nat.le_trans (Nat.le_mul_of_pos_left M (show 0 < (wrdA fl pg).length by omega)) hX
    generalize hs9 : plR (wrdA fl pg) i = s9 at hsub hnx hop hol how
    obtain ⟨o, op⟩ := s9
    dsimp only at hsub hop hol how
    refine SRound.weaken (st' := (⟨75, [(2, .ipin (encG l)), (8, .ref b0 0), (9, .ref b1 0), (32, .v (.string y.1)), (33, .agg [.v (.bool y.2.1), .v (.bool y.2.2)])], ([(b1, .row 4 1 [[.v (.bool op)]]), (b0, .row 22 1 [[accD 1 k (o.map encS)]])] ++ (accH 9 1 k (o.map encS) ++ []))⟩ : St)) (St.Le.ofSub ⟨rfl, rfl, rfl, rfl, rfl, trivial⟩ hsub) (SRound.seqR (SOps.assign rfl (SOps.nil (SRound.region ?_))))
    refine SOps.alloc (sz := 2) zeroIs_124 (fun b2 hb_2 => ?_)
    refine SOps.storeAM 0 rfl rfl aggB_124_2 rfl (SOps.nil ?_)
    refine ⟨rfl, ?_⟩
    refine SRound.block (SRound.seq (SRound.seqR (SOps.loadRef 1 0 0 rfl flatB_4 rfl rfl rfl rfl (SOps.move rfl ?_))))
    refine SOps.caseB 35 rfl (fun hb4 => ?_) (fun hb4 => ?_)
    ·try simp only [nmL] at hb4
     refine SOps.indexRefA 0 rfl rfl arrayB_124_2_4_1 rfl (by omega) (SOps.loadRef 0 0 0 rfl flatB_4 rfl rfl rfl rfl (SOps.pick rfl rfl (SOps.nil ?_)))
     refine SRound.cond rfl (fun hc5 => ?_) (fun hc5 => ?_)
     ·try simp only [nmL] at hc5
      refine SRound.seqR ?_
      have hne : o ≠ [] := hop (by simp_all)
      have hol2 : 0 < o.length := List.length_pos_iff.2 hne
      have hon : 0 < (o.map encS).length := by rw [List.length_map]; exact hol2
      refine SOps.reHeap (H' := [(b2, .row 124 2 [[.v (.bool y.2.1), .v (.bool y.2.2)]]), (b1, .row 4 1 [[.v (.bool op)]]), (b0, .row 22 1 [[.sl k 1 0 o.length]]), (k, .row 9 1 (o.map encS))]) (by rw [accD_ne hon, accH_ne hon, List.length_map]; rfl) (SOps.loadRef 2 0 0 rfl flatB_22 rfl rfl rfl rfl (SOps.loadRef 2 0 0 rfl flatB_22 rfl rfl rfl rfl (SOps.lenSl rfl sliceB_22_9_1 (SOps.subI rfl rfl (by omega) (by omega) (SOps.indexS (o.length - 1) rfl rfl sliceB_22_9_1 (by omega) (by omega) (SOps.assign rfl (SOps.nil (SRound.region (SOps.move rfl (SOps.move rfl (SOps.nilCheck rfl rfl (SOps.loadK 3 (o.length - 1) rfl flatB_9 rfl (by omega) (by omega) rfl (SOps.callP (sTrimSuffix _ _) rfl ?_)))))))))))))
      rintro _ rfl
      refine SOps.move rfl (SOps.concat rfl rfl (by first | omega | (have h8 := trimB_size (o[o.length - 1]) ⟨#[45]⟩; have h7 := how _ (List.getElem_mem (show o.length - 1 < o.length by omega)); show _ + _ ≤ _; simp only [lenB]; omega)) (SOps.nilCheck rfl rfl (SOps.storeK 3 (o.length - 1) rfl rfl oneB_9 rfl (by omega) (by omega) rfl (fun _ => rfl) (SOps.nil ?_))))
      show SRound _ _ _ _ _
      refine SRound.region (SOps.indexRefA 1 rfl rfl arrayB_124_2_4_1 rfl (by omega) (SOps.loadRef 0 0 1 rfl flatB_4 rfl rfl rfl rfl (SOps.move rfl ?_)))
      refine SOps.caseB 58 rfl (fun hb6 => ?_) (fun hb6 => ?_)
      ·try simp only [nmL] at hb6
       refine SOps.move rfl (SOps.callP (sHasSuffix _ _) rfl ?_)
       rintro _ rfl
       refine SOps.pick rfl rfl (SOps.storeM 1 rfl rfl oneB_4 rfl (SOps.nil ?_))
       first
        | exact ⟨rfl, k, by rw [hnx, plJ hol2 (by assumption) (by assumption) (by assumption)]; dsimp only; rw [accD_ne (by simp; omega), accH_ne (by simp; omega)]; simp only [List.length_map, List.length_set]; exact .cons _ (.refl _)⟩
        | exact ⟨rfl, b3, by rw [hnx, plN (by first | exact .inl (by assumption) | exact .inr (by assumption)) (by assumption)]; dsimp only; rw [List.map_append]; exact .cons _ (.refl _)⟩
        | exact ⟨rfl, b4, by rw [hnx, plN (by first | exact .inl (by assumption) | exact .inr (by assumption)) (by assumption)]; dsimp only; rw [List.map_append]; exact .cons _ (.refl _)⟩
        | exact ⟨rfl, b5, by rw [hnx, plN (by first | exact .inl (by assumption) | exact .inr (by assumption)) (by assumption)]; dsimp only; rw [List.map_append]; exact .cons _ (.refl _)⟩
        | exact ⟨rfl, b6, by rw [hnx, plN (by first | exact .inl (by assumption) | exact .inr (by assumption)) (by assumption)]; dsimp only; rw [List.map_append]; exact .cons _ (.refl _)⟩
        | exact ⟨rfl, b7, by rw [hnx, plN (by first | exact .inl (by assumption) | exact .inr (by assumption)) (by assumption)]; dsimp only; rw [List.map_append]; exact .cons _ (.refl _)⟩
        | exact ⟨rfl, b8, by rw [hnx, plN (by first | exact .inl (by assumption) | exact .inr (by assumption)) (by assumption)]; dsimp only; rw [List.map_append]; exact .cons _ (.refl _)⟩
        | exact ⟨rfl, b9, by rw [hnx, plN (by first | exact .inl (by assumption) | exact .inr (by assumption)) (by assumption)]; dsimp only; rw [List.map_append]; exact .cons _ (.refl _)⟩
        | exact ⟨rfl, b10, by rw [hnx, plN (by first | exact .inl (by assumption) | exact .inr (by assumption)) (by assumption)]; dsimp only; rw [List.map_append]; exact .cons _ (.refl _)⟩
        | exact ⟨rfl, b11, by rw [hnx, plN (by first | exact .inl (by assumption) | exact .inr (by assumption)) (by assumption)]; dsimp only; rw [List.map_append]; exact .cons _ (.refl _)⟩
      ·try simp only [nmL] at hb6
       refine SOps.skip rfl (SOps.skip rfl (SOps.pick rfl rfl (SOps.storeM 1 rfl rfl oneB_4 rfl (SOps.nil ?_))))
       first
        | exact ⟨rfl, k, by rw [hnx, plJ hol2 (by assumption) (by assumption) (by assumption)]; dsimp only; rw [accD_ne (by simp; omega), accH_ne (by simp; omega)]; simp only [List.length_map, List.length_set]; exact .cons _ (.refl _)⟩
        | exact ⟨rfl, b3, by rw [hnx, plN (by first | exact .inl (by assumption) | exact .inr (by assumption)) (by assumption)]; dsimp only; rw [List.map_append]; exact .cons _ (.refl _)⟩
        | exact ⟨rfl, b4, by rw [hnx, plN (by first | exact .inl (by assumption) | exact .inr (by assumption)) (by assumption)]; dsimp only; rw [List.map_append]; exact .cons _ (.refl _)⟩
        | exact ⟨rfl, b5, by rw [hnx, plN (by first | exact .inl (by assumption) | exact .inr (by assumption)) (by assumption)]; dsimp only; rw [List.map_append]; exact .cons _ (.refl _)⟩
        | exact ⟨rfl, b6, by rw [hnx, plN (by first | exact .inl (by assumption) | exact .inr (by assumption)) (by assumption)]; dsimp only; rw [List.map_append]; exact .cons _ (.refl _)⟩
        | exact ⟨rfl, b7, by rw [hnx, plN (by first | exact .inl (by assumption) | exact .inr (by assumption)) (by assumption)]; dsimp only; rw [List.map_append]; exact .cons _ (.refl _)⟩
        | exact ⟨rfl, b8, by rw [hnx, plN (by first | exact .inl (by assumption) | exact .inr (by assumption)) (by assumption)]; dsimp only; rw [List.map_append]; exact .cons _ (.refl _)⟩
        | exact ⟨rfl, b9, by rw [hnx, plN (by first | exact .inl (by assumption) | exact .inr (by assumption)) (by assumption)]; dsimp only; rw [List.map_append]; exact .cons _ (.refl _)⟩
        | exact ⟨rfl, b10, by rw [hnx, plN (by first | exact .inl (by assumption) | exact .inr (by assumption)) (by assumption)]; dsimp only; rw [List.map_append]; exact .cons _ (.refl _)⟩
        | exact ⟨rfl, b11, by rw [hnx, plN (by first | exact .inl (by assumption) | exact .inr (by assumption)) (by assumption)]; dsimp only; rw [List.map_append]; exact .cons _ (.refl _)⟩
     ·try simp only [nmL] at hc5
      refine SRound.region (SOps.loadRef 2 0 0 rfl flatB_22 rfl rfl rfl rfl (SOps.move rfl (SOps.frame1 (SOps.litF rfl sliceB_22_9_1 zeroIs_9 rfl (SOps.nil rfl)) ?_)))
      refine SOps.appendAcc [_, _, _] _ sliceB_22_9_1 elemB_9_1_16 rfl rfl rfl SrcD.isl (by simp) (by first | (simp [lenB] <;> (first | omega | (simp only [lenB]; omega) | (simp only [List.length_map, lenB]; omega) | (simp; done))) | (simp only [lenB]; (first | omega | (simp only [lenB]; omega) | (simp only [List.length_map, lenB]; omega) | (simp; done)))) (by first | (simp <;> (first | omega | (simp only [lenB]; omega) | (simp only [List.length_map, lenB]; omega) | (simp; done))) | (first | omega | (simp only [lenB]; omega) | (simp only [List.length_map, lenB]; omega) | (simp; done))) (fun b3 => ?_)
      refine SOps.storeM 2 rfl rfl oneB_22 rfl ?_ (accD_one _ _ _)
      refine SOps.nil ?_
      show SRound _ _ _ _ _
      refine SRound.region (SOps.indexRefA 1 rfl rfl arrayB_124_2_4_1 rfl (by omega) (SOps.loadRef 0 0 1 rfl flatB_4 rfl rfl rfl rfl (SOps.move rfl ?_)))
      refine SOps.caseB 58 rfl (fun hb7 => ?_) (fun hb7 => ?_)
      ·try simp only [nmL] at hb7
       refine SOps.move rfl (SOps.callP (sHasSuffix _ _) rfl ?_)
       rintro _ rfl
       refine SOps.pick rfl rfl (SOps.storeM 1 rfl rfl oneB_4 rfl (SOps.nil ?_))
       first
        | exact ⟨rfl, k, by rw [hnx, plJ hol2 (by assumption) (by assumption) (by assumption)]; dsimp only; rw [accD_ne (by simp; omega), accH_ne (by simp; omega)]; simp only [List.length_map, List.length_set]; exact .cons _ (.refl _)⟩
        | exact ⟨rfl, b3, by rw [hnx, plN (by first | exact .inl (by assumption) | exact .inr (by assumption)) (by assumption)]; dsimp only; rw [List.map_append]; exact .cons _ (.refl _)⟩
        | exact ⟨rfl, b4, by rw [hnx, plN (by first | exact .inl (by assumption) | exact .inr (by assumption)) (by assumption)]; dsimp only; rw [List.map_append]; exact .cons _ (.refl _)⟩
        | exact ⟨rfl, b5, by rw [hnx, plN (by first | exact .inl (by assumption) | exact .inr (by assumption)) (by assumption)]; dsimp only; rw [List.map_append]; exact .cons _ (.refl _)⟩
        | exact ⟨rfl, b6, by rw [hnx, plN (by first | exact .inl (by assumption) | exact .inr (by assumption)) (by assumption)]; dsimp only; rw [List.map_append]; exact .cons _ (.refl _)⟩
        | exact ⟨rfl, b7, by rw [hnx, plN (by first | exact .inl (by assumption) | exact .inr (by assumption)) (by assumption)]; dsimp only; rw [List.map_append]; exact .cons _ (.refl _)⟩
        | exact ⟨rfl, b8, by rw [hnx, plN (by first | exact .inl (by assumption) | exact .inr (by assumption)) (by assumption)]; dsimp only; rw [List.map_append]; exact .cons _ (.refl _)⟩
        | exact ⟨rfl, b9, by rw [hnx, plN (by first | exact .inl (by assumption) | exact .inr (by assumption)) (by assumption)]; dsimp only; rw [List.map_append]; exact .cons _ (.refl _)⟩
        | exact ⟨rfl, b10, by rw [hnx, plN (by first | exact .inl (by assumption) | exact .inr (by assumption)) (by assumption)]; dsimp only; rw [List.map_append]; exact .cons _ (.refl _)⟩
        | exact ⟨rfl, b11, by rw [hnx, plN (by first | exact .inl (by assumption) | exact .inr (by assumption)) (by assumption)]; dsimp only; rw [List.map_append]; exact .cons _ (.refl _)⟩
      ·try simp only [nmL] at hb7
       refine SOps.skip rfl (SOps.skip rfl (SOps.pick rfl rfl (SOps.storeM 1 rfl rfl oneB_4 rfl (SOps.nil ?_))))
       first
        | exact ⟨rfl, k, by rw [hnx, plJ hol2 (by assumption) (by assumption) (by assumption)]; dsimp only; rw [accD_ne (by simp; omega), accH_ne (by simp; omega)]; simp only [List.length_map, List.length_set]; exact .cons _ (.refl _)⟩
        | exact ⟨rfl, b3, by rw [hnx, plN (by first | exact .inl (by assumption) | exact .inr (by assumption)) (by assumption)]; dsimp only; rw [List.map_append]; exact .cons _ (.refl _)⟩
        | exact ⟨rfl, b4, by rw [hnx, plN (by first | exact .inl (by assumption) | exact .inr (by assumption)) (by assumption)]; dsimp only; rw [List.map_append]; exact .cons _ (.refl _)⟩
        | exact ⟨rfl, b5, by rw [hnx, plN (by first | exact .inl (by assumption) | exact .inr (by assumption)) (by assumption)]; dsimp only; rw [List.map_append]; exact .cons _ (.refl _)⟩
        | exact ⟨rfl, b6, by rw [hnx, plN (by first | exact .inl (by assumption) | exact .inr (by assumption)) (by assumption)]; dsimp only; rw [List.map_append]; exact .cons _ (.refl _)⟩
        | exact ⟨rfl, b7, by rw [hnx, plN (by first | exact .inl (by assumption) | exact .inr (by assumption)) (by assumption)]; dsimp only; rw [List.map_append]; exact .cons _ (.refl _)⟩
        | exact ⟨rfl, b8, by rw [hnx, plN (by first | exact .inl (by assumption) | exact .inr (by assumption)) (by assumption)]; dsimp only; rw [List.map_append]; exact .cons _ (.refl _)⟩
        | exact ⟨rfl, b9, by rw [hnx, plN (by first | exact .inl (by assumption) | exact .inr (by assumption)) (by assumption)]; dsimp only; rw [List.map_append]; exact .cons _ (.refl _)⟩
        | exact ⟨rfl, b10, by rw [hnx, plN (by first | exact .inl (by assumption) | exact .inr (by assumption)) (by assumption)]; dsimp only; rw [List.map_append]; exact .cons _ (.refl _)⟩
        | exact ⟨rfl, b11, by rw [hnx, plN (by first | exact .inl (by assumption) | exact .inr (by assumption)) (by assumption)]; dsimp only; rw [List.map_append]; exact .cons _ (.refl _)⟩
    ·try simp only [nmL] at hb4
     refine SOps.skip rfl (SOps.skip rfl (SOps.pick rfl rfl (SOps.nil ?_)))
     refine SRound.cond rfl (fun h => by cases h) (fun _ => ?_)
     refine SRound.region (SOps.loadRef 2 0 0 rfl flatB_22 rfl rfl rfl rfl (SOps.move rfl (SOps.frame1 (SOps.litF rfl sliceB_22_9_1 zeroIs_9 rfl (SOps.nil rfl)) ?_)))
     refine SOps.appendAcc [_, _, _] _ sliceB_22_9_1 elemB_9_1_16 rfl rfl rfl SrcD.isl (by simp) (by first | (simp [lenB] <;> (first | omega | (simp only [lenB]; omega) | (simp only [List.length_map, lenB]; omega) | (simp; done))) | (simp only [lenB]; (first | omega | (simp only [lenB]; omega) | (simp only [List.length_map, lenB]; omega) | (simp; done)))) (by first | (simp <;> (first | omega | (simp only [lenB]; omega) | (simp only [List.length_map, lenB]; omega) | (simp; done))) | (first | omega | (simp only [lenB]; omega) | (simp only [List.length_map, lenB]; omega) | (simp; done))) (fun b4 => ?_)
     refine SOps.storeM 2 rfl rfl oneB_22 rfl ?_ (accD_one _ _ _)
     refine SOps.nil ?_
     show SRound _ _ _ _ _
     refine SRound.region (SOps.indexRefA 1 rfl rfl arrayB_124_2_4_1 rfl (by omega) (SOps.loadRef 0 0 1 rfl flatB_4 rfl rfl rfl rfl (SOps.move rfl ?_)))
     refine SOps.caseB 58 rfl (fun hb8 => ?_) (fun hb8 => ?_)
     ·try simp only [nmL] at hb8
      refine SOps.move rfl (SOps.callP (sHasSuffix _ _) rfl ?_)
      rintro _ rfl
      refine SOps.pick rfl rfl (SOps.storeM 1 rfl rfl oneB_4 rfl (SOps.nil ?_))
      first
       | exact ⟨rfl, k, by rw [hnx, plJ hol2 (by assumption) (by assumption) (by assumption)]; dsimp only; rw [accD_ne (by simp; omega), accH_ne (by simp; omega)]; simp only [List.length_map, List.length_set]; exact .cons _ (.refl _)⟩
       | exact ⟨rfl, b3, by rw [hnx, plN (by first | exact .inl (by assumption) | exact .inr (by assumption)) (by assumption)]; dsimp only; rw [List.map_append]; exact .cons _ (.refl _)⟩
       | exact ⟨rfl, b4, by rw [hnx, plN (by first | exact .inl (by assumption) | exact .inr (by assumption)) (by assumption)]; dsimp only; rw [List.map_append]; exact .cons _ (.refl _)⟩
       | exact ⟨rfl, b5, by rw [hnx, plN (by first | exact .inl (by assumption) | exact .inr (by assumption)) (by assumption)]; dsimp only; rw [List.map_append]; exact .cons _ (.refl _)⟩
       | exact ⟨rfl, b6, by rw [hnx, plN (by first | exact .inl (by assumption) | exact .inr (by assumption)) (by assumption)]; dsimp only; rw [List.map_append]; exact .cons _ (.refl _)⟩
       | exact ⟨rfl, b7, by rw [hnx, plN (by first | exact .inl (by assumption) | exact .inr (by assumption)) (by assumption)]; dsimp only; rw [List.map_append]; exact .cons _ (.refl _)⟩
       | exact ⟨rfl, b8, by rw [hnx, plN (by first | exact .inl (by assumption) | exact .inr (by assumption)) (by assumption)]; dsimp only; rw [List.map_append]; exact .cons _ (.refl _)⟩
       | exact ⟨rfl, b9, by rw [hnx, plN (by first | exact .inl (by assumption) | exact .inr (by assumption)) (by assumption)]; dsimp only; rw [List.map_append]; exact .cons _ (.refl _)⟩
       | exact ⟨rfl, b10, by rw [hnx, plN (by first | exact .inl (by assumption) | exact .inr (by assumption)) (by assumption)]; dsimp only; rw [List.map_append]; exact .cons _ (.refl _)⟩
       | exact ⟨rfl, b11, by rw [hnx, plN (by first | exact .inl (by assumption) | exact .inr (by assumption)) (by assumption)]; dsimp only; rw [List.map_append]; exact .cons _ (.refl _)⟩
     ·try simp only [nmL] at hb8
      refine SOps.skip rfl (SOps.skip rfl (SOps.pick rfl rfl (SOps.storeM 1 rfl rfl oneB_4 rfl (SOps.nil ?_))))
      first
       | exact ⟨rfl, k, by rw [hnx, plJ hol2 (by assumption) (by assumption) (by assumption)]; dsimp only; rw [accD_ne (by simp; omega), accH_ne (by simp; omega)]; simp only [List.length_map, List.length_set]; exact .cons _ (.refl _)⟩
       | exact ⟨rfl, b3, by rw [hnx, plN (by first | exact .inl (by assumption) | exact .inr (by assumption)) (by assumption)]; dsimp only; rw [List.map_append]; exact .cons _ (.refl _)⟩
       | exact ⟨rfl, b4, by rw [hnx, plN (by first | exact .inl (by assumption) | exact .inr (by assumption)) (by assumption)]; dsimp only; rw [List.map_append]; exact .cons _ (.refl _)⟩
       | exact ⟨rfl, b5, by rw [hnx, plN (by first | exact .inl (by assumption) | exact .inr (by assumption)) (by assumption)]; dsimp only; rw [List.map_append]; exact .cons _ (.refl _)⟩
       | exact ⟨rfl, b6, by rw [hnx, plN (by first | exact .inl (by assumption) | exact .inr (by assumption)) (by assumption)]; dsimp only; rw [List.map_append]; exact .cons _ (.refl _)⟩
       | exact ⟨rfl, b7, by rw [hnx, plN (by first | exact .inl (by assumption) | exact .inr (by assumption)) (by assumption)]; dsimp only; rw [List.map_append]; exact .cons _ (.refl _)⟩
       | exact ⟨rfl, b8, by rw [hnx, plN (by first | exact .inl (by assumption) | exact .inr (by assumption)) (by assumption)]; dsimp only; rw [List.map_append]; exact .cons _ (.refl _)⟩
       | exact ⟨rfl, b9, by rw [hnx, plN (by first | exact .inl (by assumption) | exact .inr (by assumption)) (by assumption)]; dsimp only; rw [List.map_append]; exact .cons _ (.refl _)⟩
       | exact ⟨rfl, b10, by rw [hnx, plN (by first | exact .inl (by assumption) | exact .inr (by assumption)) (by assumption)]; dsimp only; rw [List.map_append]; exact .cons _ (.refl _)⟩
       | exact ⟨rfl, b11, by rw [hnx, plN (by first | exact .inl (by assumption) | exact .inr (by assumption)) (by assumption)]; dsimp only; rw [List.map_append]; exact .cons _ (.refl _)⟩
   ·obtain ⟨k, hsub⟩ := hI
    rw [List.length_map] at hsub
    obtain ⟨-, hol, how⟩ := plR_inv hM (wrdA fl pg).length (Nat.le_refl _)
    show SMCode _ _ _ _ _
    refine SMCode.weaken (st' := (⟨75, [(2, .ipin (encG l)), (8, .ref b0 0), (9, .ref b1 0)], ([(b1, .row 4 1 [[.v (.bool (plR (wrdA fl pg) (wrdA fl pg).length).2)]]), (b0, .row 22 1 [[accD 1 k ((plR (wrdA fl pg) (wrdA fl pg).length).1.map encS)]])] ++ (accH 9 1 k ((plR (wrdA fl pg) (wrdA fl pg).length).1.map encS) ++ []))⟩ : St)) (St.Le.ofSub ⟨rfl, rfl, rfl, trivial⟩ hsub) (SMCode.seq (SMCode.seqR (SOps.loadRef 0 0 0 rfl flatB_4 rfl rfl rfl rfl (SOps.nil ?_))))
    refine SMCode.cond rfl (fun hc9 => ?_) (fun hc9 => ?_)
    ·try simp only [nmL] at hc9
     refine SMCode.seqR (SOps.assign rfl (SOps.assign rfl (SOps.nil (SMCode.ret ?_))))
     exact ⟨_, Res.two (.tmp rfl) (.tmp rfl), congrArg (fun p : ByteArray × Int => DV.tup [.v (.string p.1), .v (.int .i64 p.2)]) (show (.empty, 3) = plainR vd se fl pg from Eq.symm (by unfold plainR; rw [if_neg (by simp_all), if_neg (by rw [hua]; simp), if_pos (by assumption)]))⟩
    ·try simp only [nmL] at hc9
     refine SMCode.skip ?_
     show SMCode _ _ _ _ _
     refine SMCode.seqR (SOps.loadRef 1 0 0 rfl flatB_22 rfl rfl rfl rfl ?_)
     refine SOps.callH [_, _] _ _ (GCall.thawAcc (sJoin _ (by omega) (fun w h => Nat.le_trans (how w h) hX))) rfl rfl (fun d H hR => ?_)
     obtain ⟨rfl, rfl⟩ := hR
     refine SOps.assign rfl (SOps.nil (SMCode.seq (SMCode.seqR (SOps.loadPinA rfl aggB_62_30 (Nat.le_of_ble_eq_true rfl) (SOps.move rfl (SOps.callP h65 rfl ?_))))))
     rintro _ ⟨d4, rfl⟩
     refine SOps.move rfl (SOps.extract rfl rfl (SOps.extract rfl rfl (SOps.assign rfl (SOps.assign rfl (SOps.nil (SMCode.seqR (SOps.move rfl (SOps.bin rfl rfl rfl (SOps.nil ?_)))))))))
     refine SMCode.cond rfl (fun hc10 => ?_) (fun hc10 => ?_)
     ·try simp only [nmL] at hc10
      refine SMCode.seqR (SOps.move rfl (SOps.assign rfl (SOps.assign rfl (SOps.nil (SMCode.ret ?_)))))
      exact ⟨_, Res.two (.tmp rfl) (.tmp rfl), congrArg (fun p : ByteArray × Int => DV.tup [.v (.string p.1), .v (.int .i64 p.2)]) (show (.empty, se) = plainR vd se fl pg from Eq.symm (by unfold plainR; rw [if_neg (by simp_all), if_neg (by rw [hua]; simp), if_neg (by simp_all), if_pos (by simp_all)]))⟩
     ·try simp only [nmL] at hc10
      refine SMCode.skip ?_
      show SMCode _ _ _ _ _
      refine SMCode.seqR (SOps.move rfl (SOps.assign rfl (SOps.assign rfl (SOps.nil (SMCode.ret ?_)))))
      exact ⟨_, Res.two (.tmp rfl) (.tmp rfl), congrArg (fun p : ByteArray × Int => DV.tup [.v (.string p.1), .v (.int .i64 p.2)]) (show ((catW (plR (wrdA fl pg) (wrdA fl pg).length).1), 0) = plainR vd se fl pg from Eq.symm (by unfold plainR; rw [if_neg (by simp_all), if_neg (by rw [hua]; simp), if_neg (by simp_all), if_neg (by simp_all)]))⟩
theorem cPlain (hV : VS E) (l : Lng) (pg : List ByteArray) (lg : ByteArray → ByteArray) (fl : ByteArray → List ByteArray) (vd : Bool) (se : Int) (M : Nat) (hM : ∀ x ∈ (wrdA fl pg), x.1.size ≤ M) (hX : (wrdA fl pg).length * M ≤ 1048576) (hX2 : (wrdA fl pg).length ≤ 1048576)
    (hLg : ∀ w ∈ pg, GCall Tryz.prog E 28 [.v (.int .i64 (baseR l)), .v (.string w)] [] (fun d H => d = .v (.string (lg w)) ∧ H = [])) (hFF : ∀ w ∈ pg, GCall Tryz.prog E 106 [.v (.string (lg w)), .fn 107 []] [] (fun d H => d = DStrs (fl w) ∧ H = []))
    (h64 : GCall Tryz.prog E 64 [.agg (encG l)] [] (fun d H => d = .v (.bool vd) ∧ H = [])) (h65 : GCall Tryz.prog E 65 [.agg (encG l), .v (.string (catW (plR (wrdA fl pg) (wrdA fl pg).length).1))] [] (fun d H => (∃ d4, d = .tup [d4, .v (.int .i64 se)]) ∧ H = [])) : GCall Tryz.prog E 30 [.agg (encG l), DStrs pg] [] (fun d H => d = .tup [.v (.string (plainR vd se fl pg).1), .v (.int .i64 (plainR vd se fl pg).2)] ∧ H = []) :=
  GCall.clean (cPlain0 hV l pg lg fl vd se M hM hX hX2 hLg hFF h64 h65) (fun d H h => ⟨d, fun _ _ _ h => h, h⟩)
end Go.GH
namespace Go.GH
open Go Go.Lib Go.Proofs Go.RowKit
variable {E : Env}
def blkP (r : Nat) : Bool := decide ((r : Int) = 32)
def fldR (s : ByteArray) : List ByteArray := Lib.goFieldsP blkP s
theorem spansP_len (p : Nat → Bool) (s : ByteArray) : ∀ (f pos : Nat) (st : Option Nat) (acc : List (Nat × Nat)), (spansFromP p s f pos st acc).1.length ≤ acc.length + f
  | 0, _, _, _ => Nat.le_refl _
  | f + 1, pos, st, acc => by
    unfold spansFromP
    split
    · split
      · cases st with
        | none => exact Nat.le_trans (spansP_len p s f _ _ _) (by omega)
        | some a => exact Nat.le_trans (spansP_len p s f _ _ _) (by simp; omega)
      · cases st with
        | none => exact Nat.le_trans (spansP_len p s f _ _ _) (by omega)
        | some a => exact Nat.le_trans (spansP_len p s f _ _ _) (by omega)
    · simp
theorem fldR_len (s : ByteArray) : (fldR s).length ≤ s.size + 1 := by
  unfold fldR Lib.goFieldsP spansOfP
  rw [List.length_map]
  have h := spansP_len blkP s s.size 0 none []
  unfold closeSpans
  split <;> simp at h ⊢ <;> omega
theorem fldR_size {s x : ByteArray} (h : x ∈ fldR s) : x.size ≤ s.size := by
  unfold fldR Lib.goFieldsP at h
  obtain ⟨y, _, rfl⟩ := List.mem_map.1 h
  rw [ByteArray.size_extract]
  omega
theorem Tryz.isBlank (w : World) : PredAtRunes Tryz.prog 107 #[] blkP w := fun W r _ _ => by
  unfold FnGives
  go_enter Tryz.func107, Tryz.ntmps107
  go_wp2
  go_ret
  exact ⟨rfl, 0, rfl⟩
theorem sFields (s : ByteArray) (hs : s.size ≤ 1048576) : GCall Tryz.prog E 106 [.v (.string s), .fn 107 []] [] (fun d H => d = DStrs (fldR s) ∧ H = []) := by
  refine GCall.ofRow (by kernel_rfl) (fun x hx => Nat.le_trans (fldR_size hx) (by unfold lenB; omega)) (Nat.le_trans (fldR_len s) (by unfold lenB; omega)) (fun w F vs hE hF hl hr => ?_)
  have hl2 : vs.size = 2 := hl
  have h0 := (hr 0 vs[0] _ (Array.getElem?_eq_getElem (by omega)) rfl).inv_v.1
  have h1 := hr 1 vs[1] _ (Array.getElem?_eq_getElem (by omega)) rfl
  have hv : vs = #[vs[0], vs[1]] := by
    apply Array.ext
    · simpa using hl
    · intro i h2 h3
      rcases (show i = 0 ∨ i = 1 by simp at h3; omega) with rfl | rfl <;> rfl
  rw [hv, h0]
  generalize vs[1] = v1 at h1
  cases h1 with
  | @fn _ us _ hul _ =>
    obtain rfl : us = #[] := Array.eq_empty_of_size_eq_zero (by simpa using hul)
    refine (Any.strings_FieldsFunc_runes Tryz.laysFF 107 #[] (enters_of Tryz.func107 (by kernel_rfl) rfl) blkP s w (by omega) (Tryz.isBlank w) (by kernel_rfl) (by kernel_rfl)).mono ?_
    rintro e w' ⟨A, h3, h4, h5, h6⟩
    refine ⟨⟨A, _, h3, Nat.le_refl _, h4, ?_⟩, h6⟩
    obtain ⟨a1, a2⟩ := h5
    rcases a2 with ⟨a2, _⟩ | ⟨g, cap, cur, e1, e2, e3, e4, e5, e6, e7⟩
    · cases a2
    · simp only [Value.slice.injEq, Option.some.injEq, Addr.mk.injEq, and_true, true_and] at e1
      obtain ⟨rfl, rfl⟩ := e1
      refine ⟨(Array.getElem?_eq_some_iff.1 e3).1, fun j x hj => ?_⟩
      have h7 : cur[j]? = some (.string x) := by
        rw [← Array.getElem?_toList]
        have h8 := congrArg (fun l => l[j]?) e7
        simp only [List.getElem?_take, List.getElem?_map] at h8
        have hjl : j < (goFieldsP blkP s).length := (List.getElem?_eq_some_iff.1 hj).1
        rw [if_pos (by omega), show (goFieldsP blkP s)[j]? = some x from hj] at h8
        exact h8
      unfold World.cell?
      simp [e3, h7]
end Go.GH
namespace Go.GH
open Go Go.Lib Go.Proofs Go.RowKit

/-! ### the environment -/
def E50 : Env where
  holds := fun w F => Lib.Utf8Tabs 0 1 w ∧ F 0 ∧ F 1 ∧ (∃ m, w.cell? ⟨2, 0, none⟩ = some (.int .i64 m)) ∧ F 2
  mono := fun {w w' F F'} hw hF h => by
    obtain ⟨⟨h1, h2⟩, h3, h4, h5, h6⟩ := h
    refine ⟨⟨fun c hc => ?_, fun i hi => ⟨?_, ?_⟩⟩, hF _ h3, hF _ h4, ?_, hF _ h6⟩
    · rw [cell?_same (hw _ h3)]; exact h1 c hc
    · rw [cell?_same (hw _ h4)]; exact (h2 i hi).1
    · rw [cell?_same (hw _ h4)]; exact (h2 i hi).2
    · rw [cell?_same (hw _ h6)]; exact h5
theorem vs50 : VS E50 := fun s => GCall.ofCalls (by kernel_rfl) trivial (fun w F vs hE hl hr => by
    obtain ⟨rfl, hs⟩ := arg1 hl hr
    rw [utf8R_valid]
    exact Any.utf8_ValidString Tryz.laysValid s w hs hE.1)
/-- strings.Split at the blank. -/
def splB (s : ByteArray) : List ByteArray := Lib.splitB sp1 0 (Lib.countB s sp1) s
theorem splitB_size (sep : ByteArray) : ∀ (k : Nat) (s x : ByteArray), x ∈ Lib.splitB sep 0 k s → x.size ≤ s.size
  | 0, s, x, h => by rw [Lib.splitB_zero, List.mem_singleton] at h; rw [h]; exact Nat.le_refl _
  | k + 1, s, x, h => by
    unfold Lib.splitB at h
    split at h
    · rw [List.mem_singleton] at h; rw [h]; exact Nat.le_refl _
    · rcases List.mem_cons.1 h with h | h
      · rw [h, ByteArray.size_extract]; omega
      · have := splitB_size sep k _ x h
        rw [ByteArray.size_extract] at this
        omega
theorem splitB_len (sep : ByteArray) : ∀ (k : Nat) (s : ByteArray), (Lib.splitB sep 0 k s).length ≤ k + 1
  | 0, s => Nat.le_refl _
  | k + 1, s => by
    unfold Lib.splitB
    split
    · simp
    · have := splitB_len sep k (s.extract ((Lib.indexB s sep).toNat + sep.size) s.size)
      simp only [List.length_cons]
      omega
theorem arg2' {w : World} {F : Nat → Prop} {vs : Array Value} {x y : Value} (hl : vs.size = 2) (hr : ∀ (j : Nat) (v : Value) (d : DV), vs[j]? = some v → [DV.v x, DV.v y][j]? = some d → Rep w F v d) : vs = #[x, y] := (arg2 hl hr).1
theorem sSplitB (s : ByteArray) (hs : s.size ≤ 1048576) : GCall Tryz.prog E50 100 [.v (.string s), .v (.string sp1)] [] (fun d H => d = DStrs (splB s) ∧ H = []) := by
  have hcb := Lib.countB_le sp1 (by decide) s.size s (Nat.le_refl _)
  have hlen := splitB_len sp1 (Lib.countB s sp1) s
  refine GCall.ofRow (by kernel_rfl) (fun x hx => Nat.le_trans (splitB_size sp1 _ s x hx) (by unfold lenB; omega)) (Nat.le_trans hlen (by unfold lenB; omega)) (fun w F vs hE hF hl hr => ?_)
  rw [arg2' hl hr]
  obtain ⟨_, _, _, ⟨m, hm⟩, _⟩ := hE
  refine (Any.strings_Split { Tryz.laysSplit with } Tryz.laysSplit.i9 s sp1 m w (by omega) hm (by decide)).mono ?_
  rintro e w' ⟨h1, rfl⟩
  have hall : (splB s).length = Lib.countB s sp1 + 1 := by
    have := Lib.splitB_all sp1 (by decide) 0 _ s rfl
    unfold splB
    omega
  refine ⟨⟨w.heap.size, Lib.countB s sp1 + 1, by rw [h1, hall], by rw [hall]; exact Nat.le_refl _, Nat.le_refl _, by simp, fun j x hj => ?_⟩, (Below.refl _ w).alloc (Nat.le_refl _) _⟩
  unfold World.cell?
  rw [World.alloc_heap_new]
  have h9 : ((Lib.splitB sp1 0 (Lib.countB s sp1) s).map Value.string)[j]? = some (Value.string x) := by rw [List.getElem?_map, show (Lib.splitB sp1 0 (Lib.countB s sp1) s)[j]? = some x from hj]; rfl
  simp [h9]

/-! ### calls that only read -/
def onE {α : Type} (b : Bool) (x : α) : Option α := bif b then some x else none
theorem onE_some {α : Type} {b : Bool} {x y : α} (h : onE b x = some y) : b = true ∧ x = y := by
  unfold onE at h
  cases b with
  | true => exact ⟨rfl, Option.some.inj h⟩
  | false => cases h
theorem RL1 {ρ : Rn} {x : Value} {ds : List DV} (h : RL ρ [.v x] ds) : ds = [.v x] := by
  obtain ⟨b, t, rfl, h1, h2⟩ := h.inv_cons
  rw [h1.inv_v, h2.inv_nil]
theorem RL2 {ρ : Rn} {x y : Value} {ds : List DV} (h : RL ρ [.v x, .v y] ds) : ds = [.v x, .v y] := by
  obtain ⟨b, t, rfl, h1, h2⟩ := h.inv_cons
  rw [h1.inv_v, RL1 h2]
theorem RL.self {ρ : Rn} {l : List DV} (h : ∀ d ∈ l, ∃ x, d = .v x) : RL ρ l l := PWl.refl (fun a ha => by obtain ⟨x, rfl⟩ := h a ha; exact .v x)
theorem RD.strs (ρ : Rn) (l : List ByteArray) : RD ρ (DStrs l) (DStrs l) := RD.isl' (PWl.refl (fun a ha => RL.self (fun d hd => by
  obtain ⟨x, _, rfl⟩ := List.mem_map.1 ha
  exact ⟨_, by simpa [encS] using hd⟩)))
abbrev OkH (g : FuncId) (ds : List DV) (hp : Tr DO) (nx : Nat) (d : DV) (up : List (Nat × Option DO)) (nx' : Nat) : Prop :=
  Pure' hp.get nx (upsE hp up).get nx' (up.map (·.1)) ∧ CallOk Tryz.prog E50 g ds hp nx (d, upsE hp up, nx', up.map (·.1))
theorem hookP {g : FuncId} {ds : List DV} {hp : Tr DO} {nx : Nat} {d : DV} (hd : ∀ ρ, RD ρ d d) (h : ∀ ρ dsA, RL ρ ds dsA → GCall Tryz.prog E50 g dsA [] (fun d' H => d' = d ∧ H = [])) : OkH g ds hp nx d [] nx :=
  ⟨Pure'.refl _ _, fun ρ dsA H hc hf hR => (GCall.frameP (H0 := []) (G := H) (List.Perm.refl _) (h ρ dsA hR)).mono (by
    rintro d' H' ⟨H0', ⟨rfl, rfl⟩, rfl, _⟩
    exact ⟨ρ, Post.id (fun p hp => hp), hd ρ⟩)⟩
def isS (s t : ByteArray) : Bool := s.data.toList == t.data.toList
theorem isS_eq {s t : ByteArray} (h : isS s t = true) : s = t := by
  unfold isS at h
  have := eq_of_beq h
  exact ByteArray.ext (Array.toList_inj.1 this)
def hkP (f : FuncId) (ds : List DV) : Option (Option DV) := match ds with
  | [.v (.string s)] => bif Nat.beq f 70 then some (some (.v (.bool (utf8R s)))) else none
  | [.v (.string s), .v (.string p)] =>
    bif Nat.beq f 72 then some (some (.v (.string (trimB s p)))) else
    bif Nat.beq f 78 then some (onE (isS p spnl && (utf8R s && Nat.ble s.size 1048576)) (.v (.bool (anySp s)))) else
    bif Nat.beq f 100 then some (onE (isS p sp1 && Nat.ble s.size 1048576) (DStrs (splB s))) else none
  | [.v (.string s), .v (.int .i64 (.ofNat n))] => bif Nat.beq f 79 then some (onE (isS s sp1 && Nat.ble n 1048576) (.v (.string (blB n)))) else none
  | _ => none
theorem bif_ite {α : Type} {b : Bool} {x y z : α} (h : (bif b then x else y) = z) : (b = true ∧ x = z) ∨ (b = false ∧ y = z) := by
  cases b with
  | true => exact .inl ⟨rfl, h⟩
  | false => exact .inr ⟨rfl, h⟩
theorem hkP_ok {f : FuncId} {ds : List DV} {d : DV} {hp : Tr DO} {nx : Nat} (h : hkP f ds = some (some d)) : OkH f ds hp nx d [] nx := by
  unfold hkP at h
  split at h
  · rcases bif_ite h with ⟨hf, h⟩ | ⟨_, h⟩
    · cases h
      obtain rfl := Nat.eq_of_beq_eq_true hf
      exact hookP (fun ρ => .v _) (fun ρ dsA hR => by rw [RL1 hR]; exact vs50 _)
    · cases h
  · rcases bif_ite h with ⟨hf, h⟩ | ⟨_, h⟩
    · cases h
      obtain rfl := Nat.eq_of_beq_eq_true hf
      exact hookP (fun ρ => .v _) (fun ρ dsA hR => by rw [RL2 hR]; exact sTrimSuffix _ _)
    rcases bif_ite h with ⟨hf, h⟩ | ⟨_, h⟩
    · obtain rfl := Nat.eq_of_beq_eq_true hf
      obtain ⟨hc, rfl⟩ := onE_some (Option.some.inj h)
      simp only [Bool.and_eq_true] at hc
      obtain ⟨h1, h2, h3⟩ := hc
      obtain rfl := isS_eq h1
      exact hookP (fun ρ => .v _) (fun ρ dsA hR => by rw [RL2 hR]; exact sContainsAny _ h2 (Nat.le_of_ble_eq_true h3))
    rcases bif_ite h with ⟨hf, h⟩ | ⟨_, h⟩
    · obtain rfl := Nat.eq_of_beq_eq_true hf
      obtain ⟨hc, rfl⟩ := onE_some (Option.some.inj h)
      simp only [Bool.and_eq_true] at hc
      obtain ⟨h1, h3⟩ := hc
      obtain rfl := isS_eq h1
      exact hookP (fun ρ => RD.strs ρ _) (fun ρ dsA hR => by rw [RL2 hR]; exact sSplitB _ (Nat.le_of_ble_eq_true h3))
    · cases h
  · rcases bif_ite h with ⟨hf, h⟩ | ⟨_, h⟩
    · obtain rfl := Nat.eq_of_beq_eq_true hf
      obtain ⟨hc, rfl⟩ := onE_some (Option.some.inj h)
      simp only [Bool.and_eq_true] at hc
      obtain ⟨h1, h3⟩ := hc
      obtain rfl := isS_eq h1
      exact hookP (fun ρ => .v _) (fun ρ dsA hR => by rw [RL2 hR]; exact sRepeat _ (Nat.le_of_ble_eq_true h3))
    · cases h
  · cases h
end Go.GH
namespace Go.GH
open Go Go.Lib Go.Proofs Go.Proofs.YteodhhepbnehhaaGreatDoor
theorem u8Extra : U8Extra Tryz.prog Tryz.laysValid_ren :=
  ⟨by kernel_rfl, by kernel_rfl, by kernel_rfl, by kernel_rfl, by kernel_rfl, by kernel_rfl, by kernel_rfl⟩
theorem laid_E50 (W : World) (h : laidMetH Tryz.prog Rows.justifySheetsRow.laid W) (hS : W.ShapedOpen Tryz.prog) : E50.holds W (AllF W) := by
  have h' : laidMet Tryz.prog [("unicode/utf8.acceptRanges", Rows.laid_unicode_utf8_acceptRanges), ("unicode/utf8.first", Rows.laid_unicode_utf8_first)] W := h
  have e1 : Rows.laid_unicode_utf8_first = firstData := by kernel_rfl
  have e2 : (Rows.laid_unicode_utf8_acceptRanges : DataW Unit) = acceptData := by kernel_rfl
  rw [e1, e2] at h'
  obtain ⟨h1, h2, h3⟩ := tabE_all (utf8Tabs_of_readsT (U8Types.of196 Tryz.laysValid) u8Extra (laidMet.reads h' (.tail _ (.head _))) (laidMet.reads h' (.head _)))
  obtain ⟨m, hm⟩ := Tryz.laysSplit.s1_3 W hS
  exact ⟨h1, h2, h3, ⟨m, hm⟩, (cell?_lt hm).1⟩
end Go.GH
namespace Go.GH
open Go

theorem map_of {α β : Type} {f : α → β} : ∀ {es : List β}, (∀ e ∈ es, ∃ x, e = f x) → ∃ xs : List α, es = xs.map f
  | [], _ => ⟨[], rfl⟩
  | e :: es, h => by
    obtain ⟨x, rfl⟩ := h e (List.mem_cons_self ..)
    obtain ⟨xs, rfl⟩ := map_of (fun e he => h e (List.mem_cons_of_mem _ he))
    exact ⟨x :: xs, rfl⟩
def ElemIs (L : List DTy) (e : List DV) : Prop := e.length = L.length ∧ ∀ (j : Nat) d ty, e[j]? = some d → L[j]? = some ty → HasD ty d
theorem HasD.slice {α : Type} {L : List DTy} {f : α → List DV} {d : DV} (h : HasD (.sl L) d) (hf : ∀ e, ElemIs L e → ∃ x, e = f x) : ∃ xs : List α, d = .isl false L.length (xs.map f) := by
  cases h with
  | @sl L es hl hd =>
    obtain ⟨xs, rfl⟩ := map_of (f := f) (es := es) (fun e he => by
      obtain ⟨i, hi⟩ := List.mem_iff_getElem?.1 he
      exact hf e ⟨hl i e hi, fun j d ty hj ht => hd i e j d ty hi hj ht⟩)
    exact ⟨xs, rfl⟩
theorem ElemIs.one {ty : DTy} {e : List DV} (h : ElemIs [ty] e) : ∃ d, e = [d] ∧ HasD ty d := by
  obtain ⟨h1, h2⟩ := h
  match e, h1 with
  | [d], _ => exact ⟨d, rfl, h2 0 d ty rfl rfl⟩
theorem ElemIs.two {t1 t2 : DTy} {e : List DV} (h : ElemIs [t1, t2] e) : ∃ d1 d2, e = [d1, d2] ∧ HasD t1 d1 ∧ HasD t2 d2 := by
  obtain ⟨h1, h2⟩ := h
  match e, h1 with
  | [d1, d2], _ => exact ⟨d1, d2, rfl, h2 0 d1 t1 rfl rfl, h2 1 d2 t2 rfl rfl⟩
theorem ElemIs.three {t1 t2 t3 : DTy} {e : List DV} (h : ElemIs [t1, t2, t3] e) : ∃ d1 d2 d3, e = [d1, d2, d3] ∧ HasD t1 d1 ∧ HasD t2 d2 ∧ HasD t3 d3 := by
  obtain ⟨h1, h2⟩ := h
  match e, h1 with
  | [d1, d2, d3], _ => exact ⟨d1, d2, d3, rfl, h2 0 d1 t1 rfl rfl, h2 1 d2 t2 rfl rfl, h2 2 d3 t3 rfl rfl⟩
theorem HasD.int_inv {k : IntKind} {d : DV} (h : HasD (.int k) d) : ∃ n, d = .v (.int k n) ∧ k.has n := by cases h with | int h => exact ⟨_, rfl, h⟩
theorem HasD.str_inv {d : DV} (h : HasD .str d) : ∃ s, d = .v (.string s) := by cases h; exact ⟨_, rfl⟩
theorem HasD.bool_inv {d : DV} (h : HasD .bool d) : ∃ b, d = .v (.bool b) := by cases h; exact ⟨_, rfl⟩
theorem HasD.letters {d : DV} (h : HasD (.sl [.int .i32, .int .u32]) d) : ∃ a, d = DLs a :=
  h.slice (f := encL) (fun e he => by
    obtain ⟨d1, d2, rfl, h1, h2⟩ := he.two
    obtain ⟨r, rfl, _⟩ := h1.int_inv
    obtain ⟨c, rfl, _⟩ := h2.int_inv
    exact ⟨⟨r, c⟩, rfl⟩)
theorem HasD.ints {d : DV} (h : HasD (.sl [.int .i64]) d) : ∃ l, d = DInts l :=
  h.slice (f := encI) (fun e he => by
    obtain ⟨d1, rfl, h1⟩ := he.one
    obtain ⟨r, rfl, _⟩ := h1.int_inv
    exact ⟨r, rfl⟩)
theorem HasD.masks {d : DV} (h : HasD (.sl [.int .u32]) d) : ∃ l, d = DMasks l :=
  h.slice (f := encU) (fun e he => by
    obtain ⟨d1, rfl, h1⟩ := he.one
    obtain ⟨r, rfl, _⟩ := h1.int_inv
    exact ⟨r, rfl⟩)
theorem HasD.strs {d : DV} (h : HasD (.sl [.str]) d) : ∃ l, d = DStrs l :=
  h.slice (f := encS) (fun e he => by
    obtain ⟨d1, rfl, h1⟩ := he.one
    obtain ⟨r, rfl⟩ := h1.str_inv
    exact ⟨r, rfl⟩)

end Go.GH
namespace Go.GH
open Go Go.RowKit Go.Proofs.YteodhhepbnehhaaGreatDoor

inductive SmallD (N : Nat) : DV → Prop
  | v {x : Value} (h : ∀ s, x = .string s → s.size ≤ N) : SmallD N (.v x)
  | isl {nn : Bool} {sz : Nat} {es : List (List DV)} (hl : es.length ≤ N) (h : ∀ (i : Nat) e (j : Nat) d, es[i]? = some e → e[j]? = some d → SmallD N d) : SmallD N (.isl nn sz es)
theorem bulk_one {H : Type} (d : DataW H) : 1 ≤ Rows.uptoBulk d := by
  cases d with
  | lit l => cases l <;> simp [Rows.uptoBulk]
  | _ => simp [Rows.uptoBulk]
theorem bulk_part {H : Type} {d : DataW H} : ∀ {l : List (DataW H)}, d ∈ l → Rows.uptoBulk d ≤ Rows.uptoBulkAll l
  | [], h => by cases h
  | x :: l, h => by
    rw [Rows.uptoBulkAll]
    rcases List.mem_cons.1 h with rfl | h
    · omega
    · have := bulk_part h; omega
theorem bulk_len {H : Type} : ∀ (l : List (DataW H)), l.length ≤ Rows.uptoBulkAll l
  | [] => Nat.zero_le _
  | x :: l => by
    rw [Rows.uptoBulkAll, List.length_cons]
    have := bulk_len l
    have := bulk_one x
    omega
theorem bulk_elems {H : Type} (a b : List (DataW H)) : Rows.uptoBulkAll a ≤ Rows.uptoBulk (.slice a b) := by
  rw [Rows.uptoBulk]; omega
theorem bulk_agg {H : Type} (a : List (DataW H)) : Rows.uptoBulkAll a ≤ Rows.uptoBulk (.agg a) := by
  rw [Rows.uptoBulk]; omega
theorem bulk_str {H : Type} (s : ByteArray) : Rows.uptoBulk (DataW.lit (H := H) (.string s.data.toList)) = s.size + 1 := by
  rw [Rows.uptoBulk]; simp
def CellsS (N : Nat) (w : World) (cs : List Value) (L : List DTy) (ds : List DV) : Prop :=
  cs.length = L.length ∧ ds.length = L.length ∧ ∀ (j : Nat) v d ty, cs[j]? = some v → ds[j]? = some d → L[j]? = some ty → Rep w (AllF w) v d ∧ HasD ty d ∧ v.oneCell' = true ∧ SmallD N d
def PWS (N : Nat) (w : World) (cs : List Value) (L : List DTy) : Prop :=
  cs.length = L.length ∧ ∀ (j : Nat) v ty, cs[j]? = some v → L[j]? = some ty → ∃ d, Rep w (AllF w) v d ∧ HasD ty d ∧ v.oneCell' = true ∧ SmallD N d
theorem PWS.cells {N : Nat} {w : World} {cs : List Value} {L : List DTy} (h : PWS N w cs L) : ∃ ds, CellsS N w cs L ds := by
  have key : ∀ j, ∃ d, ∀ v ty, cs[j]? = some v → L[j]? = some ty → Rep w (AllF w) v d ∧ HasD ty d ∧ v.oneCell' = true ∧ SmallD N d := fun j => by
    by_cases hj : j < L.length
    · obtain ⟨d, hd⟩ := h.2 j _ _ (List.getElem?_eq_getElem (show j < cs.length by rw [h.1]; exact hj)) (List.getElem?_eq_getElem hj)
      refine ⟨d, fun v ty hv ht => ?_⟩
      rw [List.getElem?_eq_getElem (show j < cs.length by rw [h.1]; exact hj)] at hv
      rw [List.getElem?_eq_getElem hj] at ht
      obtain rfl := Option.some.inj hv
      obtain rfl := Option.some.inj ht
      exact hd
    · exact ⟨.any, fun v ty _ ht => absurd (List.getElem?_eq_some_iff.1 ht).1 hj⟩
  refine ⟨(List.range L.length).map (fun j => (key j).choose), h.1, by simp, fun j v d ty hv hd ht => ?_⟩
  rw [List.getElem?_map] at hd
  obtain ⟨q, hq, rfl⟩ := Option.map_eq_some_iff.1 hd
  have hlt : j < L.length := (List.getElem?_eq_some_iff.1 ht).1
  rw [List.getElem?_range hlt] at hq
  obtain rfl := Option.some.inj hq
  exact (key j).choose_spec v ty hv ht
theorem PWS.one {N : Nat} {w : World} {v : Value} {ty : DTy} {d : DV} (h1 : Rep w (AllF w) v d) (h2 : HasD ty d) (h3 : v.oneCell' = true) (h4 : SmallD N d) : PWS N w [v] [ty] :=
  ⟨rfl, fun j u t hv ht => by
    match j, hv, ht with
    | 0, hv, ht => simp at hv ht; subst hv; subst ht; exact ⟨d, h1, h2, h3, h4⟩
    | j + 1, hv, ht => simp at hv⟩
theorem pws_trod {N : Nat} {H : Type} {enc : TypeId × Value → H} {P : Program} {w : World} {sp : Nat → Bool} {held : Bool} {t : TypeId} {L : List DTy} (h : TyIs P t L) :
    ∀ (fuel : Nat) (cs : List Value) (x : DataW H × List MemPlace), DataW.trod enc P w 0 sp held fuel t cs = some x → Rows.uptoBulk x.1 ≤ N → PWS N w cs L := by
  induction h with
  | @int t k h =>
    intro fuel cs x hx hb0
    obtain ⟨n, rfl, hxe, hwf⟩ := DataW.trod_int h hx
    exact .one (d := .v (.int k n)) (.v (show k.has n from lit_int_wf hwf)) (.int (lit_int_wf hwf)) rfl (.v (fun s e => by cases e))
  | @str t h =>
    intro fuel cs x hx hb0
    obtain ⟨s, rfl, hxe, hs⟩ := DataW.trod_string h hx
    have hs : s.size ≤ lenB := by
      have e : maxLen = lenB := by decide
      omega
    exact .one (d := .v (.string s)) (.v hs) (.str hs) rfl (.v (fun s' e => by cases e; rw [hxe, bulk_str] at hb0; omega))
  | @bool t h =>
    intro fuel cs x hx hb0
    obtain ⟨b, rfl, _⟩ := DataW.trod_bool h hx
    exact .one (d := .v (.bool b)) (.v trivial) .bool rfl (.v (fun s e => by cases e))
  | @sl t e L h he hc hne ih =>
    intro fuel cs x hx hb0
    rcases DataW.trod_slice h hx with ⟨rfl, _⟩ | ⟨a, len, cap, elems, rest, n, rfl, rfl, hxe, hb, hl, hm, hlen, hel, _, _⟩
    · exact .one (d := .isl false L.length []) (.isl (b := 0) (o := 0) (fun _ _ => undef) rfl (by omega) (by simp [lenB]) (fun h => by cases h) (fun h => absurd rfl h) (fun i e h => by simp at h) (fun i e j d h => by simp at h) (fun i e j d h => by simp at h))
        (.sl (fun i e h => by simp at h) (fun i e j d ty h => by simp at h)) rfl (.isl (by simp) (fun i e j d h => by simp at h))
    · have key : ∀ i, ∃ p : List Value × List DV, i < len → w.cells? 0 (a.add (i * L.length)) L.length = some p.1 ∧ CellsS N w p.1 L p.2 := fun i => by
        by_cases hi : i < len
        · have h1 := hel i hi
          rw [List.getElem?_eq_getElem (by omega)] at h1
          obtain ⟨cs', h2, h3⟩ := Option.bind_eq_some_iff.1 h1
          have hbe : Rows.uptoBulk (elems[i]'(by omega)).1 ≤ N := by
            rw [hxe] at hb0
            exact Nat.le_trans (bulk_part (List.mem_map.2 ⟨_, List.getElem_mem _, rfl⟩)) (Nat.le_trans (bulk_elems _ _) hb0)
          obtain ⟨ds, hds⟩ := (ih n cs' _ h3 hbe).cells
          exact ⟨(cs', ds), fun _ => ⟨by rw [← hc]; exact h2, hds⟩⟩
        · exact ⟨([], []), fun h => absurd h hi⟩
      have hpos : 0 < L.length := List.length_pos_iff.2 hne
      have hspot : 0 < len → a.spot = none ∧ a.block < w.heap.size := fun h0 => by
        obtain ⟨h1, h2, _⟩ := (key 0).choose_spec h0
        obtain ⟨_, _, h4⟩ := World.cells?_some h1
        have h5 := h4 0 hpos
        rw [List.getElem?_eq_getElem (by omega)] at h5
        simp only [Nat.zero_mul] at h5
        have h6 := cell?_lt h5
        simp [Addr.add] at h6
        exact ⟨h6.2, h6.1⟩
      have hadd : 0 < len → ∀ q, a.add q = ⟨a.block, a.off + q, none⟩ := fun h0 q => by
        have := (hspot h0).1
        obtain ⟨b, o, s⟩ := a
        simp only at this
        subst this
        exact add_plain' b o q
      let es : List (List DV) := (List.range len).map (fun i => (key i).choose.2)
      have hes : ∀ (i : Nat) e, es[i]? = some e → i < len ∧ e = (key i).choose.2 := fun i e hi => by
        simp only [es, List.getElem?_map] at hi
        obtain ⟨q, hq, rfl⟩ := Option.map_eq_some_iff.1 hi
        have hlt : i < len := by have := (List.getElem?_eq_some_iff.1 hq).1; simpa using this
        rw [List.getElem?_range hlt] at hq
        obtain rfl := Option.some.inj hq
        exact ⟨hlt, rfl⟩
      have hcell : ∀ (i : Nat) e (j : Nat) d, es[i]? = some e → e[j]? = some d → ∃ v ty, L[j]? = some ty ∧ w.cell? ⟨a.block, a.off + (i * L.length + j), none⟩ = some v ∧ ((key i).choose.1)[j]? = some v ∧ Rep w (AllF w) v d ∧ HasD ty d ∧ v.oneCell' = true ∧ SmallD N d := fun i e j d hi hj => by
        obtain ⟨hlt, rfl⟩ := hes i e hi
        obtain ⟨h1, h2, h3, h4⟩ := (key i).choose_spec hlt
        obtain ⟨_, _, h5⟩ := World.cells?_some h1
        have hjl : j < L.length := by rw [← h3]; exact (List.getElem?_eq_some_iff.1 hj).1
        have hv := List.getElem?_eq_getElem (show j < ((key i).choose.1).length by omega)
        refine ⟨_, _, List.getElem?_eq_getElem hjl, ?_, hv, h4 j _ d _ hv hj (List.getElem?_eq_getElem hjl)⟩
        rw [← hv, ← h5 j hjl, hadd (by omega), add_plain', Nat.add_assoc]
      have hesl : es.length = len := by simp [es]
      have hmx : maxLen = lenB := by decide
      refine .one (d := .isl false L.length es) (.isl (b := a.block) (o := a.off) (fun i j => (((key i).choose.1)[j]?).getD undef) hesl.symm hl (by omega) (fun h => by cases h) (fun hne' => ?_) (fun i e hi => ?_) (fun i e j d hi hj => ?_) (fun i e j d hi hj => ?_)) (.sl (fun i e hi => ?_) (fun i e j d ty hi hj hty => ?_)) rfl (.isl (by rw [hesl, ← hlen]; rw [hxe] at hb0; exact Nat.le_trans (by simpa using bulk_len (elems.map (·.1))) (Nat.le_trans (bulk_elems _ _) hb0)) (fun i e j d hi hj => by obtain ⟨_, _, _, _, _, _, _, _, h7⟩ := hcell i e j d hi hj; exact h7))
      · have h0 : 0 < len := by
          rcases Nat.eq_zero_or_pos len with h | h
          · exact absurd (by simp [es, h]) hne'
          · exact h
        refine ⟨?_, (hspot h0).2⟩
        have := (hspot h0).1
        obtain ⟨b, o, s⟩ := a
        simp only at this
        subst this
        rfl
      · obtain ⟨hlt, rfl⟩ := hes i e hi; exact ((key i).choose_spec hlt).2.2.1
      · obtain ⟨v, ty, _, h2, h3, _, _, h6, _⟩ := hcell i e j d hi hj
        simp only [h3, Option.getD_some]
        exact ⟨h2, h6⟩
      · obtain ⟨v, ty, _, _, h3, h4, _⟩ := hcell i e j d hi hj
        simp only [h3, Option.getD_some]
        exact h4
      · obtain ⟨hlt, rfl⟩ := hes i e hi; exact ((key i).choose_spec hlt).2.2.1
      · obtain ⟨v, ty', h1, _, _, _, h5, _⟩ := hcell i e j d hi hj
        rw [h1] at hty
        obtain rfl := Option.some.inj hty
        exact h5
  | @struct t fs Ls h hc hl hf ho ih =>
    intro fuel cs x hx hb0
    obtain ⟨xs, n, rfl, hxe, hlen, hxl, hx⟩ := DataW.trod_struct h hx
    refine ⟨hlen.trans hc, fun j v ty hv hty => ?_⟩
    obtain ⟨i, Li, q, h1, h2, rfl⟩ := flatten_find Ls j ty hty
    have hi : i < fs.size := by rw [← hl]; exact (List.getElem?_eq_some_iff.1 h1).1
    have hfi := Array.getElem?_eq_getElem hi
    obtain ⟨o1, o2⟩ := ho i _ Li hfi h1
    have h3 := hx i _ hfi
    rw [List.getElem?_eq_getElem (show i < xs.length by omega)] at h3
    have hbe : Rows.uptoBulk (xs[i]'(by omega)).1 ≤ N := by
      rw [hxe] at hb0
      exact Nat.le_trans (bulk_part (List.mem_map.2 ⟨_, List.getElem_mem _, rfl⟩)) (Nat.le_trans (bulk_agg _) hb0)
    obtain ⟨_, h4⟩ := ih i _ Li hfi h1 n _ _ h3 hbe
    have hql : q < Li.length := (List.getElem?_eq_some_iff.1 h2).1
    exact h4 q v ty (by rw [List.getElem?_take, if_pos (by omega), List.getElem?_drop, o1]; exact hv) h2

/-- An argument of one cell. -/
theorem arg_repS {N : Nat} {H : Type} {enc : TypeId × Value → H} {P : Program} {w : World} {sp : Nat → Bool} {held : Bool} {t : TypeId} {ty : DTy} {v : Value} {d : DataW H} {p : List MemPlace} (hT : TyIs P t [ty]) (h : DataW.Trod enc P w 0 sp held t v d p) (hv : v.cells = #[v]) (hb : Rows.uptoBulk d ≤ N) : ∃ dv, Rep w (AllF w) v dv ∧ HasD ty dv ∧ SmallD N dv := by
  obtain ⟨fuel, h⟩ := h
  rw [hv] at h
  obtain ⟨ds, h1, h2, h3⟩ := (pws_trod hT fuel _ _ h hb).cells
  match ds, h2 with
  | [dv], _ => exact ⟨dv, (h3 0 v dv ty rfl rfl rfl).1, (h3 0 v dv ty rfl rfl rfl).2.1, (h3 0 v dv ty rfl rfl rfl).2.2.2⟩
/-- An argument of several cells. -/
theorem arg_repAS {N : Nat} {H : Type} {enc : TypeId × Value → H} {P : Program} {w : World} {sp : Nat → Bool} {held : Bool} {t : TypeId} {L : List DTy} {us : Array Value} {d : DataW H} {p : List MemPlace} (hT : TyIs P t L) (h : DataW.Trod enc P w 0 sp held t (.agg us) d p) (hb : Rows.uptoBulk d ≤ N) : ∃ ds, Rep w (AllF w) (.agg us) (.agg ds) ∧ ElemIs L ds ∧ ∀ d ∈ ds, SmallD N d := by
  obtain ⟨fuel, h⟩ := h
  obtain ⟨ds, h1, h2, h3⟩ := (pws_trod hT fuel _ _ h hb).cells
  have hus : us.size = ds.length := by rw [h2, ← h1]; rfl
  refine ⟨ds, .agg hus (fun j x dd hx hd => ?_), ⟨h2, fun j dd ty hd ht => ?_⟩, fun dd hdd => ?_⟩
  · have hlt : j < L.length := by rw [← h2]; exact (List.getElem?_eq_some_iff.1 hd).1
    exact (h3 j x dd _ (by show us.toList[j]? = some x; simpa using hx) hd (List.getElem?_eq_getElem hlt)).1
  · have hlt : j < us.size := by rw [hus]; exact (List.getElem?_eq_some_iff.1 hd).1
    exact (h3 j us[j] dd ty (by show us.toList[j]? = some us[j]; simp [hlt]) hd ht).2.1
  · obtain ⟨j, hj⟩ := List.mem_iff_getElem?.1 hdd
    have hlt : j < us.size := by rw [hus]; exact (List.getElem?_eq_some_iff.1 hj).1
    have hlL : j < L.length := by rw [← h2]; exact (List.getElem?_eq_some_iff.1 hj).1
    exact (h3 j us[j] dd _ (by show us.toList[j]? = some us[j]; simp [hlt]) hj (List.getElem?_eq_getElem hlL)).2.2.2
end Go.GH
namespace Go.GH
open Go
theorem HasD.boxes {d : DV} (h : HasD (.sl [.str, .sl [.int .i64]]) d) : ∃ l, d = DBxs l :=
  h.slice (f := encBx) (fun e he => by
    obtain ⟨d1, d2, rfl, h1, h2⟩ := he.two
    obtain ⟨s, rfl⟩ := h1.str_inv
    obtain ⟨p, rfl⟩ := h2.ints
    exact ⟨⟨s, p⟩, rfl⟩)
theorem HasD.lines {d : DV} (h : HasD (.sl [.sl [.str], .bool]) d) : ∃ l, d = DLns l :=
  h.slice (f := encLn) (fun e he => by
    obtain ⟨d1, d2, rfl, h1, h2⟩ := he.two
    obtain ⟨p, rfl⟩ := h1.strs
    obtain ⟨b, rfl⟩ := h2.bool_inv
    exact ⟨⟨p, b⟩, rfl⟩)
end Go.GH
namespace Go.GH
open Go
theorem ElemIs.line {e : List DV} (h : ElemIs [.sl [.str], .bool] e) : ∃ x : Ln, e = encLn x := by
  obtain ⟨d1, d2, rfl, h1, h2⟩ := h.two
  obtain ⟨p, rfl⟩ := h1.strs
  obtain ⟨b, rfl⟩ := h2.bool_inv
  exact ⟨⟨p, b⟩, rfl⟩
end Go.GH
namespace Go.GH
open Go
theorem SmallD.str {N : Nat} {s : ByteArray} (h : SmallD N (.v (.string s))) : s.size ≤ N := by cases h with | v h => exact h s rfl
theorem SmallD.boxes {N : Nat} {l : List Bx} (h : SmallD N (DBxs l)) : ∀ x ∈ l, x.word.size ≤ N := fun x hx => by
  obtain ⟨i, hi⟩ := List.mem_iff_getElem?.1 hx
  cases h with
  | isl hl h => exact (h i (encBx x) 0 (.v (.string x.word)) (by rw [List.getElem?_map, hi]; rfl) rfl).str
theorem SmallD.line {N : Nat} {x : Ln} (h : ∀ d ∈ encLn x, SmallD N d) : ∀ s ∈ x.words, s.size ≤ N := fun s hs => by
  have h0 := h (DStrs x.words) (by simp [encLn])
  obtain ⟨i, hi⟩ := List.mem_iff_getElem?.1 hs
  cases h0 with
  | isl hl h => exact (h i (encS s) 0 (.v (.string s)) (by rw [List.getElem?_map, hi]; rfl) rfl).str
end Go.GH
namespace Go.GH
open Go Go.Proofs
variable {E : Env}
end Go.GH
namespace Go.GH
open Go Go.Proofs
variable {E : Env}
theorem q50utf8 (s : ByteArray) (hs : s.size ≤ 1048576) : GCall Tryz.prog E 47 [.v (.string s)] [] (fun d H => d = .v (.bool (utf8R s)) ∧ H = []) := by
 refine GCall.body (C := ⟨Tryz.prog, E, true⟩) Tryz.func47 rfl (fun _ => rfl) (by kernel_rfl) rfl ?_
 refine SCode.seqR (SOps.assign rfl (SOps.nil (SCode.seqR (SOps.assign rfl (SOps.nil (SCode.seq (SCode.seqR (SOps.move rfl ?_))))))))
 refine SOps.rangeStr rfl strB_9 (fun b0 hb_0 => ?_)
 refine SOps.nil (SCode.block (SCode.loop3 (fun (p : Nat) (b : Nat) (done : List Int) => (⟨18, [(0, .v (.string s)), (3, .v (.string (encs done))), (7, .it b)], [(b, .iter s p)]⟩ : St)) (fun (p : Nat) (b : Nat) (done : List Int) => done ++ runesAt s p = runes s ∧ done.length ≤ p) (fun (p : Nat) (b : Nat) (done : List Int) => s.size - p) (0) (b0) ([]) (by exact ⟨rfl, Nat.zero_le _⟩) (St.Le.of ⟨(by first | rfl | (show some _ = some _; simp)), (by first | rfl | (show some _ = some _; simp)), (by first | rfl | (show some _ = some _; simp)), trivial⟩ rfl (by first | rfl | (simp))) ?_))
 rintro p b done ⟨hf, hdl⟩
 refine SCode.seqR ?_
 refine SOps.next 0 rfl rfl (fun hn1 => ?_) (fun hn1 => ?_) (by first | omega | (simp only [lenB]; omega) | (simp only [List.length_map, lenB]; omega) | (simp; done))
 ·refine SOps.extract rfl rfl (SOps.nil (SCode.seq ?_))
  refine SCode.cond rfl (fun _ => ?_) (fun h => by cases h)
  refine SCode.skip ?_
  show SCode _ _ _ _
  refine SCode.block (SCode.seqR (SOps.extract rfl rfl (SOps.assign rfl (SOps.nil (SCode.region (SOps.move rfl (SOps.move rfl (SOps.convIntStr rfl someB_21 strB_9 (SOps.concat rfl rfl (by have h4 := encs_size4 done; have h5 := encs_size4 [((Utf8.decode s p).1 : Int)]; rw [show encs [((Utf8.decode s p).1 : Int)] = Utf8.encode ((Utf8.decode s p).1 : Int) ++ .empty from rfl, ByteArray.size_append] at h5; simp only [List.length_cons, List.length_nil] at h5; show _ + _ ≤ _; simp only [lenB]; omega) (SOps.assign rfl (SOps.nil ?_)))))))))))
  exact ⟨p + (Utf8.decode s p).2, b, done ++ [((Utf8.decode s p).1 : Int)], ⟨by rw [← hf, runesAt_lt hn1, List.append_assoc]; rfl, by have := decode_w s p; simp; omega⟩, by have := decode_w s p; omega, St.Le.of ⟨rfl, (by show some _ = some _; rw [encs_append]; simp only [encs, ByteArray.append_empty]), rfl, trivial⟩ rfl rfl⟩
 ·refine SOps.extract rfl rfl (SOps.nil (SCode.seq ?_))
  refine SCode.cond rfl (fun h => by cases h) (fun _ => ?_)
  refine SCode.exit ?_
  show SCode _ _ _ _
  refine SCode.seqR ?_
  have hrn : done = runes s := by rw [← hf, runesAt_ge (by omega), List.append_nil]
  refine SOps.move rfl (SOps.move rfl (SOps.bin rfl rfl rfl (SOps.assign rfl (SOps.nil (SCode.drop (SCode.ret ?_))))))
  exact ⟨_, Res.one (.tmp rfl), congrArg (fun b => DV.v (.bool b)) (by rw [Bool.eq_iff_iff, utf8R_iff, ← hrn]; simp), rfl⟩
theorem spB_iff {b : UInt8} : spB b = true ↔ ((b.toNat : Nat) : Int) = 32 ∨ ((b.toNat : Nat) : Int) = 10 := by
  unfold spB
  rw [Bool.or_eq_true, beq_iff_eq, beq_iff_eq, ← UInt8.toNat_inj, ← UInt8.toNat_inj]
  show b.toNat = 32 ∨ b.toNat = 10 ↔ _
  omega
theorem at_sp {s : ByteArray} {j : Nat} (hj : j < s.size) (h : ((s[j].toNat : Nat) : Int) = 32 ∨ ((s[j].toNat : Nat) : Int) = 10) (hu : utf8R s = true) : anySp s = true := by
  rw [← bytes_sp hu, List.any_eq_true]
  refine ⟨s[j], ?_, by rw [spB_iff]; exact h⟩
  have : s.data.toList[j]? = some s[j] := by
    rw [Array.getElem?_toList]
    exact Array.getElem?_eq_getElem hj
  exact List.mem_of_getElem? this
theorem no_sp {s : ByteArray} (hu : utf8R s = true) (h : ∀ j (hj : j < s.size), ¬ ((s[j].toNat : Nat) : Int) = 32 ∧ ¬ ((s[j].toNat : Nat) : Int) = 10) : anySp s = false := by
  rw [← bytes_sp hu, Bool.eq_false_iff]
  intro h9
  obtain ⟨b, hb, h8⟩ := List.any_eq_true.1 h9
  obtain ⟨j, hj, rfl⟩ := List.getElem_of_mem hb
  have hj' : j < s.size := by simpa using hj
  have h7 := h j hj'
  have e : s.data.toList[j] = s[j] := by rw [Array.getElem_toList]; rfl
  rw [e, spB_iff] at h8
  exact h8.elim h7.1 h7.2
theorem q50Printable (ln : Ln) (hw : ∀ w ∈ ln.words, w.size ≤ 1048576) (hl : ln.words.length ≤ 1048576) : GCall Tryz.prog E 15 [.agg (encLn ln)] [] (fun d H => d = .v (.bool (prB ln)) ∧ H = []) := by
 refine GCall.body (C := ⟨Tryz.prog, E, true⟩) Tryz.func15 rfl (fun _ => rfl) (by kernel_rfl) rfl ?_
 refine SCode.seqR (SOps.boxAM rfl rfl (SOps.assign rfl (SOps.nil (SCode.seq (SCode.seqR (SOps.assign rfl (SOps.nil (SCode.block (SCode.loop1 (fun (i : Nat) => (⟨45, [(1, .ipin (encLn ln)), (3, .v (.int .i64 (i : Int)))], []⟩ : St)) (fun (i : Nat) => i ≤ ln.words.length ∧ ∀ w ∈ ln.words.take i, wordB w = true) (fun (i : Nat) => ln.words.length - i) (0) (by simp) (St.Le.of ⟨(by first | rfl | (show some _ = some _; simp)), (by first | rfl | (show some _ = some _; simp)), trivial⟩ rfl (by first | rfl | (simp))) ?_)))))))))
 rintro i ⟨hi, hf⟩
 refine SCode.seq (SCode.seqR (SOps.move rfl (SOps.fieldPin rfl fieldB_24_0_0 (SOps.loadPin rfl flatB_22 (SOps.lenM rfl sliceB_22_9_1 (SOps.bin rfl rfl rfl (SOps.nil ?_)))))))
 refine SCode.cond rfl (fun hc1 => ?_) (fun hc1 => ?_)
 ·try simp only [nmL] at hc1
  refine SCode.skip ?_
  show SCode _ _ _ _
  refine SCode.seq (SCode.block (SCode.seqR ?_))
  have hil : i < ln.words.length := by omega
  have hwi := hw _ (List.getElem_mem hil)
  refine SOps.fieldPin rfl fieldB_24_0_0 (SOps.loadPin rfl flatB_22 (SOps.move rfl (SOps.indexM (i) rfl rfl sliceB_22_9_1 (by first | omega | (simp only [lenB]; omega) | (simp only [List.length_map, lenB]; omega) | (simp; done)) (by first | omega | (simp only [lenB]; omega) | (simp only [List.length_map, lenB]; omega) | (simp; done)) (SOps.loadPin rfl flatB_9 (SOps.assign rfl (SOps.nil (SCode.seq (SCode.seqR (SOps.move rfl (SOps.bin rfl rfl rfl (SOps.move rfl ?_)))))))))))
  refine SOps.caseB 20 rfl (fun hb2 => ?_) (fun hb2 => ?_)
  ·try simp only [nmL] at hb2
   refine SOps.skip rfl (SOps.skip rfl (SOps.skip rfl (SOps.pick rfl rfl (SOps.nil ?_))))
   refine SCode.cond rfl (fun _ => ?_) (fun h => by cases h)
   refine SCode.seqR (SOps.assign rfl (SOps.nil (SCode.ret ?_)))
   exact ⟨_, Res.one (.tmp rfl), congrArg (fun b => DV.v (.bool b)) (Eq.symm (Bool.eq_false_iff.2 (fun h => by have h9 := wordB_iff.1 ((prB_iff.1 h).2 _ (List.getElem_mem hil)); simp_all))), rfl⟩
  ·try simp only [nmL] at hb2
   refine SOps.move rfl (SOps.callP (q50utf8 _ (by assumption)) rfl ?_)
   rintro _ rfl
   refine SOps.un rfl rfl (SOps.pick rfl rfl (SOps.nil ?_))
   refine SCode.cond rfl (fun hc3 => ?_) (fun hc3 => ?_)
   ·try simp only [nmL] at hc3
    refine SCode.seqR (SOps.assign rfl (SOps.nil (SCode.ret ?_)))
    exact ⟨_, Res.one (.tmp rfl), congrArg (fun b => DV.v (.bool b)) (Eq.symm (Bool.eq_false_iff.2 (fun h => by have h9 := wordB_iff.1 ((prB_iff.1 h).2 _ (List.getElem_mem hil)); simp_all))), rfl⟩
   ·try simp only [nmL] at hc3
    refine SCode.skip ?_
    show SCode _ _ _ _
    refine SCode.seqR (SOps.assign rfl (SOps.nil (SCode.block (SCode.loop1 (fun (j : Nat) => (⟨45, [(1, .ipin (encLn ln)), (3, .v (.int .i64 (i : Int))), (4, .v (.string (ln.words[i]))), (5, .v (.int .i64 (j : Int)))], []⟩ : St)) (fun (j : Nat) => j ≤ (ln.words[i]).size ∧ ∀ k (hk : k < j) (hk2 : k < (ln.words[i]).size), ¬ (((ln.words[i])[k].toNat : Nat) : Int) = 32 ∧ ¬ (((ln.words[i])[k].toNat : Nat) : Int) = 10) (fun (j : Nat) => (ln.words[i]).size - j) (0) (by exact ⟨Nat.zero_le _, fun k hk => absurd hk (Nat.not_lt_zero _)⟩) (St.Le.of ⟨(by first | rfl | (show some _ = some _; simp)), (by first | rfl | (show some _ = some _; simp)), (by first | rfl | (show some _ = some _; simp)), (by first | rfl | (show some _ = some _; simp)), trivial⟩ rfl (by first | rfl | (simp))) ?_))))
    rintro j ⟨hj, hj2⟩
    refine SCode.seq (SCode.seqR (SOps.move rfl (SOps.move rfl (SOps.lenStr rfl strB_9 (SOps.bin rfl rfl rfl (SOps.nil ?_))))))
    refine SCode.cond rfl (fun hc4 => ?_) (fun hc4 => ?_)
    ·try simp only [nmL] at hc4
     refine SCode.skip ?_
     show SCode _ _ _ _
     refine SCode.seq (SCode.block (SCode.seqR ?_))
     have hjl : j < (ln.words[i]).size := by omega
     refine SOps.move rfl (SOps.move rfl (SOps.strIndexM (j) rfl rfl strB_9 (by first | omega | (simp only [lenB]; omega) | (simp only [List.length_map, lenB]; omega) | (simp; done)) (by first | omega | (simp only [lenB]; omega) | (simp only [List.length_map, lenB]; omega) | (simp; done)) (SOps.bin rfl rfl rfl (SOps.move rfl ?_))))
     refine SOps.caseB 35 rfl (fun hb5 => ?_) (fun hb5 => ?_)
     ·try simp only [nmL] at hb5
      refine SOps.skip rfl (SOps.skip rfl (SOps.skip rfl (SOps.skip rfl (SOps.pick rfl rfl (SOps.nil ?_)))))
      refine SCode.cond rfl (fun _ => ?_) (fun h => by cases h)
      refine SCode.seqR (SOps.assign rfl (SOps.nil (SCode.ret ?_)))
      exact ⟨_, Res.one (.tmp rfl), congrArg (fun b => DV.v (.bool b)) (Eq.symm (Bool.eq_false_iff.2 (fun h => by have h9 := wordB_iff.1 ((prB_iff.1 h).2 _ (List.getElem_mem hil)); have h7 := at_sp hjl (by first | exact .inl (by assumption) | exact .inr (by assumption)) h9.2.1; rw [h7] at h9; simp at h9))), rfl⟩
     ·try simp only [nmL] at hb5
      refine SOps.move rfl (SOps.move rfl (SOps.strIndexM (j) rfl rfl strB_9 (by first | omega | (simp only [lenB]; omega) | (simp only [List.length_map, lenB]; omega) | (simp; done)) (by first | omega | (simp only [lenB]; omega) | (simp only [List.length_map, lenB]; omega) | (simp; done)) (SOps.bin rfl rfl rfl (SOps.pick rfl rfl (SOps.nil ?_)))))
      refine SCode.cond rfl (fun hc6 => ?_) (fun hc6 => ?_)
      ·try simp only [nmL] at hc6
       refine SCode.seqR (SOps.assign rfl (SOps.nil (SCode.ret ?_)))
       exact ⟨_, Res.one (.tmp rfl), congrArg (fun b => DV.v (.bool b)) (Eq.symm (Bool.eq_false_iff.2 (fun h => by have h9 := wordB_iff.1 ((prB_iff.1 h).2 _ (List.getElem_mem hil)); have h7 := at_sp hjl (by first | exact .inl (by assumption) | exact .inr (by assumption)) h9.2.1; rw [h7] at h9; simp at h9))), rfl⟩
      ·try simp only [nmL] at hc6
       refine SCode.skip ?_
       show SCode _ _ _ _
       refine SCode.region (SOps.move rfl (SOps.addI rfl rfl (by first | omega | (simp only [lenB]; omega) | (simp only [List.length_map, lenB]; omega) | (simp; done)) (by first | omega | (simp only [lenB]; omega) | (simp only [List.length_map, lenB]; omega) | (simp; done)) (SOps.assign rfl (SOps.nil ?_))))
       exact ⟨j + 1, ⟨by omega, fun k hk hk2 => by by_cases e : k = j; subst e; exact ⟨by first | assumption | (simp_all; done), by first | assumption | (simp_all; done)⟩; exact hj2 k (by omega) hk2⟩, by omega, St.Le.of ⟨rfl, rfl, rfl, rfl, trivial⟩⟩
    ·try simp only [nmL] at hc4
     refine SCode.exit ?_
     show SCode _ _ _ _
     refine SCode.region (SOps.move rfl (SOps.addI rfl rfl (by first | omega | (simp only [lenB]; omega) | (simp only [List.length_map, lenB]; omega) | (simp; done)) (by first | omega | (simp only [lenB]; omega) | (simp only [List.length_map, lenB]; omega) | (simp; done)) (SOps.assign rfl (SOps.nil ?_))))
     exact ⟨i + 1, ⟨by omega, take_more hf hil (wordB_iff.2 ⟨by first | assumption | (simp_all; done), by first | assumption | (simp_all; done), no_sp (by first | assumption | (simp_all; done)) (fun k hk => hj2 k (by omega) hk)⟩)⟩, by omega, St.Le.of ⟨rfl, rfl, trivial⟩⟩
 ·try simp only [nmL] at hc1
  refine SCode.exit ?_
  show SCode _ _ _ _
  refine SCode.seqR (SOps.fieldPin rfl fieldB_24_0_0 (SOps.loadPin rfl flatB_22 (SOps.lenM rfl sliceB_22_9_1 (SOps.bin rfl rfl rfl (SOps.assign rfl (SOps.nil (SCode.ret ?_)))))))
  exact ⟨_, Res.one (.tmp rfl), congrArg (fun b => DV.v (.bool b)) (by rw [prB, List.all_eq_true.2 (all_of (by omega) hf), Bool.and_true, Bool.eq_iff_iff]; simp), rfl⟩
theorem SCode.reSlot {C : Ctx} {st : St} {c : Code} {Q : Exit → St → Prop} {t : Tmp} {d d' : DV} (hd : st.get t = some d) (he : d = d') (h : SCode C c ⟨st.n, (t, d') :: st.slots, st.heap⟩ Q) : SCode C c st Q := by
  subst he
  intro base ok a w ⟨F, hs⟩
  exact h base ok a w ⟨F, SimF.relabel hs hd id⟩
end Go.GH
namespace Go.GH
open Go Go.Lib
def colP (l : List Bx) (i : Nat) : Int := (pt3 l i).2.2
def hyP (l : List Bx) (i : Nat) : Bool := decide (0 < (pt3 l i).2.1)
def endP (l : List Bx) (i : Nat) : Int := colP l i + if hyP l i then 1 else -1
theorem lenP_eq (l : List Bx) (i k : Nat) : lenP l i k = endP l k - colP l i := by
  unfold lenP endP colP hyP
  by_cases h : 0 < (pt3 l k).2.1
  · rw [if_pos h, if_pos (by simpa using h)]; omega
  · rw [if_neg h, if_neg (by simpa using h)]; omega
theorem colP_eq {l : List Bx} {i : Nat} (h : i < ptN l) : colP l i = (stB l (ptQ l i).1 : Int) + (ptQ l i).2 ∧ hyP l i = decide (0 < (ptQ l i).2) := by
  unfold colP hyP
  rw [pt3_eq h]
  exact ⟨rfl, rfl⟩
theorem pts_step2 {l : List Bx} {i k : Nat} (h : boxesB l = true) (hik : i < k) (hk : k < ptN l) : colP l i < colP l k ∧ endP l i ≤ endP l k ∧ colP l i + 1 ≤ endP l k := by
  obtain ⟨c1, y1⟩ := colP_eq (show i < ptN l by omega)
  obtain ⟨c2, y2⟩ := colP_eq hk
  have h1 := ptQ_ltP h hik hk
  have h2 := ptQ_small h (show i < ptN l - 1 by omega)
  have h3 := ptQ_ok h hk
  unfold endP
  rw [c1, c2, y1, y2]
  generalize ptQ l i = a at *
  generalize ptQ l k = b at *
  obtain ⟨h21, h22, h23⟩ := h2
  rw [wAt_lt h21] at h23
  have hb0 : 0 ≤ b.2 := by
    rcases h3 with h3 | h3
    · exact h3.2.1
    · rw [h3]; exact Int.le_refl _
  have hb1 : b.1 ≤ l.length := by
    rcases h3 with h3 | h3
    · exact Nat.le_of_lt h3.1
    · rw [h3]; exact Nat.le_refl _
  simp only [decide_eq_true_eq]
  rcases h1 with h1 | ⟨h1, h4⟩
  · have h5 := stB_succ h21
    have h6 := stB_mono (l := l) (i := a.1 + 1) (k := b.1) (by omega) hb1
    unfold wlen at h5
    split <;> split <;> omega
  · rw [h1]
    split <;> split <;> omega
theorem lenP_mono {l : List Bx} {i j k n : Nat} (h : boxesB l = true) (h1 : i ≤ j) (h2 : k ≤ n) (hj : j < ptN l) (hn : n < ptN l) : lenP l j k ≤ lenP l i n := by
  rw [lenP_eq, lenP_eq]
  have h3 : colP l i ≤ colP l j := by
    rcases Nat.lt_or_ge i j with h4 | h4
    · have := (pts_step2 h h4 hj).1; omega
    · obtain rfl : i = j := by omega
      exact Int.le_refl _
  have h5 : endP l k ≤ endP l n := by
    rcases Nat.lt_or_ge k n with h4 | h4
    · exact (pts_step2 h h4 hn).2.1
    · obtain rfl : k = n := by omega
      exact Int.le_refl _
  omega
/-- From a to z by lines that fit. -/
def Fit (l : List Bx) (w : Int) : Nat → List Nat → Nat → Prop
  | a, [], z => a = z
  | a, k :: ks, z => a < k ∧ k < ptN l ∧ lenP l a k ≤ w ∧ Fit l w k ks z
theorem Fit.le {l : List Bx} {w : Int} : ∀ {a z : Nat} {ks : List Nat}, Fit l w a ks z → a ≤ z
  | _, _, [], h => Nat.le_of_eq h
  | _, _, k :: ks, ⟨h1, _, _, h2⟩ => by have := h2.le; omega
theorem Fit.wider {l : List Bx} {w v : Int} (hw : w ≤ v) : ∀ {a z : Nat} {ks : List Nat}, Fit l w a ks z → Fit l v a ks z
  | _, _, [], h => h
  | _, _, k :: ks, ⟨h1, h2, h3, h4⟩ => ⟨h1, h2, by omega, h4.wider hw⟩
theorem Fit.piece {l : List Bx} {w : Int} (h : boxesB l = true) {z : Nat} (hz : z < ptN l) : ∀ {a : Nat} {ks : List Nat}, Fit l w a ks z → ∀ i, a ≤ i → i < z → lenP l i (i + 1) ≤ w
  | a, [], hf, i, h1, h2 => by have : a = z := hf; omega
  | a, k :: ks, ⟨f1, f2, f3, f4⟩, i, h1, h2 => by
    rcases Nat.lt_or_ge i k with h3 | h3
    · have := lenP_mono h (i := a) (j := i) (k := i + 1) (n := k) h1 (by omega) (by omega) f2
      omega
    · exact f4.piece h hz i h3 h2
def AllFit (l : List Bx) (w : Int) : Prop := ∀ i, i < ptN l - 1 → lenP l i (i + 1) ≤ w
theorem Fit.steps {l : List Bx} {w : Int} {z : Nat} (hz : z < ptN l) : ∀ (d a : Nat), a + d = z → (∀ i, a ≤ i → i < z → lenP l i (i + 1) ≤ w) → ∃ ks, Fit l w a ks z
  | 0, a, h, _ => ⟨[], by show a = z; omega⟩
  | d + 1, a, h, hf => by
    obtain ⟨ks, hks⟩ := Fit.steps hz d (a + 1) (by omega) (fun i h1 h2 => hf i (by omega) h2)
    exact ⟨(a + 1) :: ks, by omega, by omega, hf a (Nat.le_refl _) (by omega), hks⟩
/-! the search, one point at a time -/
end Go.GH
namespace Go.GH
open Go Go.Lib
def Prp (s : ByteArray) : Prop := encs (runes s) = s
theorem prp_encs {rs : List Int} (h : ∀ r ∈ rs, Utf8.valid r = true) : Prp (encs rs) := by unfold Prp; rw [runes_encs h]
theorem prp_app {x y : ByteArray} (hx : Prp x) (hy : Prp y) : runes (x ++ y) = runes x ++ runes y ∧ Prp (x ++ y) := by
  have e : x ++ y = encs (runes x ++ runes y) := by rw [encs_append, hx, hy]
  have h : runes (x ++ y) = runes x ++ runes y := by
    rw [e]
    exact runes_encs (fun r hr => (List.mem_append.1 hr).elim runes_valid runes_valid)
  exact ⟨h, by unfold Prp; rw [h]; exact e.symm⟩
theorem wlen_app {x y : ByteArray} (hx : Prp x) (hy : Prp y) : wlen (x ++ y) = wlen x + wlen y := by
  unfold wlen; rw [(prp_app hx hy).1, List.length_append]
theorem prp_sp1 : Prp sp1 ∧ wlen sp1 = 1 := ⟨by unfold Prp; decide +kernel, by decide +kernel⟩
theorem prp_hy1 : Prp hy1 ∧ wlen hy1 = 1 := ⟨by unfold Prp; decide +kernel, by decide +kernel⟩
def sumW (ws : List ByteArray) : Nat := (ws.map (fun w => wlen w + 1)).sum
theorem foldl_len : ∀ (ws : List ByteArray) (w : ByteArray), Prp w → (∀ x ∈ ws, Prp x) → wlen (ws.foldl (fun a x => a ++ sp1 ++ x) w) = wlen w + sumW ws ∧ Prp (ws.foldl (fun a x => a ++ sp1 ++ x) w)
  | [], w, hw, _ => ⟨rfl, hw⟩
  | x :: ws, w, hw, h => by
    have hx := h x (List.mem_cons_self ..)
    have h1 := (prp_app hw prp_sp1.1).2
    have h2 := (prp_app h1 hx).2
    have ih := foldl_len ws (w ++ sp1 ++ x) h2 (fun y hy => h y (List.mem_cons_of_mem _ hy))
    rw [List.foldl_cons]
    refine ⟨?_, ih.2⟩
    rw [ih.1, wlen_app h1 hx, wlen_app hw prp_sp1.1, prp_sp1.2]
    unfold sumW
    rw [List.map_cons, List.sum_cons]
    omega
theorem catW_len {ws : List ByteArray} (hne : ws ≠ []) (h : ∀ x ∈ ws, Prp x) : wlen (catW ws) + 1 = sumW ws ∧ Prp (catW ws) := by
  cases ws with
  | nil => exact absurd rfl hne
  | cons w ws =>
    have := foldl_len ws w (h w (List.mem_cons_self ..)) (fun y hy => h y (List.mem_cons_of_mem _ hy))
    refine ⟨?_, this.2⟩
    show wlen (ws.foldl _ w) + 1 = _
    rw [this.1]
    unfold sumW
    rw [List.map_cons, List.sum_cons]
    omega
theorem textL_len {ln : Ln} (hne : ln.words ≠ []) (h : ∀ x ∈ ln.words, Prp x) : wlen (textL ln) + 1 = sumW ln.words + if ln.hyph then 1 else 0 := by
  have h1 := catW_len hne h
  unfold textL
  split
  · rw [wlen_app h1.2 prp_hy1.1, prp_hy1.2]; omega
  · omega
theorem wAt_valid {l : List Bx} {j : Nat} {r : Int} (h : r ∈ wAt l j) : Utf8.valid r = true := by
  unfold wAt at h
  split at h
  · exact runes_valid h
  · cases h
/-- A piece of a box's word. -/
def Gd (l : List Bx) (s : ByteArray) : Prop := ∃ (rs : List Int) (j : Nat), s = encs rs ∧ rs ≠ [] ∧ j < l.length ∧ (∀ r ∈ rs, r ∈ wAt l j) ∧ rs.length ≤ (wAt l j).length
theorem Gd.prp {l : List Bx} {s : ByteArray} (h : Gd l s) : Prp s := by
  obtain ⟨rs, j, rfl, _, _, h, _⟩ := h
  exact prp_encs (fun r hr => wAt_valid (h r hr))
theorem Gd.word {l : List Bx} {s : ByteArray} (hb : boxesB l = true) (h : Gd l s) : wordB s = true ∧ wlen s ≠ 0 := by
  have hp := h.prp
  obtain ⟨rs, j, rfl, hne, hj, h, _⟩ := h
  have hv : ∀ r ∈ rs, Utf8.valid r = true := fun r hr => wAt_valid (h r hr)
  have hl : wlen (encs rs) = rs.length := by unfold wlen; rw [runes_encs hv]
  have hpos : rs.length ≠ 0 := fun e => hne (List.length_eq_zero_iff.1 e)
  refine ⟨wordB_iff.2 ⟨fun e => ?_, (utf8R_iff _).2 hp, ?_⟩, by rw [hl]; exact hpos⟩
  · have e2 : wlen (encs rs) = 0 := by rw [e]; rfl
    omega
  · unfold anySp
    rw [runes_encs hv, List.any_eq_false]
    intro r hr
    have h1 := (wordB_iff.1 (boxB_iff.1 ((boxesB_iff.1 hb).2 _ (List.getElem_mem hj))).1).2.2
    have h2 := h r hr
    rw [wAt_lt hj] at h2
    unfold anySp at h1
    rw [List.any_eq_false] at h1
    exact h1 r h2
theorem Gd.size {l : List Bx} {s : ByteArray} (hb : boxesB l = true) (h : Gd l s) : s.size ≤ 800 := by
  obtain ⟨rs, j, rfl, _, hj, _, h⟩ := h
  have h1 := encs_size4 rs
  have h2 := (bnds_of hb).wlen _ (List.getElem_mem hj)
  rw [wAt_lt hj] at h
  unfold wlen at h2
  omega
/-! what the reference builds -/
end Go.GH
namespace Go.GH
open Go Go.Lib
/-! greedy -/
/-! counting -/
theorem AllFit.wider {l : List Bx} {w v : Int} (hw : w ≤ v) (h : AllFit l w) : AllFit l v := fun i hi => by have := h i hi; omega
end Go.GH
namespace Go.GH
open Go Go.Lib
/-! penalties -/
theorem Fit.len {l : List Bx} {w : Int} : ∀ {a z : Nat} {ks : List Nat}, Fit l w a ks z → ks.length ≤ z - a
  | _, _, [], _ => Nat.zero_le _
  | a, z, k :: ks, ⟨h1, _, _, h2⟩ => by
    have := h2.len
    have := h2.le
    rw [List.length_cons]; omega
/-! smallest pieces -/
end Go.GH
namespace Go.GH
open Go Go.Lib
end Go.GH
namespace Go.GH
open Go Go.Lib
/-! how many -/
/-! the first cheapest -/
end Go.GH
namespace Go.GH
open Go Go.Lib
theorem cnt_pts {l : List Bx} : ∀ k, k ≤ l.length → (ptsF (l.take k)).length + 1 = cntB (l.take k)
  | 0, _ => by rw [List.take_zero]; rfl
  | k + 1, hk => by
    have ih := cnt_pts k (by omega) (l := l)
    rw [ptsF_take (by omega), cntB_take (by omega), List.length_append, List.length_cons, List.length_map]
    omega
theorem ptN_cnt (l : List Bx) : ptN l = cntB l := by
  have h := cnt_pts l.length (Nat.le_refl _) (l := l)
  rw [List.take_length] at h
  rw [ptN_eq, pointsL, List.length_append, List.length_singleton, h]
def endK : Nat → List Nat → Nat
  | a, [] => a
  | _, k :: ks => endK k ks
end Go.GH
namespace Go.GH
open Go Go.Lib
/-! nothing runs over -/
end Go.GH
namespace Go.GH
open Go Go.Lib
/-! along a way -/
theorem Fit.at {l : List Bx} {w : Int} : ∀ {a z : Nat} {ks : List Nat}, Fit l w a ks z → ∀ i, i < ks.length → endK a (ks.take i) < ks.getD i 0 ∧ ks.getD i 0 < ptN l ∧ lenP l (endK a (ks.take i)) (ks.getD i 0) ≤ w ∧ ks.getD i 0 ≤ z ∧ (i + 1 < ks.length → ks.getD i 0 < z)
  | a, z, k :: ks, ⟨h1, h2, h3, h4⟩, 0, _ => ⟨h1, h2, h3, h4.le, fun h => by
      show k < z
      cases ks with
      | nil => simp at h
      | cons q qs => have := h4.1; have := h4.2.2.2.le; omega⟩
  | a, z, k :: ks, ⟨h1, h2, h3, h4⟩, i + 1, hi => by
    have := h4.at i (by simpa using hi)
    exact ⟨this.1, this.2.1, this.2.2.1, this.2.2.2.1, fun h => this.2.2.2.2 (by simpa using h)⟩
end Go.GH
namespace Go.GH
open Go Go.Lib
theorem many_pts {l : List Bx} (h : manyB l = false) : ptN l ≤ 841 := by
  obtain ⟨h1, h2⟩ := many_ok h
  rw [ptN_cnt]
  have key : ∀ l : List Bx, (∀ x ∈ l, x.pts.length ≤ 20) → (l.map (fun b => 1 + b.pts.length)).sum ≤ 21 * l.length := fun l => by
    induction l with
    | nil => intro _; exact Nat.le_refl _
    | cons b l ih =>
      intro hx
      have := ih (fun x hx' => hx x (List.mem_cons_of_mem _ hx'))
      have := hx b (List.mem_cons_self ..)
      rw [List.map_cons, List.sum_cons, List.length_cons]; omega
  have := key l (fun x hx => (h2 x hx).2)
  unfold cntB
  omega
theorem Fit.small {l : List Bx} {w : Int} (h : manyB l = false) {ks : List Nat} (hf : Fit l w 0 ks (ptN l - 1)) : ks.length ≤ 840 := by
  have := hf.len
  have := many_pts h
  omega
end Go.GH
namespace Go.GH
open Go Go.Lib
theorem prpW {s : ByteArray} (h : wordB s = true) : Prp s := (utf8R_iff s).1 (wordB_iff.1 h).2.1
theorem blB_next (n : Nat) : blB (n + 1) = blB n ++ sp1 := by
  apply ByteArray.ext
  apply Array.toList_inj.1
  rw [ByteArray.data_append, Array.toList_append]
  show List.replicate (n + 1) 32 = List.replicate n 32 ++ [32]
  rw [List.replicate_succ']
theorem prp_bl : ∀ n, Prp (blB n) ∧ wlen (blB n) = n
  | 0 => ⟨by unfold Prp; decide +kernel, by decide +kernel⟩
  | n + 1 => by
    obtain ⟨h1, h2⟩ := prp_bl n
    rw [blB_next]
    exact ⟨(prp_app h1 prp_sp1.1).2, by rw [wlen_app h1 prp_sp1.1, h2, prp_sp1.2]⟩
theorem prp_empty : Prp ByteArray.empty ∧ wlen ByteArray.empty = 0 := ⟨by unfold Prp; decide +kernel, by decide +kernel⟩
def sumT (ws : List ByteArray) (k : Nat) : Nat := ((ws.take k).map wlen).sum
theorem sumT_next {ws : List ByteArray} {k : Nat} (h : k < ws.length) : sumT ws (k + 1) = sumT ws k + wlen (ws.getD k .empty) := by
  unfold sumT
  rw [List.take_add_one, List.getElem?_eq_getElem h, List.map_append, List.sum_append, getD_w h]
  simp
theorem sumT_all (ws : List ByteArray) : sumW ws = sumT ws ws.length + ws.length := by
  unfold sumT sumW
  rw [List.take_length]
  induction ws with
  | nil => rfl
  | cons w ws ih => simp only [List.map_cons, List.sum_cons, List.length_cons]; omega
theorem sprK_len {ws : List ByteArray} {g m : Nat} (hw : ∀ w ∈ ws, Prp w) (hg : g < ws.length) : ∀ k, k ≤ g → Prp (sprK ws g m k) ∧ wlen (sprK ws g m k) = sumT ws k + k * (1 + m / g) + min k (m % g)
  | 0, _ => ⟨prp_empty.1, by rw [sprK, prp_empty.2]; simp [sumT]⟩
  | k + 1, hk => by
    obtain ⟨h1, h2⟩ := sprK_len hw hg k (by omega)
    have hkl : k < ws.length := by omega
    have hpw : Prp (ws.getD k .empty) := by rw [getD_w hkl]; exact hw _ (List.getElem_mem hkl)
    obtain ⟨b1, b2⟩ := prp_bl (gapN m g k)
    have a1 := (prp_app h1 hpw).2
    rw [sprK, if_pos (by omega)]
    refine ⟨(prp_app a1 b1).2, ?_⟩
    rw [wlen_app a1 b1, wlen_app h1 hpw, b2, h2, sumT_next hkl, Nat.succ_mul]
    unfold gapN
    split <;> omega
theorem sprL_len {ln : Ln} {m : Nat} (hw : ∀ w ∈ ln.words, Prp w) (h2 : 2 ≤ ln.words.length) : wlen (sprL ln m) + 1 = sumW ln.words + m + if ln.hyph then 1 else 0 := by
  obtain ⟨g, hg⟩ : ∃ g, ln.words.length = g + 1 := ⟨ln.words.length - 1, by omega⟩
  obtain ⟨h1, h3⟩ := sprK_len (m := m) hw (show g < ln.words.length by omega) g (Nat.le_refl _)
  have hpw : Prp (ln.words.getD g .empty) := by rw [getD_w (by omega)]; exact hw _ (List.getElem_mem (by omega))
  have e : sprK ln.words (ln.words.length - 1) m ln.words.length = sprK ln.words g m g ++ ln.words.getD g .empty := by
    rw [hg, Nat.add_sub_cancel, sprK, if_neg (Nat.lt_irrefl _)]
  have hdm := Nat.div_add_mod m g
  have hml : m % g < g := Nat.mod_lt _ (by omega)
  have hk := sumT_all ln.words
  rw [hg, sumT_next (by omega)] at hk
  have hmul : g * (1 + m / g) = g + g * (m / g) := by rw [Nat.mul_add, Nat.mul_one]
  have h4 : wlen (sprK ln.words g m g ++ ln.words.getD g .empty) + 1 = sumW ln.words + m := by
    rw [wlen_app h1 hpw, h3, hmul, Nat.min_eq_right (by omega)]
    omega
  unfold sprL
  rw [e]
  split
  · rw [wlen_app (prp_app h1 hpw).2 prp_hy1.1, prp_hy1.2]; omega
  · omega
theorem spread_ok {ln : Ln} {w : Int} {last : Bool} (hwd : wideB w = true) (hp : prB ln = true) (hle : (wlen (textL ln) : Int) ≤ w) : (spreadR ln w last).2 = 0 ∧ (wlen (spreadR ln w last).1 : Int) = w := by
  have hgood : (wideB w && prB ln) = true := by rw [hwd, hp]; rfl
  obtain ⟨hp1, hp2⟩ := prB_iff.1 hp
  have hpw : ∀ x ∈ ln.words, Prp x := fun x hx => prpW (hp2 x hx)
  have hne : ln.words ≠ [] := List.length_pos_iff.1 hp1
  have htl := textL_len hne hpw
  obtain ⟨m, hm⟩ : ∃ m : Nat, w - (wlen (textL ln) : Int) = (m : Int) := ⟨(w - (wlen (textL ln) : Int)).toNat, by omega⟩
  by_cases hc : last = true ∨ ln.words.length = 1
  · rw [spread_last hgood hm hc]
    refine ⟨rfl, ?_⟩
    have hpt : Prp (textL ln) := by
      unfold textL
      split
      · exact (prp_app (catW_len hne hpw).2 prp_hy1.1).2
      · exact (catW_len hne hpw).2
    obtain ⟨b1, b2⟩ := prp_bl m
    show ((wlen (textL ln ++ blB m) : Nat) : Int) = w
    rw [wlen_app hpt b1, b2]
    omega
  · have hl : last = false := by cases last with | true => exact absurd (.inl rfl) hc | false => rfl
    have h1 : ¬ ln.words.length = 1 := fun e => hc (.inr e)
    rw [spread_gaps hgood hm hl h1]
    refine ⟨rfl, ?_⟩
    have := sprL_len (m := m) hpw (by omega)
    show ((wlen (sprL ln m) : Nat) : Int) = w
    omega
end Go.GH
namespace Go.GH
open Go Go.Lib
def gp (m g : Nat) : Nat → Nat
  | 0 => 0
  | k + 1 => gapN m g k
def rst (m g : Nat) : List ByteArray → Nat → ByteArray
  | [], _ => .empty
  | w :: l, i => blB (gp m g i) ++ w ++ rst m g l (i + 1)
theorem rst_at {m g : Nat} {ws : List ByteArray} {i : Nat} (h : i < ws.length) : rst m g (ws.drop i) i = blB (gp m g i) ++ ws[i] ++ rst m g (ws.drop (i + 1)) (i + 1) := by
  rw [List.drop_eq_getElem_cons h]; rfl
def qK (ws : List ByteArray) (g m : Nat) : Nat → ByteArray
  | 0 => .empty
  | k + 1 => sprK ws g m k ++ ws.getD k .empty
theorem sprK_q {ws : List ByteArray} {g m : Nat} : ∀ {k : Nat}, k ≤ g → sprK ws g m k = qK ws g m k ++ blB (gp m g k)
  | 0, _ => rfl
  | k + 1, h => by rw [sprK, if_pos (by omega)]; rfl
theorem rst_all {ws : List ByteArray} {g m : Nat} (hn : ws.length = g + 1) : ∀ k, k ≤ ws.length → qK ws g m k ++ rst m g (ws.drop k) k = rst m g ws 0
  | 0, _ => by rw [qK, ByteArray.empty_append]; rfl
  | k + 1, h => by
    have ih := rst_all (m := m) hn k (by omega)
    rw [rst_at (by omega)] at ih
    rw [← ih, qK, sprK_q (by omega), getD_w (by omega)]
    simp only [ByteArray.append_assoc]
theorem sprK_rst {ws : List ByteArray} {g m : Nat} (hn : ws.length = g + 1) : sprK ws g m ws.length = rst m g ws 0 := by
  have h := rst_all (m := m) hn ws.length (Nat.le_refl _)
  rw [List.drop_length, rst, ByteArray.append_empty] at h
  rw [← h, hn, qK, sprK, if_neg (Nat.lt_irrefl _)]
/-! ### bytes -/
theorem cut_list {s : ByteArray} {a b : Nat} : (s.extract a b).data.toList = (s.data.toList.take b).drop a := by
  simp [ByteArray.data_extract, List.take_drop]
  rcases Nat.lt_or_ge b a with h | h
  · rw [List.drop_eq_nil_of_le (by simp; omega), List.drop_eq_nil_of_le (by simp; omega)]
  · rw [show a + (b - a) = b by omega]
theorem parts_list {a : Nat} {w r : ByteArray} : (blB a ++ w ++ r).data.toList = List.replicate a 32 ++ (w.data.toList ++ r.data.toList) := by
  rw [ByteArray.data_append, Array.toList_append, ByteArray.data_append, Array.toList_append, List.append_assoc]; rfl
theorem sz_list (s : ByteArray) : s.data.toList.length = s.size := by simp
theorem at_list {s : ByteArray} {j : Nat} (h : j < s.size) : s[j] = s.data.toList[j]'(by rw [sz_list]; exact h) := by rw [Array.getElem_toList]; rfl
theorem spBz {b : UInt8} (h : ((b.toNat : Nat) : Int) = 32 ∨ ((b.toNat : Nat) : Int) = 10) : spB b = true := by
  unfold spB
  rw [Bool.or_eq_true, beq_iff_eq, beq_iff_eq, ← UInt8.toNat_inj, ← UInt8.toNat_inj]
  show b.toNat = 32 ∨ b.toNat = 10
  omega
structure Prt (s : ByteArray) (a : Nat) (w r : ByteArray) : Prop where
  pos : 0 < w.size
  size : s.size = a + w.size + r.size
  front : ∀ j (h : j < s.size), j < a → ((s[j].toNat : Nat) : Int) = 32
  next : ∀ (h : a < s.size), ¬ ((s[a].toNat : Nat) : Int) = 32
  word : s.extract a (a + w.size) = w
  rest : s.extract (a + w.size) s.size = r
theorem prt_of {s : ByteArray} {a : Nat} {w r : ByteArray} (e : s = blB a ++ w ++ r) (hw : wordB w = true) : Prt s a w r := by
  obtain ⟨h1, h2, h3⟩ := wordB_iff.1 hw
  have hl : s.data.toList = List.replicate a 32 ++ (w.data.toList ++ r.data.toList) := by rw [e]; exact parts_list
  have hsz : s.size = a + w.size + r.size := by rw [← sz_list, hl]; simp; omega
  have hpos : 0 < w.size := by
    rcases Nat.eq_zero_or_pos w.size with h | h
    · exact absurd (by apply ByteArray.ext; apply Array.toList_inj.1; exact List.eq_nil_of_length_eq_zero (by rw [sz_list]; exact h)) h1
    · exact h
  refine ⟨hpos, hsz, fun j h hj => ?_, fun h => ?_, ?_, ?_⟩
  · rw [at_list h]
    simp only [hl]
    rw [List.getElem_append_left (by simpa using hj), List.getElem_replicate]
    rfl
  · rw [at_list h]
    simp only [hl]
    rw [List.getElem_append_right (by simp)]
    simp only [List.length_replicate, Nat.sub_self]
    rw [List.getElem_append_left (by rw [sz_list]; exact hpos)]
    intro h9
    have hb := bytes_sp h2
    rw [h3] at hb
    have h8 := List.any_eq_false.1 hb _ (List.getElem_mem (show 0 < w.data.toList.length by rw [sz_list]; exact hpos))
    exact h8 (spBz (.inl h9))
  · apply ByteArray.ext
    apply Array.toList_inj.1
    rw [cut_list, hl, List.take_append, List.drop_append]
    simp [sz_list]
  · apply ByteArray.ext
    apply Array.toList_inj.1
    rw [cut_list, List.take_of_length_le (by rw [sz_list]; exact Nat.le_refl _), hl, List.drop_append, List.drop_append]
    simp [sz_list]
theorem hy_last {x : ByteArray} : (x ++ hy1).size = x.size + 1 ∧ (∀ h : x.size < (x ++ hy1).size, (((x ++ hy1)[x.size].toNat : Nat) : Int) = 45) ∧ (x ++ hy1).extract 0 x.size = x := by
  have hl : (x ++ hy1).data.toList = x.data.toList ++ [45] := by rw [ByteArray.data_append, Array.toList_append]; rfl
  refine ⟨by rw [ByteArray.size_append]; rfl, fun h => ?_, ?_⟩
  · rw [at_list h]
    simp only [hl]
    rw [List.getElem_append_right (by rw [sz_list]; exact Nat.le_refl _)]
    simp [sz_list]
  · apply ByteArray.ext
    apply Array.toList_inj.1
    rw [cut_list, hl, List.drop_zero, List.take_append_of_le_length (by rw [sz_list]; exact Nat.le_refl _), List.take_of_length_le (by rw [sz_list]; exact Nat.le_refl _)]
theorem gapN_mono {m g i : Nat} : gapN m g (i + 1) ≤ gapN m g i ∧ gapN m g 0 ≤ gapN m g i + 1 ∧ 1 ≤ gapN m g i := by
  unfold gapN
  refine ⟨?_, ?_, by rw [Nat.add_assoc]; exact Nat.le_add_right _ _⟩
  · split <;> split <;> omega
  · split <;> split <;> omega
theorem spread_err {ln : Ln} {w : Int} {last : Bool} (h : ¬ (spreadR ln w last).2 = 0) : (spreadR ln w last).1 = ⟨#[]⟩ := by
  unfold spreadR at h ⊢
  split
  · rename_i h1
    rw [if_pos h1] at h
    split
    · rfl
    · rename_i h2
      rw [if_neg h2] at h
      split
      · rename_i h3; rw [if_pos h3] at h; exact absurd rfl h
      · rename_i h3; rw [if_neg h3] at h; exact absurd rfl h
  · rfl
theorem spread_zero {ln : Ln} {w : Int} {last : Bool} (h : (spreadR ln w last).2 = 0) : wideB w = true ∧ prB ln = true ∧ (wlen (textL ln) : Int) ≤ w := by
  unfold spreadR at h
  split at h
  · rename_i h1
    rw [Bool.and_eq_true] at h1
    split at h
    · cases h
    · exact ⟨h1.1, h1.2, by omega⟩
  · cases h
end Go.GH
namespace Go.GH
open Go Go.Lib Go.Proofs Go.RowKit
def unY : List (List DV) → Option (List UInt8)
  | [] => some []
  | [.v (.int .u8 (.ofNat n))] :: l => bif Nat.blt n 256 then (unY l).map (UInt8.ofNat n :: ·) else none
  | _ => none
def unS : List (List DV) → Option (List ByteArray)
  | [] => some []
  | [.v (.string s)] :: l => (unS l).map (s :: ·)
  | _ => none
theorem unY_eq : ∀ {es : List (List DV)} {bs : List UInt8}, unY es = some bs → es = bs.map encY
  | [], bs, h => by unfold unY at h; cases h; rfl
  | e :: l, bs, h => by
    unfold unY at h
    split at h
    · rename_i h0; cases h0
    · rename_i n l' h0
      simp only [List.cons.injEq] at h0
      obtain ⟨rfl, rfl⟩ := h0
      rcases bif_ite h with ⟨hf, h⟩ | ⟨_, h⟩
      · obtain ⟨bs', h1, rfl⟩ := Option.map_eq_some_iff.1 h
        have hn : n < 256 := by simpa using hf
        rw [unY_eq h1]
        show _ = encY (UInt8.ofNat n) :: _
        unfold encY
        rw [show ((UInt8.ofNat n).toNat : Int) = Int.ofNat n by simp; omega]
      · cases h
    · cases h
theorem unS_eq : ∀ {es : List (List DV)} {ws : List ByteArray}, unS es = some ws → es = ws.map encS
  | [], bs, h => by unfold unS at h; cases h; rfl
  | e :: l, bs, h => by
    unfold unS at h
    split at h
    · rename_i h0; cases h0
    · rename_i n l' h0
      simp only [List.cons.injEq] at h0
      obtain ⟨rfl, rfl⟩ := h0
      obtain ⟨bs', h1, rfl⟩ := Option.map_eq_some_iff.1 h
      rw [unS_eq h1]
      rfl
    · cases h
theorem RLL.map_v {ρ : Rn} {α : Type} {f : α → List DV} (hf : ∀ a, ∃ x, f a = [.v x]) : ∀ {l : List α} {es : List (List DV)}, RLL ρ (l.map f) es → es = l.map f
  | [], es, h => h.inv_nil
  | a :: l, es, h => by
    obtain ⟨b, t, rfl, h1, h2⟩ := PWl.inv_cons h
    obtain ⟨x, hx⟩ := hf a
    rw [hx] at h1
    rw [RL1 h1, RLL.map_v hf h2, List.map_cons, hx]
theorem RLL.self_v {ρ : Rn} {α : Type} {f : α → List DV} (hf : ∀ a, ∃ x, f a = [.v x]) (l : List α) : RLL ρ (l.map f) (l.map f) := PWl.refl (fun e he => by
  obtain ⟨a, _, rfl⟩ := List.mem_map.1 he
  obtain ⟨x, hx⟩ := hf a
  rw [hx]
  exact RL.self (fun d hd => ⟨x, by simpa using hd⟩))
theorem encY_v (y : UInt8) : ∃ x, encY y = [.v x] := ⟨_, rfl⟩
theorem encS_v (s : ByteArray) : ∃ x, encS s = [.v x] := ⟨_, rfl⟩

/-! ### a builder -/
def okX (b : Nat) : DV → Bool
  | .v (.pointer none) => true
  | .vref b2 86 2 => Nat.beq b2 b
  | _ => false
def bldE (hp : Nat → Option DO) (b : Nat) : Option (List UInt8 × Option Nat) := match hp b with
  | some (.row 86 2 [[x, acc]]) => bif okX b x then (match acc with
    | .v (.slice none 0 0) => some ([], none)
    | .sl g 1 0 n => (match hp g with
      | some (.row 5 1 es) => (match unY es with
        | some (y :: bs) => bif Nat.beq n (bs.length + 1) then some (y :: bs, some g) else none
        | _ => none)
      | _ => none)
    | _ => none) else none
  | _ => none
theorem okX_rd {ρ : Rn} {b b' : Nat} {x x' : DV} (h : okX b x = true) (hb : ρ b = some b') (hr : RD ρ x x') : ∃ used, x' = adrB b' used := by
  unfold okX at h
  split at h
  · exact ⟨false, hr.inv_v⟩
  · obtain ⟨b2, rfl, h2⟩ := hr.inv_vref
    obtain rfl := Nat.eq_of_beq_eq_true h
    rw [hb] at h2
    obtain rfl := Option.some.inj h2
    exact ⟨true, rfl⟩
  · cases h
/-- What an abstract heap holds where the evaluator's holds a builder. -/
theorem bldE_ok {hp : Nat → Option DO} {b : Nat} {bs : List UInt8} {og : Option Nat} (h : bldE hp b = some (bs, og)) :
    hp b ≠ none ∧ (∀ g, og = some g → hp g ≠ none ∧ g ≠ b) ∧ (og = none → bs = []) ∧ ∀ ρ H b', CovH ρ hp H → ρ b = some b' → ∃ g' used G, (bldH b' g' used bs ++ G).Perm H ∧ (∀ p ∈ bldH b' g' used bs, p.1 = b' ∨ ∃ g, og = some g ∧ ρ g = some p.1) := by
  unfold bldE at h
  split at h
  · rename_i x acc hb
    rcases bif_ite h with ⟨hx, h⟩ | ⟨_, h⟩
    · split at h
      · cases h
        refine ⟨by rw [hb]; simp, (fun g h => by cases h), (fun _ => rfl), fun ρ H b' hc hbb => ?_⟩
        obtain ⟨b2, o', e1, e2, e3⟩ := hc.obj b _ hb
        rw [hbb] at e1
        obtain rfl := Option.some.inj e1
        cases e3 with
        | row h =>
          obtain ⟨r, t, rfl, h1, h2⟩ := PWl.inv_cons h
          obtain rfl := PWl.inv_nil h2
          obtain ⟨x', t, rfl, h3, h4⟩ := PWl.inv_cons h1
          obtain ⟨a', t, rfl, h5, h6⟩ := PWl.inv_cons h4
          obtain rfl := PWl.inv_nil h6
          rw [h5.inv_v] at e2
          obtain ⟨used, rfl⟩ := okX_rd hx hbb h3
          obtain ⟨G, hG⟩ := perm_one e2
          exact ⟨0, used, G, hG, fun p hp => .inl (by rw [List.mem_singleton.1 hp])⟩
      · rename_i g n hh
        clear hh
        split at h
        · rename_i es hg
          split at h
          · rename_i y bs0 hu
            rcases bif_ite h with ⟨hn, h⟩ | ⟨_, h⟩
            · cases h
              have hgb : g ≠ b := fun e => by rw [e, hb] at hg; cases hg
              refine ⟨by rw [hb]; simp, (fun g2 h2 => by cases h2; exact ⟨by rw [hg]; simp, hgb⟩), (fun h => by cases h), fun ρ H b' hc hbb => ?_⟩
              obtain rfl := Nat.eq_of_beq_eq_true hn
              obtain ⟨b2, o', e1, e2, e3⟩ := hc.obj b _ hb
              rw [hbb] at e1
              obtain rfl := Option.some.inj e1
              obtain ⟨g', og', k1, k2, k3⟩ := hc.obj g _ hg
              cases e3 with
              | row h =>
                obtain ⟨r, t, rfl, h1, h2⟩ := PWl.inv_cons h
                obtain rfl := PWl.inv_nil h2
                obtain ⟨x', t, rfl, h3, h4⟩ := PWl.inv_cons h1
                obtain ⟨a', t, rfl, h5, h6⟩ := PWl.inv_cons h4
                obtain rfl := PWl.inv_nil h6
                obtain ⟨g2, rfl, h7⟩ := h5.inv_sl
                rw [k1] at h7
                obtain rfl := Option.some.inj h7
                obtain ⟨used, rfl⟩ := okX_rd hx hbb h3
                cases k3 with
                | row hk =>
                  rw [unY_eq hu] at hk
                  obtain rfl := RLL.map_v encY_v hk
                  obtain ⟨G, hG⟩ := perm_two e2 k2 (fun e => by
                    have := congrArg Prod.fst e
                    simp only at this
                    subst this
                    exact hgb (hc.inj g b _ _ _ hg hb k1 hbb))
                  refine ⟨g', used, G, ?_, fun p hp => ?_⟩
                  · refine (List.Perm.of_eq ?_).trans hG
                    show [_, _] ++ G = _
                    simp [bldH, accD, List.length_map]
                  · rcases List.mem_cons.1 hp with h | h
                    · exact .inl (by rw [h])
                    · rw [List.mem_singleton.1 h]; exact .inr ⟨g, rfl, k1⟩
            · cases h
          · cases h
        · cases h
      · cases h
    · cases h
  · cases h
end Go.GH
namespace Go.GH
open Go Go.Lib Go.Proofs Go.RowKit
def newB (nx b : Nat) (bs : List UInt8) (og : Option Nat) : List (Nat × Option DO) := match bs with
  | [] => [(b, some (.row 86 2 [[.vref b 86 2, .v (.slice none 0 0)]]))]
  | y :: l => (nx, some (.row 5 1 ((y :: l).map encY))) :: ((match og with | some g => [(g, none)] | none => []) ++ [(b, some (.row 86 2 [[.vref b 86 2, .sl nx 1 0 (l.length + 1)]]))])
theorem blt_of {a c : Nat} (h : a < c) : Nat.blt a c = true := by simpa using h
theorem newB_facts {hp : Tr DO} {nx b : Nat} {bs : List UInt8} {og : Option Nat} (hcap : Nat.blt nx capE = true) (hb : b < nx) (hg : ∀ g, og = some g → g < nx ∧ g ≠ b ∧ bs ≠ []) :
    (upsE hp (newB nx b bs og)).get b = some (.row 86 2 [[.vref b 86 2, accD 1 nx (bs.map encY)]]) ∧ (bs ≠ [] → (upsE hp (newB nx b bs og)).get nx = some (.row 5 1 (bs.map encY)) ∧ nx ∈ (newB nx b bs og).map (·.1)) ∧ (∀ g, og = some g → (upsE hp (newB nx b bs og)).get g = none ∧ g ∈ (newB nx b bs og).map (·.1)) ∧
    b ∈ (newB nx b bs og).map (·.1) ∧ (∀ k ∈ (newB nx b bs og).map (·.1), k = b ∨ (k = nx ∧ bs ≠ []) ∨ og = some k) ∧ ∀ k, k ∉ (newB nx b bs og).map (·.1) → (upsE hp (newB nx b bs og)).get k = hp.get k := by
  have hnc : nx < capE := by simpa using hcap
  have cb : Nat.blt b capE = true := blt_of (by omega)
  cases bs with
  | nil =>
    cases og with
    | some g => exact absurd rfl (hg g rfl).2.2
    | none =>
      have key : ∀ j, (upsE hp (newB nx b [] none)).get j = if j = b then some (.row 86 2 [[.vref b 86 2, .v (.slice none 0 0)]]) else hp.get j := fun j => put_get _ _ _ cb
      refine ⟨by rw [key, if_pos rfl]; rfl, fun h => absurd rfl h, (fun g h => by cases h), List.mem_singleton.2 rfl, fun k hk => .inl (List.mem_singleton.1 hk), fun k hk => ?_⟩
      rw [key, if_neg (fun e => hk (List.mem_singleton.2 e))]
  | cons y l =>
    cases og with
    | none =>
      have key : ∀ j, (upsE hp (newB nx b (y :: l) none)).get j = if j = b then some (.row 86 2 [[.vref b 86 2, .sl nx 1 0 (l.length + 1)]]) else if j = nx then some (.row 5 1 ((y :: l).map encY)) else hp.get j := fun j => (put_get _ _ _ cb).trans (by rw [put_get _ _ _ hcap])
      refine ⟨by rw [key, if_pos rfl]; simp [accD], fun _ => ⟨by rw [key, if_neg (by omega), if_pos rfl], List.mem_cons_self ..⟩, (fun g h => by cases h), List.mem_cons_of_mem _ (List.mem_singleton.2 rfl), fun k hk => ?_, fun k hk => ?_⟩
      · rcases List.mem_cons.1 hk with h | h
        · exact .inr (.inl ⟨h, by simp⟩)
        · exact .inl (List.mem_singleton.1 h)
      · rw [key, if_neg (fun e => hk (by rw [e]; exact List.mem_cons_of_mem _ (List.mem_singleton.2 rfl))), if_neg (fun e => hk (by rw [e]; exact List.mem_cons_self ..))]
    | some g =>
      obtain ⟨g1, g2, _⟩ := hg g rfl
      have cg : Nat.blt g capE = true := blt_of (by omega)
      have key : ∀ j, (upsE hp (newB nx b (y :: l) (some g))).get j = if j = b then some (.row 86 2 [[.vref b 86 2, .sl nx 1 0 (l.length + 1)]]) else if j = g then none else if j = nx then some (.row 5 1 ((y :: l).map encY)) else hp.get j := fun j => (put_get _ _ _ cb).trans (by rw [put_get _ _ _ cg, put_get _ _ _ hcap])
      have hm : ∀ k, k ∈ (newB nx b (y :: l) (some g)).map (·.1) ↔ k = nx ∨ k = g ∨ k = b := fun k => by simp [newB]
      refine ⟨by rw [key, if_pos rfl]; simp [accD], fun _ => ⟨by rw [key, if_neg (by omega), if_neg (by omega), if_pos rfl], (hm _).2 (.inl rfl)⟩, fun g' h => ?_, (hm _).2 (.inr (.inr rfl)), fun k hk => ?_, fun k hk => ?_⟩
      · cases h
        exact ⟨by rw [key, if_neg g2, if_pos rfl], (hm _).2 (.inr (.inl rfl))⟩
      · rcases (hm k).1 hk with h | h | h
        · exact .inr (.inl ⟨h, by simp⟩)
        · exact .inr (.inr (by rw [h]))
        · exact .inl h
      · have := fun x => hk ((hm k).2 x)
        rw [key, if_neg (fun e => this (.inr (.inr e))), if_neg (fun e => this (.inr (.inl e))), if_neg (fun e => this (.inl e))]
theorem bldStep {f : FuncId} {xs : List DV} {d : DV} {hp : Tr DO} {nx b : Nat} {bs bs2 : List UInt8} {og : Option Nat} (hxs : ∀ ρ ys, RL ρ xs ys → ys = xs) (hd : ∀ ρ, RD ρ d d)
    (hcon : ∀ b g used, GCall Tryz.prog E50 f (.vref b 86 2 :: xs) (bldH b g used bs) (fun d' H => ∃ g', d' = d ∧ H = bldH b g' true bs2)) (h0 : bs2 = [] → bs = []) (hb : bldE hp.get b = some (bs, og)) (hcap : Nat.blt nx capE = true) (wf : WF hp.get nx) :
    OkH f (.vref b 86 2 :: xs) hp nx d (newB nx b bs2 og) (nx + 1) := by
  obtain ⟨k1, k2, k3, k4⟩ := bldE_ok hb
  have hbn := wf b k1
  have hgs : ∀ g, og = some g → g < nx ∧ g ≠ b ∧ bs2 ≠ [] := fun g e => ⟨wf g (k2 g e).1, (k2 g e).2, fun e2 => by
    have hbs := h0 e2
    subst hbs
    unfold bldE at hb
    split at hb
    · rcases bif_ite hb with ⟨_, hb⟩ | ⟨_, hb⟩
      · split at hb
        · cases hb; cases e
        · split at hb
          · split at hb
            · rcases bif_ite hb with ⟨_, hb⟩ | ⟨_, hb⟩
              · cases hb
              · cases hb
            · cases hb
          · cases hb
        · cases hb
      · cases hb
    · cases hb⟩
  obtain ⟨f1, f2, f3, f4, f5, f6⟩ := newB_facts (hp := hp) hcap hbn hgs
  refine ⟨⟨by omega, fun k hk hlt => ?_, fun k hk => ?_, f6⟩, fun ρ dsA H hc hf hR => ?_⟩
  · rcases f5 k hk with h | ⟨h, _⟩ | h
    · rw [h]; exact k1
    · omega
    · exact (k2 k h).1
  · rcases f5 k hk with h | ⟨h, _⟩ | h
    · omega
    · omega
    · have := (hgs k h).1; omega
  · obtain ⟨b1, t, rfl, h1, h2⟩ := hR.inv_cons
    obtain ⟨b', rfl, hbb⟩ := h1.inv_vref
    obtain rfl := hxs _ _ h2
    obtain ⟨g', used, G, hperm, hkeys⟩ := k4 ρ H b' hc hbb
    refine (GCall.frameP hperm (hcon b' g' used)).mono ?_
    rintro d' H' ⟨_, ⟨g2, rfl, rfl⟩, rfl, hnd⟩
    simp only at hf
    refine ⟨fun k => if k = nx then (if bs2 = [] then none else some g2) else ρ k, ⟨fun k hk => if_neg (fun e => hk ⟨by omega, by rw [e]; exact Nat.lt_succ_self _⟩), fun p hp hun => ?_, fun k hk o ho => ?_, ?_⟩, hd _⟩
    · have hpG : p ∈ G := by
        rcases List.mem_append.1 (hperm.mem_iff.2 hp) with h | h
        · rcases hkeys p h with h9 | ⟨g, hg, h9⟩
          · exact absurd (by rw [h9]; exact hbb) (hun b f4 hbn)
          · exact absurd h9 (hun g (f3 g hg).2 (hgs g hg).1)
        · exact h
      refine ⟨List.mem_append_right _ hpG, fun k c q1 q2 e => ?_⟩
      have e' : k = nx := by have : k < nx + 1 := q2; omega
      rw [if_pos e'] at e
      split at e
      · cases e
      · rename_i hne
        obtain rfl := Option.some.inj e
        intro e9
        rw [List.map_append, List.nodup_append] at hnd
        exact hnd.2.2 g2 (by
          unfold bldH
          rw [accH_ne (by rw [List.length_map]; exact List.length_pos_iff.2 hne)]
          simp) p.1 (List.mem_map.2 ⟨p, hpG, rfl⟩) e9
    · rcases f5 k hk with h | ⟨h, hne⟩ | h
      · subst h
        simp only at ho
        rw [f1] at ho
        obtain rfl := Option.some.inj ho
        refine ⟨b', .row 86 2 [[.vref b' 86 2, accD 1 g2 (bs2.map encY)]], by rw [if_neg (by omega)]; exact hbb, List.mem_append_left _ (List.mem_cons_self ..), .row (PWl.cons (PWl.cons (RD.vref (by show (if k = nx then _ else ρ k) = some b'; rw [if_neg (by omega)]; exact hbb)) (PWl.cons ?_ PWl.nil)) PWl.nil)⟩
        cases bs2 with
        | nil => exact .v _
        | cons y l => exact RD.sl (by simp)
      · subst h
        simp only at ho
        rw [(f2 hne).1] at ho
        obtain rfl := Option.some.inj ho
        refine ⟨g2, .row 5 1 (bs2.map encY), by rw [if_pos rfl, if_neg hne], List.mem_append_left _ ?_, .row (RLL.self_v encY_v _)⟩
        unfold bldH
        rw [accH_ne (by rw [List.length_map]; exact List.length_pos_iff.2 hne)]
        simp
      · simp only at ho
        rw [(f3 k h).1] at ho
        cases ho
    · have key : ∀ c, bs2 ≠ [] → b' = c → g2 = c → False := fun c hne e1 e2 => by
        subst e1; subst e2
        rw [List.map_append, List.nodup_append] at hnd
        have := hnd.1
        unfold bldH at this
        rw [accH_ne (by rw [List.length_map]; exact List.length_pos_iff.2 hne)] at this
        simp at this
      intro q1 hq1 q2 hq2 o1 o2 c e1 e2 e3 e4
      simp only at e1 e2
      rcases f5 q1 hq1 with h | ⟨h, hne⟩ | h
      · rcases f5 q2 hq2 with h' | ⟨h', hne⟩ | h'
        · rw [h, h']
        · subst h; subst h'
          rw [if_neg (by omega), hbb] at e3
          rw [if_pos rfl, if_neg hne] at e4
          exact (key c hne (Option.some.inj e3) (Option.some.inj e4)).elim
        · rw [(f3 _ h').1] at e2; cases e2
      · rcases f5 q2 hq2 with h' | ⟨h', _⟩ | h'
        · subst h; subst h'
          rw [if_neg (by omega), hbb] at e4
          rw [if_pos rfl, if_neg hne] at e3
          exact (key c hne (Option.some.inj e4) (Option.some.inj e3)).elim
        · rw [h, h']
        · rw [(f3 _ h').1] at e2; cases e2
      · rw [(f3 _ h).1] at e1; cases e1
end Go.GH
namespace Go.GH
open Go Go.Lib Go.Proofs Go.RowKit
/-- The builder's string: the builder is let go. -/
theorem bldStr {hp : Tr DO} {nx b : Nat} {bs : List UInt8} {og : Option Nat} (hl : bs.length ≤ 70368744177664) (hb : bldE hp.get b = some (bs, og)) (hcap : Nat.blt nx capE = true) (wf : WF hp.get nx) :
    OkH 43 [.vref b 86 2] hp nx (.v (.string ⟨bs.toArray⟩)) ((match og with | some g => [(g, none)] | none => []) ++ [(b, none)]) nx := by
  obtain ⟨k1, k2, k3, k4⟩ := bldE_ok hb
  have hbn := wf b k1
  have hnc : nx < capE := by simpa using hcap
  have cb : Nat.blt b capE = true := blt_of (by omega)
  obtain ⟨up, hup⟩ : ∃ up, up = ((match og with | some g => [(g, none)] | none => []) ++ [(b, none)] : List (Nat × Option DO)) := ⟨_, rfl⟩
  rw [← hup]
  have hm : ∀ k, k ∈ up.map (·.1) ↔ k = b ∨ og = some k := fun k => by
    rw [hup]
    cases og with
    | none => simp
    | some g => simp [eq_comm, or_comm]
  have key : ∀ j, (upsE hp up).get j = if j = b ∨ og = some j then none else hp.get j := fun j => by
    rw [hup]
    cases og with
    | none => exact (put_get _ _ _ cb).trans (by simp)
    | some g =>
      have cg : Nat.blt g capE = true := blt_of (by have := wf g (k2 g rfl).1; omega)
      refine (put_get _ _ _ cb).trans ?_
      rw [put_get _ _ _ cg]
      by_cases h1 : j = b
      · rw [if_pos h1, if_pos (.inl h1)]
      · rw [if_neg h1]
        by_cases h2 : j = g
        · rw [if_pos h2, if_pos (.inr (by rw [h2]))]
        · rw [if_neg h2, if_neg (by rintro (h | h); exact h1 h; exact h2 (Option.some.inj h).symm)]
  have hlive : ∀ k ∈ up.map (·.1), hp.get k ≠ none := fun k hk => by
    rcases (hm k).1 hk with h | h
    · rw [h]; exact k1
    · exact (k2 k h).1
  refine ⟨⟨Nat.le_refl _, fun k hk _ => hlive k hk, fun k hk => wf k (hlive k hk), fun k hk => by rw [key, if_neg (fun h => hk ((hm k).2 h))]⟩, fun ρ dsA H hc hf hR => ?_⟩
  obtain ⟨b1, t, rfl, h1, h2⟩ := hR.inv_cons
  obtain ⟨b', rfl, hbb⟩ := h1.inv_vref
  obtain rfl := h2.inv_nil
  obtain ⟨g', used, G, hperm, hkeys⟩ := k4 ρ H b' hc hbb
  refine (GCall.frameP hperm (bString (E := E50) b' g' used bs hl)).mono ?_
  rintro d' H' ⟨_, ⟨rfl, rfl⟩, rfl, hnd⟩
  refine ⟨ρ, ⟨fun _ _ => rfl, fun p hp hun => ⟨?_, fun k c q1 q2 => absurd q2 (Nat.not_lt.2 q1)⟩, fun k hk o ho => ?_, fun q1 hq1 q2 hq2 o1 o2 c e1 => ?_⟩, .v _⟩
  · rcases List.mem_append.1 (hperm.mem_iff.2 hp) with h | h
    · rcases hkeys p h with h9 | ⟨g, hg, h9⟩
      · exact absurd (by rw [h9]; exact hbb) (hun b ((hm b).2 (.inl rfl)) hbn)
      · exact absurd h9 (hun g ((hm g).2 (.inr hg)) (wf g (k2 g hg).1))
    · exact h
  · simp only at ho
    rw [key, if_pos ((hm k).1 hk)] at ho
    cases ho
  · simp only at e1
    rw [key, if_pos ((hm q1).1 hq1)] at e1
    cases e1
/-- strings.Join of a list that lies in a row of its own. -/
theorem joinStep {hp : Tr DO} {nx b el n : Nat} {es : List (List DV)} {ws : List ByteArray} (hb : hp.get b = some (.row el 1 es)) (hu : unS es = some ws) (hn : n = es.length) (h1 : ws.length ≤ 1048576) (h2 : ∀ w ∈ ws, w.size ≤ 1048576) :
    OkH 74 [.sl b 1 0 n, .v (.string sp1)] hp nx (.v (.string (catW ws))) [] nx := by
  refine ⟨Pure'.refl _ _, fun ρ dsA H hc hf hR => ?_⟩
  obtain ⟨b1, t, rfl, h3, h4⟩ := hR.inv_cons
  obtain ⟨b', rfl, hbb⟩ := h3.inv_sl
  obtain rfl := RL1 h4
  obtain ⟨b2, o', e1, e2, e3⟩ := hc.obj b _ hb
  rw [hbb] at e1
  obtain rfl := Option.some.inj e1
  cases e3 with
  | row h =>
    rw [unS_eq hu] at h
    obtain rfl := RLL.map_v encS_v h
    refine (GCall.thaw (ds := [.sl b' 1 0 n, .v (.string sp1)]) (H := H) (sJoin (E := E50) ws h1 h2) rfl (fun w F hH j d d' v hd hd' hr => ?_)).mono (fun d' H' ⟨e1, e2⟩ => ?_)
    · cases j with
      | zero =>
        simp only [List.getElem?_cons_zero, Option.some.injEq] at hd hd'
        subst hd; subst hd'
        rw [hn, unS_eq hu] at hr
        exact (rep_row (hH _ e2) hr).mono (fun _ _ => rfl) (fun _ _ h => h) (fun c hc => hc.imp id (fun e => by subst e; exact List.mem_map.2 ⟨_, e2, rfl⟩))
      | succ j =>
        simp only [List.getElem?_cons_succ] at hd hd'
        rw [hd] at hd'
        obtain rfl := Option.some.inj hd'
        exact hr.mono (fun _ _ => rfl) (fun _ _ h => h) (fun _ h => .inl h)
    · subst e1; subst e2
      exact ⟨ρ, Post.id (fun p hp => hp), .v _⟩
def hook50 (f : FuncId) (ds : List DV) (hp : Nat → Option DO) (nx : Nat) : Option (Option (DV × List (Nat × Option DO) × Nat)) := match ds with
  | [.vref b 86 2] => bif Nat.beq f 43 then some (match bldE hp b with
    | some (bs, og) => onE (Nat.ble bs.length 70368744177664 && Nat.blt nx capE) (.v (.string ⟨bs.toArray⟩), (match og with | some g => [(g, none)] | none => []) ++ [(b, none)], nx)
    | none => none) else none
  | [.vref b 86 2, .v (.string s)] => bif Nat.beq f 41 then some (match bldE hp b with
    | some (bs, og) => onE (Nat.ble (bs.length + s.size) 70368744177664 && Nat.blt nx capE) (.tup [.v (.int .i64 s.size), .v .nilIface], newB nx b (bs ++ s.data.toList) og, nx + 1)
    | none => none) else none
  | [.vref b 86 2, .v (.int .u8 (.ofNat n))] => bif Nat.beq f 42 then some (match bldE hp b with
    | some (bs, og) => onE (Nat.blt n 256 && (Nat.ble bs.length 70368744177664 && Nat.blt nx capE)) (.v .nilIface, newB nx b (bs ++ [UInt8.ofNat n]) og, nx + 1)
    | none => none) else none
  | [.sl b 1 0 n, .v (.string s)] => bif Nat.beq f 74 then some (match hp b with
    | some (.row _ 1 es) => (match unS es with
      | some ws => onE (isS s sp1 && (Nat.beq n es.length && (Nat.ble ws.length 1048576 && ws.all (fun w => Nat.ble w.size 1048576)))) (.v (.string (catW ws)), [], nx)
      | none => none)
    | _ => none) else none
  | _ => match hkP f ds with
    | some (some d) => some (some (d, [], nx))
    | some none => some none
    | none => none
noncomputable def K50 : Cfg := ⟨Tryz.prog, 86, hook50, fun f => Nat.beq f 99⟩
theorem hook50_ok : HookOk Tryz.prog E50 K50 := by
  intro g ds hp nx d up nx' h wf
  change hook50 g ds hp.get nx = _ at h
  unfold hook50 at h
  split at h
  · rename_i b
    rcases bif_ite h with ⟨hf, h⟩ | ⟨_, h⟩
    · obtain rfl := Nat.eq_of_beq_eq_true hf
      have h := Option.some.inj h
      split at h
      · rename_i bs og hb
        obtain ⟨hc, h⟩ := onE_some h
        cases h
        simp only [Bool.and_eq_true] at hc
        exact bldStr (Nat.le_of_ble_eq_true hc.1) hb hc.2 wf
      · cases h
    · cases h
  · rename_i b s
    rcases bif_ite h with ⟨hf, h⟩ | ⟨_, h⟩
    · obtain rfl := Nat.eq_of_beq_eq_true hf
      have h := Option.some.inj h
      split at h
      · rename_i bs og hb
        obtain ⟨hc, h⟩ := onE_some h
        cases h
        simp only [Bool.and_eq_true] at hc
        exact bldStep (xs := [.v (.string s)]) (fun ρ ys hR => RL1 hR) (fun ρ => RD.tup' (PWl.cons (.v _) (PWl.cons (.v _) PWl.nil))) (fun b g used => bWriteString b g used bs s (Nat.le_of_ble_eq_true hc.1)) (fun e => (List.append_eq_nil_iff.1 e).1) hb hc.2 wf
      · cases h
    · cases h
  · rename_i b n
    rcases bif_ite h with ⟨hf, h⟩ | ⟨_, h⟩
    · obtain rfl := Nat.eq_of_beq_eq_true hf
      have h := Option.some.inj h
      split at h
      · rename_i bs og hb
        obtain ⟨hc, h⟩ := onE_some h
        cases h
        simp only [Bool.and_eq_true] at hc
        have hn : n < 256 := by simpa using hc.1
        have hy : ((UInt8.ofNat n).toNat : Int) = Int.ofNat n := by simp; omega
        exact bldStep (xs := [.v (.int .u8 (.ofNat n))]) (fun ρ ys hR => RL1 hR) (fun ρ => .v _) (fun b g used => by have := bWriteByte (E := E50) b g used bs (UInt8.ofNat n) (Nat.le_of_ble_eq_true hc.2.1); rw [hy] at this; exact this) (fun e => (List.append_eq_nil_iff.1 e).1) hb hc.2.2 wf
      · cases h
    · cases h
  · rename_i b n s
    rcases bif_ite h with ⟨hf, h⟩ | ⟨_, h⟩
    · obtain rfl := Nat.eq_of_beq_eq_true hf
      have h := Option.some.inj h
      split at h
      · rename_i el es hb
        split at h
        · rename_i ws hu
          obtain ⟨hc, h⟩ := onE_some h
          cases h
          simp only [Bool.and_eq_true, List.all_eq_true] at hc
          obtain ⟨c1, c2, c3, c4⟩ := hc
          obtain rfl := isS_eq c1
          exact joinStep hb hu (Nat.eq_of_beq_eq_true c2) (Nat.le_of_ble_eq_true c3) (fun w hw => Nat.le_of_ble_eq_true (c4 w hw))
        · cases h
      · cases h
    · cases h
  · split at h
    · rename_i d0 hd
      cases h
      exact hkP_ok hd
    · cases h
    · cases h
end Go.GH
namespace Go.GH
open Go Go.RowKit
def optAll {α : Type} : List (Option α) → Option (List α)
  | [] => some []
  | some a :: l => (optAll l).map (a :: ·)
  | none :: _ => none
theorem optAll_map {α β : Type} {f : α → Option β} : ∀ {l : List α} {r : List β}, optAll (l.map f) = some r → PWl (fun a b => f a = some b) l r
  | [], r, h => by cases h; exact PWl.nil
  | a :: l, r, h => by
    rw [List.map_cons] at h
    cases hf : f a with
    | none => rw [hf] at h; cases h
    | some b =>
      rw [hf] at h
      obtain ⟨r', h1, rfl⟩ := Option.map_eq_some_iff.1 h
      exact PWl.cons hf (optAll_map h1)
/-- What a value reads as when all that it reaches is let go. -/
def fzE (hp : Nat → Option DO) : Nat → DV → Option DV
  | 0, _ => none
  | n + 1, d => match d with
    | .v x => some (.v x)
    | .agg ds => (optAll (ds.map (fzE hp n))).map DV.agg
    | .tup ds => (optAll (ds.map (fzE hp n))).map DV.tup
    | .isl nn sz es => (optAll (es.map (fun e => optAll (e.map (fzE hp n))))).map (DV.isl nn sz)
    | .sl b sz 0 len => (match hp b with
      | some (.row _ sz2 es) => bif Nat.beq sz sz2 && Nat.beq len es.length then (optAll (es.map (fun e => optAll (e.map (fzE hp n))))).map (DV.isl false sz) else none
      | _ => none)
    | _ => none
def noBlk : Nat → DV → Bool
  | 0, _ => false
  | n + 1, d => match d with
    | .v _ => true
    | .agg ds => ds.all (noBlk n)
    | .isl _ _ es => es.all (fun e => e.all (noBlk n))
    | _ => false
theorem noBlk_rd {ρ : Rn} : ∀ {n : Nat} {d : DV}, noBlk n d = true → RD ρ d d
  | 0, d, h => by cases h
  | n + 1, d, h => by
    unfold noBlk at h
    split at h
    · exact .v _
    · rw [List.all_eq_true] at h
      exact RD.agg' (PWl.refl (fun a ha => noBlk_rd (h a ha)))
    · rw [List.all_eq_true] at h
      exact RD.isl' (PWl.refl (fun e he => PWl.refl (fun a ha => noBlk_rd (List.all_eq_true.1 (h e he) a ha))))
    · cases h
theorem Rep.islMap {w : World} {F : Nat → Prop} {v : Value} {nn : Bool} {sz : Nat} {es es2 : List (List DV)} (h : Rep w F v (.isl nn sz es)) (hp : PWl (PWl (fun d d2 => ∀ x, Rep w F x d → Rep w F x d2)) es es2) : Rep w F v (.isl nn sz es2) := by
  have back : ∀ (i : Nat) e2, es2[i]? = some e2 → ∃ e, es[i]? = some e ∧ PWl (fun d d2 => ∀ x, Rep w F x d → Rep w F x d2) e e2 := fun i e2 h2 => by
    have hlt : i < es.length := hp.1 ▸ (List.getElem?_eq_some_iff.1 h2).1
    exact ⟨es[i], List.getElem?_eq_getElem hlt, hp.2 i _ _ (List.getElem?_eq_getElem hlt) h2⟩
  have back2 : ∀ {e e2 : List DV} (j : Nat) d2, PWl (fun d d2 => ∀ x, Rep w F x d → Rep w F x d2) e e2 → e2[j]? = some d2 → ∃ d, e[j]? = some d ∧ ∀ x, Rep w F x d → Rep w F x d2 := fun {e e2} j d2 q h2 => by
    have hlt : j < e.length := q.1 ▸ (List.getElem?_eq_some_iff.1 h2).1
    exact ⟨e[j], List.getElem?_eq_getElem hlt, q.2 j _ _ (List.getElem?_eq_getElem hlt) h2⟩
  cases h with
  | @isl A len cap nn sz es b o xs hlen hcap hB hnn hA hsz hc hr =>
    refine .isl (b := b) (o := o) xs (by rw [← hp.1]; exact hlen) hcap (by rw [← hp.1]; exact hB) hnn (fun hne => hA (fun e => hne ?_)) (fun i e2 h2 => ?_) (fun i e2 j d2 h2 h3 => ?_) (fun i e2 j d2 h2 h3 => ?_)
    · have := hp.1
      rw [e] at this
      exact List.eq_nil_of_length_eq_zero this.symm
    · obtain ⟨e, h1, q⟩ := back i e2 h2
      rw [← q.1]; exact hsz i e h1
    · obtain ⟨e, h1, q⟩ := back i e2 h2
      obtain ⟨d, h4, _⟩ := back2 j d2 q h3
      exact hc i e j d h1 h4
    · obtain ⟨e, h1, q⟩ := back i e2 h2
      obtain ⟨d, h4, h5⟩ := back2 j d2 q h3
      exact h5 _ (hr i e j d h1 h4)
theorem fzE_ok {ρ : Rn} {hp : Nat → Option DO} {H : DHeap} {w : World} {F : Nat → Prop} (hc : CovH ρ hp H) (hH : ∀ p ∈ H, F p.1 ∧ ObjRep w F p.1 p.2) :
    ∀ (n : Nat) {d d' dF : DV} {v : Value}, fzE hp n d = some dF → RD ρ d d' → Rep w F v d' → Rep w F v dF
  | 0, d, d', dF, v, h, _, _ => by cases h
  | n + 1, d, d', dF, v, h, hR, hv => by
    have lst : ∀ {ds ds' dsF : List DV}, optAll (ds.map (fzE hp n)) = some dsF → RL ρ ds ds' → PWl (fun d d2 => ∀ x, Rep w F x d → Rep w F x d2) ds' dsF := fun {ds ds' dsF} h1 h2 => by
      have h3 := optAll_map h1
      refine ⟨by rw [← h2.1, h3.1], fun i a b ha hb x hx => ?_⟩
      have hlt : i < ds.length := h2.1 ▸ (List.getElem?_eq_some_iff.1 ha).1
      exact fzE_ok hc hH n (h3.2 i _ _ (List.getElem?_eq_getElem hlt) hb) (h2.2 i _ _ (List.getElem?_eq_getElem hlt) ha) hx
    have lst2 : ∀ {es es' : List (List DV)} {esF : List (List DV)}, optAll (es.map (fun e => optAll (e.map (fzE hp n)))) = some esF → RLL ρ es es' → PWl (PWl (fun d d2 => ∀ x, Rep w F x d → Rep w F x d2)) es' esF := fun {es es' esF} h1 h2 => by
      have h3 := optAll_map h1
      refine ⟨by rw [← h2.1, h3.1], fun i a b ha hb => ?_⟩
      have hlt : i < es.length := h2.1 ▸ (List.getElem?_eq_some_iff.1 ha).1
      exact lst (h3.2 i _ _ (List.getElem?_eq_getElem hlt) hb) (h2.2 i _ _ (List.getElem?_eq_getElem hlt) ha)
    unfold fzE at h
    split at h
    · cases h
      rw [hR.inv_v] at hv
      exact hv
    · obtain ⟨dsF, h1, rfl⟩ := Option.map_eq_some_iff.1 h
      obtain ⟨ds', rfl, h2⟩ := hR.inv_agg
      have q := lst h1 h2
      cases hv with
      | agg hl hr =>
        refine .agg (by rw [hl, q.1]) (fun j x d2 hx hd2 => ?_)
        have hlt := q.1 ▸ (List.getElem?_eq_some_iff.1 hd2).1
        exact q.2 j _ _ (List.getElem?_eq_getElem hlt) hd2 x (hr j x _ hx (List.getElem?_eq_getElem hlt))
    · obtain ⟨dsF, h1, rfl⟩ := Option.map_eq_some_iff.1 h
      obtain ⟨ds', rfl, h2⟩ := hR.inv_tup
      have q := lst h1 h2
      cases hv with
      | tup hl hr =>
        refine .tup (by rw [hl, q.1]) (fun j x d2 hx hd2 => ?_)
        have hlt := q.1 ▸ (List.getElem?_eq_some_iff.1 hd2).1
        exact q.2 j _ _ (List.getElem?_eq_getElem hlt) hd2 x (hr j x _ hx (List.getElem?_eq_getElem hlt))
    · obtain ⟨esF, h1, rfl⟩ := Option.map_eq_some_iff.1 h
      obtain ⟨es', rfl, h2⟩ := hR.inv_isl
      exact hv.islMap (lst2 h1 h2)
    · rename_i b sz len
      obtain ⟨b', rfl, hb⟩ := hR.inv_sl
      split at h
      · rename_i el sz2 es ho
        cases hq : (Nat.beq sz sz2 && Nat.beq len es.length) with
        | false => rw [hq] at h; cases h
        | true =>
          rw [hq] at h
          rw [Bool.and_eq_true] at hq
          obtain rfl := Nat.eq_of_beq_eq_true hq.1
          obtain rfl := Nat.eq_of_beq_eq_true hq.2
          obtain ⟨esF, h1, rfl⟩ := Option.map_eq_some_iff.1 h
          obtain ⟨b2, o', e1, e2, e3⟩ := hc.obj b _ ho
          rw [hb] at e1
          obtain rfl := Option.some.inj e1
          cases e3 with
          | row h2 =>
            obtain ⟨hF, hO⟩ := hH _ e2
            rw [h2.1] at hv
            have := (rep_row hO hv).mono (F' := F) (fun _ _ => rfl) (fun _ _ h => h) (fun c hc => hc.elim id (fun e => by rw [e]; exact hF))
            exact this.islMap (lst2 h1 h2)
      · cases h
    · cases h
/-- The result of a closed call, as plain data. -/
def evF (K : Cfg) (fuel n : Nat) (g : FuncId) (ds : List DV) (m : Nat) : Option DV := match callE K fuel n g ds .lf 0 with
  | some (d, hp, _, _) => fzE hp.get m d
  | none => none
theorem ev_top {P : Program} {E : Env} {K : Cfg} (hok : ∀ fuel n, CallsOk P E (callE K fuel n)) {fuel n m m2 : Nat} {g : FuncId} {ds : List DV} {dF : DV} (hd : ds.all (noBlk m2) = true) (h : evF K fuel n g ds m = some dF) :
    GCall P E g ds [] (fun d' H => d' = dF ∧ H = []) := by
  unfold evF at h
  split at h
  · rename_i d hp nx lg hcall
    have wf0 : WF (Tr.lf : Tr DO).get 0 := fun b hb => absurd rfl hb
    obtain ⟨hpu, hco⟩ := hok fuel n g ds .lf 0 _ hcall wf0
    have hc0 : CovH (fun _ => none) (Tr.lf : Tr DO).get [] := ⟨(fun b o ho => by cases ho), (fun b1 b2 o1 o2 c h1 => by cases h1)⟩
    have hf0 : Free (fun _ => none) 0 nx := fun _ _ _ => rfl
    have hg := hco (fun _ => none) ds [] hc0 hf0 (PWl.refl (fun a ha => noBlk_rd (List.all_eq_true.1 hd a ha)))
    refine ⟨hg.1, fun w F vs hE hF hvs hr hH hk => (hg.2 w F vs hE hF hvs hr hH hk).mono ?_⟩
    rintro e w' ⟨u, d', H', F', rfl, ⟨ρ', hpost, hrd⟩, h3, h4, h5, h6, h7, h8⟩
    have hcv := hpost.cov hc0 hf0 hpu
    have hnew : ∀ p ∈ H', w.heap.size ≤ p.1 ∧ p.1 < w'.heap.size := fun p hp => ⟨(h6 p hp).1.resolve_left (fun hm => by cases hm), (h6 p hp).2.2.lt⟩
    refine ⟨u, dF, [], fun c => F' c ∨ c ∈ H'.map (·.1), rfl, ⟨rfl, rfl⟩, fun b hb => .inl (h3 b hb), fun b hb => ?_, ?_, (fun p hp => by cases hp), List.nodup_nil, h8⟩
    · rcases hb with hb | hb
      · exact h4 b hb
      · obtain ⟨p, hp, rfl⟩ := List.mem_map.1 hb
        exact ⟨(hnew p hp).2, .inr (hnew p hp).1⟩
    · refine fzE_ok hcv (fun p hp => ⟨.inr (List.mem_map.2 ⟨p, hp, rfl⟩), (h6 p hp).2.2.mono rfl (fun _ _ => rfl) (fun _ _ h => h) (fun _ h => .inl h)⟩) m h hrd (h5.mono (fun _ _ => rfl) (fun _ _ h => h) (fun _ h => .inl h))
  · cases h
end Go.GH
namespace Go.GH
open Go Go.Lib Go.Proofs Go.RowKit
theorem dfr50 : DfrOk Tryz.prog E50 K50.dfr := fun f hf => by
  obtain rfl := Nat.eq_of_beq_eq_true hf
  exact ⟨_, _, _, _, _, _, _, _, _, _, _, _, _, _, _, Tryz.func99, rfl, by kernel_rfl, fun b4 b5 H => recRet Tryz.func136 rfl rfl rfl Tryz.underlying20⟩
theorem calls50 (fuel n : Nat) : CallsOk Tryz.prog E50 (callE K50 fuel n) := ev_sound (C := ⟨Tryz.prog, E50, false⟩) rfl rfl (by kernel_rfl) dfr50 hook50_ok fuel n
def zc62 : List Value := [.string .empty, .bool false, .slice none 0 0, .slice none 0 0, .slice none 0 0, .slice none 0 0, .slice none 0 0, .int .i64 0, .int .i64 0, .slice none 0 0, .int .i64 0, .slice none 0 0, .slice none 0 0, .bool false, .string .empty, .int .i64 0, .string .empty, .bool false, .int .i64 0, .int .i64 0, .slice none 0 0, .slice none 0 0, .slice none 0 0, .slice none 0 0, .slice none 0 0, .bool false, .slice none 0 0, .slice none 0 0, .slice none 0 0, .string .empty]
theorem zc62_one : ∀ x ∈ zc62, x.oneCell' = true := by decide
def lng0 : Lng where
  o := fun k => .v (zc62.getD k (.int .i64 0))
  ho := fun k => by
    show (zc62.getD k (.int .i64 0)).oneCell' = true
    rw [List.getD_eq_getElem?_getD]
    cases h : zc62[k]? with
    | none => rfl
    | some x => exact zc62_one x (List.mem_of_getElem? h)
  rtl := false
  alph := [⟨97, 1⟩, ⟨116, 2⟩]
  ons := [[2]]
  ml := 2
  mr := 2
  san := []
  stop := ⟨#[46]⟩
def encG0 : List DV := (encG lng0).set 9 (.v (.slice none 0 0))
set_option maxRecDepth 100000 in
theorem ev35 : evF K50 1000 20 35 [] 12 = some (.agg encG0) := by kernel_rfl
theorem c35 : GCall Tryz.prog E50 35 [] [] (fun d H => d = .agg (encG lng0) ∧ H = []) :=
  GCall.clean (ev_top (m2 := 1) calls50 rfl ev35) (fun d H ⟨e, _⟩ => ⟨.agg (encG lng0), fun w F v hv => by rw [e] at hv; exact rep_aggNil (sz := 6) 9 hv rfl, rfl⟩)
end Go.GH
namespace Go.GH
open Go Go.Lib Go.Proofs Go.RowKit
def txt0 : ByteArray := ⟨#[116,97,116,97,32,116,97,46,32,97,116,97,116,97,46]⟩
def pg0 : List ByteArray := [⟨#[116,97,116,97,32]⟩, ⟨#[116,97,46,32,32]⟩, ⟨#[97,116,97,45,32]⟩, ⟨#[116,97,46,32,32]⟩]
set_option maxRecDepth 100000 in
theorem ev64 : evF K50 1000 20 64 [.agg (encG lng0)] 12 = some (.v (.bool true)) := by kernel_rfl
def snt0 : List ByteArray := [⟨#[116,97,116,97,32,116,97,46]⟩, ⟨#[97,116,97,116,97,46]⟩]
set_option maxRecDepth 100000 in
theorem ev65 : evF K50 1000 20 65 [.agg (encG lng0), .v (.string txt0)] 12 = some (.tup [DStrs snt0, .v (.int .i64 0)]) := by kernel_rfl
set_option maxRecDepth 100000 in
theorem ev26 : evF K50 1000 20 26 [.agg (encG lng0), .v (.string txt0), .v (.int .i64 5), .v (.int .i64 10)] 12 = some (.tup [DStrs pg0, .v (.int .i64 0)]) := by kernel_rfl
theorem c64 : GCall Tryz.prog E50 64 [.agg (encG lng0)] [] (fun d H => d = .v (.bool true) ∧ H = []) := ev_top (m2 := 8) calls50 (by decide) ev64
theorem c65 : GCall Tryz.prog E50 65 [.agg (encG lng0), .v (.string txt0)] [] (fun d H => d = .tup [DStrs snt0, .v (.int .i64 0)] ∧ H = []) := ev_top (m2 := 8) calls50 (by decide) ev65
theorem c26 : GCall Tryz.prog E50 26 [.agg (encG lng0), .v (.string txt0), .v (.int .i64 5), .v (.int .i64 10)] [] (fun d H => d = .tup [DStrs pg0, .v (.int .i64 0)] ∧ H = []) := ev_top (m2 := 8) calls50 (by decide) ev26
theorem plain0 : plainR true 0 (fun w => fldR w) pg0 = (txt0, 0) := by kernel_rfl
set_option maxRecDepth 100000 in
theorem ev28 : pg0.all (fun w => match evF K50 1000 20 28 [.v (.int .i64 0), .v (.string w)] 12 with | some (.v (.string s)) => isS s w | _ => false) = true := by kernel_rfl
theorem c28 {w : ByteArray} (hw : w ∈ pg0) : GCall Tryz.prog E50 28 [.v (.int .i64 0), .v (.string w)] [] (fun d H => d = .v (.string w) ∧ H = []) := by
  have h := List.all_eq_true.1 ev28 w hw
  split at h
  · rename_i s e
    rw [isS_eq h] at e
    exact ev_top (m2 := 2) calls50 rfl e
  · cases h
end Go.GH
namespace Go.GH
open Go Go.Lib Go.Proofs Go.RowKit
abbrev fl0 : ByteArray → List ByteArray := fun w => fldR w
theorem xs0_small : (wrdA fl0 pg0).all (fun x => Nat.ble x.1.size 100) = true := by kernel_rfl
theorem xs0_few : Nat.beq (wrdA fl0 pg0).length 4 = true := by kernel_rfl
theorem pg0_small : pg0.all (fun w => Nat.ble w.size 100) = true := by kernel_rfl
theorem txt0_eq : catW (plR (wrdA fl0 pg0) (wrdA fl0 pg0).length).1 = txt0 := by kernel_rfl
theorem c30 : GCall Tryz.prog E50 30 [.agg (encG lng0), DStrs pg0] [] (fun d H => d = .tup [.v (.string txt0), .v (.int .i64 0)] ∧ H = []) := by
  have hl := Nat.eq_of_beq_eq_true xs0_few
  have hs : ∀ w ∈ pg0, w.size ≤ 100 := fun w hw => Nat.le_of_ble_eq_true (List.all_eq_true.1 pg0_small w hw)
  have h := cPlain (E := E50) vs50 lng0 pg0 (fun w => w) fl0 true 0 100 (fun x hx => Nat.le_of_ble_eq_true (List.all_eq_true.1 xs0_small x hx)) (by omega) (by omega) (fun w hw => c28 hw) (fun w hw => sFields _ (by have := hs w hw; omega)) c64 (by rw [txt0_eq]; exact c65.mono (fun d H h => ⟨⟨_, h.1⟩, h.2⟩))
  rw [plain0] at h
  exact h
def sp0 : ByteArray := ⟨#[97,97,32,32,32,98,32,32,99,99]⟩
set_option maxRecDepth 100000 in
theorem ev13 : evF K50 1000 20 13 [.agg [DStrs [⟨#[97,97]⟩, ⟨#[98]⟩, ⟨#[99,99]⟩], .v (.bool false)], .v (.int .i64 10), .v (.bool false)] 12 = some (.tup [.v (.string sp0), .v (.int .i64 0)]) := by kernel_rfl
theorem c13 : GCall Tryz.prog E50 13 [.agg [DStrs [⟨#[97,97]⟩, ⟨#[98]⟩, ⟨#[99,99]⟩], .v (.bool false)], .v (.int .i64 10), .v (.bool false)] [] (fun d H => d = .tup [.v (.string sp0), .v (.int .i64 0)] ∧ H = []) := ev_top (m2 := 8) calls50 (by decide) ev13
set_option maxRecDepth 100000 in
theorem ev22 : evF K50 1000 20 22 [DStrs pg0, DStrs pg0] 12 = some (.v (.bool true)) := by kernel_rfl
theorem c22 : GCall Tryz.prog E50 22 [DStrs pg0, DStrs pg0] [] (fun d H => d = .v (.bool true) ∧ H = []) := ev_top (m2 := 8) calls50 (by decide) ev22
theorem sheets0 : Nat.beq (sheetsR [⟨#[97]⟩, ⟨#[98]⟩, ⟨#[99]⟩] 2).1.length 2 = true := by kernel_rfl
end Go.GH
namespace Go.GH
open Go Go.Proofs
variable {E : Env}
theorem placesB_24 : placesB Tryz.prog 24 [(0, 1), (1, 1)] = true := by kernel_rfl
theorem aAwake   : GCall Tryz.prog E50 12 [] [] (fun d H => d = .v (.bool true) ∧ H = []) := by
 refine GCall.body (C := ⟨Tryz.prog, E50, true⟩) Tryz.func12 rfl (fun _ => rfl) (by kernel_rfl) rfl ?_
 refine SCode.seqR (SOps.assign rfl (SOps.nil (SCode.seqR (SOps.litF rfl sliceB_22_9_1 zeroIs_9 rfl (SOps.buildM placesB_24 zeroIs_24 rfl rfl (SOps.callP c13 rfl ?_))))))
 rintro _ rfl
 refine SOps.move rfl (SOps.extract rfl rfl (SOps.extract rfl rfl (SOps.assign rfl (SOps.assign rfl (SOps.nil (SCode.seqR (SOps.callP c35 rfl ?_)))))))
 rintro _ rfl
 refine SOps.callP c26 rfl ?_
 rintro _ rfl
 refine SOps.move rfl (SOps.extract rfl rfl (SOps.extract rfl rfl (SOps.assign rfl (SOps.assign rfl (SOps.nil (SCode.seqR (SOps.callP c35 rfl ?_)))))))
 rintro _ rfl
 refine SOps.move rfl (SOps.callP c30 rfl ?_)
 rintro _ rfl
 refine SOps.move rfl (SOps.extract rfl rfl (SOps.extract rfl rfl (SOps.assign rfl (SOps.assign rfl (SOps.nil (SCode.seqR (SOps.litF rfl sliceB_22_9_1 zeroIs_9 rfl (SOps.callP (cSheets [⟨#[97]⟩, ⟨#[98]⟩, ⟨#[99]⟩] 2 (by decide)) rfl ?_))))))))
 rintro _ rfl
 refine SOps.move rfl (SOps.extract rfl rfl (SOps.extract rfl rfl (SOps.assign rfl (SOps.assign rfl (SOps.nil (SCode.seqR (SOps.move rfl (SOps.bin rfl rfl rfl (SOps.reSlot (t := 32) (d' := .v (.bool true)) rfl (by first | rfl | (congr 2; kernel_rfl)) (SOps.move rfl (SOps.move rfl (SOps.bin rfl rfl rfl (SOps.reSlot (t := 35) (d' := .v (.bool true)) rfl (by first | rfl | (congr 2; kernel_rfl)) (SOps.pick rfl rfl (SOps.move rfl (SOps.move rfl (SOps.litF rfl sliceB_22_9_1 zeroIs_9 rfl (SOps.callP c22 rfl ?_))))))))))))))))))
 rintro _ rfl
 refine SOps.pick rfl rfl (SOps.move rfl (SOps.move rfl (SOps.bin rfl rfl rfl (SOps.reSlot (t := 44) (d' := .v (.bool true)) rfl (by first | rfl | (congr 2; kernel_rfl)) (SOps.pick rfl rfl (SOps.move rfl (SOps.move rfl (SOps.bin rfl rfl rfl (SOps.reSlot (t := 48) (d' := .v (.bool true)) rfl (by first | rfl | (congr 2; kernel_rfl)) (SOps.pick rfl rfl (SOps.move rfl (SOps.move rfl (SOps.bin rfl rfl rfl (SOps.reSlot (t := 52) (d' := .v (.bool true)) rfl (by first | rfl | (congr 2; kernel_rfl)) (SOps.pick rfl rfl (SOps.move rfl (SOps.move rfl (SOps.lenM rfl sliceB_73_22_1 (SOps.bin rfl rfl rfl (SOps.reSlot (t := 57) (d' := .v (.bool true)) rfl (congrArg (fun n : Nat => DV.v (.bool (decide (((n : Nat) : Int) = 2)))) (Nat.eq_of_beq_eq_true sheets0)) (SOps.pick rfl rfl (SOps.move rfl (SOps.move rfl (SOps.bin rfl rfl rfl (SOps.reSlot (t := 61) (d' := .v (.bool true)) rfl (by first | rfl | (congr 2; kernel_rfl)) (SOps.pick rfl rfl (SOps.assign rfl (SOps.nil (SCode.ret ?_)))))))))))))))))))))))))))))
 exact ⟨_, Res.one (.tmp rfl), rfl, rfl⟩
end Go.GH
