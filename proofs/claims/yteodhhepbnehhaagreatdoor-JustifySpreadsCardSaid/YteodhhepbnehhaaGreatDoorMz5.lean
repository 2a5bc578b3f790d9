/-
  Part 5 of the texts behind the walks of this claim: an own layer over the kit's wp, plain laws, and walks. No conditions.
-/
import Derived.Test.YteodhhepbnehhaaGreatDoorMz4
import Derived.Shelf.Strings.FieldsFuncAny
import Derived.Shelf.Strings.SplitShaped
import Derived.Test.YteodhhepbnehhaaGreatDoorRows
set_option linter.unusedVariables false
set_option linter.unusedSimpArgs false
set_option linter.deprecated false
namespace Go.GH
open Go Go.RowKit
theorem GCall.thaw {P : Program} {E : Env} {f : FuncId} {ds ds' : List DV} {H : DHeap} {x : Value} (h : GCall P E f ds' [] (fun d H => d = .v x ∧ H = [])) (hl : ds'.length = ds.length)
    (hc : ∀ (w : World) (F : Nat → Prop), (∀ p ∈ H, ObjRep w F p.1 p.2) → ∀ (j : Nat) (d d' : DV) (v : Value), ds[j]? = some d → ds'[j]? = some d' → Rep w F v d → Rep w (fun c => F c ∨ c ∈ H.map (·.1)) v d') :
    GCall P E f ds H (fun d H' => d = .v x ∧ H' = H) := by
  refine ⟨h.1, fun w F vs hE hF hvs hr hH hk => ?_⟩
  have hlt : ∀ b, b ∈ H.map (·.1) → b < w.heap.size ∧ ¬ F b := fun b hb => by
    obtain ⟨p, hp, rfl⟩ := List.mem_map.1 hb
    exact ⟨(hH p hp).2.lt, (hH p hp).1⟩
  refine (h.2 w (fun c => F c ∨ c ∈ H.map (·.1)) vs (E.mono (fun _ _ => rfl) (fun _ x => .inl x) hE) (fun b hb => hb.elim (hF b) (fun hm => (hlt b hm).1)) (by omega) (fun j v d hv hd => ?_) (fun p hp => by cases hp) List.nodup_nil).mono ?_
  · have hj : j < ds.length := by have := (List.getElem?_eq_some_iff.1 hd).1; omega
    exact hc w F (fun p hp => (hH p hp).2) j ds[j] d v (List.getElem?_eq_getElem hj) hd (hr j v _ hv (List.getElem?_eq_getElem hj))
  · rintro e w' ⟨u, d, H', F', rfl, ⟨rfl, rfl⟩, h3, h4, h5, _, _, h8⟩
    have hb : ∀ b, b < w.heap.size → w'.heap[b]? = w.heap[b]? := fun b hb => h8.block b hb (fun x => by cases x)
    refine ⟨u, _, H, fun b => F' b ∧ b ∉ H.map (·.1), rfl, ⟨rfl, rfl⟩, fun b hb' => ⟨h3 b (.inl hb'), fun hm => (hlt b hm).2 hb'⟩, fun b hb' => ⟨(h4 b hb'.1).1, (h4 b hb'.1).2.elim (fun y => y.elim .inl (fun hm => absurd hm hb'.2)) .inr⟩, ?_, fun p hp => ?_, hk, h8.mono (fun _ _ hm => by cases hm)⟩
    · obtain ⟨e1, e2⟩ := h5.inv_v
      rw [e1]
      exact .v e2
    · exact ⟨.inl (List.mem_map.2 ⟨p, hp, rfl⟩), fun hb' => hb'.2 (List.mem_map.2 ⟨p, hp, rfl⟩), (hH p hp).2.mono (hb _ (hH p hp).2.lt) (fun b hb' => hb b (hF b hb')) h8.shape (fun b hb' => ⟨h3 b (.inl hb'), fun hm => (hlt b hm).2 hb'⟩)⟩
/-- A slice that has grown in a row of its own. -/
theorem GCall.thawAcc {P : Program} {E : Env} {f : FuncId} {e sz k : Nat} {es : List (List DV)} {ds : List DV} {x : Value} (h : GCall P E f (.isl false sz es :: ds) [] (fun d H => d = .v x ∧ H = [])) :
    GCall P E f (accD sz k es :: ds) (accH e sz k es) (fun d H => d = .v x ∧ H = accH e sz k es) := by
  cases es with
  | nil => exact (GCall.nil0 h).mono (fun d H h => h)
  | cons y ys =>
    refine GCall.thaw (H := [(k, .row e sz (y :: ys))]) h rfl (fun w F hH j d d' v hd hd' hr => ?_)
    cases j with
    | zero =>
      simp only [List.getElem?_cons_zero, Option.some.injEq] at hd hd'
      subst hd; subst hd'
      exact (rep_row (hH _ (List.mem_singleton.2 rfl)) hr).mono (fun _ _ => rfl) (fun _ _ h => h) (fun c hc => hc.imp id (fun e => by subst e; exact List.mem_singleton.2 rfl))
    | succ j =>
      simp only [List.getElem?_cons_succ] at hd hd'
      rw [hd] at hd'
      obtain rfl := Option.some.inj hd'
      exact hr.mono (fun _ _ => rfl) (fun _ _ h => h) (fun _ h => .inl h)
section
variable {C : Ctx} {st : St} {ops : Array Oper} {rest : List Oper} {R : St → Prop} {t : Tmp} {ty : TypeId} {pos : String} {aft : Array Edge} {g : Option (Nat × Bool)}
theorem SOps.indexRefA {T n e sz b o : Nat} {xo io : Operand} {k : IntKind} {m : Int} (i : Nat) (hx : st.val xo = some (.ref b o)) (hi : st.val io = some (.v (.int k m)))
    (hT : arrayB C.P T n e sz = true) (hm : m = (i : Int)) (hlt : i < n) (hrest : SOps C ops rest (st.put t (.ref b (o + i * sz))) R)
    (hg : st.wants ops g = some true := by rfl) (ht : Nat.blt t st.n = true := by rfl) : SOps C ops (⟨some t, .indexAddr T xo io, ty, pos, aft, g⟩ :: rest) st R :=
  SOps.val rfl hg ht (fun base a w F hs => by
    have h1 := hs.val hx
    have h2 := (hs.val (hm ▸ hi)).inv_v.1
    generalize hv : a.eval xo = v at h1
    cases h1 with
    | ref => exact ⟨_, by simp [execOp, hv, h2, run_indexArr hT b o k i hlt], .ref _ _⟩) hrest
end
/-! ### lists of lists -/
theorem flat_len {α : Type} {L : List (List α)} {i : Nat} {x : List α} (h : L[i]? = some x) : (L.take (i + 1)).flatten.length = (L.take i).flatten.length + x.length := by
  obtain ⟨hi, rfl⟩ := List.getElem?_eq_some_iff.1 h
  have e : L.take (i + 1) = L.take i ++ [L[i]] := by rw [List.take_add_one, h]; rfl
  rw [e, List.flatten_append, List.length_append]
  congr 1
  rw [List.flatten_cons, List.flatten_nil, List.append_nil]
theorem flat_get {α : Type} {L : List (List α)} {i j : Nat} {x : List α} {y : α} (h : L[i]? = some x) (hj : x[j]? = some y) : L.flatten[(L.take i).flatten.length + j]? = some y := by
  obtain ⟨hi, rfl⟩ := List.getElem?_eq_some_iff.1 h
  have hjl := (List.getElem?_eq_some_iff.1 hj).1
  have e : L.flatten = (L.take i).flatten ++ (L[i] ++ (L.drop (i + 1)).flatten) := by
    conv => lhs; rw [← List.take_append_drop i L, List.flatten_append, List.drop_eq_getElem_cons hi, List.flatten_cons]
  rw [e, List.getElem?_append_right (by omega), Nat.add_sub_cancel_left, List.getElem?_append_left hjl]
  exact hj
end Go.GH
namespace Go.GH
open Go Go.Proofs
variable {E : Env}
theorem arrayB_124_2_4_1 : arrayB Tryz.prog 124 2 4 1 = true := by kernel_rfl
theorem zeroIs_124 : zeroIs Tryz.prog 124 (.agg #[.bool false, .bool false]) := by unfold zeroIs; kernel_rfl
/-- The words of a line, each with the marks of the first and the last. -/
def wrdL (fs : List ByteArray) : List (ByteArray × Bool × Bool) := fs.zipIdx.map (fun p => (p.1, decide ((p.2 : Int) = 0), decide ((p.2 : Int) = (fs.length : Int) - 1)))
def wrdD (x : ByteArray × Bool × Bool) : DV × DV := (.v (.string x.1), .agg [.v (.bool x.2.1), .v (.bool x.2.2)])
def wrdA (fl : ByteArray → List ByteArray) (pg : List ByteArray) : List (ByteArray × Bool × Bool) := (pg.map (fun w => wrdL (fl w))).flatten
def wrdO (fl : ByteArray → List ByteArray) (pg : List ByteArray) (i : Nat) : Nat := ((pg.map (fun w => wrdL (fl w))).take i).flatten.length
theorem wrdL_len (fs : List ByteArray) : (wrdL fs).length = fs.length := by simp [wrdL]
theorem wrdL_get {fs : List ByteArray} {j : Nat} (h : j < fs.length) : (wrdL fs)[j]? = some (fs[j], decide ((j : Int) = 0), decide ((j : Int) = (fs.length : Int) - 1)) := by
  unfold wrdL
  rw [List.getElem?_map, List.getElem?_zipIdx, List.getElem?_eq_getElem h]
  simp
theorem wrdO_next {fl : ByteArray → List ByteArray} {pg : List ByteArray} {i : Nat} (h : i < pg.length) : wrdO fl pg (i + 1) = wrdO fl pg i + (fl pg[i]).length := by
  unfold wrdO
  rw [flat_len (x := wrdL (fl pg[i])) (by rw [List.getElem?_map, List.getElem?_eq_getElem h]; rfl), wrdL_len]
theorem wrdO_all (fl : ByteArray → List ByteArray) (pg : List ByteArray) : wrdO fl pg pg.length = (wrdA fl pg).length := by
  unfold wrdO wrdA
  rw [List.take_of_length_le (by simp)]
theorem wrdA_get {fl : ByteArray → List ByteArray} {pg : List ByteArray} {i j : Nat} {fs : List ByteArray} (h : i < pg.length) (hf : fs = fl pg[i]) (hj : j < fs.length) : ((wrdA fl pg).map wrdD)[wrdO fl pg i + j]? = some (.v (.string fs[j]), .agg [.v (.bool (decide ((j : Int) = 0))), .v (.bool (decide ((j : Int) = (fs.length : Int) - 1)))]) := by
  subst hf
  rw [List.getElem?_map]
  unfold wrdA wrdO
  rw [flat_get (x := wrdL (fl pg[i])) (by rw [List.getElem?_map, List.getElem?_eq_getElem h]; rfl) (wrdL_get hj)]
  rfl
theorem cWords (l : Lng) (pg : List ByteArray)  : GCall Tryz.prog E 71 [.agg (encG l), DStrs pg] [] (fun d H => d = .fn 105 [.ipin [DStrs pg], .ipin (encG l)] ∧ H = []) := by
 refine GCall.body (C := ⟨Tryz.prog, E, true⟩) Tryz.func71 rfl (fun _ => rfl) (by kernel_rfl) rfl ?_
 refine SCode.seqR ?_
 refine SOps.boxAM rfl rfl ?_ (hd := encG_one l)
 refine SOps.boxF rfl rfl rfl (SOps.assign rfl (SOps.nil (SCode.seqR (SOps.makeFunc rfl (SOps.assign rfl (SOps.nil (SCode.ret ?_)))))))
 exact ⟨_, Res.one (.tmp rfl), rfl, rfl⟩
theorem iWords (l : Lng) (pg : List ByteArray) (lg : ByteArray → ByteArray) (fl : ByteArray → List ByteArray) (hLg : ∀ w ∈ pg, GCall Tryz.prog E 28 [.v (.int .i64 (baseR l)), .v (.string w)] [] (fun d H => d = .v (.string (lg w)) ∧ H = []))
    (hFF : ∀ w ∈ pg, GCall Tryz.prog E 106 [.v (.string (lg w)), .fn 107 []] [] (fun d H => d = DStrs (fl w) ∧ H = [])) : GIter2 Tryz.prog E 105 [.ipin [DStrs pg], .ipin (encG l)] ((wrdA fl pg).map wrdD) := by
  refine GIter2.body (C := ⟨Tryz.prog, E, true⟩) Tryz.func105 rfl (by kernel_rfl) rfl rfl (fun l9 J hK hY => ?_)
  refine SYCode.seqR (SYOps.one hK (SOps.loadPin rfl flatB_22 (SOps.nil rfl)) rfl rfl (SYOps.one hK (SOps.lenM rfl sliceB_22_9_1 (SOps.nil rfl)) rfl rfl (SYOps.one hK (SOps.move rfl (SOps.nil rfl)) rfl rfl (SYOps.nil (SYCode.block (SYCode.loop1 (ι := fun i => wrdO fl pg i) (hx := by rfl) (fun (i : Nat) => (⟨41, [(0, .v (.func (.yield l9) #[] #[])), (1, .ipin [DStrs pg]), (2, .ipin (encG l)), (9, DStrs pg), (10, .v (.int .i64 ((pg.length : Nat) : Int))), (11, .v (.int .i64 (i : Int)))], []⟩ : St)) (fun (i : Nat) => i ≤ pg.length) (fun (i : Nat) => pg.length - i) (0) (by exact Nat.zero_le _) (St.Le.of ⟨(by first | rfl | (show some _ = some _; simp)), (by first | rfl | (show some _ = some _; simp)), (by first | rfl | (show some _ = some _; simp)), (by first | rfl | (show some _ = some _; simp)), (by first | rfl | (show some _ = some _; simp)), (by first | rfl | (show some _ = some _; simp)), trivial⟩ rfl (by first | rfl | (simp))) ?_))))))
  rintro i hi
  refine SYCode.fact (isl_len (t := 9) rfl) (fun hB => ?_)
  simp only [List.length_map, lenB] at hB
  refine SYCode.seqR (SYOps.one hK (SOps.bin rfl rfl rfl (SOps.nil rfl)) rfl rfl (SYOps.nil (SYCode.seq ?_)))
  refine SYCode.cond rfl (fun hc1 => ?_) (fun hc1 => ?_)
  · try simp only [nmL] at hc1
    refine SYCode.skip ?_
    show SYCode _ _ _ _ _ _
    refine SYCode.seq (SYCode.block (SYCode.seqR ?_))
    have hil : i < pg.length := by omega
    have hml := List.getElem_mem hil
    refine SYOps.one hK (SOps.indexM (i) rfl rfl sliceB_22_9_1 (by first | omega | (simp only [lenB]; omega) | (simp only [List.length_map, lenB]; omega) | (simp; done)) (by first | omega | (simp only [lenB]; omega) | (simp only [List.length_map, lenB]; omega) | (simp; done)) (SOps.nil rfl)) rfl rfl (SYOps.one hK (SOps.loadPin rfl flatB_9 (SOps.nil rfl)) rfl rfl (SYOps.one hK (SOps.assign rfl (SOps.nil rfl)) rfl rfl (SYOps.nil ?_)))
    refine SYCode.seq (SYCode.of hK rfl (SCode.region ?_))
    refine SOps.loadPinA rfl aggB_62_30 (Nat.le_of_ble_eq_true rfl) (SOps.callP (jBase l) rfl ?_)
    rintro _ rfl
    refine SOps.move rfl (SOps.callP (hLg _ hml) rfl ?_)
    rintro _ rfl
    refine SOps.callP (hFF _ hml) rfl ?_
    rintro _ rfl
    refine SOps.assign rfl (SOps.nil ?_)
    show SYCode _ _ _ _ _ _
    refine SYCode.seqR (SYOps.one hK (SOps.move rfl (SOps.nil rfl)) rfl rfl (SYOps.one hK (SOps.lenM rfl sliceB_22_9_1 (SOps.nil rfl)) rfl rfl (SYOps.one hK (SOps.move rfl (SOps.nil rfl)) rfl rfl (SYOps.nil (SYCode.block (SYCode.loop1 (ι := fun j => wrdO fl pg i + j) (hx := by rfl) (fun (j : Nat) => (⟨41, [(0, .v (.func (.yield l9) #[] #[])), (1, .ipin [DStrs pg]), (2, .ipin (encG l)), (5, .v (.string pg[i])), (6, DStrs (fl pg[i])), (9, DStrs pg), (10, .v (.int .i64 ((pg.length : Nat) : Int))), (11, .v (.int .i64 (i : Int))), (20, DStrs (fl pg[i])), (21, .v (.int .i64 (((fl pg[i]).length : Nat) : Int))), (22, .v (.int .i64 (j : Int)))], []⟩ : St)) (fun (j : Nat) => j ≤ (fl pg[i]).length) (fun (j : Nat) => (fl pg[i]).length - j) (0) (by exact Nat.zero_le _) (St.Le.of ⟨(by first | rfl | (show some _ = some _; simp)), (by first | rfl | (show some _ = some _; simp)), (by first | rfl | (show some _ = some _; simp)), (by first | rfl | (show some _ = some _; simp)), (by first | rfl | (show some _ = some _; simp)), (by first | rfl | (show some _ = some _; simp)), (by first | rfl | (show some _ = some _; simp)), (by first | rfl | (show some _ = some _; simp)), (by first | rfl | (show some _ = some _; simp)), (by first | rfl | (show some _ = some _; simp)), (by first | rfl | (show some _ = some _; simp)), trivial⟩ rfl (by first | rfl | (simp))) ?_))))))
    rintro j hj
    refine SYCode.fact (isl_len (t := 20) rfl) (fun hB2 => ?_)
    simp only [List.length_map, lenB] at hB2
    refine SYCode.seqR (SYOps.one hK (SOps.bin rfl rfl rfl (SOps.nil rfl)) rfl rfl (SYOps.nil (SYCode.seq ?_)))
    refine SYCode.cond rfl (fun hc2 => ?_) (fun hc2 => ?_)
    · try simp only [nmL] at hc2
      refine SYCode.skip ?_
      show SYCode _ _ _ _ _ _
      refine SYCode.seq (SYCode.block (SYCode.seqR ?_))
      have hjl : j < (fl pg[i]).length := by omega
      refine SYOps.one hK (SOps.move rfl (SOps.nil rfl)) rfl rfl (SYOps.one hK (SOps.indexM (j) rfl rfl sliceB_22_9_1 (by first | omega | (simp only [lenB]; omega) | (simp only [List.length_map, lenB]; omega) | (simp; done)) (by first | omega | (simp only [lenB]; omega) | (simp only [List.length_map, lenB]; omega) | (simp; done)) (SOps.nil rfl)) rfl rfl (SYOps.one hK (SOps.loadPin rfl flatB_9 (SOps.nil rfl)) rfl rfl (SYOps.one hK (SOps.assign rfl (SOps.nil rfl)) rfl rfl (SYOps.one hK (SOps.assign rfl (SOps.nil rfl)) rfl rfl (SYOps.nil (SYCode.seqR (SYOps.one hK (SOps.move rfl (SOps.nil rfl)) rfl rfl (SYOps.one hK (SOps.move rfl (SOps.nil rfl)) rfl rfl (SYOps.one hK (SOps.move rfl (SOps.nil rfl)) rfl rfl (SYOps.one hK (SOps.bin rfl rfl rfl (SOps.nil rfl)) rfl rfl (SYOps.one hK (SOps.move rfl (SOps.nil rfl)) rfl rfl (SYOps.one hK (SOps.move rfl (SOps.nil rfl)) rfl rfl (SYOps.one hK (SOps.lenM rfl sliceB_22_9_1 (SOps.nil rfl)) rfl rfl (SYOps.one hK (SOps.subI rfl rfl (by first | omega | (simp only [lenB]; omega) | (simp only [List.length_map, lenB]; omega) | (simp; done)) (by first | omega | (simp only [lenB]; omega) | (simp only [List.length_map, lenB]; omega) | (simp; done)) (SOps.nil rfl)) rfl rfl (SYOps.one hK (SOps.bin rfl rfl rfl (SOps.nil rfl)) rfl rfl (SYOps.one hK (SOps.buildArrM arrayB_124_2_4_1 zeroIs_124 rfl rfl (SOps.nil rfl)) rfl rfl (SYOps.yield2 hY rfl rfl rfl (wrdA_get hil rfl hjl) rfl (SYOps.one hK (SOps.un rfl rfl (SOps.nil rfl)) rfl rfl (SYOps.nil ?_)))))))))))))))))))
      refine SYCode.cond rfl (fun h => by cases h) (fun _ => ?_)
      refine SYCode.skip ?_
      show SYCode _ _ _ _ _ _
      refine SYCode.region (SYOps.one hK (SOps.addI rfl rfl (by first | omega | (simp only [lenB]; omega) | (simp only [List.length_map, lenB]; omega) | (simp; done)) (by first | omega | (simp only [lenB]; omega) | (simp only [List.length_map, lenB]; omega) | (simp; done)) (SOps.nil rfl)) rfl rfl (SYOps.one hK (SOps.move rfl (SOps.nil rfl)) rfl rfl (SYOps.nil ?_)))
      exact ⟨j + 1, by omega, by omega, St.Le.of ⟨rfl, rfl, rfl, rfl, rfl, rfl, rfl, rfl, rfl, rfl, rfl, trivial⟩, rfl⟩
    · try simp only [nmL] at hc2
      refine SYCode.exit ?_
      show SYCode _ _ _ _ _ _
      refine SYCode.region (SYOps.one hK (SOps.addI rfl rfl (by first | omega | (simp only [lenB]; omega) | (simp only [List.length_map, lenB]; omega) | (simp; done)) (by first | omega | (simp only [lenB]; omega) | (simp only [List.length_map, lenB]; omega) | (simp; done)) (SOps.nil rfl)) rfl rfl (SYOps.one hK (SOps.move rfl (SOps.nil rfl)) rfl rfl (SYOps.nil ?_)))
      exact ⟨i + 1, by omega, by omega, St.Le.of ⟨rfl, rfl, rfl, rfl, rfl, rfl, trivial⟩, by show wrdO fl pg (i + 1) = wrdO fl pg i + j; rw [wrdO_next hil]; omega⟩
  · try simp only [nmL] at hc1
    refine SYCode.exit ?_
    exact ⟨.inl rfl, by show wrdO fl pg i = _; rw [List.length_map, ← wrdO_all, show i = pg.length by omega]⟩
end Go.GH
namespace Go.GH
open Go Go.RowKit
section
variable {C : Ctx} {m : Bool} {st : St} {Q : Exit → Bool → St → Prop}
theorem SMCode.cond {c : Operand} {x y : Code} {b : Bool} (hc : st.val c = some (.v (.bool b))) (hT : b = true → SMCode C x m st Q) (hF : b = false → SMCode C y m st Q) : SMCode C (.cond c x y) m st Q := by
  intro base ok hd0 a w hs
  refine wp_cond_split (t := b) ?_ (fun e => hT e base ok hd0 a w hs) (fun e => hF e base ok hd0 a w hs)
  cases m with
  | false => obtain ⟨F, hs⟩ := hs; exact (hs.val hc).inv_v.1
  | true =>
    obtain ⟨F, D, hs, _⟩ := hs
    have := (hs.val hc).inv_v.1
    rw [show ({ a with defers := [] } : Act).eval c = a.eval c by cases c <;> rfl] at this
    exact this
theorem SMCode.skip (h : Q .normal m st) : SMCode C .skip m st Q := fun _ _ _ _ _ hs => wp_skip ⟨m, st, h, hs⟩
end
end Go.GH
namespace Go.GH
open Go Go.Proofs
variable {E : Env}
theorem aggB_124_2 : aggB Tryz.prog 124 2 = true := by kernel_rfl
theorem zeroIs_4 : zeroIs Tryz.prog 4 (.bool false) := by unfold zeroIs; kernel_rfl
/-- One word more: it goes on an open word, or stands by itself. -/
def plStep (s : List ByteArray × Bool) (x : ByteArray × Bool × Bool) : List ByteArray × Bool :=
  (if x.2.1 && s.2 then s.1.set (s.1.length - 1) (trimB (s.1.getD (s.1.length - 1) .empty) hy1 ++ x.1) else s.1 ++ [x.1], x.2.2 && sufB x.1 hy1)
def plR (xs : List (ByteArray × Bool × Bool)) (i : Nat) : List ByteArray × Bool := (xs.take i).foldl plStep ([], false)
theorem plR_next {xs : List (ByteArray × Bool × Bool)} {i : Nat} {x : ByteArray × Bool × Bool} (h : xs[i]? = some x) : plR xs (i + 1) = plStep (plR xs i) x := by
  obtain ⟨hi, rfl⟩ := List.getElem?_eq_some_iff.1 h
  unfold plR
  rw [take_next hi, List.foldl_append]
  rfl
theorem trimB_size (s p : ByteArray) : (trimB s p).size ≤ s.size := by
  have : (Lib.trimSuffix s.data.toList p.data.toList).length ≤ s.data.toList.length := by unfold Lib.trimSuffix; split <;> simp
  have e : (trimB s p).size = (Lib.trimSuffix s.data.toList p.data.toList).length := by unfold trimB; simp [ByteArray.size]
  have e2 : s.data.toList.length = s.size := by simp
  omega
theorem plR_inv {xs : List (ByteArray × Bool × Bool)} {M : Nat} (hM : ∀ x ∈ xs, x.1.size ≤ M) : ∀ i, i ≤ xs.length → ((plR xs i).2 = true → (plR xs i).1 ≠ []) ∧ (plR xs i).1.length ≤ i ∧ ∀ w ∈ (plR xs i).1, w.size ≤ i * M
  | 0, _ => ⟨fun h => (Bool.noConfusion h), Nat.le_refl _, fun w h => by cases h⟩
  | i + 1, hi => by
    obtain ⟨h1, h2, h3⟩ := plR_inv hM i (by omega)
    have hx := hM _ (List.getElem_mem (show i < xs.length by omega))
    rw [plR_next (List.getElem?_eq_getElem (show i < xs.length by omega))]
    generalize xs[i] = x at hx
    generalize plR xs i = s at *
    unfold plStep
    rw [Nat.succ_mul]
    cases hc : (x.2.1 && s.2) with
    | true =>
      rw [Bool.and_eq_true] at hc
      have hne := h1 hc.2
      refine ⟨fun _ h => ?_, by simp; omega, fun w hw => ?_⟩
      · have := congrArg List.length h
        simp at this
        exact hne (by cases hs : s.1 with | nil => rfl | cons a b => rw [hs] at this; simp at this)
      · simp only [if_true] at hw
        rcases List.mem_or_eq_of_mem_set hw with h | rfl
        · have := h3 w h; omega
        · have hl : s.1.length - 1 < s.1.length := by cases hs : s.1 with | nil => exact absurd hs hne | cons a b => simp
          have h9 := h3 _ (List.getElem_mem hl)
          have h8 := trimB_size (s.1.getD (s.1.length - 1) .empty) hy1
          rw [show s.1.getD (s.1.length - 1) .empty = s.1[s.1.length - 1] from by rw [List.getD_eq_getElem?_getD, List.getElem?_eq_getElem hl]; rfl] at h8 ⊢
          rw [ByteArray.size_append]
          omega
    | false =>
      refine ⟨fun _ h => ?_, by simp; omega, fun w hw => ?_⟩
      · simp at h
      · simp only [Bool.false_eq_true, if_false] at hw
        rcases List.mem_append.1 hw with h | h
        · have := h3 w h; omega
        · rw [List.mem_singleton.1 h]; omega
theorem plJ {o : List ByteArray} {op b : Bool} {y : ByteArray × Bool × Bool} (h0 : 0 < o.length) (h1 : y.2.1 = true) (h2 : op = true) (h3 : y.2.2 = b) : plStep (o, op) y = (o.set (o.length - 1) (trimB (o[o.length - 1]'(by omega)) hy1 ++ y.1), b && sufB y.1 hy1) := by
  unfold plStep
  rw [h1, h2, h3]
  show (o.set (o.length - 1) (trimB (o.getD (o.length - 1) .empty) hy1 ++ y.1), b && sufB y.1 hy1) = _
  rw [show (o.getD (o.length - 1) .empty) = o[o.length - 1]'(by omega) from by rw [List.getD_eq_getElem?_getD, List.getElem?_eq_getElem (by omega)]; rfl]
theorem plN {o : List ByteArray} {op b : Bool} {y : ByteArray × Bool × Bool} (h1 : y.2.1 = false ∨ op = false) (h3 : y.2.2 = b) : plStep (o, op) y = (o ++ [y.1], b && sufB y.1 hy1) := by
  unfold plStep
  rw [h3, if_neg (by rcases h1 with h | h <;> simp [h])]
/-- The text of a page: vd: the language serves; se: the reader's word on the text. -/
def plainR (vd : Bool) (se : Int) (fl : ByteArray → List ByteArray) (pg : List ByteArray) : ByteArray × Int :=
  if vd = false then (.empty, 1) else if pg.all utf8R = false then (.empty, 3) else if (plR (wrdA fl pg) (wrdA fl pg).length).2 then (.empty, 3) else if se ≠ 0 then (.empty, se) else ((catW (plR (wrdA fl pg) (wrdA fl pg).length).1), 0)
theorem cPlain0 (hV : VS E) (l : Lng) (pg : List ByteArray) (lg : ByteArray → ByteArray) (fl : ByteArray → List ByteArray) (vd : Bool) (se : Int) (M : Nat) (hM : ∀ x ∈ (wrdA fl pg), x.1.size ≤ M) (hX : (wrdA fl pg).length * M ≤ 1048576) (hX2 : (wrdA fl pg).length ≤ 1048576)
  (hLg : ∀ w ∈ pg, GCall Tryz.prog E 28 [.v (.int .i64 (baseR l)), .v (.string w)] [] (fun d H => d = .v (.string (lg w)) ∧ H = [])) (hFF : ∀ w ∈ pg, GCall Tryz.prog E 106 [.v (.string (lg w)), .fn 107 []] [] (fun d H => d = DStrs (fl w) ∧ H = []))
  (h64 : GCall Tryz.prog E 64 [.agg (encG l)] [] (fun d H => d = .v (.bool vd) ∧ H = [])) (h65 : GCall Tryz.prog E 65 [.agg (encG l), .v (.string (catW (plR (wrdA fl pg) (wrdA fl pg).length).1))] [] (fun d H => (∃ d4, d = .tup [d4, .v (.int .i64 se)]) ∧ H = [])) : GCall Tryz.prog E 30 [.agg (encG l), DStrs pg] [] (fun d H => d = .tup [.v (.string (plainR vd se fl pg).1), .v (.int .i64 (plainR vd se fl pg).2)]) := by
 refine GCall.bodyM (C := ⟨Tryz.prog, E, true⟩) Tryz.func30 rfl (fun _ => rfl) (by kernel_rfl) rfl ?_
 refine SMCode.seqRS ?_
 refine SOps.boxAM rfl rfl ?_ (hd := encG_one l)
 refine SOps.assign rfl (SOps.assign rfl (SOps.nil (SMCode.seqS (SCode.seqR (SOps.loadPinA rfl aggB_62_30 (Nat.le_of_ble_eq_true rfl) (SOps.callP h64 rfl ?_))))))
 rintro _ rfl
 refine SOps.un rfl rfl (SOps.nil ?_)
 refine SCode.cond rfl (fun hc1 => ?_) (fun hc1 => ?_)
 ·try simp only [nmL] at hc1
  refine SCode.seqR (SOps.assign rfl (SOps.assign rfl (SOps.nil (SCode.ret ?_))))
  exact ⟨_, Res.two (.tmp rfl) (.tmp rfl), congrArg (fun p : ByteArray × Int => DV.tup [.v (.string p.1), .v (.int .i64 p.2)]) (show (.empty, 1) = plainR vd se fl pg from Eq.symm (by unfold plainR; rw [if_pos (by simp_all)]))⟩
 ·try simp only [nmL] at hc1
  refine SCode.skip ?_
  show SMCode _ _ _ _ _
  refine SMCode.seqS (SCode.seqR (SOps.move rfl (SOps.lenM rfl sliceB_22_9_1 (SOps.move rfl (SOps.nil (SCode.block (SCode.loop1 (fun (i : Nat) => (⟨75, [(1, DStrs pg), (2, .ipin (encG l)), (19, DStrs pg), (20, .v (.int .i64 ((pg.length : Nat) : Int))), (21, .v (.int .i64 (i : Int)))], []⟩ : St)) (fun (i : Nat) => i ≤ pg.length ∧ ∀ w ∈ pg.take i, utf8R w = true) (fun (i : Nat) => pg.length - i) (0) (by exact ⟨Nat.zero_le _, fun w h => by cases h⟩) (St.Le.of ⟨(by first | rfl | (show some _ = some _; simp)), (by first | rfl | (show some _ = some _; simp)), (by first | rfl | (show some _ = some _; simp)), (by first | rfl | (show some _ = some _; simp)), (by first | rfl | (show some _ = some _; simp)), trivial⟩ rfl (by first | rfl | (simp))) ?_)))))))
  rintro i ⟨hi, hu⟩
  refine SCode.fact (isl_len (t := 19) rfl) (fun hB => ?_)
  simp only [List.length_map, lenB] at hB
  refine SCode.seqR (SOps.bin rfl rfl rfl (SOps.nil (SCode.seq ?_)))
  refine SCode.cond rfl (fun hc2 => ?_) (fun hc2 => ?_)
  ·try simp only [nmL] at hc2
   refine SCode.skip ?_
   show SCode _ _ _ _
   refine SCode.seq (SCode.block (SCode.seqR ?_))
   have hil : i < pg.length := by omega
   refine SOps.indexM (i) rfl rfl sliceB_22_9_1 (by first | omega | (simp only [lenB]; omega) | (simp only [List.length_map, lenB]; omega) | (simp; done)) (by first | omega | (simp only [lenB]; omega) | (simp only [List.length_map, lenB]; omega) | (simp; done)) (SOps.loadPin rfl flatB_9 (SOps.assign rfl (SOps.nil (SCode.seqR (SOps.move rfl (SOps.callP (hV _) rfl ?_))))))
   rintro _ rfl
   refine SOps.un rfl rfl (SOps.nil ?_)
   refine SCode.cond rfl (fun hc3 => ?_) (fun hc3 => ?_)
   ·try simp only [nmL] at hc3
    refine SCode.seqR (SOps.assign rfl (SOps.assign rfl (SOps.nil (SCode.ret ?_))))
    exact ⟨_, Res.two (.tmp rfl) (.tmp rfl), congrArg (fun p : ByteArray × Int => DV.tup [.v (.string p.1), .v (.int .i64 p.2)]) (show (.empty, 3) = plainR vd se fl pg from Eq.symm (by unfold plainR; rw [if_neg (by simp_all), if_pos (by rw [Bool.eq_false_iff]; intro h9; have h8 := List.all_eq_true.1 h9 _ (List.getElem_mem hil); simp_all)]))⟩
   ·try simp only [nmL] at hc3
    refine SCode.skip ?_
    show SCode _ _ _ _
    refine SCode.region (SOps.addI rfl rfl (by first | omega | (simp only [lenB]; omega) | (simp only [List.length_map, lenB]; omega) | (simp; done)) (by first | omega | (simp only [lenB]; omega) | (simp only [List.length_map, lenB]; omega) | (simp; done)) (SOps.move rfl (SOps.nil ?_)))
    exact ⟨i + 1, ⟨by omega, fun w h => by rw [take_next hil] at h; rcases List.mem_append.1 h with h | h; exact hu w h; rw [List.mem_singleton.1 h]; simp_all⟩, by omega, St.Le.of ⟨rfl, rfl, rfl, rfl, rfl, trivial⟩⟩
  ·try simp only [nmL] at hc2
   refine SCode.exit ?_
   show SMCode _ _ _ _ _
   refine SMCode.seqRS ?_
   refine SOps.alloc (sz := 1) zeroIs_22 (fun b0 hb_0 => ?_)
   refine SOps.nil (SMCode.seqRS ?_)
   refine SOps.alloc (sz := 1) zeroIs_4 (fun b1 hb_1 => ?_)
   refine SOps.storeM 0 rfl rfl oneB_4 rfl (SOps.nil (SMCode.seq (SMCode.seqRS (SOps.loadPinA rfl aggB_62_30 (Nat.le_of_ble_eq_true rfl) (SOps.move rfl (SOps.callP (cWords _ _) rfl ?_))))))
   rintro _ rfl
   refine SOps.nil (SMCode.block ?_)
   have hua : pg.all utf8R = true := List.all_eq_true.2 (fun w hw => hu w (by rw [List.take_of_length_le (by omega)]; exact hw))
   clear hu
   refine SMCode.weaken (st' := (⟨75, [(2, .ipin (encG l)), (8, .ref b0 0), (9, .ref b1 0), (31, .fn 105 [.ipin [DStrs pg], .ipin (encG l)])], ([(b1, .row 4 1 [[.v (.bool (plR (wrdA fl pg) 0).2)]]), (b0, .row 22 1 [[accD 1 0 ((plR (wrdA fl pg) 0).1.map encS)]])] ++ (accH 9 1 0 ((plR (wrdA fl pg) 0).1.map encS) ++ []))⟩ : St)) (St.Le.of ⟨rfl, rfl, rfl, rfl, trivial⟩ rfl rfl) ?_
   refine SMCode.range2 rfl (iWords l pg lg fl hLg hFF) (fun i H => ∃ k, List.Sublist ([(b1, .row 4 1 [[.v (.bool (plR (wrdA fl pg) i).2)]]), (b0, .row 22 1 [[accD 1 k ((plR (wrdA fl pg) i).1.map encS)]])] ++ (accH 9 1 k ((plR (wrdA fl pg) i).1.map encS) ++ [])) H) ⟨0, List.Sublist.refl _⟩ rfl rfl (fun i x l9 H hx hI => ?_) (fun H hI => ?_)
   ·obtain ⟨k, hsub⟩ := hI
    obtain ⟨y, hy, rfl⟩ : ∃ y, (wrdA fl pg)[i]? = some y ∧ wrdD y = x := by rw [List.getElem?_map] at hx; exact Option.map_eq_some_iff.1 hx
    have hil : i < (wrdA fl pg).length := (List.getElem?_eq_some_iff.1 hy).1
    have hnx := plR_next hy
    obtain ⟨hop, hol, how⟩ := plR_inv hM i (by omega)
    have hyM := hM y (List.mem_of_getElem? hy)
    have hiM : i * M ≤ 1048576 := Nat.le_trans (Nat.mul_le_mul_right _ (by omega)) hX
    have hMl : M ≤ 1048576 := Nat.le_trans (Nat.le_mul_of_pos_left M (show 0 < (wrdA fl pg).length by omega)) hX
    generalize hs9 : plR (wrdA fl pg) i = s9 at hsub hnx hop hol how
    obtain ⟨o, op⟩ := s9
    dsimp only at hsub hop hol how
    refine SRound.weaken (st' := (⟨75, [(2, .ipin (encG l)), (8, .ref b0 0), (9, .ref b1 0), (32, .v (.string y.1)), (33, .agg [.v (.bool y.2.1), .v (.bool y.2.2)])], ([(b1, .row 4 1 [[.v (.bool op)]]), (b0, .row 22 1 [[accD 1 k (o.map encS)]])] ++ (accH 9 1 k (o.map encS) ++ []))⟩ : St)) (St.Le.ofSub ⟨rfl, rfl, rfl, rfl, rfl, trivial⟩ hsub) (SRound.seqR (SOps.assign rfl (SOps.nil (SRound.region ?_))))
    refine SOps.alloc (sz := 2) zeroIs_124 (fun b2 hb_2 => ?_)
    refine SOps.storeAM 0 rfl rfl aggB_124_2 rfl (SOps.nil ?_)
    refine ⟨rfl, ?_⟩
    refine SRound.block (SRound.seq (SRound.seqR (SOps.loadRef 1 0 0 rfl flatB_4 rfl rfl rfl rfl (SOps.move rfl ?_))))
    refine SOps.caseB 35 rfl (fun hb4 => ?_) (fun hb4 => ?_)
    ·try simp only [nmL] at hb4
     refine SOps.indexRefA 0 rfl rfl arrayB_124_2_4_1 rfl (by omega) (SOps.loadRef 0 0 0 rfl flatB_4 rfl rfl rfl rfl (SOps.pick rfl rfl (SOps.nil ?_)))
     refine SRound.cond rfl (fun hc5 => ?_) (fun hc5 => ?_)
     ·try simp only [nmL] at hc5
      refine SRound.seqR ?_
      have hne : o ≠ [] := hop (by simp_all)
      have hol2 : 0 < o.length := List.length_pos_iff.2 hne
      have hon : 0 < (o.map encS).length := by rw [List.length_map]; exact hol2
      refine SOps.reHeap (H' := [(b2, .row 124 2 [[.v (.bool y.2.1), .v (.bool y.2.2)]]), (b1, .row 4 1 [[.v (.bool op)]]), (b0, .row 22 1 [[.sl k 1 0 o.length]]), (k, .row 9 1 (o.map encS))]) (by rw [accD_ne hon, accH_ne hon, List.length_map]; rfl) (SOps.loadRef 2 0 0 rfl flatB_22 rfl rfl rfl rfl (SOps.loadRef 2 0 0 rfl flatB_22 rfl rfl rfl rfl (SOps.lenSl rfl sliceB_22_9_1 (SOps.subI rfl rfl (by first | omega | (simp only [lenB]; omega) | (simp only [List.length_map, lenB]; omega) | (simp; done)) (by first | omega | (simp only [lenB]; omega) | (simp only [List.length_map, lenB]; omega) | (simp; done)) (SOps.indexS (o.length - 1) rfl rfl sliceB_22_9_1 (by omega) (by omega) (SOps.assign rfl (SOps.nil (SRound.region (SOps.move rfl (SOps.move rfl (SOps.nilCheck rfl rfl (SOps.loadK 3 (o.length - 1) rfl flatB_9 rfl (by omega) (by omega) rfl (SOps.callP (sTrimSuffix _ _) rfl ?_)))))))))))))
      rintro _ rfl
      refine SOps.move rfl (SOps.concat rfl rfl (by first | omega | (have h8 := trimB_size (o[o.length - 1]) ⟨#[45]⟩; have h7 := how _ (List.getElem_mem (show o.length - 1 < o.length by omega)); show _ + _ ≤ _; simp only [lenB]; omega)) (SOps.nilCheck rfl rfl (SOps.storeK 3 (o.length - 1) rfl rfl oneB_9 rfl (by omega) (by omega) rfl (fun _ => rfl) (SOps.nil ?_))))
      show SRound _ _ _ _ _
      refine SRound.region (SOps.indexRefA 1 rfl rfl arrayB_124_2_4_1 rfl (by omega) (SOps.loadRef 0 0 1 rfl flatB_4 rfl rfl rfl rfl (SOps.move rfl ?_)))
      refine SOps.caseB 58 rfl (fun hb6 => ?_) (fun hb6 => ?_)
      ·try simp only [nmL] at hb6
       refine SOps.move rfl (SOps.callP (sHasSuffix _ _) rfl ?_)
       rintro _ rfl
       refine SOps.pick rfl rfl (SOps.storeM 1 rfl rfl oneB_4 rfl (SOps.nil ?_))
       first
        | exact ⟨rfl, k, by rw [hnx, plJ hol2 (by assumption) (by assumption) (by assumption)]; dsimp only; rw [accD_ne (by simp; omega), accH_ne (by simp; omega)]; simp only [List.length_map, List.length_set]; exact .cons _ (.refl _)⟩
        | exact ⟨rfl, b3, by rw [hnx, plN (by first | exact .inl (by assumption) | exact .inr (by assumption)) (by assumption)]; dsimp only; rw [List.map_append]; exact .cons _ (.refl _)⟩
        | exact ⟨rfl, b4, by rw [hnx, plN (by first | exact .inl (by assumption) | exact .inr (by assumption)) (by assumption)]; dsimp only; rw [List.map_append]; exact .cons _ (.refl _)⟩
        | exact ⟨rfl, b5, by rw [hnx, plN (by first | exact .inl (by assumption) | exact .inr (by assumption)) (by assumption)]; dsimp only; rw [List.map_append]; exact .cons _ (.refl _)⟩
        | exact ⟨rfl, b6, by rw [hnx, plN (by first | exact .inl (by assumption) | exact .inr (by assumption)) (by assumption)]; dsimp only; rw [List.map_append]; exact .cons _ (.refl _)⟩
        | exact ⟨rfl, b7, by rw [hnx, plN (by first | exact .inl (by assumption) | exact .inr (by assumption)) (by assumption)]; dsimp only; rw [List.map_append]; exact .cons _ (.refl _)⟩
        | exact ⟨rfl, b8, by rw [hnx, plN (by first | exact .inl (by assumption) | exact .inr (by assumption)) (by assumption)]; dsimp only; rw [List.map_append]; exact .cons _ (.refl _)⟩
        | exact ⟨rfl, b9, by rw [hnx, plN (by first | exact .inl (by assumption) | exact .inr (by assumption)) (by assumption)]; dsimp only; rw [List.map_append]; exact .cons _ (.refl _)⟩
        | exact ⟨rfl, b10, by rw [hnx, plN (by first | exact .inl (by assumption) | exact .inr (by assumption)) (by assumption)]; dsimp only; rw [List.map_append]; exact .cons _ (.refl _)⟩
        | exact ⟨rfl, b11, by rw [hnx, plN (by first | exact .inl (by assumption) | exact .inr (by assumption)) (by assumption)]; dsimp only; rw [List.map_append]; exact .cons _ (.refl _)⟩
      ·try simp only [nmL] at hb6
       refine SOps.skip rfl (SOps.skip rfl (SOps.pick rfl rfl (SOps.storeM 1 rfl rfl oneB_4 rfl (SOps.nil ?_))))
       first
        | exact ⟨rfl, k, by rw [hnx, plJ hol2 (by assumption) (by assumption) (by assumption)]; dsimp only; rw [accD_ne (by simp; omega), accH_ne (by simp; omega)]; simp only [List.length_map, List.length_set]; exact .cons _ (.refl _)⟩
        | exact ⟨rfl, b3, by rw [hnx, plN (by first | exact .inl (by assumption) | exact .inr (by assumption)) (by assumption)]; dsimp only; rw [List.map_append]; exact .cons _ (.refl _)⟩
        | exact ⟨rfl, b4, by rw [hnx, plN (by first | exact .inl (by assumption) | exact .inr (by assumption)) (by assumption)]; dsimp only; rw [List.map_append]; exact .cons _ (.refl _)⟩
        | exact ⟨rfl, b5, by rw [hnx, plN (by first | exact .inl (by assumption) | exact .inr (by assumption)) (by assumption)]; dsimp only; rw [List.map_append]; exact .cons _ (.refl _)⟩
        | exact ⟨rfl, b6, by rw [hnx, plN (by first | exact .inl (by assumption) | exact .inr (by assumption)) (by assumption)]; dsimp only; rw [List.map_append]; exact .cons _ (.refl _)⟩
        | exact ⟨rfl, b7, by rw [hnx, plN (by first | exact .inl (by assumption) | exact .inr (by assumption)) (by assumption)]; dsimp only; rw [List.map_append]; exact .cons _ (.refl _)⟩
        | exact ⟨rfl, b8, by rw [hnx, plN (by first | exact .inl (by assumption) | exact .inr (by assumption)) (by assumption)]; dsimp only; rw [List.map_append]; exact .cons _ (.refl _)⟩
        | exact ⟨rfl, b9, by rw [hnx, plN (by first | exact .inl (by assumption) | exact .inr (by assumption)) (by assumption)]; dsimp only; rw [List.map_append]; exact .cons _ (.refl _)⟩
        | exact ⟨rfl, b10, by rw [hnx, plN (by first | exact .inl (by assumption) | exact .inr (by assumption)) (by assumption)]; dsimp only; rw [List.map_append]; exact .cons _ (.refl _)⟩
        | exact ⟨rfl, b11, by rw [hnx, plN (by first | exact .inl (by assumption) | exact .inr (by assumption)) (by assumption)]; dsimp only; rw [List.map_append]; exact .cons _ (.refl _)⟩
     ·try simp only [nmL] at hc5
      refine SRound.region (SOps.loadRef 2 0 0 rfl flatB_22 rfl rfl rfl rfl (SOps.move rfl (SOps.frame1 (SOps.litF rfl sliceB_22_9_1 zeroIs_9 rfl (SOps.nil rfl)) ?_)))
      refine SOps.appendAcc [_, _, _] _ sliceB_22_9_1 elemB_9_1_16 rfl rfl rfl SrcD.isl (by simp) (by first | (simp [lenB] <;> (first | omega | (simp only [lenB]; omega) | (simp only [List.length_map, lenB]; omega) | (simp; done))) | (simp only [lenB]; (first | omega | (simp only [lenB]; omega) | (simp only [List.length_map, lenB]; omega) | (simp; done)))) (by first | (simp <;> (first | omega | (simp only [lenB]; omega) | (simp only [List.length_map, lenB]; omega) | (simp; done))) | (first | omega | (simp only [lenB]; omega) | (simp only [List.length_map, lenB]; omega) | (simp; done))) (fun b3 => ?_)
      refine SOps.storeM 2 rfl rfl oneB_22 rfl ?_ (accD_one _ _ _)
      refine SOps.nil ?_
      show SRound _ _ _ _ _
      refine SRound.region (SOps.indexRefA 1 rfl rfl arrayB_124_2_4_1 rfl (by omega) (SOps.loadRef 0 0 1 rfl flatB_4 rfl rfl rfl rfl (SOps.move rfl ?_)))
      refine SOps.caseB 58 rfl (fun hb7 => ?_) (fun hb7 => ?_)
      ·try simp only [nmL] at hb7
       refine SOps.move rfl (SOps.callP (sHasSuffix _ _) rfl ?_)
       rintro _ rfl
       refine SOps.pick rfl rfl (SOps.storeM 1 rfl rfl oneB_4 rfl (SOps.nil ?_))
       first
        | exact ⟨rfl, k, by rw [hnx, plJ hol2 (by assumption) (by assumption) (by assumption)]; dsimp only; rw [accD_ne (by simp; omega), accH_ne (by simp; omega)]; simp only [List.length_map, List.length_set]; exact .cons _ (.refl _)⟩
        | exact ⟨rfl, b3, by rw [hnx, plN (by first | exact .inl (by assumption) | exact .inr (by assumption)) (by assumption)]; dsimp only; rw [List.map_append]; exact .cons _ (.refl _)⟩
        | exact ⟨rfl, b4, by rw [hnx, plN (by first | exact .inl (by assumption) | exact .inr (by assumption)) (by assumption)]; dsimp only; rw [List.map_append]; exact .cons _ (.refl _)⟩
        | exact ⟨rfl, b5, by rw [hnx, plN (by first | exact .inl (by assumption) | exact .inr (by assumption)) (by assumption)]; dsimp only; rw [List.map_append]; exact .cons _ (.refl _)⟩
        | exact ⟨rfl, b6, by rw [hnx, plN (by first | exact .inl (by assumption) | exact .inr (by assumption)) (by assumption)]; dsimp only; rw [List.map_append]; exact .cons _ (.refl _)⟩
        | exact ⟨rfl, b7, by rw [hnx, plN (by first | exact .inl (by assumption) | exact .inr (by assumption)) (by assumption)]; dsimp only; rw [List.map_append]; exact .cons _ (.refl _)⟩
        | exact ⟨rfl, b8, by rw [hnx, plN (by first | exact .inl (by assumption) | exact .inr (by assumption)) (by assumption)]; dsimp only; rw [List.map_append]; exact .cons _ (.refl _)⟩
        | exact ⟨rfl, b9, by rw [hnx, plN (by first | exact .inl (by assumption) | exact .inr (by assumption)) (by assumption)]; dsimp only; rw [List.map_append]; exact .cons _ (.refl _)⟩
        | exact ⟨rfl, b10, by rw [hnx, plN (by first | exact .inl (by assumption) | exact .inr (by assumption)) (by assumption)]; dsimp only; rw [List.map_append]; exact .cons _ (.refl _)⟩
        | exact ⟨rfl, b11, by rw [hnx, plN (by first | exact .inl (by assumption) | exact .inr (by assumption)) (by assumption)]; dsimp only; rw [List.map_append]; exact .cons _ (.refl _)⟩
      ·try simp only [nmL] at hb7
       refine SOps.skip rfl (SOps.skip rfl (SOps.pick rfl rfl (SOps.storeM 1 rfl rfl oneB_4 rfl (SOps.nil ?_))))
       first
        | exact ⟨rfl, k, by rw [hnx, plJ hol2 (by assumption) (by assumption) (by assumption)]; dsimp only; rw [accD_ne (by simp; omega), accH_ne (by simp; omega)]; simp only [List.length_map, List.length_set]; exact .cons _ (.refl _)⟩
        | exact ⟨rfl, b3, by rw [hnx, plN (by first | exact .inl (by assumption) | exact .inr (by assumption)) (by assumption)]; dsimp only; rw [List.map_append]; exact .cons _ (.refl _)⟩
        | exact ⟨rfl, b4, by rw [hnx, plN (by first | exact .inl (by assumption) | exact .inr (by assumption)) (by assumption)]; dsimp only; rw [List.map_append]; exact .cons _ (.refl _)⟩
        | exact ⟨rfl, b5, by rw [hnx, plN (by first | exact .inl (by assumption) | exact .inr (by assumption)) (by assumption)]; dsimp only; rw [List.map_append]; exact .cons _ (.refl _)⟩
        | exact ⟨rfl, b6, by rw [hnx, plN (by first | exact .inl (by assumption) | exact .inr (by assumption)) (by assumption)]; dsimp only; rw [List.map_append]; exact .cons _ (.refl _)⟩
        | exact ⟨rfl, b7, by rw [hnx, plN (by first | exact .inl (by assumption) | exact .inr (by assumption)) (by assumption)]; dsimp only; rw [List.map_append]; exact .cons _ (.refl _)⟩
        | exact ⟨rfl, b8, by rw [hnx, plN (by first | exact .inl (by assumption) | exact .inr (by assumption)) (by assumption)]; dsimp only; rw [List.map_append]; exact .cons _ (.refl _)⟩
        | exact ⟨rfl, b9, by rw [hnx, plN (by first | exact .inl (by assumption) | exact .inr (by assumption)) (by assumption)]; dsimp only; rw [List.map_append]; exact .cons _ (.refl _)⟩
        | exact ⟨rfl, b10, by rw [hnx, plN (by first | exact .inl (by assumption) | exact .inr (by assumption)) (by assumption)]; dsimp only; rw [List.map_append]; exact .cons _ (.refl _)⟩
        | exact ⟨rfl, b11, by rw [hnx, plN (by first | exact .inl (by assumption) | exact .inr (by assumption)) (by assumption)]; dsimp only; rw [List.map_append]; exact .cons _ (.refl _)⟩
    ·try simp only [nmL] at hb4
     refine SOps.skip rfl (SOps.skip rfl (SOps.pick rfl rfl (SOps.nil ?_)))
     refine SRound.cond rfl (fun h => by cases h) (fun _ => ?_)
     refine SRound.region (SOps.loadRef 2 0 0 rfl flatB_22 rfl rfl rfl rfl (SOps.move rfl (SOps.frame1 (SOps.litF rfl sliceB_22_9_1 zeroIs_9 rfl (SOps.nil rfl)) ?_)))
     refine SOps.appendAcc [_, _, _] _ sliceB_22_9_1 elemB_9_1_16 rfl rfl rfl SrcD.isl (by simp) (by first | (simp [lenB] <;> (first | omega | (simp only [lenB]; omega) | (simp only [List.length_map, lenB]; omega) | (simp; done))) | (simp only [lenB]; (first | omega | (simp only [lenB]; omega) | (simp only [List.length_map, lenB]; omega) | (simp; done)))) (by first | (simp <;> (first | omega | (simp only [lenB]; omega) | (simp only [List.length_map, lenB]; omega) | (simp; done))) | (first | omega | (simp only [lenB]; omega) | (simp only [List.length_map, lenB]; omega) | (simp; done))) (fun b4 => ?_)
     refine SOps.storeM 2 rfl rfl oneB_22 rfl ?_ (accD_one _ _ _)
     refine SOps.nil ?_
     show SRound _ _ _ _ _
     refine SRound.region (SOps.indexRefA 1 rfl rfl arrayB_124_2_4_1 rfl (by omega) (SOps.loadRef 0 0 1 rfl flatB_4 rfl rfl rfl rfl (SOps.move rfl ?_)))
     refine SOps.caseB 58 rfl (fun hb8 => ?_) (fun hb8 => ?_)
     ·try simp only [nmL] at hb8
      refine SOps.move rfl (SOps.callP (sHasSuffix _ _) rfl ?_)
      rintro _ rfl
      refine SOps.pick rfl rfl (SOps.storeM 1 rfl rfl oneB_4 rfl (SOps.nil ?_))
      first
       | exact ⟨rfl, k, by rw [hnx, plJ hol2 (by assumption) (by assumption) (by assumption)]; dsimp only; rw [accD_ne (by simp; omega), accH_ne (by simp; omega)]; simp only [List.length_map, List.length_set]; exact .cons _ (.refl _)⟩
       | exact ⟨rfl, b3, by rw [hnx, plN (by first | exact .inl (by assumption) | exact .inr (by assumption)) (by assumption)]; dsimp only; rw [List.map_append]; exact .cons _ (.refl _)⟩
       | exact ⟨rfl, b4, by rw [hnx, plN (by first | exact .inl (by assumption) | exact .inr (by assumption)) (by assumption)]; dsimp only; rw [List.map_append]; exact .cons _ (.refl _)⟩
       | exact ⟨rfl, b5, by rw [hnx, plN (by first | exact .inl (by assumption) | exact .inr (by assumption)) (by assumption)]; dsimp only; rw [List.map_append]; exact .cons _ (.refl _)⟩
       | exact ⟨rfl, b6, by rw [hnx, plN (by first | exact .inl (by assumption) | exact .inr (by assumption)) (by assumption)]; dsimp only; rw [List.map_append]; exact .cons _ (.refl _)⟩
       | exact ⟨rfl, b7, by rw [hnx, plN (by first | exact .inl (by assumption) | exact .inr (by assumption)) (by assumption)]; dsimp only; rw [List.map_append]; exact .cons _ (.refl _)⟩
       | exact ⟨rfl, b8, by rw [hnx, plN (by first | exact .inl (by assumption) | exact .inr (by assumption)) (by assumption)]; dsimp only; rw [List.map_append]; exact .cons _ (.refl _)⟩
       | exact ⟨rfl, b9, by rw [hnx, plN (by first | exact .inl (by assumption) | exact .inr (by assumption)) (by assumption)]; dsimp only; rw [List.map_append]; exact .cons _ (.refl _)⟩
       | exact ⟨rfl, b10, by rw [hnx, plN (by first | exact .inl (by assumption) | exact .inr (by assumption)) (by assumption)]; dsimp only; rw [List.map_append]; exact .cons _ (.refl _)⟩
       | exact ⟨rfl, b11, by rw [hnx, plN (by first | exact .inl (by assumption) | exact .inr (by assumption)) (by assumption)]; dsimp only; rw [List.map_append]; exact .cons _ (.refl _)⟩
     ·try simp only [nmL] at hb8
      refine SOps.skip rfl (SOps.skip rfl (SOps.pick rfl rfl (SOps.storeM 1 rfl rfl oneB_4 rfl (SOps.nil ?_))))
      first
       | exact ⟨rfl, k, by rw [hnx, plJ hol2 (by assumption) (by assumption) (by assumption)]; dsimp only; rw [accD_ne (by simp; omega), accH_ne (by simp; omega)]; simp only [List.length_map, List.length_set]; exact .cons _ (.refl _)⟩
       | exact ⟨rfl, b3, by rw [hnx, plN (by first | exact .inl (by assumption) | exact .inr (by assumption)) (by assumption)]; dsimp only; rw [List.map_append]; exact .cons _ (.refl _)⟩
       | exact ⟨rfl, b4, by rw [hnx, plN (by first | exact .inl (by assumption) | exact .inr (by assumption)) (by assumption)]; dsimp only; rw [List.map_append]; exact .cons _ (.refl _)⟩
       | exact ⟨rfl, b5, by rw [hnx, plN (by first | exact .inl (by assumption) | exact .inr (by assumption)) (by assumption)]; dsimp only; rw [List.map_append]; exact .cons _ (.refl _)⟩
       | exact ⟨rfl, b6, by rw [hnx, plN (by first | exact .inl (by assumption) | exact .inr (by assumption)) (by assumption)]; dsimp only; rw [List.map_append]; exact .cons _ (.refl _)⟩
       | exact ⟨rfl, b7, by rw [hnx, plN (by first | exact .inl (by assumption) | exact .inr (by assumption)) (by assumption)]; dsimp only; rw [List.map_append]; exact .cons _ (.refl _)⟩
       | exact ⟨rfl, b8, by rw [hnx, plN (by first | exact .inl (by assumption) | exact .inr (by assumption)) (by assumption)]; dsimp only; rw [List.map_append]; exact .cons _ (.refl _)⟩
       | exact ⟨rfl, b9, by rw [hnx, plN (by first | exact .inl (by assumption) | exact .inr (by assumption)) (by assumption)]; dsimp only; rw [List.map_append]; exact .cons _ (.refl _)⟩
       | exact ⟨rfl, b10, by rw [hnx, plN (by first | exact .inl (by assumption) | exact .inr (by assumption)) (by assumption)]; dsimp only; rw [List.map_append]; exact .cons _ (.refl _)⟩
       | exact ⟨rfl, b11, by rw [hnx, plN (by first | exact .inl (by assumption) | exact .inr (by assumption)) (by assumption)]; dsimp only; rw [List.map_append]; exact .cons _ (.refl _)⟩
   ·obtain ⟨k, hsub⟩ := hI
    rw [List.length_map] at hsub
    obtain ⟨-, hol, how⟩ := plR_inv hM (wrdA fl pg).length (Nat.le_refl _)
    show SMCode _ _ _ _ _
    refine SMCode.weaken (st' := (⟨75, [(2, .ipin (encG l)), (8, .ref b0 0), (9, .ref b1 0)], ([(b1, .row 4 1 [[.v (.bool (plR (wrdA fl pg) (wrdA fl pg).length).2)]]), (b0, .row 22 1 [[accD 1 k ((plR (wrdA fl pg) (wrdA fl pg).length).1.map encS)]])] ++ (accH 9 1 k ((plR (wrdA fl pg) (wrdA fl pg).length).1.map encS) ++ []))⟩ : St)) (St.Le.ofSub ⟨rfl, rfl, rfl, trivial⟩ hsub) (SMCode.seq (SMCode.seqR (SOps.loadRef 0 0 0 rfl flatB_4 rfl rfl rfl rfl (SOps.nil ?_))))
    refine SMCode.cond rfl (fun hc9 => ?_) (fun hc9 => ?_)
    ·try simp only [nmL] at hc9
     refine SMCode.seqR (SOps.assign rfl (SOps.assign rfl (SOps.nil (SMCode.ret ?_))))
     exact ⟨_, Res.two (.tmp rfl) (.tmp rfl), congrArg (fun p : ByteArray × Int => DV.tup [.v (.string p.1), .v (.int .i64 p.2)]) (show (.empty, 3) = plainR vd se fl pg from Eq.symm (by unfold plainR; rw [if_neg (by simp_all), if_neg (by rw [hua]; simp), if_pos (by assumption)]))⟩
    ·try simp only [nmL] at hc9
     refine SMCode.skip ?_
     show SMCode _ _ _ _ _
     refine SMCode.seqR (SOps.loadRef 1 0 0 rfl flatB_22 rfl rfl rfl rfl ?_)
     refine SOps.callH [_, _] _ _ (GCall.thawAcc (sJoin _ (by omega) (fun w h => Nat.le_trans (how w h) hX))) rfl rfl (fun d H hR => ?_)
     obtain ⟨rfl, rfl⟩ := hR
     refine SOps.assign rfl (SOps.nil (SMCode.seq (SMCode.seqR (SOps.loadPinA rfl aggB_62_30 (Nat.le_of_ble_eq_true rfl) (SOps.move rfl (SOps.callP h65 rfl ?_))))))
     rintro _ ⟨d4, rfl⟩
     refine SOps.move rfl (SOps.extract rfl rfl (SOps.extract rfl rfl (SOps.assign rfl (SOps.assign rfl (SOps.nil (SMCode.seqR (SOps.move rfl (SOps.bin rfl rfl rfl (SOps.nil ?_)))))))))
     refine SMCode.cond rfl (fun hc10 => ?_) (fun hc10 => ?_)
     ·try simp only [nmL] at hc10
      refine SMCode.seqR (SOps.move rfl (SOps.assign rfl (SOps.assign rfl (SOps.nil (SMCode.ret ?_)))))
      exact ⟨_, Res.two (.tmp rfl) (.tmp rfl), congrArg (fun p : ByteArray × Int => DV.tup [.v (.string p.1), .v (.int .i64 p.2)]) (show (.empty, se) = plainR vd se fl pg from Eq.symm (by unfold plainR; rw [if_neg (by simp_all), if_neg (by rw [hua]; simp), if_neg (by simp_all), if_pos (by simp_all)]))⟩
     ·try simp only [nmL] at hc10
      refine SMCode.skip ?_
      show SMCode _ _ _ _ _
      refine SMCode.seqR (SOps.move rfl (SOps.assign rfl (SOps.assign rfl (SOps.nil (SMCode.ret ?_)))))
      exact ⟨_, Res.two (.tmp rfl) (.tmp rfl), congrArg (fun p : ByteArray × Int => DV.tup [.v (.string p.1), .v (.int .i64 p.2)]) (show ((catW (plR (wrdA fl pg) (wrdA fl pg).length).1), 0) = plainR vd se fl pg from Eq.symm (by unfold plainR; rw [if_neg (by simp_all), if_neg (by rw [hua]; simp), if_neg (by simp_all), if_neg (by simp_all)]))⟩
theorem cPlain (hV : VS E) (l : Lng) (pg : List ByteArray) (lg : ByteArray → ByteArray) (fl : ByteArray → List ByteArray) (vd : Bool) (se : Int) (M : Nat) (hM : ∀ x ∈ (wrdA fl pg), x.1.size ≤ M) (hX : (wrdA fl pg).length * M ≤ 1048576) (hX2 : (wrdA fl pg).length ≤ 1048576)
    (hLg : ∀ w ∈ pg, GCall Tryz.prog E 28 [.v (.int .i64 (baseR l)), .v (.string w)] [] (fun d H => d = .v (.string (lg w)) ∧ H = [])) (hFF : ∀ w ∈ pg, GCall Tryz.prog E 106 [.v (.string (lg w)), .fn 107 []] [] (fun d H => d = DStrs (fl w) ∧ H = []))
    (h64 : GCall Tryz.prog E 64 [.agg (encG l)] [] (fun d H => d = .v (.bool vd) ∧ H = [])) (h65 : GCall Tryz.prog E 65 [.agg (encG l), .v (.string (catW (plR (wrdA fl pg) (wrdA fl pg).length).1))] [] (fun d H => (∃ d4, d = .tup [d4, .v (.int .i64 se)]) ∧ H = [])) : GCall Tryz.prog E 30 [.agg (encG l), DStrs pg] [] (fun d H => d = .tup [.v (.string (plainR vd se fl pg).1), .v (.int .i64 (plainR vd se fl pg).2)] ∧ H = []) :=
  GCall.clean (cPlain0 hV l pg lg fl vd se M hM hX hX2 hLg hFF h64 h65) (fun d H h => ⟨d, fun _ _ _ h => h, h⟩)
end Go.GH
namespace Go.GH
open Go Go.Lib Go.Proofs Go.RowKit
variable {E : Env}
def blkP (r : Nat) : Bool := decide ((r : Int) = 32)
def fldR (s : ByteArray) : List ByteArray := Lib.goFieldsP blkP s
theorem spansP_len (p : Nat → Bool) (s : ByteArray) : ∀ (f pos : Nat) (st : Option Nat) (acc : List (Nat × Nat)), (spansFromP p s f pos st acc).1.length ≤ acc.length + f
  | 0, _, _, _ => Nat.le_refl _
  | f + 1, pos, st, acc => by
    unfold spansFromP
    split
    · split
      · cases st with
        | none => exact Nat.le_trans (spansP_len p s f _ _ _) (by omega)
        | some a => exact Nat.le_trans (spansP_len p s f _ _ _) (by simp; omega)
      · cases st with
        | none => exact Nat.le_trans (spansP_len p s f _ _ _) (by omega)
        | some a => exact Nat.le_trans (spansP_len p s f _ _ _) (by omega)
    · simp
theorem fldR_len (s : ByteArray) : (fldR s).length ≤ s.size + 1 := by
  unfold fldR Lib.goFieldsP spansOfP
  rw [List.length_map]
  have h := spansP_len blkP s s.size 0 none []
  unfold closeSpans
  split <;> simp at h ⊢ <;> omega
theorem fldR_size {s x : ByteArray} (h : x ∈ fldR s) : x.size ≤ s.size := by
  unfold fldR Lib.goFieldsP at h
  obtain ⟨y, _, rfl⟩ := List.mem_map.1 h
  rw [ByteArray.size_extract]
  omega
theorem Tryz.isBlank (w : World) : PredAtRunes Tryz.prog 107 #[] blkP w := fun W r _ _ => by
  unfold FnGives
  go_enter Tryz.func107, Tryz.ntmps107
  go_wp2
  go_ret
  exact ⟨rfl, 0, rfl⟩
theorem sFields (s : ByteArray) (hs : s.size ≤ 1048576) : GCall Tryz.prog E 106 [.v (.string s), .fn 107 []] [] (fun d H => d = DStrs (fldR s) ∧ H = []) := by
  refine GCall.ofRow (by kernel_rfl) (fun x hx => Nat.le_trans (fldR_size hx) (by unfold lenB; omega)) (Nat.le_trans (fldR_len s) (by unfold lenB; omega)) (fun w F vs hE hF hl hr => ?_)
  have hl2 : vs.size = 2 := hl
  have h0 := (hr 0 vs[0] _ (Array.getElem?_eq_getElem (by omega)) rfl).inv_v.1
  have h1 := hr 1 vs[1] _ (Array.getElem?_eq_getElem (by omega)) rfl
  have hv : vs = #[vs[0], vs[1]] := by
    apply Array.ext
    · simpa using hl
    · intro i h2 h3
      rcases (show i = 0 ∨ i = 1 by simp at h3; omega) with rfl | rfl <;> rfl
  rw [hv, h0]
  generalize vs[1] = v1 at h1
  cases h1 with
  | @fn _ us _ hul _ =>
    obtain rfl : us = #[] := Array.eq_empty_of_size_eq_zero (by simpa using hul)
    refine (Any.strings_FieldsFunc_runes Tryz.laysFF 107 #[] (enters_of Tryz.func107 (by kernel_rfl) rfl) blkP s w (by omega) (Tryz.isBlank w) (by kernel_rfl) (by kernel_rfl)).mono ?_
    rintro e w' ⟨A, h3, h4, h5, h6⟩
    refine ⟨⟨A, _, h3, Nat.le_refl _, h4, ?_⟩, h6⟩
    obtain ⟨a1, a2⟩ := h5
    rcases a2 with ⟨a2, _⟩ | ⟨g, cap, cur, e1, e2, e3, e4, e5, e6, e7⟩
    · cases a2
    · simp only [Value.slice.injEq, Option.some.injEq, Addr.mk.injEq, and_true, true_and] at e1
      obtain ⟨rfl, rfl⟩ := e1
      refine ⟨(Array.getElem?_eq_some_iff.1 e3).1, fun j x hj => ?_⟩
      have h7 : cur[j]? = some (.string x) := by
        rw [← Array.getElem?_toList]
        have h8 := congrArg (fun l => l[j]?) e7
        simp only [List.getElem?_take, List.getElem?_map] at h8
        have hjl : j < (goFieldsP blkP s).length := (List.getElem?_eq_some_iff.1 hj).1
        rw [if_pos (by omega), show (goFieldsP blkP s)[j]? = some x from hj] at h8
        exact h8
      unfold World.cell?
      simp [e3, h7]
end Go.GH
namespace Go.GH
open Go Go.Lib Go.Proofs Go.RowKit

/-! ### the environment -/
def E50 : Env where
  holds := fun w F => Lib.Utf8Tabs 0 1 w ∧ F 0 ∧ F 1 ∧ (∃ m, w.cell? ⟨2, 0, none⟩ = some (.int .i64 m)) ∧ F 2
  mono := fun {w w' F F'} hw hF h => by
    obtain ⟨⟨h1, h2⟩, h3, h4, h5, h6⟩ := h
    refine ⟨⟨fun c hc => ?_, fun i hi => ⟨?_, ?_⟩⟩, hF _ h3, hF _ h4, ?_, hF _ h6⟩
    · rw [cell?_same (hw _ h3)]; exact h1 c hc
    · rw [cell?_same (hw _ h4)]; exact (h2 i hi).1
    · rw [cell?_same (hw _ h4)]; exact (h2 i hi).2
    · rw [cell?_same (hw _ h6)]; exact h5
theorem vs50 : VS E50 := fun s => GCall.ofCalls (by kernel_rfl) trivial (fun w F vs hE hl hr => by
    obtain ⟨rfl, hs⟩ := arg1 hl hr
    rw [utf8R_valid]
    exact Any.utf8_ValidString Tryz.laysValid s w hs hE.1)
/-- strings.Split at the blank. -/
def splB (s : ByteArray) : List ByteArray := Lib.splitB sp1 0 (Lib.countB s sp1) s
theorem splitB_size (sep : ByteArray) : ∀ (k : Nat) (s x : ByteArray), x ∈ Lib.splitB sep 0 k s → x.size ≤ s.size
  | 0, s, x, h => by rw [Lib.splitB_zero, List.mem_singleton] at h; rw [h]; exact Nat.le_refl _
  | k + 1, s, x, h => by
    unfold Lib.splitB at h
    split at h
    · rw [List.mem_singleton] at h; rw [h]; exact Nat.le_refl _
    · rcases List.mem_cons.1 h with h | h
      · rw [h, ByteArray.size_extract]; omega
      · have := splitB_size sep k _ x h
        rw [ByteArray.size_extract] at this
        omega
theorem splitB_len (sep : ByteArray) : ∀ (k : Nat) (s : ByteArray), (Lib.splitB sep 0 k s).length ≤ k + 1
  | 0, s => Nat.le_refl _
  | k + 1, s => by
    unfold Lib.splitB
    split
    · simp
    · have := splitB_len sep k (s.extract ((Lib.indexB s sep).toNat + sep.size) s.size)
      simp only [List.length_cons]
      omega
theorem arg2' {w : World} {F : Nat → Prop} {vs : Array Value} {x y : Value} (hl : vs.size = 2) (hr : ∀ (j : Nat) (v : Value) (d : DV), vs[j]? = some v → [DV.v x, DV.v y][j]? = some d → Rep w F v d) : vs = #[x, y] := (arg2 hl hr).1
theorem sSplitB (s : ByteArray) (hs : s.size ≤ 1048576) : GCall Tryz.prog E50 100 [.v (.string s), .v (.string sp1)] [] (fun d H => d = DStrs (splB s) ∧ H = []) := by
  have hcb := Lib.countB_le sp1 (by decide) s.size s (Nat.le_refl _)
  have hlen := splitB_len sp1 (Lib.countB s sp1) s
  refine GCall.ofRow (by kernel_rfl) (fun x hx => Nat.le_trans (splitB_size sp1 _ s x hx) (by unfold lenB; omega)) (Nat.le_trans hlen (by unfold lenB; omega)) (fun w F vs hE hF hl hr => ?_)
  rw [arg2' hl hr]
  obtain ⟨_, _, _, ⟨m, hm⟩, _⟩ := hE
  refine (Any.strings_Split { Tryz.laysSplit with } Tryz.laysSplit.i9 s sp1 m w (by omega) hm (by decide)).mono ?_
  rintro e w' ⟨h1, rfl⟩
  have hall : (splB s).length = Lib.countB s sp1 + 1 := by
    have := Lib.splitB_all sp1 (by decide) 0 _ s rfl
    unfold splB
    omega
  refine ⟨⟨w.heap.size, Lib.countB s sp1 + 1, by rw [h1, hall], by rw [hall]; exact Nat.le_refl _, Nat.le_refl _, by simp, fun j x hj => ?_⟩, (Below.refl _ w).alloc (Nat.le_refl _) _⟩
  unfold World.cell?
  rw [World.alloc_heap_new]
  have h9 : ((Lib.splitB sp1 0 (Lib.countB s sp1) s).map Value.string)[j]? = some (Value.string x) := by rw [List.getElem?_map, show (Lib.splitB sp1 0 (Lib.countB s sp1) s)[j]? = some x from hj]; rfl
  simp [h9]

/-! ### calls that only read -/
def onE {α : Type} (b : Bool) (x : α) : Option α := bif b then some x else none
theorem onE_some {α : Type} {b : Bool} {x y : α} (h : onE b x = some y) : b = true ∧ x = y := by
  unfold onE at h
  cases b with
  | true => exact ⟨rfl, Option.some.inj h⟩
  | false => cases h
theorem RL1 {ρ : Rn} {x : Value} {ds : List DV} (h : RL ρ [.v x] ds) : ds = [.v x] := by
  obtain ⟨b, t, rfl, h1, h2⟩ := h.inv_cons
  rw [h1.inv_v, h2.inv_nil]
theorem RL2 {ρ : Rn} {x y : Value} {ds : List DV} (h : RL ρ [.v x, .v y] ds) : ds = [.v x, .v y] := by
  obtain ⟨b, t, rfl, h1, h2⟩ := h.inv_cons
  rw [h1.inv_v, RL1 h2]
theorem RL.self {ρ : Rn} {l : List DV} (h : ∀ d ∈ l, ∃ x, d = .v x) : RL ρ l l := PWl.refl (fun a ha => by obtain ⟨x, rfl⟩ := h a ha; exact .v x)
theorem RD.strs (ρ : Rn) (l : List ByteArray) : RD ρ (DStrs l) (DStrs l) := RD.isl' (PWl.refl (fun a ha => RL.self (fun d hd => by
  obtain ⟨x, _, rfl⟩ := List.mem_map.1 ha
  exact ⟨_, by simpa [encS] using hd⟩)))
abbrev OkH (g : FuncId) (ds : List DV) (hp : Tr DO) (nx : Nat) (d : DV) (up : List (Nat × Option DO)) (nx' : Nat) : Prop :=
  Pure' hp.get nx (upsE hp up).get nx' (up.map (·.1)) ∧ CallOk Tryz.prog E50 g ds hp nx (d, upsE hp up, nx', up.map (·.1))
theorem hookP {g : FuncId} {ds : List DV} {hp : Tr DO} {nx : Nat} {d : DV} (hd : ∀ ρ, RD ρ d d) (h : ∀ ρ dsA, RL ρ ds dsA → GCall Tryz.prog E50 g dsA [] (fun d' H => d' = d ∧ H = [])) : OkH g ds hp nx d [] nx :=
  ⟨Pure'.refl _ _, fun ρ dsA H hc hf hR => (GCall.frameP (H0 := []) (G := H) (List.Perm.refl _) (h ρ dsA hR)).mono (by
    rintro d' H' ⟨H0', ⟨rfl, rfl⟩, rfl, _⟩
    exact ⟨ρ, Post.id (fun p hp => hp), hd ρ⟩)⟩
def isS (s t : ByteArray) : Bool := s.data.toList == t.data.toList
theorem isS_eq {s t : ByteArray} (h : isS s t = true) : s = t := by
  unfold isS at h
  have := eq_of_beq h
  exact ByteArray.ext (Array.toList_inj.1 this)
def hkP (f : FuncId) (ds : List DV) : Option (Option DV) := match ds with
  | [.v (.string s)] => bif Nat.beq f 70 then some (some (.v (.bool (utf8R s)))) else none
  | [.v (.string s), .v (.string p)] =>
    bif Nat.beq f 72 then some (some (.v (.string (trimB s p)))) else
    bif Nat.beq f 78 then some (onE (isS p spnl && (utf8R s && Nat.ble s.size 1048576)) (.v (.bool (anySp s)))) else
    bif Nat.beq f 100 then some (onE (isS p sp1 && Nat.ble s.size 1048576) (DStrs (splB s))) else none
  | [.v (.string s), .v (.int .i64 (.ofNat n))] => bif Nat.beq f 79 then some (onE (isS s sp1 && Nat.ble n 1048576) (.v (.string (blB n)))) else none
  | _ => none
theorem bif_ite {α : Type} {b : Bool} {x y z : α} (h : (bif b then x else y) = z) : (b = true ∧ x = z) ∨ (b = false ∧ y = z) := by
  cases b with
  | true => exact .inl ⟨rfl, h⟩
  | false => exact .inr ⟨rfl, h⟩
theorem hkP_ok {f : FuncId} {ds : List DV} {d : DV} {hp : Tr DO} {nx : Nat} (h : hkP f ds = some (some d)) : OkH f ds hp nx d [] nx := by
  unfold hkP at h
  split at h
  · rcases bif_ite h with ⟨hf, h⟩ | ⟨_, h⟩
    · cases h
      obtain rfl := Nat.eq_of_beq_eq_true hf
      exact hookP (fun ρ => .v _) (fun ρ dsA hR => by rw [RL1 hR]; exact vs50 _)
    · cases h
  · rcases bif_ite h with ⟨hf, h⟩ | ⟨_, h⟩
    · cases h
      obtain rfl := Nat.eq_of_beq_eq_true hf
      exact hookP (fun ρ => .v _) (fun ρ dsA hR => by rw [RL2 hR]; exact sTrimSuffix _ _)
    rcases bif_ite h with ⟨hf, h⟩ | ⟨_, h⟩
    · obtain rfl := Nat.eq_of_beq_eq_true hf
      obtain ⟨hc, rfl⟩ := onE_some (Option.some.inj h)
      simp only [Bool.and_eq_true] at hc
      obtain ⟨h1, h2, h3⟩ := hc
      obtain rfl := isS_eq h1
      exact hookP (fun ρ => .v _) (fun ρ dsA hR => by rw [RL2 hR]; exact sContainsAny _ h2 (Nat.le_of_ble_eq_true h3))
    rcases bif_ite h with ⟨hf, h⟩ | ⟨_, h⟩
    · obtain rfl := Nat.eq_of_beq_eq_true hf
      obtain ⟨hc, rfl⟩ := onE_some (Option.some.inj h)
      simp only [Bool.and_eq_true] at hc
      obtain ⟨h1, h3⟩ := hc
      obtain rfl := isS_eq h1
      exact hookP (fun ρ => RD.strs ρ _) (fun ρ dsA hR => by rw [RL2 hR]; exact sSplitB _ (Nat.le_of_ble_eq_true h3))
    · cases h
  · rcases bif_ite h with ⟨hf, h⟩ | ⟨_, h⟩
    · obtain rfl := Nat.eq_of_beq_eq_true hf
      obtain ⟨hc, rfl⟩ := onE_some (Option.some.inj h)
      simp only [Bool.and_eq_true] at hc
      obtain ⟨h1, h3⟩ := hc
      obtain rfl := isS_eq h1
      exact hookP (fun ρ => .v _) (fun ρ dsA hR => by rw [RL2 hR]; exact sRepeat _ (Nat.le_of_ble_eq_true h3))
    · cases h
  · cases h
end Go.GH
namespace Go.GH
open Go Go.Lib Go.Proofs Go.Proofs.YteodhhepbnehhaaGreatDoor
theorem u8Extra : U8Extra Tryz.prog Tryz.laysValid_ren :=
  ⟨by kernel_rfl, by kernel_rfl, by kernel_rfl, by kernel_rfl, by kernel_rfl, by kernel_rfl, by kernel_rfl⟩
theorem laid_E50 (W : World) (h : laidMetH Tryz.prog Rows.justifySheetsRow.laid W) (hS : W.ShapedOpen Tryz.prog) : E50.holds W (AllF W) := by
  have h' : laidMet Tryz.prog [("unicode/utf8.acceptRanges", Rows.laid_unicode_utf8_acceptRanges), ("unicode/utf8.first", Rows.laid_unicode_utf8_first)] W := h
  have e1 : Rows.laid_unicode_utf8_first = firstData := by kernel_rfl
  have e2 : (Rows.laid_unicode_utf8_acceptRanges : DataW Unit) = acceptData := by kernel_rfl
  rw [e1, e2] at h'
  obtain ⟨h1, h2, h3⟩ := tabE_all (utf8Tabs_of_readsT (U8Types.of196 Tryz.laysValid) u8Extra (laidMet.reads h' (.tail _ (.head _))) (laidMet.reads h' (.head _)))
  obtain ⟨m, hm⟩ := Tryz.laysSplit.s1_3 W hS
  exact ⟨h1, h2, h3, ⟨m, hm⟩, (cell?_lt hm).1⟩
end Go.GH
namespace Go.GH
open Go

theorem map_of {α β : Type} {f : α → β} : ∀ {es : List β}, (∀ e ∈ es, ∃ x, e = f x) → ∃ xs : List α, es = xs.map f
  | [], _ => ⟨[], rfl⟩
  | e :: es, h => by
    obtain ⟨x, rfl⟩ := h e (List.mem_cons_self ..)
    obtain ⟨xs, rfl⟩ := map_of (fun e he => h e (List.mem_cons_of_mem _ he))
    exact ⟨x :: xs, rfl⟩
def ElemIs (L : List DTy) (e : List DV) : Prop := e.length = L.length ∧ ∀ (j : Nat) d ty, e[j]? = some d → L[j]? = some ty → HasD ty d
theorem HasD.slice {α : Type} {L : List DTy} {f : α → List DV} {d : DV} (h : HasD (.sl L) d) (hf : ∀ e, ElemIs L e → ∃ x, e = f x) : ∃ xs : List α, d = .isl false L.length (xs.map f) := by
  cases h with
  | @sl L es hl hd =>
    obtain ⟨xs, rfl⟩ := map_of (f := f) (es := es) (fun e he => by
      obtain ⟨i, hi⟩ := List.mem_iff_getElem?.1 he
      exact hf e ⟨hl i e hi, fun j d ty hj ht => hd i e j d ty hi hj ht⟩)
    exact ⟨xs, rfl⟩
theorem ElemIs.one {ty : DTy} {e : List DV} (h : ElemIs [ty] e) : ∃ d, e = [d] ∧ HasD ty d := by
  obtain ⟨h1, h2⟩ := h
  match e, h1 with
  | [d], _ => exact ⟨d, rfl, h2 0 d ty rfl rfl⟩
theorem ElemIs.two {t1 t2 : DTy} {e : List DV} (h : ElemIs [t1, t2] e) : ∃ d1 d2, e = [d1, d2] ∧ HasD t1 d1 ∧ HasD t2 d2 := by
  obtain ⟨h1, h2⟩ := h
  match e, h1 with
  | [d1, d2], _ => exact ⟨d1, d2, rfl, h2 0 d1 t1 rfl rfl, h2 1 d2 t2 rfl rfl⟩
theorem ElemIs.three {t1 t2 t3 : DTy} {e : List DV} (h : ElemIs [t1, t2, t3] e) : ∃ d1 d2 d3, e = [d1, d2, d3] ∧ HasD t1 d1 ∧ HasD t2 d2 ∧ HasD t3 d3 := by
  obtain ⟨h1, h2⟩ := h
  match e, h1 with
  | [d1, d2, d3], _ => exact ⟨d1, d2, d3, rfl, h2 0 d1 t1 rfl rfl, h2 1 d2 t2 rfl rfl, h2 2 d3 t3 rfl rfl⟩
theorem HasD.int_inv {k : IntKind} {d : DV} (h : HasD (.int k) d) : ∃ n, d = .v (.int k n) ∧ k.has n := by cases h with | int h => exact ⟨_, rfl, h⟩
theorem HasD.str_inv {d : DV} (h : HasD .str d) : ∃ s, d = .v (.string s) := by cases h; exact ⟨_, rfl⟩
theorem HasD.bool_inv {d : DV} (h : HasD .bool d) : ∃ b, d = .v (.bool b) := by cases h; exact ⟨_, rfl⟩
theorem HasD.letters {d : DV} (h : HasD (.sl [.int .i32, .int .u32]) d) : ∃ a, d = DLs a :=
  h.slice (f := encL) (fun e he => by
    obtain ⟨d1, d2, rfl, h1, h2⟩ := he.two
    obtain ⟨r, rfl, _⟩ := h1.int_inv
    obtain ⟨c, rfl, _⟩ := h2.int_inv
    exact ⟨⟨r, c⟩, rfl⟩)
theorem HasD.ints {d : DV} (h : HasD (.sl [.int .i64]) d) : ∃ l, d = DInts l :=
  h.slice (f := encI) (fun e he => by
    obtain ⟨d1, rfl, h1⟩ := he.one
    obtain ⟨r, rfl, _⟩ := h1.int_inv
    exact ⟨r, rfl⟩)
theorem HasD.masks {d : DV} (h : HasD (.sl [.int .u32]) d) : ∃ l, d = DMasks l :=
  h.slice (f := encU) (fun e he => by
    obtain ⟨d1, rfl, h1⟩ := he.one
    obtain ⟨r, rfl, _⟩ := h1.int_inv
    exact ⟨r, rfl⟩)
theorem HasD.strs {d : DV} (h : HasD (.sl [.str]) d) : ∃ l, d = DStrs l :=
  h.slice (f := encS) (fun e he => by
    obtain ⟨d1, rfl, h1⟩ := he.one
    obtain ⟨r, rfl⟩ := h1.str_inv
    exact ⟨r, rfl⟩)

/-- An argument of one cell. -/
theorem arg_rep {H : Type} {enc : TypeId × Value → H} {P : Program} {w : World} {sp : Nat → Bool} {held : Bool} {t : TypeId} {ty : DTy} {v : Value} {d : DataW H} {p : List MemPlace} (hT : TyIs P t [ty]) (h : DataW.Trod enc P w 0 sp held t v d p) (hv : v.cells = #[v]) : ∃ dv, Rep w (AllF w) v dv ∧ HasD ty dv := by
  obtain ⟨fuel, h⟩ := h
  rw [hv] at h
  obtain ⟨ds, h1, h2, h3⟩ := (pw_trod hT fuel _ _ h).cells
  match ds, h2 with
  | [dv], _ => exact ⟨dv, (h3 0 v dv ty rfl rfl rfl).1, (h3 0 v dv ty rfl rfl rfl).2.1⟩
/-- An argument of several cells. -/
theorem arg_repA {H : Type} {enc : TypeId × Value → H} {P : Program} {w : World} {sp : Nat → Bool} {held : Bool} {t : TypeId} {L : List DTy} {us : Array Value} {d : DataW H} {p : List MemPlace} (hT : TyIs P t L) (h : DataW.Trod enc P w 0 sp held t (.agg us) d p) : ∃ ds, Rep w (AllF w) (.agg us) (.agg ds) ∧ ElemIs L ds := by
  obtain ⟨fuel, h⟩ := h
  obtain ⟨ds, h1, h2, h3⟩ := (pw_trod hT fuel _ _ h).cells
  have hus : us.size = ds.length := by rw [h2, ← h1]; rfl
  refine ⟨ds, .agg hus (fun j x dd hx hd => ?_), h2, fun j dd ty hd ht => ?_⟩
  · have hlt : j < L.length := by rw [← h2]; exact (List.getElem?_eq_some_iff.1 hd).1
    exact (h3 j x dd _ (by show us.toList[j]? = some x; simpa using hx) hd (List.getElem?_eq_getElem hlt)).1
  · have hlt : j < us.size := by rw [hus]; exact (List.getElem?_eq_some_iff.1 hd).1
    exact (h3 j us[j] dd ty (by show us.toList[j]? = some us[j]; simp [hlt]) hd ht).2.1
end Go.GH
namespace Go.GH
open Go
theorem HasD.boxes {d : DV} (h : HasD (.sl [.str, .sl [.int .i64]]) d) : ∃ l, d = DBxs l :=
  h.slice (f := encBx) (fun e he => by
    obtain ⟨d1, d2, rfl, h1, h2⟩ := he.two
    obtain ⟨s, rfl⟩ := h1.str_inv
    obtain ⟨p, rfl⟩ := h2.ints
    exact ⟨⟨s, p⟩, rfl⟩)
theorem HasD.lines {d : DV} (h : HasD (.sl [.sl [.str], .bool]) d) : ∃ l, d = DLns l :=
  h.slice (f := encLn) (fun e he => by
    obtain ⟨d1, d2, rfl, h1, h2⟩ := he.two
    obtain ⟨p, rfl⟩ := h1.strs
    obtain ⟨b, rfl⟩ := h2.bool_inv
    exact ⟨⟨p, b⟩, rfl⟩)
end Go.GH
namespace Go.GH
open Go
theorem ElemIs.line {e : List DV} (h : ElemIs [.sl [.str], .bool] e) : ∃ x : Ln, e = encLn x := by
  obtain ⟨d1, d2, rfl, h1, h2⟩ := h.two
  obtain ⟨p, rfl⟩ := h1.strs
  obtain ⟨b, rfl⟩ := h2.bool_inv
  exact ⟨⟨p, b⟩, rfl⟩
end Go.GH
namespace Go.GH
open Go Go.Proofs
variable {E : Env}
end Go.GH
namespace Go.GH
open Go Go.Proofs
variable {E : Env}
theorem q50utf8 (s : ByteArray) (hs : s.size ≤ 1048576) : GCall Tryz.prog E 47 [.v (.string s)] [] (fun d H => d = .v (.bool (utf8R s)) ∧ H = []) := by
 refine GCall.body (C := ⟨Tryz.prog, E, true⟩) Tryz.func47 rfl (fun _ => rfl) (by kernel_rfl) rfl ?_
 refine SCode.seqR (SOps.assign rfl (SOps.nil (SCode.seqR (SOps.assign rfl (SOps.nil (SCode.seq (SCode.seqR (SOps.move rfl ?_))))))))
 refine SOps.rangeStr rfl strB_9 (fun b0 hb_0 => ?_)
 refine SOps.nil (SCode.block (SCode.loop3 (fun (p : Nat) (b : Nat) (done : List Int) => (⟨18, [(0, .v (.string s)), (3, .v (.string (encs done))), (7, .it b)], [(b, .iter s p)]⟩ : St)) (fun (p : Nat) (b : Nat) (done : List Int) => done ++ runesAt s p = runes s ∧ done.length ≤ p) (fun (p : Nat) (b : Nat) (done : List Int) => s.size - p) (0) (b0) ([]) (by exact ⟨rfl, Nat.zero_le _⟩) (St.Le.of ⟨(by first | rfl | (show some _ = some _; simp)), (by first | rfl | (show some _ = some _; simp)), (by first | rfl | (show some _ = some _; simp)), trivial⟩ rfl (by first | rfl | (simp))) ?_))
 rintro p b done ⟨hf, hdl⟩
 refine SCode.seqR ?_
 refine SOps.next 0 rfl rfl (fun hn1 => ?_) (fun hn1 => ?_) (by first | omega | (simp only [lenB]; omega) | (simp only [List.length_map, lenB]; omega) | (simp; done))
 ·refine SOps.extract rfl rfl (SOps.nil (SCode.seq ?_))
  refine SCode.cond rfl (fun _ => ?_) (fun h => by cases h)
  refine SCode.skip ?_
  show SCode _ _ _ _
  refine SCode.block (SCode.seqR (SOps.extract rfl rfl (SOps.assign rfl (SOps.nil (SCode.region (SOps.move rfl (SOps.move rfl (SOps.convIntStr rfl someB_21 strB_9 (SOps.concat rfl rfl (by have h4 := encs_size4 done; have h5 := encs_size4 [((Utf8.decode s p).1 : Int)]; rw [show encs [((Utf8.decode s p).1 : Int)] = Utf8.encode ((Utf8.decode s p).1 : Int) ++ .empty from rfl, ByteArray.size_append] at h5; simp only [List.length_cons, List.length_nil] at h5; show _ + _ ≤ _; simp only [lenB]; omega) (SOps.assign rfl (SOps.nil ?_)))))))))))
  exact ⟨p + (Utf8.decode s p).2, b, done ++ [((Utf8.decode s p).1 : Int)], ⟨by rw [← hf, runesAt_lt hn1, List.append_assoc]; rfl, by have := decode_w s p; simp; omega⟩, by have := decode_w s p; omega, St.Le.of ⟨rfl, (by show some _ = some _; rw [encs_append]; simp only [encs, ByteArray.append_empty]), rfl, trivial⟩ rfl rfl⟩
 ·refine SOps.extract rfl rfl (SOps.nil (SCode.seq ?_))
  refine SCode.cond rfl (fun h => by cases h) (fun _ => ?_)
  refine SCode.exit ?_
  show SCode _ _ _ _
  refine SCode.seqR ?_
  have hrn : done = runes s := by rw [← hf, runesAt_ge (by omega), List.append_nil]
  refine SOps.move rfl (SOps.move rfl (SOps.bin rfl rfl rfl (SOps.assign rfl (SOps.nil (SCode.drop (SCode.ret ?_))))))
  exact ⟨_, Res.one (.tmp rfl), congrArg (fun b => DV.v (.bool b)) (by rw [Bool.eq_iff_iff, utf8R_iff, ← hrn]; simp), rfl⟩
theorem spB_iff {b : UInt8} : spB b = true ↔ ((b.toNat : Nat) : Int) = 32 ∨ ((b.toNat : Nat) : Int) = 10 := by
  unfold spB
  rw [Bool.or_eq_true, beq_iff_eq, beq_iff_eq, ← UInt8.toNat_inj, ← UInt8.toNat_inj]
  show b.toNat = 32 ∨ b.toNat = 10 ↔ _
  omega
theorem at_sp {s : ByteArray} {j : Nat} (hj : j < s.size) (h : ((s[j].toNat : Nat) : Int) = 32 ∨ ((s[j].toNat : Nat) : Int) = 10) (hu : utf8R s = true) : anySp s = true := by
  rw [← bytes_sp hu, List.any_eq_true]
  refine ⟨s[j], ?_, by rw [spB_iff]; exact h⟩
  have : s.data.toList[j]? = some s[j] := by
    rw [Array.getElem?_toList]
    exact Array.getElem?_eq_getElem hj
  exact List.mem_of_getElem? this
theorem no_sp {s : ByteArray} (hu : utf8R s = true) (h : ∀ j (hj : j < s.size), ¬ ((s[j].toNat : Nat) : Int) = 32 ∧ ¬ ((s[j].toNat : Nat) : Int) = 10) : anySp s = false := by
  rw [← bytes_sp hu, Bool.eq_false_iff]
  intro h9
  obtain ⟨b, hb, h8⟩ := List.any_eq_true.1 h9
  obtain ⟨j, hj, rfl⟩ := List.getElem_of_mem hb
  have hj' : j < s.size := by simpa using hj
  have h7 := h j hj'
  have e : s.data.toList[j] = s[j] := by rw [Array.getElem_toList]; rfl
  rw [e, spB_iff] at h8
  exact h8.elim h7.1 h7.2
theorem q50Printable (ln : Ln) (hw : ∀ w ∈ ln.words, w.size ≤ 1048576) (hl : ln.words.length ≤ 1048576) : GCall Tryz.prog E 15 [.agg (encLn ln)] [] (fun d H => d = .v (.bool (prB ln)) ∧ H = []) := by
 refine GCall.body (C := ⟨Tryz.prog, E, true⟩) Tryz.func15 rfl (fun _ => rfl) (by kernel_rfl) rfl ?_
 refine SCode.seqR (SOps.boxAM rfl rfl (SOps.assign rfl (SOps.nil (SCode.seq (SCode.seqR (SOps.assign rfl (SOps.nil (SCode.block (SCode.loop1 (fun (i : Nat) => (⟨45, [(1, .ipin (encLn ln)), (3, .v (.int .i64 (i : Int)))], []⟩ : St)) (fun (i : Nat) => i ≤ ln.words.length ∧ ∀ w ∈ ln.words.take i, wordB w = true) (fun (i : Nat) => ln.words.length - i) (0) (by simp) (St.Le.of ⟨(by first | rfl | (show some _ = some _; simp)), (by first | rfl | (show some _ = some _; simp)), trivial⟩ rfl (by first | rfl | (simp))) ?_)))))))))
 rintro i ⟨hi, hf⟩
 refine SCode.seq (SCode.seqR (SOps.move rfl (SOps.fieldPin rfl fieldB_24_0_0 (SOps.loadPin rfl flatB_22 (SOps.lenM rfl sliceB_22_9_1 (SOps.bin rfl rfl rfl (SOps.nil ?_)))))))
 refine SCode.cond rfl (fun hc1 => ?_) (fun hc1 => ?_)
 ·try simp only [nmL] at hc1
  refine SCode.skip ?_
  show SCode _ _ _ _
  refine SCode.seq (SCode.block (SCode.seqR ?_))
  have hil : i < ln.words.length := by omega
  have hwi := hw _ (List.getElem_mem hil)
  refine SOps.fieldPin rfl fieldB_24_0_0 (SOps.loadPin rfl flatB_22 (SOps.move rfl (SOps.indexM (i) rfl rfl sliceB_22_9_1 (by first | omega | (simp only [lenB]; omega) | (simp only [List.length_map, lenB]; omega) | (simp; done)) (by first | omega | (simp only [lenB]; omega) | (simp only [List.length_map, lenB]; omega) | (simp; done)) (SOps.loadPin rfl flatB_9 (SOps.assign rfl (SOps.nil (SCode.seq (SCode.seqR (SOps.move rfl (SOps.bin rfl rfl rfl (SOps.move rfl ?_)))))))))))
  refine SOps.caseB 20 rfl (fun hb2 => ?_) (fun hb2 => ?_)
  ·try simp only [nmL] at hb2
   refine SOps.skip rfl (SOps.skip rfl (SOps.skip rfl (SOps.pick rfl rfl (SOps.nil ?_))))
   refine SCode.cond rfl (fun _ => ?_) (fun h => by cases h)
   refine SCode.seqR (SOps.assign rfl (SOps.nil (SCode.ret ?_)))
   exact ⟨_, Res.one (.tmp rfl), congrArg (fun b => DV.v (.bool b)) (Eq.symm (Bool.eq_false_iff.2 (fun h => by have h9 := wordB_iff.1 ((prB_iff.1 h).2 _ (List.getElem_mem hil)); simp_all))), rfl⟩
  ·try simp only [nmL] at hb2
   refine SOps.move rfl (SOps.callP (q50utf8 _ (by assumption)) rfl ?_)
   rintro _ rfl
   refine SOps.un rfl rfl (SOps.pick rfl rfl (SOps.nil ?_))
   refine SCode.cond rfl (fun hc3 => ?_) (fun hc3 => ?_)
   ·try simp only [nmL] at hc3
    refine SCode.seqR (SOps.assign rfl (SOps.nil (SCode.ret ?_)))
    exact ⟨_, Res.one (.tmp rfl), congrArg (fun b => DV.v (.bool b)) (Eq.symm (Bool.eq_false_iff.2 (fun h => by have h9 := wordB_iff.1 ((prB_iff.1 h).2 _ (List.getElem_mem hil)); simp_all))), rfl⟩
   ·try simp only [nmL] at hc3
    refine SCode.skip ?_
    show SCode _ _ _ _
    refine SCode.seqR (SOps.assign rfl (SOps.nil (SCode.block (SCode.loop1 (fun (j : Nat) => (⟨45, [(1, .ipin (encLn ln)), (3, .v (.int .i64 (i : Int))), (4, .v (.string (ln.words[i]))), (5, .v (.int .i64 (j : Int)))], []⟩ : St)) (fun (j : Nat) => j ≤ (ln.words[i]).size ∧ ∀ k (hk : k < j) (hk2 : k < (ln.words[i]).size), ¬ (((ln.words[i])[k].toNat : Nat) : Int) = 32 ∧ ¬ (((ln.words[i])[k].toNat : Nat) : Int) = 10) (fun (j : Nat) => (ln.words[i]).size - j) (0) (by exact ⟨Nat.zero_le _, fun k hk => absurd hk (Nat.not_lt_zero _)⟩) (St.Le.of ⟨(by first | rfl | (show some _ = some _; simp)), (by first | rfl | (show some _ = some _; simp)), (by first | rfl | (show some _ = some _; simp)), (by first | rfl | (show some _ = some _; simp)), trivial⟩ rfl (by first | rfl | (simp))) ?_))))
    rintro j ⟨hj, hj2⟩
    refine SCode.seq (SCode.seqR (SOps.move rfl (SOps.move rfl (SOps.lenStr rfl strB_9 (SOps.bin rfl rfl rfl (SOps.nil ?_))))))
    refine SCode.cond rfl (fun hc4 => ?_) (fun hc4 => ?_)
    ·try simp only [nmL] at hc4
     refine SCode.skip ?_
     show SCode _ _ _ _
     refine SCode.seq (SCode.block (SCode.seqR ?_))
     have hjl : j < (ln.words[i]).size := by omega
     refine SOps.move rfl (SOps.move rfl (SOps.strIndexM (j) rfl rfl strB_9 (by first | omega | (simp only [lenB]; omega) | (simp only [List.length_map, lenB]; omega) | (simp; done)) (by first | omega | (simp only [lenB]; omega) | (simp only [List.length_map, lenB]; omega) | (simp; done)) (SOps.bin rfl rfl rfl (SOps.move rfl ?_))))
     refine SOps.caseB 35 rfl (fun hb5 => ?_) (fun hb5 => ?_)
     ·try simp only [nmL] at hb5
      refine SOps.skip rfl (SOps.skip rfl (SOps.skip rfl (SOps.skip rfl (SOps.pick rfl rfl (SOps.nil ?_)))))
      refine SCode.cond rfl (fun _ => ?_) (fun h => by cases h)
      refine SCode.seqR (SOps.assign rfl (SOps.nil (SCode.ret ?_)))
      exact ⟨_, Res.one (.tmp rfl), congrArg (fun b => DV.v (.bool b)) (Eq.symm (Bool.eq_false_iff.2 (fun h => by have h9 := wordB_iff.1 ((prB_iff.1 h).2 _ (List.getElem_mem hil)); have h7 := at_sp hjl (by first | exact .inl (by assumption) | exact .inr (by assumption)) h9.2.1; rw [h7] at h9; simp at h9))), rfl⟩
     ·try simp only [nmL] at hb5
      refine SOps.move rfl (SOps.move rfl (SOps.strIndexM (j) rfl rfl strB_9 (by first | omega | (simp only [lenB]; omega) | (simp only [List.length_map, lenB]; omega) | (simp; done)) (by first | omega | (simp only [lenB]; omega) | (simp only [List.length_map, lenB]; omega) | (simp; done)) (SOps.bin rfl rfl rfl (SOps.pick rfl rfl (SOps.nil ?_)))))
      refine SCode.cond rfl (fun hc6 => ?_) (fun hc6 => ?_)
      ·try simp only [nmL] at hc6
       refine SCode.seqR (SOps.assign rfl (SOps.nil (SCode.ret ?_)))
       exact ⟨_, Res.one (.tmp rfl), congrArg (fun b => DV.v (.bool b)) (Eq.symm (Bool.eq_false_iff.2 (fun h => by have h9 := wordB_iff.1 ((prB_iff.1 h).2 _ (List.getElem_mem hil)); have h7 := at_sp hjl (by first | exact .inl (by assumption) | exact .inr (by assumption)) h9.2.1; rw [h7] at h9; simp at h9))), rfl⟩
      ·try simp only [nmL] at hc6
       refine SCode.skip ?_
       show SCode _ _ _ _
       refine SCode.region (SOps.move rfl (SOps.addI rfl rfl (by first | omega | (simp only [lenB]; omega) | (simp only [List.length_map, lenB]; omega) | (simp; done)) (by first | omega | (simp only [lenB]; omega) | (simp only [List.length_map, lenB]; omega) | (simp; done)) (SOps.assign rfl (SOps.nil ?_))))
       exact ⟨j + 1, ⟨by omega, fun k hk hk2 => by by_cases e : k = j; subst e; exact ⟨by first | assumption | (simp_all; done), by first | assumption | (simp_all; done)⟩; exact hj2 k (by omega) hk2⟩, by omega, St.Le.of ⟨rfl, rfl, rfl, rfl, trivial⟩⟩
    ·try simp only [nmL] at hc4
     refine SCode.exit ?_
     show SCode _ _ _ _
     refine SCode.region (SOps.move rfl (SOps.addI rfl rfl (by first | omega | (simp only [lenB]; omega) | (simp only [List.length_map, lenB]; omega) | (simp; done)) (by first | omega | (simp only [lenB]; omega) | (simp only [List.length_map, lenB]; omega) | (simp; done)) (SOps.assign rfl (SOps.nil ?_))))
     exact ⟨i + 1, ⟨by omega, take_more hf hil (wordB_iff.2 ⟨by first | assumption | (simp_all; done), by first | assumption | (simp_all; done), no_sp (by first | assumption | (simp_all; done)) (fun k hk => hj2 k (by omega) hk)⟩)⟩, by omega, St.Le.of ⟨rfl, rfl, trivial⟩⟩
 ·try simp only [nmL] at hc1
  refine SCode.exit ?_
  show SCode _ _ _ _
  refine SCode.seqR (SOps.fieldPin rfl fieldB_24_0_0 (SOps.loadPin rfl flatB_22 (SOps.lenM rfl sliceB_22_9_1 (SOps.bin rfl rfl rfl (SOps.assign rfl (SOps.nil (SCode.ret ?_)))))))
  exact ⟨_, Res.one (.tmp rfl), congrArg (fun b => DV.v (.bool b)) (by rw [prB, List.all_eq_true.2 (all_of (by omega) hf), Bool.and_true, Bool.eq_iff_iff]; simp), rfl⟩
theorem SCode.reSlot {C : Ctx} {st : St} {c : Code} {Q : Exit → St → Prop} {t : Tmp} {d d' : DV} (hd : st.get t = some d) (he : d = d') (h : SCode C c ⟨st.n, (t, d') :: st.slots, st.heap⟩ Q) : SCode C c st Q := by
  subst he
  intro base ok a w ⟨F, hs⟩
  exact h base ok a w ⟨F, SimF.relabel hs hd id⟩
theorem sprK_at {ws : List ByteArray} {g m i : Nat} (hi : i < ws.length) (hg : i < g) : sprK ws g m i ++ ws[i] ++ blB (gapN m g i) = sprK ws g m (i + 1) := by rw [sprK, if_pos hg, getD_w hi]
theorem sprK_end {ws : List ByteArray} {g m : Nat} (hi : g < ws.length) : sprK ws g m g ++ ws[g] = sprK ws g m (g + 1) := by rw [sprK, if_neg (Nat.lt_irrefl _), getD_w hi]
theorem qSpread (ln : Ln) (w : Int) (last : Bool) (hw : ∀ w ∈ ln.words, w.size ≤ 1048576) (hl : ln.words.length ≤ 1048576) : GCall Tryz.prog E 14 [.agg (encLn ln), .v (.int .i64 w), .v (.bool last)] [] (fun d H => d = tupA (spreadR ln w last) ∧ H = []) := by
 refine GCall.body (C := ⟨Tryz.prog, E, true⟩) Tryz.func14 rfl (fun _ => rfl) (by kernel_rfl) rfl ?_
 refine SCode.seqR (SOps.boxAM rfl rfl (SOps.assign rfl (SOps.assign rfl (SOps.nil (SCode.seq (SCode.seqR (SOps.move rfl (SOps.callP (qWidth _) rfl ?_))))))))
 rintro _ rfl
 refine SOps.un rfl rfl (SOps.move rfl ?_)
 refine SOps.caseB 17 rfl (fun hb1 => ?_) (fun hb1 => ?_)
 ·try simp only [nmL] at hb1
  refine SOps.skip rfl (SOps.skip rfl (SOps.skip rfl (SOps.pick rfl rfl (SOps.nil ?_))))
  refine SCode.cond rfl (fun _ => ?_) (fun h => by cases h)
  refine SCode.seqR (SOps.assign rfl (SOps.assign rfl (SOps.nil (SCode.ret ?_))))
  exact ⟨_, Res.two (.tmp rfl) (.tmp rfl), (by rw [spread_bad (by simp_all)]; rfl), rfl⟩
 ·try simp only [nmL] at hb1
  refine SOps.loadPinA rfl aggB_24_2 (Nat.le_of_ble_eq_true rfl) (SOps.callP (q50Printable _ hw hl) rfl ?_)
  rintro _ rfl
  refine SOps.un rfl rfl (SOps.pick rfl rfl (SOps.nil ?_))
  refine SCode.cond rfl (fun hc2 => ?_) (fun hc2 => ?_)
  ·try simp only [nmL] at hc2
   refine SCode.seqR (SOps.assign rfl (SOps.assign rfl (SOps.nil (SCode.ret ?_))))
   exact ⟨_, Res.two (.tmp rfl) (.tmp rfl), (by rw [spread_bad (by simp_all)]; rfl), rfl⟩
  ·try simp only [nmL] at hc2
   refine SCode.skip ?_
   show SCode _ _ _ _
   refine SCode.seqR (SOps.loadPinA rfl aggB_24_2 (Nat.le_of_ble_eq_true rfl) (SOps.callP (qText _ hw hl) rfl ?_))
   rintro _ rfl
   refine SOps.assign rfl (SOps.nil (SCode.seqR ?_))
   have hgood : (wideB w && prB ln) = true := by simp_all
   have hw12 := wideX_iff.1 (Bool.and_eq_true_iff.1 hgood).1
   have hpr := prB_iff.1 (Bool.and_eq_true_iff.1 hgood).2
   have hcl := catW_sz hw
   have htl : (textL ln).size ≤ 1048577 * ln.words.length + 1 := by unfold textL; split; rw [ByteArray.size_append]; have : hy1.size = 1 := rfl; omega; omega
   have hwl : wlen (textL ln) ≤ (textL ln).size := runes_len _
   have hwl2 : wlen (textL ln) = (runes (textL ln)).length := rfl
   refine SOps.move rfl (SOps.move rfl (SOps.callP (q50Length _) rfl ?_))
   rintro _ rfl
   refine SOps.subI rfl rfl (by first | omega | (simp only [lenB]; omega) | (simp only [List.length_map, lenB]; omega) | (simp; done)) (by first | omega | (simp only [lenB]; omega) | (simp only [List.length_map, lenB]; omega) | (simp; done)) (SOps.assign rfl (SOps.nil (SCode.seq (SCode.seqR (SOps.move rfl (SOps.bin rfl rfl rfl (SOps.nil ?_)))))))
   refine SCode.cond rfl (fun hc3 => ?_) (fun hc3 => ?_)
   ·try simp only [nmL] at hc3
    refine SCode.seqR (SOps.assign rfl (SOps.assign rfl (SOps.nil (SCode.ret ?_))))
    exact ⟨_, Res.two (.tmp rfl) (.tmp rfl), (by rw [spread_tight hgood (by omega)]; rfl), rfl⟩
   ·try simp only [nmL] at hc3
    refine SCode.skip ?_
    show SCode _ _ _ _
    refine SCode.seq (SCode.seqR ?_)
    obtain ⟨m, hm⟩ : ∃ m : Nat, w - (wlen (textL ln) : Int) = (m : Int) := ⟨(w - (wlen (textL ln) : Int)).toNat, by omega⟩
    refine SOps.reSlot (t := 9) rfl (show _ = DV.v (.int .i64 (m : Int)) from congrArg (fun z => DV.v (.int .i64 z)) hm) (SOps.move rfl (SOps.move rfl ?_))
    refine SOps.caseB 31 rfl (fun hb4 => ?_) (fun hb4 => ?_)
    ·try simp only [nmL] at hb4
     refine SOps.skip rfl (SOps.skip rfl (SOps.skip rfl (SOps.skip rfl (SOps.pick rfl rfl (SOps.nil ?_)))))
     refine SCode.cond rfl (fun _ => ?_) (fun h => by cases h)
     refine SCode.seqR (SOps.move rfl (SOps.move rfl (SOps.callP (q50blanks m (by omega)) rfl ?_)))
     rintro _ rfl
     refine SOps.concat rfl rfl (by first | (simp only [lenB, ByteArray.size_append, blB_size]; omega) | (show _ + _ ≤ _; simp only [lenB]; omega)) (SOps.assign rfl (SOps.assign rfl (SOps.nil (SCode.ret ?_))))
     exact ⟨_, Res.two (.tmp rfl) (.tmp rfl), (by rw [spread_last hgood hm (by simp_all)]; rfl), rfl⟩
    ·try simp only [nmL] at hb4
     refine SOps.fieldPin rfl fieldB_24_0_0 (SOps.loadPin rfl flatB_22 (SOps.lenM rfl sliceB_22_9_1 (SOps.bin rfl rfl rfl (SOps.pick rfl rfl (SOps.nil ?_)))))
     refine SCode.cond rfl (fun hc5 => ?_) (fun hc5 => ?_)
     ·try simp only [nmL] at hc5
      refine SCode.seqR (SOps.move rfl (SOps.move rfl (SOps.callP (q50blanks m (by omega)) rfl ?_)))
      rintro _ rfl
      refine SOps.concat rfl rfl (by first | (simp only [lenB, ByteArray.size_append, blB_size]; omega) | (show _ + _ ≤ _; simp only [lenB]; omega)) (SOps.assign rfl (SOps.assign rfl (SOps.nil (SCode.ret ?_))))
      exact ⟨_, Res.two (.tmp rfl) (.tmp rfl), (by rw [spread_last hgood hm (.inr (by omega))]; rfl), rfl⟩
     ·try simp only [nmL] at hc5
      refine SCode.skip ?_
      show SCode _ _ _ _
      refine SCode.seqR (SOps.fieldPin rfl fieldB_24_0_0 (SOps.loadPin rfl flatB_22 (SOps.lenM rfl sliceB_22_9_1 (SOps.subI rfl rfl (by first | omega | (simp only [lenB]; omega) | (simp only [List.length_map, lenB]; omega) | (simp; done)) (by first | omega | (simp only [lenB]; omega) | (simp only [List.length_map, lenB]; omega) | (simp; done)) (SOps.assign rfl (SOps.nil (SCode.seqR ?_)))))))
      obtain ⟨g, hg⟩ : ∃ g : Nat, (ln.words.length : Int) - 1 = (g : Int) := ⟨ln.words.length - 1, by omega⟩
      have hgl0 : g < ln.words.length := by omega
      refine SOps.reSlot (t := 10) rfl (show _ = DV.v (.int .i64 (g : Int)) from congrArg (fun z => DV.v (.int .i64 z)) hg) (SOps.fieldPin rfl fieldB_24_0_0 (SOps.loadPin rfl flatB_22 (SOps.indexM (0) rfl rfl sliceB_22_9_1 (by first | omega | (simp only [lenB]; omega) | (simp only [List.length_map, lenB]; omega) | (simp; done)) (by first | omega | (simp only [lenB]; omega) | (simp only [List.length_map, lenB]; omega) | (simp; done)) (SOps.loadPin rfl flatB_9 (SOps.assign rfl (SOps.nil (SCode.seq (SCode.seqR (SOps.reSlot (t := 11) (d' := .v (.string (sprK ln.words g m 0 ++ ln.words.getD 0 .empty))) rfl (by congr 2; show _ = ByteArray.empty ++ _; rw [ByteArray.empty_append, getD_w (by omega)]) (SOps.assign rfl (SOps.nil (SCode.block (SCode.loop1 (fun (i : Nat) => (⟨81, [(3, .ipin (encLn ln)), (9, .v (.int .i64 (m : Int))), (10, .v (.int .i64 (g : Int))), (11, .v (.string (sprK ln.words g m i ++ ln.words.getD i .empty))), (12, .v (.int .i64 (i : Int)))], []⟩ : St)) (fun (i : Nat) => i ≤ g) (fun (i : Nat) => g - i) (0) (by exact Nat.zero_le _) (St.Le.of ⟨(by first | rfl | (show some _ = some _; simp)), (by first | rfl | (show some _ = some _; simp)), (by first | rfl | (show some _ = some _; simp)), (by first | rfl | (show some _ = some _; simp)), (by first | rfl | (show some _ = some _; simp)), trivial⟩ rfl (by first | rfl | (simp))) ?_)))))))))))))
      rintro i hi
      refine SCode.seq (SCode.seqR (SOps.move rfl (SOps.move rfl (SOps.bin rfl rfl rfl (SOps.nil ?_)))))
      refine SCode.cond rfl (fun hc6 => ?_) (fun hc6 => ?_)
      ·try simp only [nmL] at hc6
       refine SCode.skip ?_
       show SCode _ _ _ _
       refine SCode.seq (SCode.block (SCode.seqR ?_))
       have hil : i < g := by omega
       have hdl := Nat.div_le_self m g
       have hdn : (0 : Int) ≤ ((m / g : Nat) : Int) := Int.natCast_nonneg _
       refine SOps.move rfl (SOps.move rfl (SOps.quoN (m) (g) rfl rfl rfl rfl (by first | omega | (simp only [lenB]; omega) | (simp only [List.length_map, lenB]; omega) | (simp; done)) (has_div (by first | omega | (simp only [lenB]; omega) | (simp only [List.length_map, lenB]; omega) | (simp; done))) (SOps.addI rfl rfl (by first | omega | (simp only [lenB]; omega) | (simp only [List.length_map, lenB]; omega) | (simp; done)) (by first | omega | (simp only [lenB]; omega) | (simp only [List.length_map, lenB]; omega) | (simp; done)) (SOps.assign rfl (SOps.nil (SCode.seq (SCode.seqR (SOps.move rfl (SOps.move rfl (SOps.move rfl (SOps.remN (m) (g) rfl rfl rfl rfl (by first | omega | (simp only [lenB]; omega) | (simp only [List.length_map, lenB]; omega) | (simp; done)) (has_mod (by first | omega | (simp only [lenB]; omega) | (simp only [List.length_map, lenB]; omega) | (simp; done))) (SOps.bin rfl rfl rfl (SOps.nil ?_)))))))))))))
       refine SCode.cond rfl (fun hc7 => ?_) (fun hc7 => ?_)
       ·try simp only [nmL] at hc7
        refine SCode.region (SOps.move rfl (SOps.addI rfl rfl (by first | omega | (simp only [lenB]; omega) | (simp only [List.length_map, lenB]; omega) | (simp; done)) (by first | omega | (simp only [lenB]; omega) | (simp only [List.length_map, lenB]; omega) | (simp; done)) (SOps.assign rfl (SOps.nil ?_))))
        show SCode _ _ _ _
        refine SCode.reSlot (t := 13) rfl (show _ = DV.v (.int .i64 ((gapN m g i : Nat) : Int)) from congrArg (fun z => DV.v (.int .i64 z)) (by unfold gapN; first | (rw [if_pos (by omega)]; omega) | (rw [if_neg (by omega)]; omega))) ?_
        have hgb := blB_size (gapN m g i)
        have hgl := gapN_le (m := m) (g := g) (i := i) (by omega)
        have hss := sprK_size (g := g) (show m ≤ 200 by omega) hw i
        have hwi : (ln.words.getD i .empty).size ≤ 1048576 := by rw [getD_w (by omega)]; exact hw _ (List.getElem_mem _)
        have hwi1 : (ln.words[i + 1]).size ≤ 1048576 := hw _ (List.getElem_mem _)
        apply SCode.drawAuto mixed_ [65, 66, 67, 68, 69, 70, 71, 72, 73, 74, 75, 11] [[.inr 11], [.inr 13], [.inl 1], [.inl 0, .inl 2], [.inr 3], [.inl 4], [.inr 12], [.inl 6], [.inl 5, .inl 7], [.inl 8], [.inl 3, .inl 9], [.inl 10]]
        ·kernel_rfl
        ·kernel_rfl
        ·apply DOk.cons 65 
         ·rfl
         ·exact (NeedIs.inr _ rfl NeedIs.nil)
         ·intro rest
          refine SOps.move rfl ?_
          exact SOps.nil rfl
         apply DOk.cons 66 
         ·rfl
         ·exact (NeedIs.inr _ rfl NeedIs.nil)
         ·intro rest
          refine SOps.move rfl ?_
          exact SOps.nil rfl
         apply DOk.cons 67 
         ·rfl
         ·exact (NeedIs.inl 0 _ _ rfl rfl NeedIs.nil)
         ·intro rest
          refine SOps.callP (q50blanks (gapN m g i) (by omega)) rfl ?_
          rintro _ rfl
          exact SOps.nil rfl
         apply DOk.cons 68 
         ·rfl
         ·exact (NeedIs.inl 2 _ _ rfl rfl (NeedIs.inl 0 _ _ rfl rfl NeedIs.nil))
         ·intro rest
          refine SOps.concat rfl rfl (by first | (simp only [lenB, ByteArray.size_append, blB_size]; omega) | (show _ + _ ≤ _; simp only [lenB]; omega)) ?_
          exact SOps.nil rfl
         apply DOk.cons 69 
         ·rfl
         ·exact (NeedIs.inr _ rfl NeedIs.nil)
         ·intro rest
          refine SOps.fieldPin rfl fieldB_24_0_0 ?_
          exact SOps.nil rfl
         apply DOk.cons 70 
         ·rfl
         ·exact (NeedIs.inl 0 _ _ rfl rfl NeedIs.nil)
         ·intro rest
          refine SOps.loadPin rfl flatB_22 ?_
          exact SOps.nil rfl
         apply DOk.cons 71 
         ·rfl
         ·exact (NeedIs.inr _ rfl NeedIs.nil)
         ·intro rest
          refine SOps.move rfl ?_
          exact SOps.nil rfl
         apply DOk.cons 72 
         ·rfl
         ·exact (NeedIs.inl 0 _ _ rfl rfl NeedIs.nil)
         ·intro rest
          refine SOps.addI rfl rfl (by first | omega | (simp only [lenB]; omega) | (simp only [List.length_map, lenB]; omega) | (simp; done)) (by first | omega | (simp only [lenB]; omega) | (simp only [List.length_map, lenB]; omega) | (simp; done)) ?_
          exact SOps.nil rfl
         apply DOk.cons 73 
         ·rfl
         ·exact (NeedIs.inl 2 _ _ rfl rfl (NeedIs.inl 0 _ _ rfl rfl NeedIs.nil))
         ·intro rest
          refine SOps.indexM (i + 1) rfl rfl sliceB_22_9_1 (by first | omega | (simp only [lenB]; omega) | (simp only [List.length_map, lenB]; omega) | (simp; done)) (by first | omega | (simp only [lenB]; omega) | (simp only [List.length_map, lenB]; omega) | (simp; done)) ?_
          exact SOps.nil rfl
         apply DOk.cons 74 
         ·rfl
         ·exact (NeedIs.inl 0 _ _ rfl rfl NeedIs.nil)
         ·intro rest
          refine SOps.loadPin rfl flatB_9 ?_
          exact SOps.nil rfl
         apply DOk.cons 75 
         ·rfl
         ·exact (NeedIs.inl 6 _ _ rfl rfl (NeedIs.inl 0 _ _ rfl rfl NeedIs.nil))
         ·intro rest
          refine SOps.concat rfl rfl (by first | (simp only [lenB, ByteArray.size_append, blB_size]; omega) | (show _ + _ ≤ _; simp only [lenB]; omega)) ?_
          exact SOps.nil rfl
         apply DOk.cons 11 
         ·rfl
         ·exact (NeedIs.inl 0 _ _ rfl rfl NeedIs.nil)
         ·intro rest
          refine SOps.assign rfl ?_
          exact SOps.nil rfl
         exact DOk.nil
        ·rfl
        ·show SCode _ _ _ _
         refine SCode.region (SOps.move rfl (SOps.addI rfl rfl (by first | omega | (simp only [lenB]; omega) | (simp only [List.length_map, lenB]; omega) | (simp; done)) (by first | omega | (simp only [lenB]; omega) | (simp only [List.length_map, lenB]; omega) | (simp; done)) (SOps.assign rfl (SOps.nil ?_))))
         exact ⟨i + 1, by omega, by omega, St.Le.of ⟨rfl, rfl, rfl, (by show some _ = some _; rw [getD_w (show i < ln.words.length by omega), sprK_at (by omega) hil, getD_w (show i + 1 < ln.words.length by omega)]), rfl, trivial⟩⟩
       ·try simp only [nmL] at hc7
        refine SCode.skip ?_
        show SCode _ _ _ _
        refine SCode.reSlot (t := 13) rfl (show _ = DV.v (.int .i64 ((gapN m g i : Nat) : Int)) from congrArg (fun z => DV.v (.int .i64 z)) (by unfold gapN; first | (rw [if_pos (by omega)]; omega) | (rw [if_neg (by omega)]; omega))) ?_
        have hgb := blB_size (gapN m g i)
        have hgl := gapN_le (m := m) (g := g) (i := i) (by omega)
        have hss := sprK_size (g := g) (show m ≤ 200 by omega) hw i
        have hwi : (ln.words.getD i .empty).size ≤ 1048576 := by rw [getD_w (by omega)]; exact hw _ (List.getElem_mem _)
        have hwi1 : (ln.words[i + 1]).size ≤ 1048576 := hw _ (List.getElem_mem _)
        apply SCode.drawAuto mixed_ [65, 66, 67, 68, 69, 70, 71, 72, 73, 74, 75, 11] [[.inr 11], [.inr 13], [.inl 1], [.inl 0, .inl 2], [.inr 3], [.inl 4], [.inr 12], [.inl 6], [.inl 5, .inl 7], [.inl 8], [.inl 3, .inl 9], [.inl 10]]
        ·kernel_rfl
        ·kernel_rfl
        ·apply DOk.cons 65 
         ·rfl
         ·exact (NeedIs.inr _ rfl NeedIs.nil)
         ·intro rest
          refine SOps.move rfl ?_
          exact SOps.nil rfl
         apply DOk.cons 66 
         ·rfl
         ·exact (NeedIs.inr _ rfl NeedIs.nil)
         ·intro rest
          refine SOps.move rfl ?_
          exact SOps.nil rfl
         apply DOk.cons 67 
         ·rfl
         ·exact (NeedIs.inl 0 _ _ rfl rfl NeedIs.nil)
         ·intro rest
          refine SOps.callP (q50blanks (gapN m g i) (by omega)) rfl ?_
          rintro _ rfl
          exact SOps.nil rfl
         apply DOk.cons 68 
         ·rfl
         ·exact (NeedIs.inl 2 _ _ rfl rfl (NeedIs.inl 0 _ _ rfl rfl NeedIs.nil))
         ·intro rest
          refine SOps.concat rfl rfl (by first | (simp only [lenB, ByteArray.size_append, blB_size]; omega) | (show _ + _ ≤ _; simp only [lenB]; omega)) ?_
          exact SOps.nil rfl
         apply DOk.cons 69 
         ·rfl
         ·exact (NeedIs.inr _ rfl NeedIs.nil)
         ·intro rest
          refine SOps.fieldPin rfl fieldB_24_0_0 ?_
          exact SOps.nil rfl
         apply DOk.cons 70 
         ·rfl
         ·exact (NeedIs.inl 0 _ _ rfl rfl NeedIs.nil)
         ·intro rest
          refine SOps.loadPin rfl flatB_22 ?_
          exact SOps.nil rfl
         apply DOk.cons 71 
         ·rfl
         ·exact (NeedIs.inr _ rfl NeedIs.nil)
         ·intro rest
          refine SOps.move rfl ?_
          exact SOps.nil rfl
         apply DOk.cons 72 
         ·rfl
         ·exact (NeedIs.inl 0 _ _ rfl rfl NeedIs.nil)
         ·intro rest
          refine SOps.addI rfl rfl (by first | omega | (simp only [lenB]; omega) | (simp only [List.length_map, lenB]; omega) | (simp; done)) (by first | omega | (simp only [lenB]; omega) | (simp only [List.length_map, lenB]; omega) | (simp; done)) ?_
          exact SOps.nil rfl
         apply DOk.cons 73 
         ·rfl
         ·exact (NeedIs.inl 2 _ _ rfl rfl (NeedIs.inl 0 _ _ rfl rfl NeedIs.nil))
         ·intro rest
          refine SOps.indexM (i + 1) rfl rfl sliceB_22_9_1 (by first | omega | (simp only [lenB]; omega) | (simp only [List.length_map, lenB]; omega) | (simp; done)) (by first | omega | (simp only [lenB]; omega) | (simp only [List.length_map, lenB]; omega) | (simp; done)) ?_
          exact SOps.nil rfl
         apply DOk.cons 74 
         ·rfl
         ·exact (NeedIs.inl 0 _ _ rfl rfl NeedIs.nil)
         ·intro rest
          refine SOps.loadPin rfl flatB_9 ?_
          exact SOps.nil rfl
         apply DOk.cons 75 
         ·rfl
         ·exact (NeedIs.inl 6 _ _ rfl rfl (NeedIs.inl 0 _ _ rfl rfl NeedIs.nil))
         ·intro rest
          refine SOps.concat rfl rfl (by first | (simp only [lenB, ByteArray.size_append, blB_size]; omega) | (show _ + _ ≤ _; simp only [lenB]; omega)) ?_
          exact SOps.nil rfl
         apply DOk.cons 11 
         ·rfl
         ·exact (NeedIs.inl 0 _ _ rfl rfl NeedIs.nil)
         ·intro rest
          refine SOps.assign rfl ?_
          exact SOps.nil rfl
         exact DOk.nil
        ·rfl
        ·show SCode _ _ _ _
         refine SCode.region (SOps.move rfl (SOps.addI rfl rfl (by first | omega | (simp only [lenB]; omega) | (simp only [List.length_map, lenB]; omega) | (simp; done)) (by first | omega | (simp only [lenB]; omega) | (simp only [List.length_map, lenB]; omega) | (simp; done)) (SOps.assign rfl (SOps.nil ?_))))
         exact ⟨i + 1, by omega, by omega, St.Le.of ⟨rfl, rfl, rfl, (by show some _ = some _; rw [getD_w (show i < ln.words.length by omega), sprK_at (by omega) hil, getD_w (show i + 1 < ln.words.length by omega)]), rfl, trivial⟩⟩
      ·try simp only [nmL] at hc6
       refine SCode.exit ?_
       show SCode _ _ _ _
       refine SCode.seq (SCode.seqR (SOps.fieldPin rfl fieldB_24_1_1 (SOps.loadPin rfl flatB_4 (SOps.nil ?_))))
       refine SCode.cond rfl (fun hc8 => ?_) (fun hc8 => ?_)
       ·try simp only [nmL] at hc8
        refine SCode.region ?_
        have hss := sprK_size (g := g) (show m ≤ 200 by omega) hw i
        have hwi : (ln.words.getD i .empty).size ≤ 1048576 := by rw [getD_w (by omega)]; exact hw _ (List.getElem_mem _)
        have hsz2 : (sprK ln.words g m i ++ ln.words.getD i .empty).size ≤ (1048576 + 202) * i + 1048576 := by rw [ByteArray.size_append]; omega
        have h45 : (⟨#[45]⟩ : ByteArray).size = 1 := rfl
        refine SOps.move rfl (SOps.concat rfl rfl (by first | (simp only [lenB, ByteArray.size_append, blB_size]; omega) | (show _ + _ ≤ _; simp only [lenB]; omega)) (SOps.assign rfl (SOps.nil ?_)))
        show SCode _ _ _ _
        refine SCode.seqR (SOps.move rfl (SOps.assign rfl (SOps.assign rfl (SOps.nil (SCode.ret ?_)))))
        have hx : sprL ln m = (sprK ln.words g m g ++ ln.words.getD g .empty) ++ hy1 := by unfold sprL; rw [if_pos (by simp_all), show ln.words.length - 1 = g by omega, getD_w hgl0, sprK_end hgl0, show g + 1 = ln.words.length by omega]
        obtain rfl : i = g := by omega
        exact ⟨_, Res.two (.tmp rfl) (.tmp rfl), (by rw [spread_gaps hgood hm (by simp_all) (by omega), hx]; rfl), rfl⟩
       ·try simp only [nmL] at hc8
        refine SCode.skip ?_
        show SCode _ _ _ _
        refine SCode.seqR (SOps.move rfl (SOps.assign rfl (SOps.assign rfl (SOps.nil (SCode.ret ?_)))))
        have hx : sprL ln m = (sprK ln.words g m g ++ ln.words.getD g .empty) := by unfold sprL; rw [if_neg (by simp_all), show ln.words.length - 1 = g by omega, getD_w hgl0, sprK_end hgl0, show g + 1 = ln.words.length by omega]
        obtain rfl : i = g := by omega
        exact ⟨_, Res.two (.tmp rfl) (.tmp rfl), (by rw [spread_gaps hgood hm (by simp_all) (by omega), hx]; rfl), rfl⟩
end Go.GH
namespace Go.GH
open Go Go.Lib Go.Proofs Go.RowKit
def unY : List (List DV) → Option (List UInt8)
  | [] => some []
  | [.v (.int .u8 (.ofNat n))] :: l => bif Nat.blt n 256 then (unY l).map (UInt8.ofNat n :: ·) else none
  | _ => none
def unS : List (List DV) → Option (List ByteArray)
  | [] => some []
  | [.v (.string s)] :: l => (unS l).map (s :: ·)
  | _ => none
theorem unY_eq : ∀ {es : List (List DV)} {bs : List UInt8}, unY es = some bs → es = bs.map encY
  | [], bs, h => by unfold unY at h; cases h; rfl
  | e :: l, bs, h => by
    unfold unY at h
    split at h
    · rename_i h0; cases h0
    · rename_i n l' h0
      simp only [List.cons.injEq] at h0
      obtain ⟨rfl, rfl⟩ := h0
      rcases bif_ite h with ⟨hf, h⟩ | ⟨_, h⟩
      · obtain ⟨bs', h1, rfl⟩ := Option.map_eq_some_iff.1 h
        have hn : n < 256 := by simpa using hf
        rw [unY_eq h1]
        show _ = encY (UInt8.ofNat n) :: _
        unfold encY
        rw [show ((UInt8.ofNat n).toNat : Int) = Int.ofNat n by simp; omega]
      · cases h
    · cases h
theorem unS_eq : ∀ {es : List (List DV)} {ws : List ByteArray}, unS es = some ws → es = ws.map encS
  | [], bs, h => by unfold unS at h; cases h; rfl
  | e :: l, bs, h => by
    unfold unS at h
    split at h
    · rename_i h0; cases h0
    · rename_i n l' h0
      simp only [List.cons.injEq] at h0
      obtain ⟨rfl, rfl⟩ := h0
      obtain ⟨bs', h1, rfl⟩ := Option.map_eq_some_iff.1 h
      rw [unS_eq h1]
      rfl
    · cases h
theorem RLL.map_v {ρ : Rn} {α : Type} {f : α → List DV} (hf : ∀ a, ∃ x, f a = [.v x]) : ∀ {l : List α} {es : List (List DV)}, RLL ρ (l.map f) es → es = l.map f
  | [], es, h => h.inv_nil
  | a :: l, es, h => by
    obtain ⟨b, t, rfl, h1, h2⟩ := PWl.inv_cons h
    obtain ⟨x, hx⟩ := hf a
    rw [hx] at h1
    rw [RL1 h1, RLL.map_v hf h2, List.map_cons, hx]
theorem RLL.self_v {ρ : Rn} {α : Type} {f : α → List DV} (hf : ∀ a, ∃ x, f a = [.v x]) (l : List α) : RLL ρ (l.map f) (l.map f) := PWl.refl (fun e he => by
  obtain ⟨a, _, rfl⟩ := List.mem_map.1 he
  obtain ⟨x, hx⟩ := hf a
  rw [hx]
  exact RL.self (fun d hd => ⟨x, by simpa using hd⟩))
theorem encY_v (y : UInt8) : ∃ x, encY y = [.v x] := ⟨_, rfl⟩
theorem encS_v (s : ByteArray) : ∃ x, encS s = [.v x] := ⟨_, rfl⟩

/-! ### a builder -/
def okX (b : Nat) : DV → Bool
  | .v (.pointer none) => true
  | .vref b2 86 2 => Nat.beq b2 b
  | _ => false
def bldE (hp : Nat → Option DO) (b : Nat) : Option (List UInt8 × Option Nat) := match hp b with
  | some (.row 86 2 [[x, acc]]) => bif okX b x then (match acc with
    | .v (.slice none 0 0) => some ([], none)
    | .sl g 1 0 n => (match hp g with
      | some (.row 5 1 es) => (match unY es with
        | some (y :: bs) => bif Nat.beq n (bs.length + 1) then some (y :: bs, some g) else none
        | _ => none)
      | _ => none)
    | _ => none) else none
  | _ => none
theorem okX_rd {ρ : Rn} {b b' : Nat} {x x' : DV} (h : okX b x = true) (hb : ρ b = some b') (hr : RD ρ x x') : ∃ used, x' = adrB b' used := by
  unfold okX at h
  split at h
  · exact ⟨false, hr.inv_v⟩
  · obtain ⟨b2, rfl, h2⟩ := hr.inv_vref
    obtain rfl := Nat.eq_of_beq_eq_true h
    rw [hb] at h2
    obtain rfl := Option.some.inj h2
    exact ⟨true, rfl⟩
  · cases h
/-- What an abstract heap holds where the evaluator's holds a builder. -/
theorem bldE_ok {hp : Nat → Option DO} {b : Nat} {bs : List UInt8} {og : Option Nat} (h : bldE hp b = some (bs, og)) :
    hp b ≠ none ∧ (∀ g, og = some g → hp g ≠ none ∧ g ≠ b) ∧ (og = none → bs = []) ∧ ∀ ρ H b', CovH ρ hp H → ρ b = some b' → ∃ g' used G, (bldH b' g' used bs ++ G).Perm H ∧ (∀ p ∈ bldH b' g' used bs, p.1 = b' ∨ ∃ g, og = some g ∧ ρ g = some p.1) := by
  unfold bldE at h
  split at h
  · rename_i x acc hb
    rcases bif_ite h with ⟨hx, h⟩ | ⟨_, h⟩
    · split at h
      · cases h
        refine ⟨by rw [hb]; simp, (fun g h => by cases h), (fun _ => rfl), fun ρ H b' hc hbb => ?_⟩
        obtain ⟨b2, o', e1, e2, e3⟩ := hc.obj b _ hb
        rw [hbb] at e1
        obtain rfl := Option.some.inj e1
        cases e3 with
        | row h =>
          obtain ⟨r, t, rfl, h1, h2⟩ := PWl.inv_cons h
          obtain rfl := PWl.inv_nil h2
          obtain ⟨x', t, rfl, h3, h4⟩ := PWl.inv_cons h1
          obtain ⟨a', t, rfl, h5, h6⟩ := PWl.inv_cons h4
          obtain rfl := PWl.inv_nil h6
          rw [h5.inv_v] at e2
          obtain ⟨used, rfl⟩ := okX_rd hx hbb h3
          obtain ⟨G, hG⟩ := perm_one e2
          exact ⟨0, used, G, hG, fun p hp => .inl (by rw [List.mem_singleton.1 hp])⟩
      · rename_i g n hh
        clear hh
        split at h
        · rename_i es hg
          split at h
          · rename_i y bs0 hu
            rcases bif_ite h with ⟨hn, h⟩ | ⟨_, h⟩
            · cases h
              have hgb : g ≠ b := fun e => by rw [e, hb] at hg; cases hg
              refine ⟨by rw [hb]; simp, (fun g2 h2 => by cases h2; exact ⟨by rw [hg]; simp, hgb⟩), (fun h => by cases h), fun ρ H b' hc hbb => ?_⟩
              obtain rfl := Nat.eq_of_beq_eq_true hn
              obtain ⟨b2, o', e1, e2, e3⟩ := hc.obj b _ hb
              rw [hbb] at e1
              obtain rfl := Option.some.inj e1
              obtain ⟨g', og', k1, k2, k3⟩ := hc.obj g _ hg
              cases e3 with
              | row h =>
                obtain ⟨r, t, rfl, h1, h2⟩ := PWl.inv_cons h
                obtain rfl := PWl.inv_nil h2
                obtain ⟨x', t, rfl, h3, h4⟩ := PWl.inv_cons h1
                obtain ⟨a', t, rfl, h5, h6⟩ := PWl.inv_cons h4
                obtain rfl := PWl.inv_nil h6
                obtain ⟨g2, rfl, h7⟩ := h5.inv_sl
                rw [k1] at h7
                obtain rfl := Option.some.inj h7
                obtain ⟨used, rfl⟩ := okX_rd hx hbb h3
                cases k3 with
                | row hk =>
                  rw [unY_eq hu] at hk
                  obtain rfl := RLL.map_v encY_v hk
                  obtain ⟨G, hG⟩ := perm_two e2 k2 (fun e => by
                    have := congrArg Prod.fst e
                    simp only at this
                    subst this
                    exact hgb (hc.inj g b _ _ _ hg hb k1 hbb))
                  refine ⟨g', used, G, ?_, fun p hp => ?_⟩
                  · refine (List.Perm.of_eq ?_).trans hG
                    show [_, _] ++ G = _
                    simp [bldH, accD, List.length_map]
                  · rcases List.mem_cons.1 hp with h | h
                    · exact .inl (by rw [h])
                    · rw [List.mem_singleton.1 h]; exact .inr ⟨g, rfl, k1⟩
            · cases h
          · cases h
        · cases h
      · cases h
    · cases h
  · cases h
end Go.GH
namespace Go.GH
open Go Go.Lib Go.Proofs Go.RowKit
def newB (nx b : Nat) (bs : List UInt8) (og : Option Nat) : List (Nat × Option DO) := match bs with
  | [] => [(b, some (.row 86 2 [[.vref b 86 2, .v (.slice none 0 0)]]))]
  | y :: l => (nx, some (.row 5 1 ((y :: l).map encY))) :: ((match og with | some g => [(g, none)] | none => []) ++ [(b, some (.row 86 2 [[.vref b 86 2, .sl nx 1 0 (l.length + 1)]]))])
theorem blt_of {a c : Nat} (h : a < c) : Nat.blt a c = true := by simpa using h
theorem newB_facts {hp : Tr DO} {nx b : Nat} {bs : List UInt8} {og : Option Nat} (hcap : Nat.blt nx capE = true) (hb : b < nx) (hg : ∀ g, og = some g → g < nx ∧ g ≠ b ∧ bs ≠ []) :
    (upsE hp (newB nx b bs og)).get b = some (.row 86 2 [[.vref b 86 2, accD 1 nx (bs.map encY)]]) ∧ (bs ≠ [] → (upsE hp (newB nx b bs og)).get nx = some (.row 5 1 (bs.map encY)) ∧ nx ∈ (newB nx b bs og).map (·.1)) ∧ (∀ g, og = some g → (upsE hp (newB nx b bs og)).get g = none ∧ g ∈ (newB nx b bs og).map (·.1)) ∧
    b ∈ (newB nx b bs og).map (·.1) ∧ (∀ k ∈ (newB nx b bs og).map (·.1), k = b ∨ (k = nx ∧ bs ≠ []) ∨ og = some k) ∧ ∀ k, k ∉ (newB nx b bs og).map (·.1) → (upsE hp (newB nx b bs og)).get k = hp.get k := by
  have hnc : nx < capE := by simpa using hcap
  have cb : Nat.blt b capE = true := blt_of (by omega)
  cases bs with
  | nil =>
    cases og with
    | some g => exact absurd rfl (hg g rfl).2.2
    | none =>
      have key : ∀ j, (upsE hp (newB nx b [] none)).get j = if j = b then some (.row 86 2 [[.vref b 86 2, .v (.slice none 0 0)]]) else hp.get j := fun j => put_get _ _ _ cb
      refine ⟨by rw [key, if_pos rfl]; rfl, fun h => absurd rfl h, (fun g h => by cases h), List.mem_singleton.2 rfl, fun k hk => .inl (List.mem_singleton.1 hk), fun k hk => ?_⟩
      rw [key, if_neg (fun e => hk (List.mem_singleton.2 e))]
  | cons y l =>
    cases og with
    | none =>
      have key : ∀ j, (upsE hp (newB nx b (y :: l) none)).get j = if j = b then some (.row 86 2 [[.vref b 86 2, .sl nx 1 0 (l.length + 1)]]) else if j = nx then some (.row 5 1 ((y :: l).map encY)) else hp.get j := fun j => (put_get _ _ _ cb).trans (by rw [put_get _ _ _ hcap])
      refine ⟨by rw [key, if_pos rfl]; simp [accD], fun _ => ⟨by rw [key, if_neg (by omega), if_pos rfl], List.mem_cons_self ..⟩, (fun g h => by cases h), List.mem_cons_of_mem _ (List.mem_singleton.2 rfl), fun k hk => ?_, fun k hk => ?_⟩
      · rcases List.mem_cons.1 hk with h | h
        · exact .inr (.inl ⟨h, by simp⟩)
        · exact .inl (List.mem_singleton.1 h)
      · rw [key, if_neg (fun e => hk (by rw [e]; exact List.mem_cons_of_mem _ (List.mem_singleton.2 rfl))), if_neg (fun e => hk (by rw [e]; exact List.mem_cons_self ..))]
    | some g =>
      obtain ⟨g1, g2, _⟩ := hg g rfl
      have cg : Nat.blt g capE = true := blt_of (by omega)
      have key : ∀ j, (upsE hp (newB nx b (y :: l) (some g))).get j = if j = b then some (.row 86 2 [[.vref b 86 2, .sl nx 1 0 (l.length + 1)]]) else if j = g then none else if j = nx then some (.row 5 1 ((y :: l).map encY)) else hp.get j := fun j => (put_get _ _ _ cb).trans (by rw [put_get _ _ _ cg, put_get _ _ _ hcap])
      have hm : ∀ k, k ∈ (newB nx b (y :: l) (some g)).map (·.1) ↔ k = nx ∨ k = g ∨ k = b := fun k => by simp [newB]
      refine ⟨by rw [key, if_pos rfl]; simp [accD], fun _ => ⟨by rw [key, if_neg (by omega), if_neg (by omega), if_pos rfl], (hm _).2 (.inl rfl)⟩, fun g' h => ?_, (hm _).2 (.inr (.inr rfl)), fun k hk => ?_, fun k hk => ?_⟩
      · cases h
        exact ⟨by rw [key, if_neg g2, if_pos rfl], (hm _).2 (.inr (.inl rfl))⟩
      · rcases (hm k).1 hk with h | h | h
        · exact .inr (.inl ⟨h, by simp⟩)
        · exact .inr (.inr (by rw [h]))
        · exact .inl h
      · have := fun x => hk ((hm k).2 x)
        rw [key, if_neg (fun e => this (.inr (.inr e))), if_neg (fun e => this (.inr (.inl e))), if_neg (fun e => this (.inl e))]
theorem bldStep {f : FuncId} {xs : List DV} {d : DV} {hp : Tr DO} {nx b : Nat} {bs bs2 : List UInt8} {og : Option Nat} (hxs : ∀ ρ ys, RL ρ xs ys → ys = xs) (hd : ∀ ρ, RD ρ d d)
    (hcon : ∀ b g used, GCall Tryz.prog E50 f (.vref b 86 2 :: xs) (bldH b g used bs) (fun d' H => ∃ g', d' = d ∧ H = bldH b g' true bs2)) (h0 : bs2 = [] → bs = []) (hb : bldE hp.get b = some (bs, og)) (hcap : Nat.blt nx capE = true) (wf : WF hp.get nx) :
    OkH f (.vref b 86 2 :: xs) hp nx d (newB nx b bs2 og) (nx + 1) := by
  obtain ⟨k1, k2, k3, k4⟩ := bldE_ok hb
  have hbn := wf b k1
  have hgs : ∀ g, og = some g → g < nx ∧ g ≠ b ∧ bs2 ≠ [] := fun g e => ⟨wf g (k2 g e).1, (k2 g e).2, fun e2 => by
    have hbs := h0 e2
    subst hbs
    unfold bldE at hb
    split at hb
    · rcases bif_ite hb with ⟨_, hb⟩ | ⟨_, hb⟩
      · split at hb
        · cases hb; cases e
        · split at hb
          · split at hb
            · rcases bif_ite hb with ⟨_, hb⟩ | ⟨_, hb⟩
              · cases hb
              · cases hb
            · cases hb
          · cases hb
        · cases hb
      · cases hb
    · cases hb⟩
  obtain ⟨f1, f2, f3, f4, f5, f6⟩ := newB_facts (hp := hp) hcap hbn hgs
  refine ⟨⟨by omega, fun k hk hlt => ?_, fun k hk => ?_, f6⟩, fun ρ dsA H hc hf hR => ?_⟩
  · rcases f5 k hk with h | ⟨h, _⟩ | h
    · rw [h]; exact k1
    · omega
    · exact (k2 k h).1
  · rcases f5 k hk with h | ⟨h, _⟩ | h
    · omega
    · omega
    · have := (hgs k h).1; omega
  · obtain ⟨b1, t, rfl, h1, h2⟩ := hR.inv_cons
    obtain ⟨b', rfl, hbb⟩ := h1.inv_vref
    obtain rfl := hxs _ _ h2
    obtain ⟨g', used, G, hperm, hkeys⟩ := k4 ρ H b' hc hbb
    refine (GCall.frameP hperm (hcon b' g' used)).mono ?_
    rintro d' H' ⟨_, ⟨g2, rfl, rfl⟩, rfl, hnd⟩
    simp only at hf
    refine ⟨fun k => if k = nx then (if bs2 = [] then none else some g2) else ρ k, ⟨fun k hk => if_neg (fun e => hk ⟨by omega, by rw [e]; exact Nat.lt_succ_self _⟩), fun p hp hun => ?_, fun k hk o ho => ?_, ?_⟩, hd _⟩
    · have hpG : p ∈ G := by
        rcases List.mem_append.1 (hperm.mem_iff.2 hp) with h | h
        · rcases hkeys p h with h9 | ⟨g, hg, h9⟩
          · exact absurd (by rw [h9]; exact hbb) (hun b f4 hbn)
          · exact absurd h9 (hun g (f3 g hg).2 (hgs g hg).1)
        · exact h
      refine ⟨List.mem_append_right _ hpG, fun k c q1 q2 e => ?_⟩
      have e' : k = nx := by have : k < nx + 1 := q2; omega
      rw [if_pos e'] at e
      split at e
      · cases e
      · rename_i hne
        obtain rfl := Option.some.inj e
        intro e9
        rw [List.map_append, List.nodup_append] at hnd
        exact hnd.2.2 g2 (by
          unfold bldH
          rw [accH_ne (by rw [List.length_map]; exact List.length_pos_iff.2 hne)]
          simp) p.1 (List.mem_map.2 ⟨p, hpG, rfl⟩) e9
    · rcases f5 k hk with h | ⟨h, hne⟩ | h
      · subst h
        simp only at ho
        rw [f1] at ho
        obtain rfl := Option.some.inj ho
        refine ⟨b', .row 86 2 [[.vref b' 86 2, accD 1 g2 (bs2.map encY)]], by rw [if_neg (by omega)]; exact hbb, List.mem_append_left _ (List.mem_cons_self ..), .row (PWl.cons (PWl.cons (RD.vref (by show (if k = nx then _ else ρ k) = some b'; rw [if_neg (by omega)]; exact hbb)) (PWl.cons ?_ PWl.nil)) PWl.nil)⟩
        cases bs2 with
        | nil => exact .v _
        | cons y l => exact RD.sl (by simp)
      · subst h
        simp only at ho
        rw [(f2 hne).1] at ho
        obtain rfl := Option.some.inj ho
        refine ⟨g2, .row 5 1 (bs2.map encY), by rw [if_pos rfl, if_neg hne], List.mem_append_left _ ?_, .row (RLL.self_v encY_v _)⟩
        unfold bldH
        rw [accH_ne (by rw [List.length_map]; exact List.length_pos_iff.2 hne)]
        simp
      · simp only at ho
        rw [(f3 k h).1] at ho
        cases ho
    · have key : ∀ c, bs2 ≠ [] → b' = c → g2 = c → False := fun c hne e1 e2 => by
        subst e1; subst e2
        rw [List.map_append, List.nodup_append] at hnd
        have := hnd.1
        unfold bldH at this
        rw [accH_ne (by rw [List.length_map]; exact List.length_pos_iff.2 hne)] at this
        simp at this
      intro q1 hq1 q2 hq2 o1 o2 c e1 e2 e3 e4
      simp only at e1 e2
      rcases f5 q1 hq1 with h | ⟨h, hne⟩ | h
      · rcases f5 q2 hq2 with h' | ⟨h', hne⟩ | h'
        · rw [h, h']
        · subst h; subst h'
          rw [if_neg (by omega), hbb] at e3
          rw [if_pos rfl, if_neg hne] at e4
          exact (key c hne (Option.some.inj e3) (Option.some.inj e4)).elim
        · rw [(f3 _ h').1] at e2; cases e2
      · rcases f5 q2 hq2 with h' | ⟨h', _⟩ | h'
        · subst h; subst h'
          rw [if_neg (by omega), hbb] at e4
          rw [if_pos rfl, if_neg hne] at e3
          exact (key c hne (Option.some.inj e4) (Option.some.inj e3)).elim
        · rw [h, h']
        · rw [(f3 _ h').1] at e2; cases e2
      · rw [(f3 _ h).1] at e1; cases e1
end Go.GH
namespace Go.GH
open Go Go.Lib Go.Proofs Go.RowKit
/-- The builder's string: the builder is let go. -/
theorem bldStr {hp : Tr DO} {nx b : Nat} {bs : List UInt8} {og : Option Nat} (hl : bs.length ≤ 70368744177664) (hb : bldE hp.get b = some (bs, og)) (hcap : Nat.blt nx capE = true) (wf : WF hp.get nx) :
    OkH 43 [.vref b 86 2] hp nx (.v (.string ⟨bs.toArray⟩)) ((match og with | some g => [(g, none)] | none => []) ++ [(b, none)]) nx := by
  obtain ⟨k1, k2, k3, k4⟩ := bldE_ok hb
  have hbn := wf b k1
  have hnc : nx < capE := by simpa using hcap
  have cb : Nat.blt b capE = true := blt_of (by omega)
  obtain ⟨up, hup⟩ : ∃ up, up = ((match og with | some g => [(g, none)] | none => []) ++ [(b, none)] : List (Nat × Option DO)) := ⟨_, rfl⟩
  rw [← hup]
  have hm : ∀ k, k ∈ up.map (·.1) ↔ k = b ∨ og = some k := fun k => by
    rw [hup]
    cases og with
    | none => simp
    | some g => simp [eq_comm, or_comm]
  have key : ∀ j, (upsE hp up).get j = if j = b ∨ og = some j then none else hp.get j := fun j => by
    rw [hup]
    cases og with
    | none => exact (put_get _ _ _ cb).trans (by simp)
    | some g =>
      have cg : Nat.blt g capE = true := blt_of (by have := wf g (k2 g rfl).1; omega)
      refine (put_get _ _ _ cb).trans ?_
      rw [put_get _ _ _ cg]
      by_cases h1 : j = b
      · rw [if_pos h1, if_pos (.inl h1)]
      · rw [if_neg h1]
        by_cases h2 : j = g
        · rw [if_pos h2, if_pos (.inr (by rw [h2]))]
        · rw [if_neg h2, if_neg (by rintro (h | h); exact h1 h; exact h2 (Option.some.inj h).symm)]
  have hlive : ∀ k ∈ up.map (·.1), hp.get k ≠ none := fun k hk => by
    rcases (hm k).1 hk with h | h
    · rw [h]; exact k1
    · exact (k2 k h).1
  refine ⟨⟨Nat.le_refl _, fun k hk _ => hlive k hk, fun k hk => wf k (hlive k hk), fun k hk => by rw [key, if_neg (fun h => hk ((hm k).2 h))]⟩, fun ρ dsA H hc hf hR => ?_⟩
  obtain ⟨b1, t, rfl, h1, h2⟩ := hR.inv_cons
  obtain ⟨b', rfl, hbb⟩ := h1.inv_vref
  obtain rfl := h2.inv_nil
  obtain ⟨g', used, G, hperm, hkeys⟩ := k4 ρ H b' hc hbb
  refine (GCall.frameP hperm (bString (E := E50) b' g' used bs hl)).mono ?_
  rintro d' H' ⟨_, ⟨rfl, rfl⟩, rfl, hnd⟩
  refine ⟨ρ, ⟨fun _ _ => rfl, fun p hp hun => ⟨?_, fun k c q1 q2 => absurd q2 (Nat.not_lt.2 q1)⟩, fun k hk o ho => ?_, fun q1 hq1 q2 hq2 o1 o2 c e1 => ?_⟩, .v _⟩
  · rcases List.mem_append.1 (hperm.mem_iff.2 hp) with h | h
    · rcases hkeys p h with h9 | ⟨g, hg, h9⟩
      · exact absurd (by rw [h9]; exact hbb) (hun b ((hm b).2 (.inl rfl)) hbn)
      · exact absurd h9 (hun g ((hm g).2 (.inr hg)) (wf g (k2 g hg).1))
    · exact h
  · simp only at ho
    rw [key, if_pos ((hm k).1 hk)] at ho
    cases ho
  · simp only at e1
    rw [key, if_pos ((hm q1).1 hq1)] at e1
    cases e1
/-- strings.Join of a list that lies in a row of its own. -/
theorem joinStep {hp : Tr DO} {nx b el n : Nat} {es : List (List DV)} {ws : List ByteArray} (hb : hp.get b = some (.row el 1 es)) (hu : unS es = some ws) (hn : n = es.length) (h1 : ws.length ≤ 1048576) (h2 : ∀ w ∈ ws, w.size ≤ 1048576) :
    OkH 74 [.sl b 1 0 n, .v (.string sp1)] hp nx (.v (.string (catW ws))) [] nx := by
  refine ⟨Pure'.refl _ _, fun ρ dsA H hc hf hR => ?_⟩
  obtain ⟨b1, t, rfl, h3, h4⟩ := hR.inv_cons
  obtain ⟨b', rfl, hbb⟩ := h3.inv_sl
  obtain rfl := RL1 h4
  obtain ⟨b2, o', e1, e2, e3⟩ := hc.obj b _ hb
  rw [hbb] at e1
  obtain rfl := Option.some.inj e1
  cases e3 with
  | row h =>
    rw [unS_eq hu] at h
    obtain rfl := RLL.map_v encS_v h
    refine (GCall.thaw (ds := [.sl b' 1 0 n, .v (.string sp1)]) (H := H) (sJoin (E := E50) ws h1 h2) rfl (fun w F hH j d d' v hd hd' hr => ?_)).mono (fun d' H' ⟨e1, e2⟩ => ?_)
    · cases j with
      | zero =>
        simp only [List.getElem?_cons_zero, Option.some.injEq] at hd hd'
        subst hd; subst hd'
        rw [hn, unS_eq hu] at hr
        exact (rep_row (hH _ e2) hr).mono (fun _ _ => rfl) (fun _ _ h => h) (fun c hc => hc.imp id (fun e => by subst e; exact List.mem_map.2 ⟨_, e2, rfl⟩))
      | succ j =>
        simp only [List.getElem?_cons_succ] at hd hd'
        rw [hd] at hd'
        obtain rfl := Option.some.inj hd'
        exact hr.mono (fun _ _ => rfl) (fun _ _ h => h) (fun _ h => .inl h)
    · subst e1; subst e2
      exact ⟨ρ, Post.id (fun p hp => hp), .v _⟩
def hook50 (f : FuncId) (ds : List DV) (hp : Nat → Option DO) (nx : Nat) : Option (Option (DV × List (Nat × Option DO) × Nat)) := match ds with
  | [.vref b 86 2] => bif Nat.beq f 43 then some (match bldE hp b with
    | some (bs, og) => onE (Nat.ble bs.length 70368744177664 && Nat.blt nx capE) (.v (.string ⟨bs.toArray⟩), (match og with | some g => [(g, none)] | none => []) ++ [(b, none)], nx)
    | none => none) else none
  | [.vref b 86 2, .v (.string s)] => bif Nat.beq f 41 then some (match bldE hp b with
    | some (bs, og) => onE (Nat.ble (bs.length + s.size) 70368744177664 && Nat.blt nx capE) (.tup [.v (.int .i64 s.size), .v .nilIface], newB nx b (bs ++ s.data.toList) og, nx + 1)
    | none => none) else none
  | [.vref b 86 2, .v (.int .u8 (.ofNat n))] => bif Nat.beq f 42 then some (match bldE hp b with
    | some (bs, og) => onE (Nat.blt n 256 && (Nat.ble bs.length 70368744177664 && Nat.blt nx capE)) (.v .nilIface, newB nx b (bs ++ [UInt8.ofNat n]) og, nx + 1)
    | none => none) else none
  | [.sl b 1 0 n, .v (.string s)] => bif Nat.beq f 74 then some (match hp b with
    | some (.row _ 1 es) => (match unS es with
      | some ws => onE (isS s sp1 && (Nat.beq n es.length && (Nat.ble ws.length 1048576 && ws.all (fun w => Nat.ble w.size 1048576)))) (.v (.string (catW ws)), [], nx)
      | none => none)
    | _ => none) else none
  | _ => match hkP f ds with
    | some (some d) => some (some (d, [], nx))
    | some none => some none
    | none => none
noncomputable def K50 : Cfg := ⟨Tryz.prog, 86, hook50, fun f => Nat.beq f 99⟩
theorem hook50_ok : HookOk Tryz.prog E50 K50 := by
  intro g ds hp nx d up nx' h wf
  change hook50 g ds hp.get nx = _ at h
  unfold hook50 at h
  split at h
  · rename_i b
    rcases bif_ite h with ⟨hf, h⟩ | ⟨_, h⟩
    · obtain rfl := Nat.eq_of_beq_eq_true hf
      have h := Option.some.inj h
      split at h
      · rename_i bs og hb
        obtain ⟨hc, h⟩ := onE_some h
        cases h
        simp only [Bool.and_eq_true] at hc
        exact bldStr (Nat.le_of_ble_eq_true hc.1) hb hc.2 wf
      · cases h
    · cases h
  · rename_i b s
    rcases bif_ite h with ⟨hf, h⟩ | ⟨_, h⟩
    · obtain rfl := Nat.eq_of_beq_eq_true hf
      have h := Option.some.inj h
      split at h
      · rename_i bs og hb
        obtain ⟨hc, h⟩ := onE_some h
        cases h
        simp only [Bool.and_eq_true] at hc
        exact bldStep (xs := [.v (.string s)]) (fun ρ ys hR => RL1 hR) (fun ρ => RD.tup' (PWl.cons (.v _) (PWl.cons (.v _) PWl.nil))) (fun b g used => bWriteString b g used bs s (Nat.le_of_ble_eq_true hc.1)) (fun e => (List.append_eq_nil_iff.1 e).1) hb hc.2 wf
      · cases h
    · cases h
  · rename_i b n
    rcases bif_ite h with ⟨hf, h⟩ | ⟨_, h⟩
    · obtain rfl := Nat.eq_of_beq_eq_true hf
      have h := Option.some.inj h
      split at h
      · rename_i bs og hb
        obtain ⟨hc, h⟩ := onE_some h
        cases h
        simp only [Bool.and_eq_true] at hc
        have hn : n < 256 := by simpa using hc.1
        have hy : ((UInt8.ofNat n).toNat : Int) = Int.ofNat n := by simp; omega
        exact bldStep (xs := [.v (.int .u8 (.ofNat n))]) (fun ρ ys hR => RL1 hR) (fun ρ => .v _) (fun b g used => by have := bWriteByte (E := E50) b g used bs (UInt8.ofNat n) (Nat.le_of_ble_eq_true hc.2.1); rw [hy] at this; exact this) (fun e => (List.append_eq_nil_iff.1 e).1) hb hc.2.2 wf
      · cases h
    · cases h
  · rename_i b n s
    rcases bif_ite h with ⟨hf, h⟩ | ⟨_, h⟩
    · obtain rfl := Nat.eq_of_beq_eq_true hf
      have h := Option.some.inj h
      split at h
      · rename_i el es hb
        split at h
        · rename_i ws hu
          obtain ⟨hc, h⟩ := onE_some h
          cases h
          simp only [Bool.and_eq_true, List.all_eq_true] at hc
          obtain ⟨c1, c2, c3, c4⟩ := hc
          obtain rfl := isS_eq c1
          exact joinStep hb hu (Nat.eq_of_beq_eq_true c2) (Nat.le_of_ble_eq_true c3) (fun w hw => Nat.le_of_ble_eq_true (c4 w hw))
        · cases h
      · cases h
    · cases h
  · split at h
    · rename_i d0 hd
      cases h
      exact hkP_ok hd
    · cases h
    · cases h
end Go.GH
namespace Go.GH
open Go Go.RowKit
def optAll {α : Type} : List (Option α) → Option (List α)
  | [] => some []
  | some a :: l => (optAll l).map (a :: ·)
  | none :: _ => none
theorem optAll_map {α β : Type} {f : α → Option β} : ∀ {l : List α} {r : List β}, optAll (l.map f) = some r → PWl (fun a b => f a = some b) l r
  | [], r, h => by cases h; exact PWl.nil
  | a :: l, r, h => by
    rw [List.map_cons] at h
    cases hf : f a with
    | none => rw [hf] at h; cases h
    | some b =>
      rw [hf] at h
      obtain ⟨r', h1, rfl⟩ := Option.map_eq_some_iff.1 h
      exact PWl.cons hf (optAll_map h1)
/-- What a value reads as when all that it reaches is let go. -/
def fzE (hp : Nat → Option DO) : Nat → DV → Option DV
  | 0, _ => none
  | n + 1, d => match d with
    | .v x => some (.v x)
    | .agg ds => (optAll (ds.map (fzE hp n))).map DV.agg
    | .tup ds => (optAll (ds.map (fzE hp n))).map DV.tup
    | .isl nn sz es => (optAll (es.map (fun e => optAll (e.map (fzE hp n))))).map (DV.isl nn sz)
    | .sl b sz 0 len => (match hp b with
      | some (.row _ sz2 es) => bif Nat.beq sz sz2 && Nat.beq len es.length then (optAll (es.map (fun e => optAll (e.map (fzE hp n))))).map (DV.isl false sz) else none
      | _ => none)
    | _ => none
def noBlk : Nat → DV → Bool
  | 0, _ => false
  | n + 1, d => match d with
    | .v _ => true
    | .agg ds => ds.all (noBlk n)
    | .isl _ _ es => es.all (fun e => e.all (noBlk n))
    | _ => false
theorem noBlk_rd {ρ : Rn} : ∀ {n : Nat} {d : DV}, noBlk n d = true → RD ρ d d
  | 0, d, h => by cases h
  | n + 1, d, h => by
    unfold noBlk at h
    split at h
    · exact .v _
    · rw [List.all_eq_true] at h
      exact RD.agg' (PWl.refl (fun a ha => noBlk_rd (h a ha)))
    · rw [List.all_eq_true] at h
      exact RD.isl' (PWl.refl (fun e he => PWl.refl (fun a ha => noBlk_rd (List.all_eq_true.1 (h e he) a ha))))
    · cases h
theorem Rep.islMap {w : World} {F : Nat → Prop} {v : Value} {nn : Bool} {sz : Nat} {es es2 : List (List DV)} (h : Rep w F v (.isl nn sz es)) (hp : PWl (PWl (fun d d2 => ∀ x, Rep w F x d → Rep w F x d2)) es es2) : Rep w F v (.isl nn sz es2) := by
  have back : ∀ (i : Nat) e2, es2[i]? = some e2 → ∃ e, es[i]? = some e ∧ PWl (fun d d2 => ∀ x, Rep w F x d → Rep w F x d2) e e2 := fun i e2 h2 => by
    have hlt : i < es.length := hp.1 ▸ (List.getElem?_eq_some_iff.1 h2).1
    exact ⟨es[i], List.getElem?_eq_getElem hlt, hp.2 i _ _ (List.getElem?_eq_getElem hlt) h2⟩
  have back2 : ∀ {e e2 : List DV} (j : Nat) d2, PWl (fun d d2 => ∀ x, Rep w F x d → Rep w F x d2) e e2 → e2[j]? = some d2 → ∃ d, e[j]? = some d ∧ ∀ x, Rep w F x d → Rep w F x d2 := fun {e e2} j d2 q h2 => by
    have hlt : j < e.length := q.1 ▸ (List.getElem?_eq_some_iff.1 h2).1
    exact ⟨e[j], List.getElem?_eq_getElem hlt, q.2 j _ _ (List.getElem?_eq_getElem hlt) h2⟩
  cases h with
  | @isl A len cap nn sz es b o xs hlen hcap hB hnn hA hsz hc hr =>
    refine .isl (b := b) (o := o) xs (by rw [← hp.1]; exact hlen) hcap (by rw [← hp.1]; exact hB) hnn (fun hne => hA (fun e => hne ?_)) (fun i e2 h2 => ?_) (fun i e2 j d2 h2 h3 => ?_) (fun i e2 j d2 h2 h3 => ?_)
    · have := hp.1
      rw [e] at this
      exact List.eq_nil_of_length_eq_zero this.symm
    · obtain ⟨e, h1, q⟩ := back i e2 h2
      rw [← q.1]; exact hsz i e h1
    · obtain ⟨e, h1, q⟩ := back i e2 h2
      obtain ⟨d, h4, _⟩ := back2 j d2 q h3
      exact hc i e j d h1 h4
    · obtain ⟨e, h1, q⟩ := back i e2 h2
      obtain ⟨d, h4, h5⟩ := back2 j d2 q h3
      exact h5 _ (hr i e j d h1 h4)
theorem fzE_ok {ρ : Rn} {hp : Nat → Option DO} {H : DHeap} {w : World} {F : Nat → Prop} (hc : CovH ρ hp H) (hH : ∀ p ∈ H, F p.1 ∧ ObjRep w F p.1 p.2) :
    ∀ (n : Nat) {d d' dF : DV} {v : Value}, fzE hp n d = some dF → RD ρ d d' → Rep w F v d' → Rep w F v dF
  | 0, d, d', dF, v, h, _, _ => by cases h
  | n + 1, d, d', dF, v, h, hR, hv => by
    have lst : ∀ {ds ds' dsF : List DV}, optAll (ds.map (fzE hp n)) = some dsF → RL ρ ds ds' → PWl (fun d d2 => ∀ x, Rep w F x d → Rep w F x d2) ds' dsF := fun {ds ds' dsF} h1 h2 => by
      have h3 := optAll_map h1
      refine ⟨by rw [← h2.1, h3.1], fun i a b ha hb x hx => ?_⟩
      have hlt : i < ds.length := h2.1 ▸ (List.getElem?_eq_some_iff.1 ha).1
      exact fzE_ok hc hH n (h3.2 i _ _ (List.getElem?_eq_getElem hlt) hb) (h2.2 i _ _ (List.getElem?_eq_getElem hlt) ha) hx
    have lst2 : ∀ {es es' : List (List DV)} {esF : List (List DV)}, optAll (es.map (fun e => optAll (e.map (fzE hp n)))) = some esF → RLL ρ es es' → PWl (PWl (fun d d2 => ∀ x, Rep w F x d → Rep w F x d2)) es' esF := fun {es es' esF} h1 h2 => by
      have h3 := optAll_map h1
      refine ⟨by rw [← h2.1, h3.1], fun i a b ha hb => ?_⟩
      have hlt : i < es.length := h2.1 ▸ (List.getElem?_eq_some_iff.1 ha).1
      exact lst (h3.2 i _ _ (List.getElem?_eq_getElem hlt) hb) (h2.2 i _ _ (List.getElem?_eq_getElem hlt) ha)
    unfold fzE at h
    split at h
    · cases h
      rw [hR.inv_v] at hv
      exact hv
    · obtain ⟨dsF, h1, rfl⟩ := Option.map_eq_some_iff.1 h
      obtain ⟨ds', rfl, h2⟩ := hR.inv_agg
      have q := lst h1 h2
      cases hv with
      | agg hl hr =>
        refine .agg (by rw [hl, q.1]) (fun j x d2 hx hd2 => ?_)
        have hlt := q.1 ▸ (List.getElem?_eq_some_iff.1 hd2).1
        exact q.2 j _ _ (List.getElem?_eq_getElem hlt) hd2 x (hr j x _ hx (List.getElem?_eq_getElem hlt))
    · obtain ⟨dsF, h1, rfl⟩ := Option.map_eq_some_iff.1 h
      obtain ⟨ds', rfl, h2⟩ := hR.inv_tup
      have q := lst h1 h2
      cases hv with
      | tup hl hr =>
        refine .tup (by rw [hl, q.1]) (fun j x d2 hx hd2 => ?_)
        have hlt := q.1 ▸ (List.getElem?_eq_some_iff.1 hd2).1
        exact q.2 j _ _ (List.getElem?_eq_getElem hlt) hd2 x (hr j x _ hx (List.getElem?_eq_getElem hlt))
    · obtain ⟨esF, h1, rfl⟩ := Option.map_eq_some_iff.1 h
      obtain ⟨es', rfl, h2⟩ := hR.inv_isl
      exact hv.islMap (lst2 h1 h2)
    · rename_i b sz len
      obtain ⟨b', rfl, hb⟩ := hR.inv_sl
      split at h
      · rename_i el sz2 es ho
        cases hq : (Nat.beq sz sz2 && Nat.beq len es.length) with
        | false => rw [hq] at h; cases h
        | true =>
          rw [hq] at h
          rw [Bool.and_eq_true] at hq
          obtain rfl := Nat.eq_of_beq_eq_true hq.1
          obtain rfl := Nat.eq_of_beq_eq_true hq.2
          obtain ⟨esF, h1, rfl⟩ := Option.map_eq_some_iff.1 h
          obtain ⟨b2, o', e1, e2, e3⟩ := hc.obj b _ ho
          rw [hb] at e1
          obtain rfl := Option.some.inj e1
          cases e3 with
          | row h2 =>
            obtain ⟨hF, hO⟩ := hH _ e2
            rw [h2.1] at hv
            have := (rep_row hO hv).mono (F' := F) (fun _ _ => rfl) (fun _ _ h => h) (fun c hc => hc.elim id (fun e => by rw [e]; exact hF))
            exact this.islMap (lst2 h1 h2)
      · cases h
    · cases h
/-- The result of a closed call, as plain data. -/
def evF (K : Cfg) (fuel n : Nat) (g : FuncId) (ds : List DV) (m : Nat) : Option DV := match callE K fuel n g ds .lf 0 with
  | some (d, hp, _, _) => fzE hp.get m d
  | none => none
theorem ev_top {P : Program} {E : Env} {K : Cfg} (hok : ∀ fuel n, CallsOk P E (callE K fuel n)) {fuel n m m2 : Nat} {g : FuncId} {ds : List DV} {dF : DV} (hd : ds.all (noBlk m2) = true) (h : evF K fuel n g ds m = some dF) :
    GCall P E g ds [] (fun d' H => d' = dF ∧ H = []) := by
  unfold evF at h
  split at h
  · rename_i d hp nx lg hcall
    have wf0 : WF (Tr.lf : Tr DO).get 0 := fun b hb => absurd rfl hb
    obtain ⟨hpu, hco⟩ := hok fuel n g ds .lf 0 _ hcall wf0
    have hc0 : CovH (fun _ => none) (Tr.lf : Tr DO).get [] := ⟨(fun b o ho => by cases ho), (fun b1 b2 o1 o2 c h1 => by cases h1)⟩
    have hf0 : Free (fun _ => none) 0 nx := fun _ _ _ => rfl
    have hg := hco (fun _ => none) ds [] hc0 hf0 (PWl.refl (fun a ha => noBlk_rd (List.all_eq_true.1 hd a ha)))
    refine ⟨hg.1, fun w F vs hE hF hvs hr hH hk => (hg.2 w F vs hE hF hvs hr hH hk).mono ?_⟩
    rintro e w' ⟨u, d', H', F', rfl, ⟨ρ', hpost, hrd⟩, h3, h4, h5, h6, h7, h8⟩
    have hcv := hpost.cov hc0 hf0 hpu
    have hnew : ∀ p ∈ H', w.heap.size ≤ p.1 ∧ p.1 < w'.heap.size := fun p hp => ⟨(h6 p hp).1.resolve_left (fun hm => by cases hm), (h6 p hp).2.2.lt⟩
    refine ⟨u, dF, [], fun c => F' c ∨ c ∈ H'.map (·.1), rfl, ⟨rfl, rfl⟩, fun b hb => .inl (h3 b hb), fun b hb => ?_, ?_, (fun p hp => by cases hp), List.nodup_nil, h8⟩
    · rcases hb with hb | hb
      · exact h4 b hb
      · obtain ⟨p, hp, rfl⟩ := List.mem_map.1 hb
        exact ⟨(hnew p hp).2, .inr (hnew p hp).1⟩
    · refine fzE_ok hcv (fun p hp => ⟨.inr (List.mem_map.2 ⟨p, hp, rfl⟩), (h6 p hp).2.2.mono rfl (fun _ _ => rfl) (fun _ _ h => h) (fun _ h => .inl h)⟩) m h hrd (h5.mono (fun _ _ => rfl) (fun _ _ h => h) (fun _ h => .inl h))
  · cases h
end Go.GH
namespace Go.GH
open Go Go.Lib Go.Proofs Go.RowKit
theorem dfr50 : DfrOk Tryz.prog E50 K50.dfr := fun f hf => by
  obtain rfl := Nat.eq_of_beq_eq_true hf
  exact ⟨_, _, _, _, _, _, _, _, _, _, _, _, _, _, _, Tryz.func99, rfl, by kernel_rfl, fun b4 b5 H => recRet Tryz.func136 rfl rfl rfl Tryz.underlying20⟩
theorem calls50 (fuel n : Nat) : CallsOk Tryz.prog E50 (callE K50 fuel n) := ev_sound (C := ⟨Tryz.prog, E50, false⟩) rfl rfl (by kernel_rfl) dfr50 hook50_ok fuel n
def zc62 : List Value := [.string .empty, .bool false, .slice none 0 0, .slice none 0 0, .slice none 0 0, .slice none 0 0, .slice none 0 0, .int .i64 0, .int .i64 0, .slice none 0 0, .int .i64 0, .slice none 0 0, .slice none 0 0, .bool false, .string .empty, .int .i64 0, .string .empty, .bool false, .int .i64 0, .int .i64 0, .slice none 0 0, .slice none 0 0, .slice none 0 0, .slice none 0 0, .slice none 0 0, .bool false, .slice none 0 0, .slice none 0 0, .slice none 0 0, .string .empty]
theorem zc62_one : ∀ x ∈ zc62, x.oneCell' = true := by decide
def lng0 : Lng where
  o := fun k => .v (zc62.getD k (.int .i64 0))
  ho := fun k => by
    show (zc62.getD k (.int .i64 0)).oneCell' = true
    rw [List.getD_eq_getElem?_getD]
    cases h : zc62[k]? with
    | none => rfl
    | some x => exact zc62_one x (List.mem_of_getElem? h)
  rtl := false
  alph := [⟨97, 1⟩, ⟨116, 2⟩]
  ons := [[2]]
  ml := 2
  mr := 2
  san := []
  stop := ⟨#[46]⟩
def encG0 : List DV := (encG lng0).set 9 (.v (.slice none 0 0))
set_option maxRecDepth 100000 in
theorem ev35 : evF K50 1000 20 35 [] 12 = some (.agg encG0) := by kernel_rfl
theorem c35 : GCall Tryz.prog E50 35 [] [] (fun d H => d = .agg (encG lng0) ∧ H = []) :=
  GCall.clean (ev_top (m2 := 1) calls50 rfl ev35) (fun d H ⟨e, _⟩ => ⟨.agg (encG lng0), fun w F v hv => by rw [e] at hv; exact rep_aggNil (sz := 6) 9 hv rfl, rfl⟩)
end Go.GH
namespace Go.GH
open Go Go.Lib Go.Proofs Go.RowKit
def txt0 : ByteArray := ⟨#[116,97,116,97,32,116,97,46,32,97,116,97,116,97,46]⟩
def pg0 : List ByteArray := [⟨#[116,97,116,97,32]⟩, ⟨#[116,97,46,32,32]⟩, ⟨#[97,116,97,45,32]⟩, ⟨#[116,97,46,32,32]⟩]
set_option maxRecDepth 100000 in
theorem ev64 : evF K50 1000 20 64 [.agg (encG lng0)] 12 = some (.v (.bool true)) := by kernel_rfl
def snt0 : List ByteArray := [⟨#[116,97,116,97,32,116,97,46]⟩, ⟨#[97,116,97,116,97,46]⟩]
set_option maxRecDepth 100000 in
theorem ev65 : evF K50 1000 20 65 [.agg (encG lng0), .v (.string txt0)] 12 = some (.tup [DStrs snt0, .v (.int .i64 0)]) := by kernel_rfl
set_option maxRecDepth 100000 in
theorem ev26 : evF K50 1000 20 26 [.agg (encG lng0), .v (.string txt0), .v (.int .i64 5), .v (.int .i64 10)] 12 = some (.tup [DStrs pg0, .v (.int .i64 0)]) := by kernel_rfl
theorem c64 : GCall Tryz.prog E50 64 [.agg (encG lng0)] [] (fun d H => d = .v (.bool true) ∧ H = []) := ev_top (m2 := 8) calls50 (by decide) ev64
theorem c65 : GCall Tryz.prog E50 65 [.agg (encG lng0), .v (.string txt0)] [] (fun d H => d = .tup [DStrs snt0, .v (.int .i64 0)] ∧ H = []) := ev_top (m2 := 8) calls50 (by decide) ev65
theorem c26 : GCall Tryz.prog E50 26 [.agg (encG lng0), .v (.string txt0), .v (.int .i64 5), .v (.int .i64 10)] [] (fun d H => d = .tup [DStrs pg0, .v (.int .i64 0)] ∧ H = []) := ev_top (m2 := 8) calls50 (by decide) ev26
theorem plain0 : plainR true 0 (fun w => fldR (visE 0 w)) pg0 = (txt0, 0) := by kernel_rfl
end Go.GH
namespace Go.GH
open Go Go.Lib Go.Proofs Go.RowKit
abbrev fl0 : ByteArray → List ByteArray := fun w => fldR (visE 0 w)
theorem xs0_small : (wrdA fl0 pg0).all (fun x => Nat.ble x.1.size 100) = true := by kernel_rfl
theorem xs0_few : Nat.beq (wrdA fl0 pg0).length 4 = true := by kernel_rfl
theorem pg0_small : pg0.all (fun w => Nat.ble w.size 100 && Nat.ble (visE 0 w).size 100) = true := by kernel_rfl
theorem txt0_eq : catW (plR (wrdA fl0 pg0) (wrdA fl0 pg0).length).1 = txt0 := by kernel_rfl
theorem c30 : GCall Tryz.prog E50 30 [.agg (encG lng0), DStrs pg0] [] (fun d H => d = .tup [.v (.string txt0), .v (.int .i64 0)] ∧ H = []) := by
  have hl := Nat.eq_of_beq_eq_true xs0_few
  have hs : ∀ w ∈ pg0, w.size ≤ 100 ∧ (visE 0 w).size ≤ 100 := fun w hw => by
    have := List.all_eq_true.1 pg0_small w hw
    rw [Bool.and_eq_true] at this
    exact ⟨Nat.le_of_ble_eq_true this.1, Nat.le_of_ble_eq_true this.2⟩
  have h := cPlain (E := E50) vs50 lng0 pg0 (visE 0) fl0 true 0 100 (fun x hx => Nat.le_of_ble_eq_true (List.all_eq_true.1 xs0_small x hx)) (by omega) (by omega) (fun w hw => bLogical vs50 0 w (by have := (hs w hw).1; omega)) (fun w hw => sFields _ (by have := (hs w hw).2; omega)) c64 (by rw [txt0_eq]; exact c65.mono (fun d H h => ⟨⟨_, h.1⟩, h.2⟩))
  rw [plain0] at h
  exact h
def sp0 : ByteArray := ⟨#[97,97,32,32,32,98,32,32,99,99]⟩
set_option maxRecDepth 100000 in
theorem ev13 : evF K50 1000 20 13 [.agg [DStrs [⟨#[97,97]⟩, ⟨#[98]⟩, ⟨#[99,99]⟩], .v (.bool false)], .v (.int .i64 10), .v (.bool false)] 12 = some (.tup [.v (.string sp0), .v (.int .i64 0)]) := by kernel_rfl
theorem c13 : GCall Tryz.prog E50 13 [.agg [DStrs [⟨#[97,97]⟩, ⟨#[98]⟩, ⟨#[99,99]⟩], .v (.bool false)], .v (.int .i64 10), .v (.bool false)] [] (fun d H => d = .tup [.v (.string sp0), .v (.int .i64 0)] ∧ H = []) := ev_top (m2 := 8) calls50 (by decide) ev13
set_option maxRecDepth 100000 in
theorem ev22 : evF K50 1000 20 22 [DStrs pg0, DStrs pg0] 12 = some (.v (.bool true)) := by kernel_rfl
theorem c22 : GCall Tryz.prog E50 22 [DStrs pg0, DStrs pg0] [] (fun d H => d = .v (.bool true) ∧ H = []) := ev_top (m2 := 8) calls50 (by decide) ev22
theorem sheets0 : Nat.beq (sheetsR [⟨#[97]⟩, ⟨#[98]⟩, ⟨#[99]⟩] 2).1.length 2 = true := by kernel_rfl
end Go.GH
namespace Go.GH
open Go Go.Proofs
variable {E : Env}
theorem placesB_24 : placesB Tryz.prog 24 [(0, 1), (1, 1)] = true := by kernel_rfl
theorem aAwake   : GCall Tryz.prog E50 12 [] [] (fun d H => d = .v (.bool true) ∧ H = []) := by
 refine GCall.body (C := ⟨Tryz.prog, E50, true⟩) Tryz.func12 rfl (fun _ => rfl) (by kernel_rfl) rfl ?_
 refine SCode.seqR (SOps.assign rfl (SOps.nil (SCode.seqR (SOps.litF rfl sliceB_22_9_1 zeroIs_9 rfl (SOps.buildM placesB_24 zeroIs_24 rfl rfl (SOps.callP c13 rfl ?_))))))
 rintro _ rfl
 refine SOps.move rfl (SOps.extract rfl rfl (SOps.extract rfl rfl (SOps.assign rfl (SOps.assign rfl (SOps.nil (SCode.seqR (SOps.callP c35 rfl ?_)))))))
 rintro _ rfl
 refine SOps.callP c26 rfl ?_
 rintro _ rfl
 refine SOps.move rfl (SOps.extract rfl rfl (SOps.extract rfl rfl (SOps.assign rfl (SOps.assign rfl (SOps.nil (SCode.seqR (SOps.callP c35 rfl ?_)))))))
 rintro _ rfl
 refine SOps.move rfl (SOps.callP c30 rfl ?_)
 rintro _ rfl
 refine SOps.move rfl (SOps.extract rfl rfl (SOps.extract rfl rfl (SOps.assign rfl (SOps.assign rfl (SOps.nil (SCode.seqR (SOps.litF rfl sliceB_22_9_1 zeroIs_9 rfl (SOps.callP (cSheets [⟨#[97]⟩, ⟨#[98]⟩, ⟨#[99]⟩] 2 (by decide)) rfl ?_))))))))
 rintro _ rfl
 refine SOps.move rfl (SOps.extract rfl rfl (SOps.extract rfl rfl (SOps.assign rfl (SOps.assign rfl (SOps.nil (SCode.seqR (SOps.move rfl (SOps.bin rfl rfl rfl (SOps.reSlot (t := 32) (d' := .v (.bool true)) rfl (by first | rfl | (congr 2; kernel_rfl)) (SOps.move rfl (SOps.move rfl (SOps.bin rfl rfl rfl (SOps.reSlot (t := 35) (d' := .v (.bool true)) rfl (by first | rfl | (congr 2; kernel_rfl)) (SOps.pick rfl rfl (SOps.move rfl (SOps.move rfl (SOps.litF rfl sliceB_22_9_1 zeroIs_9 rfl (SOps.callP c22 rfl ?_))))))))))))))))))
 rintro _ rfl
 refine SOps.pick rfl rfl (SOps.move rfl (SOps.move rfl (SOps.bin rfl rfl rfl (SOps.reSlot (t := 44) (d' := .v (.bool true)) rfl (by first | rfl | (congr 2; kernel_rfl)) (SOps.pick rfl rfl (SOps.move rfl (SOps.move rfl (SOps.bin rfl rfl rfl (SOps.reSlot (t := 48) (d' := .v (.bool true)) rfl (by first | rfl | (congr 2; kernel_rfl)) (SOps.pick rfl rfl (SOps.move rfl (SOps.move rfl (SOps.bin rfl rfl rfl (SOps.reSlot (t := 52) (d' := .v (.bool true)) rfl (by first | rfl | (congr 2; kernel_rfl)) (SOps.pick rfl rfl (SOps.move rfl (SOps.move rfl (SOps.lenM rfl sliceB_73_22_1 (SOps.bin rfl rfl rfl (SOps.reSlot (t := 57) (d' := .v (.bool true)) rfl (congrArg (fun n : Nat => DV.v (.bool (decide (((n : Nat) : Int) = 2)))) (Nat.eq_of_beq_eq_true sheets0)) (SOps.pick rfl rfl (SOps.move rfl (SOps.move rfl (SOps.bin rfl rfl rfl (SOps.reSlot (t := 61) (d' := .v (.bool true)) rfl (by first | rfl | (congr 2; kernel_rfl)) (SOps.pick rfl rfl (SOps.assign rfl (SOps.nil (SCode.ret ?_)))))))))))))))))))))))))))))
 exact ⟨_, Res.one (.tmp rfl), rfl, rfl⟩
end Go.GH
namespace Go.GH
open Go Go.Proofs
variable {E : Env}
theorem isl_in {w : World} {F : Nat → Prop} {v : Value} {nn : Bool} {sz : Nat} {es : List (List DV)} (h : Rep w F v (.isl nn sz es)) : es.length ≤ lenB := by
  cases h with
  | isl xs hlen hcap hB hnn hA hsz hc hr => exact hB
theorem pin_len {st : St} {C : Ctx} {t : Tmp} {ln : Ln} (hd : st.get t = some (.ipin (encLn ln))) : ∀ base a w F, SimF C.E base F st a w → ln.words.length ≤ lenB := fun base a w F hs => by
  have h := (hs.slots t _ hd).2
  generalize a.tmps.getD t undef = v at h
  cases h with
  | ipin xs hF hc hr =>
    have h2 := isl_in (hr 0 (DStrs ln.words) rfl)
    rwa [List.length_map] at h2
theorem l50Spreads (ln : Ln) (w : Int) (last : Bool)  : GCall Tryz.prog E50 3 [.agg (encLn ln), .v (.int .i64 w), .v (.bool last)] [] (fun d H => d = .v (.bool true) ∧ H = []) := by
 refine GCall.body (C := ⟨Tryz.prog, E50, true⟩) Tryz.func3 rfl (fun _ => rfl) (by kernel_rfl) rfl ?_
 refine SCode.seqR (SOps.boxAM rfl rfl (SOps.assign rfl (SOps.nil (SCode.seq (SCode.seqR (SOps.callP aAwake rfl ?_))))))
 rintro _ rfl
 refine SOps.un rfl rfl (SOps.nil ?_)
 refine SCode.cond rfl (fun h => by cases h) (fun _ => ?_)
 refine SCode.skip ?_
 show SCode _ _ _ _
 refine SCode.seq (SCode.seqR (SOps.assign rfl (SOps.nil (SCode.block (SCode.loop1 (fun (i : Nat) => (⟨54, [(1, .v (.int .i64 w)), (2, .v (.bool last)), (3, .ipin (encLn ln)), (7, .v (.int .i64 (i : Int)))], []⟩ : St)) (fun (i : Nat) => i ≤ ln.words.length ∧ ∀ w ∈ ln.words.take i, w.size ≤ 300) (fun (i : Nat) => ln.words.length - i) (0) (by simp) (St.Le.of ⟨(by first | rfl | (show some _ = some _; simp)), (by first | rfl | (show some _ = some _; simp)), (by first | rfl | (show some _ = some _; simp)), (by first | rfl | (show some _ = some _; simp)), trivial⟩ rfl (by first | rfl | (simp))) ?_)))))
 rintro i ⟨hi, hf⟩
 refine SCode.fact (pin_len (t := 3) (ln := ln) rfl) (fun hB => ?_)
 simp only [lenB] at hB
 refine SCode.seq (SCode.seqR (SOps.move rfl (SOps.fieldPin rfl fieldB_24_0_0 (SOps.loadPin rfl flatB_22 (SOps.lenM rfl sliceB_22_9_1 (SOps.bin rfl rfl rfl (SOps.nil ?_)))))))
 refine SCode.cond rfl (fun hc1 => ?_) (fun hc1 => ?_)
 ·try simp only [nmL] at hc1
  refine SCode.skip ?_
  show SCode _ _ _ _
  refine SCode.seq (SCode.block (SCode.seqR ?_))
  have hil : i < ln.words.length := by omega
  refine SOps.fieldPin rfl fieldB_24_0_0 (SOps.loadPin rfl flatB_22 (SOps.move rfl (SOps.indexM (i) rfl rfl sliceB_22_9_1 (by first | omega | (simp only [lenB]; omega) | (simp only [List.length_map, lenB]; omega) | (simp; done)) (by first | omega | (simp only [lenB]; omega) | (simp only [List.length_map, lenB]; omega) | (simp; done)) (SOps.loadPin rfl flatB_9 (SOps.lenStr rfl strB_9 (SOps.bin rfl rfl rfl (SOps.nil ?_)))))))
  refine SCode.cond rfl (fun hc2 => ?_) (fun hc2 => ?_)
  ·try simp only [nmL] at hc2
   refine SCode.seqR (SOps.assign rfl (SOps.nil (SCode.ret ?_)))
   exact ⟨_, Res.one (.tmp rfl), rfl, rfl⟩
  ·try simp only [nmL] at hc2
   refine SCode.skip ?_
   show SCode _ _ _ _
   refine SCode.region (SOps.move rfl (SOps.addI rfl rfl (by first | omega | (simp only [lenB]; omega) | (simp only [List.length_map, lenB]; omega) | (simp; done)) (by first | omega | (simp only [lenB]; omega) | (simp only [List.length_map, lenB]; omega) | (simp; done)) (SOps.assign rfl (SOps.nil ?_))))
   exact ⟨i + 1, ⟨by omega, take_more hf hil (by omega)⟩, by omega, St.Le.of ⟨rfl, rfl, rfl, rfl, trivial⟩⟩
 ·try simp only [nmL] at hc1
  refine SCode.exit ?_
  show SCode _ _ _ _
  refine SCode.seq (SCode.seqR (SOps.fieldPin rfl fieldB_24_0_0 (SOps.loadPin rfl flatB_22 (SOps.lenM rfl sliceB_22_9_1 (SOps.bin rfl rfl rfl (SOps.nil ?_))))))
  refine SCode.cond rfl (fun hc3 => ?_) (fun hc3 => ?_)
  ·try simp only [nmL] at hc3
   refine SCode.seqR (SOps.assign rfl (SOps.nil (SCode.ret ?_)))
   exact ⟨_, Res.one (.tmp rfl), rfl, rfl⟩
  ·try simp only [nmL] at hc3
   refine SCode.skip ?_
   show SCode _ _ _ _
   refine SCode.seqR ?_
   have hw : ∀ w ∈ ln.words, w.size ≤ 1048576 := fun w h => Nat.le_trans (hf w (by rw [List.take_of_length_le (by omega)]; exact h)) (by decide)
   have hl : ln.words.length ≤ 1048576 := by omega
   refine SOps.loadPinA rfl aggB_24_2 (Nat.le_of_ble_eq_true rfl) (SOps.move rfl (SOps.move rfl (SOps.callP (jSpread vs50 ln w last hw hl) rfl ?_)))
   rintro _ rfl
   refine SOps.move rfl (SOps.extract rfl rfl (SOps.extract rfl rfl (SOps.assign rfl (SOps.assign rfl (SOps.nil (SCode.seqR (SOps.loadPinA rfl aggB_24_2 (Nat.le_of_ble_eq_true rfl) (SOps.move rfl (SOps.move rfl (SOps.callP (qSpread ln w last hw hl) rfl ?_))))))))))
   rintro _ rfl
   refine SOps.move rfl (SOps.extract rfl rfl (SOps.extract rfl rfl (SOps.assign rfl (SOps.assign rfl (SOps.nil (SCode.seqR (SOps.move rfl (SOps.move rfl (SOps.bin rfl rfl rfl (SOps.reSlot (t := 48) rfl (show _ = DV.v (.bool true) from congrArg (fun b => DV.v (.bool b)) (decide_eq_true rfl)) (SOps.move rfl (SOps.move rfl (SOps.move rfl (SOps.bin rfl rfl rfl (SOps.reSlot (t := 52) rfl (show _ = DV.v (.bool true) from congrArg (fun b => DV.v (.bool b)) (decide_eq_true rfl)) (SOps.pick rfl rfl (SOps.assign rfl (SOps.nil (SCode.ret ?_)))))))))))))))))))
   exact ⟨_, Res.one (.tmp rfl), rfl, rfl⟩
end Go.GH
