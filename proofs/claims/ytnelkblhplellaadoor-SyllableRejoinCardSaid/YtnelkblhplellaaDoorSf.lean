/-
  Hyphenate of the program, walked: a map of the points, a builder, a range over the word. No conditions.
-/
import Derived.Test.YtnelkblhplellaaDoorHw
import Derived.Test.YtnelkblhplellaaDoorSc
set_option linter.unusedVariables false
set_option linter.unusedSimpArgs false
namespace Go.GH
open Go Go.Proofs
variable {E : Env}
/-- The map of points. -/
def hmap (pts : List Int) : List (Value × DV) := pts.foldl (fun es k => updL es (.int .i64 k) (.v (.bool true))) []
theorem hmap_snoc (pts : List Int) (k : Int) : hmap (pts ++ [k]) = updL (hmap pts) (.int .i64 k) (.v (.bool true)) := by simp [hmap, List.foldl_append]
theorem hmap_spec (pts : List Int) : (∀ p ∈ hmap pts, isKey (.int .i64) p.1 = true) ∧ ∀ n : Int, lookupL (hmap pts) (.int .i64 n) = (if pts.any (fun k => k == n) then some () else none).map (fun _ => DV.v (.bool true)) := by
  have key : ∀ (l pre : List Int) (es : List (Value × DV)), (∀ p ∈ es, isKey (.int .i64) p.1 = true) → (∀ n : Int, lookupL es (.int .i64 n) = (if pre.any (fun k => k == n) then some () else none).map (fun _ => DV.v (.bool true))) →
      (∀ p ∈ l.foldl (fun es k => updL es (.int .i64 k) (.v (.bool true))) es, isKey (.int .i64) p.1 = true) ∧ ∀ n : Int, lookupL (l.foldl (fun es k => updL es (.int .i64 k) (.v (.bool true))) es) (.int .i64 n) = (if (pre ++ l).any (fun k => k == n) then some () else none).map (fun _ => DV.v (.bool true)) := by
    intro l
    induction l with
    | nil => intro pre es h1 h2; rw [List.append_nil]; exact ⟨h1, h2⟩
    | cons k l ih =>
      intro pre es h1 h2
      have := ih (pre ++ [k]) (updL es (.int .i64 k) (.v (.bool true))) (updL_keys rfl _ es h1) (fun n => by
        rw [lookupL_upd (d0 := .int .i64) rfl rfl _ es h1, h2]
        simp only [sameKey, BEq.rfl, Bool.true_and, List.any_append, List.any_cons, List.any_nil, Bool.or_false]
        by_cases e : n = k
        · subst e; simp
        · have e1 : (n == k) = false := by simpa using e
          have e2 : (k == n) = false := by simpa using (fun x => e x.symm)
          rw [e1, e2]; simp)
      rw [List.append_assoc] at this
      exact this
  have := key pts [] [] (fun p hp => by cases hp) (fun n => rfl)
  exact this
theorem hyF_cons (pts : List Int) (r : Int) (rs : List Int) (i : Nat) (acc : ByteArray) : hyF pts (r :: rs) i acc = hyF pts rs (i + 1) ((if pts.any (fun k => k == (i : Int)) && decide (0 < i) then acc ++ dash else acc) ++ Utf8.encode r) := rfl
theorem data_enc (acc : ByteArray) (r : Int) : acc.data.toList ++ encBy r = (acc ++ Utf8.encode r).data.toList := by simp [encBy]
theorem data_dash (acc : ByteArray) : acc.data.toList ++ [UInt8.ofNat 45] = (acc ++ dash).data.toList := by simp [dash]
theorem mapB_64 : mapB Tryd.prog 64 3 4 (.int .i64) := ⟨by kernel_rfl, by kernel_rfl⟩
theorem zeroB_4 : zeroIs Tryd.prog 4 (.bool false) := by unfold zeroIs; kernel_rfl
theorem zeroBld : zeroIs Tryd.prog 68 (.agg #[.pointer none, .slice none 0 0]) := by unfold zeroIs; kernel_rfl
theorem sHyphenate (hV : VS E) (s : ByteArray) (pts : List Int) (hs : s.size ≤ 65536) (hp : pts.length ≤ 65536) : GCall Tryd.prog E 30 [.v (.string s), DInts pts] [] (fun d H => d = .v (.string (hyph pts s)) ∧ H = []) := by
  refine GCall.body (C := ⟨Tryd.prog, E, true⟩) Tryd.func30 rfl (fun _ => rfl) (by kernel_rfl) rfl ?_
  refine SCode.seqR ?_
  refine SOps.assign rfl ?_
  refine SOps.nil ?_
  refine SCode.seq ?_
  refine SCode.seqR ?_
  refine SOps.move rfl ?_
  refine SOps.callP (hV _) rfl ?_
  rintro _ rfl
  refine SOps.un rfl rfl ?_
  refine SOps.nil ?_
  refine SCode.cond rfl (fun hc1 => ?_) (fun hc1 => ?_)
  · refine SCode.seqR ?_
    refine SOps.move rfl ?_
    refine SOps.assign rfl ?_
    refine SOps.nil ?_
    refine SCode.ret ?_
    exact ⟨_, Res.one (.tmp rfl), by rw [hyph]; simp only [Bool.not_eq_true'] at hc1; rw [hc1]; rfl, rfl⟩
  have hu : utf8R s = true := by simpa using hc1
  refine SCode.skip ?_
  show SCode _ _ _ _
  refine SCode.seqR ?_
  refine SOps.makeMap0 (fun m hm => ?_)
  refine SOps.assign rfl ?_
  refine SOps.nil ?_
  refine SCode.seq ?_
  refine SCode.seqR ?_
  refine SOps.move rfl ?_
  refine SOps.lenM rfl sliceB_30_3_1 ?_
  refine SOps.move rfl ?_
  refine SOps.nil ?_
  refine SCode.block ?_
  refine SCode.loop1 (fun (i : Nat) => (⟨44, [(0, .v (.string s)), (5, .mp m), (17, DInts pts), (18, .v (.int .i64 (pts.length : Int))), (19, .v (.int .i64 (i : Int)))], [(m, .map (hmap (pts.take i)))]⟩ : St)) (fun i => i ≤ pts.length) (fun i => pts.length - i) 0 (by omega) (St.Le.of ⟨rfl, rfl, rfl, rfl, rfl, trivial⟩) ?_
  rintro i hi
  refine SCode.seqR ?_
  refine SOps.bin rfl rfl rfl ?_
  refine SOps.nil ?_
  refine SCode.seq ?_
  refine SCode.cond rfl (fun hc2 => ?_) (fun hc2 => ?_)
  · have hc2 := of_decide_eq_true hc2
    have hil : i < pts.length := by omega
    refine SCode.skip ?_
    show SCode _ _ _ _
    refine SCode.seq ?_
    refine SCode.block ?_
    refine SCode.seqR ?_
    refine SOps.indexM i rfl rfl sliceB_30_3_1 (by omega) hil ?_
    refine SOps.loadPin rfl flatB_3 ?_
    refine SOps.assign rfl ?_
    refine SOps.nil ?_
    refine SCode.region ?_
    refine SOps.move rfl ?_
    refine SOps.move rfl ?_
    refine SOps.mapUpdate 0 rfl rfl rfl rfl mapB_64 rfl (hmap_spec _).1 ?_
    refine SOps.nil ?_
    show SCode _ _ _ _
    refine SCode.region ?_
    refine SOps.addI rfl rfl (by omega) (by omega) ?_
    refine SOps.move rfl ?_
    refine SOps.nil ?_
    refine ⟨i + 1, by omega, by omega, St.Le.of ⟨rfl, rfl, rfl, rfl, rfl, trivial⟩ rfl ?_⟩
    show [(m, DO.map (hmap (pts.take (i + 1))))] = [(m, DO.map (updL (hmap (pts.take i)) (.int .i64 pts[i]) (.v (.bool true))))]
    rw [List.take_add_one, List.getElem?_eq_getElem hil]
    simp only [Option.toList_some]
    rw [hmap_snoc]
  have hc2 := of_decide_eq_false hc2
  refine SCode.exit ?_
  show SCode _ _ _ _
  refine SCode.weaken (st' := ⟨44, [(0, .v (.string s)), (5, .mp m)], [(m, .map (hmap pts))]⟩) (St.Le.of ⟨rfl, rfl, trivial⟩ rfl (by show _ = [(m, DO.map (hmap (pts.take i)))]; rw [List.take_of_length_le (by omega)])) ?_
  refine SCode.seqR ?_
  refine SOps.allocV (sz := 2) zeroBld (fun b hb => ?_)
  refine SOps.nil ?_
  refine SCode.seqR ?_
  refine SOps.assign rfl ?_
  refine SOps.nil ?_
  refine SCode.seq ?_
  refine SCode.seqR ?_
  refine SOps.move rfl ?_
  refine SOps.rangeStr rfl strB_9 (fun q hq => ?_)
  refine SOps.nil ?_
  refine SCode.block ?_
  refine SCode.loop5 (fun (p : Nat) (n : Nat) (acc : ByteArray) (g : Nat) (used : Bool) => (⟨44, [(5, .mp m), (8, .vref b 68 2), (9, .v (.int .i64 (n : Int))), (27, .it q)], [(q, .iter s p), (m, .map (hmap pts))] ++ bldH b g used acc.data.toList⟩ : St))
    (fun p n acc g used => n ≤ p ∧ acc.size ≤ 5 * n ∧ n + (runesAt s p).length = (runes s).length ∧ hyF pts (runesAt s p) n acc = hyF pts (runes s) 0 .empty) (fun p _ _ _ _ => s.size - p) 0 0 .empty 0 false ⟨Nat.le_refl _, Nat.le_refl _, by rw [runesAt_zero]; omega, rfl⟩
    (St.Le.ofPerm (l := [(q, .iter s 0), (b, .row 68 2 [[.v (.pointer none), .v (.slice none 0 0)]]), (m, .map (hmap pts))]) ⟨rfl, rfl, rfl, rfl, trivial⟩ ((List.Perm.swap _ _ _).cons _) (List.Sublist.refl _)) ?_
  rintro p n acc g used ⟨hn, hl, hle, hf⟩
  have hrl := runes_len s
  refine SCode.seqR ?_
  refine SOps.next 0 rfl rfl (fun hn1 => ?_) (fun hn1 => ?_) (by unfold lenB; omega)
  · refine SOps.extract rfl rfl ?_
    refine SOps.nil ?_
    refine SCode.seq ?_
    refine SCode.cond rfl (fun _ => ?_) (fun h => by cases h)
    have hw := decode_w s p
    have hstep := runes_len_step hn1
    have hval := decode_valid s p
    have hes := encode_size ((Utf8.decode s p).1 : Int)
    rw [runesAt_lt hn1, hyF_cons] at hf
    refine SCode.skip ?_
    show SCode _ _ _ _
    refine SCode.block ?_
    refine SCode.seqR ?_
    refine SOps.extract rfl rfl ?_
    refine SOps.assign rfl ?_
    refine SOps.nil ?_
    have hdl : ∀ x : ByteArray, x.data.toList.length = x.size := fun x => by simp
    refine SCode.seqJ (α := { x : ByteArray × Nat × Bool // x.1.size ≤ 5 * n + 1 ∧ (if pts.any (fun k => k == (n : Int)) && decide (0 < n) then acc ++ dash else acc) = x.1 })
      (fun x => (⟨44, [(5, .mp m), (8, .vref b 68 2), (9, .v (.int .i64 (n : Int))), (11, .v (.int .i32 (Utf8.decode s p).1)), (27, .it q)], [(q, .iter s (p + (Utf8.decode s p).2)), (m, .map (hmap pts))] ++ bldH b x.1.2.1 x.1.2.2 x.1.1.data.toList⟩ : St)) ?_ ?_
    · refine SCode.seqR ?_
      refine SOps.move rfl ?_
      refine SOps.bin rfl rfl rfl ?_
      refine SOps.move rfl ?_
      refine SOps.caseB 33 rfl (fun hb1 => ?_) (fun hb1 => ?_)
      · have hb1 := of_decide_eq_true hb1
        refine SOps.move rfl ?_
        refine SOps.move rfl ?_
        refine SOps.lookupOM 1 (if pts.any (fun k => k == (n : Int)) then some () else none) (fun _ => .v (.bool true)) rfl rfl rfl mapB_64 (hmap_spec pts).1 zeroB_4 ((hmap_spec pts).2 _) (fun y hy => ?_) (fun hy => ?_)
        · have hany : pts.any (fun k => k == (n : Int)) = true := by
            cases h : pts.any (fun k => k == (n : Int)) with
            | true => rfl
            | false => rw [h] at hy; cases hy
          refine SOps.pick rfl rfl ?_
          refine SOps.nil ?_
          refine SCode.cond rfl (fun _ => ?_) (fun h => by cases h)
          refine SCode.region ?_
          refine SOps.callR (bldH b g used acc.data.toList) [(q, .iter s (p + (Utf8.decode s p).2)), (m, .map (hmap pts))] (bWriteByte b g used acc.data.toList (UInt8.ofNat 45) (by rw [hdl]; omega)) rfl rfl ?_
          rintro _ _ ⟨g', rfl, rfl⟩
          refine SOps.nil ?_
          have h1 : dash.size = 1 := rfl
          refine ⟨⟨(acc ++ dash, g', true), by simp only [ByteArray.size_append]; omega, by rw [hany, decide_eq_true (show 0 < n by omega)]; rfl⟩, St.Le.of ⟨rfl, rfl, rfl, rfl, rfl, trivial⟩ rfl (by simp only [← data_dash])⟩
        · have hany : pts.any (fun k => k == (n : Int)) = false := by
            cases h : pts.any (fun k => k == (n : Int)) with
            | false => rfl
            | true => rw [h] at hy; cases hy
          refine SOps.pick rfl rfl ?_
          refine SOps.nil ?_
          refine SCode.cond rfl (fun h => by cases h) (fun _ => ?_)
          refine SCode.skip ?_
          exact ⟨⟨(acc, g, used), by simp only; omega, by rw [hany]; rfl⟩, St.Le.of ⟨rfl, rfl, rfl, rfl, rfl, trivial⟩⟩
      · have hb1 := of_decide_eq_false hb1
        refine SOps.skip rfl ?_
        refine SOps.skip rfl ?_
        refine SOps.skip rfl ?_
        refine SOps.pick rfl rfl ?_
        refine SOps.nil ?_
        refine SCode.cond rfl (fun h => by cases h) (fun _ => ?_)
        refine SCode.skip ?_
        exact ⟨⟨(acc, g, used), by simp only; omega, by rw [decide_eq_false (show ¬ 0 < n by omega), Bool.and_false]; rfl⟩, St.Le.of ⟨rfl, rfl, rfl, rfl, rfl, trivial⟩⟩
    · rintro ⟨⟨acc2, g2, u2⟩, hl2, ha2⟩
      simp only at hl2 ha2
      rw [ha2] at hf
      refine SCode.seqR ?_
      refine SOps.move rfl ?_
      refine SOps.callR (bldH b g2 u2 acc2.data.toList) [(q, .iter s (p + (Utf8.decode s p).2)), (m, .map (hmap pts))] (bWriteRune b g2 u2 acc2.data.toList _ hval (by rw [hdl]; omega)) rfl rfl ?_
      rintro _ _ ⟨g', n', rfl, rfl⟩
      refine SOps.nil ?_
      refine SCode.region ?_
      refine SOps.move rfl ?_
      refine SOps.addI rfl rfl (by omega) (by omega) ?_
      refine SOps.assign rfl ?_
      refine SOps.nil ?_
      exact ⟨p + (Utf8.decode s p).2, n + 1, acc2 ++ Utf8.encode (Utf8.decode s p).1, g', true, ⟨by omega, by simp only [ByteArray.size_append]; omega, by omega, hf⟩, by omega, St.Le.of ⟨rfl, rfl, rfl, rfl, trivial⟩ rfl (by show _ = _ ++ bldH b g' true (acc2.data.toList ++ encBy _); rw [data_enc])⟩
  · rw [runesAt_ge hn1] at hf hle
    refine SOps.extract rfl rfl ?_
    refine SOps.nil ?_
    refine SCode.seq ?_
    refine SCode.cond rfl (fun h => by cases h) (fun _ => ?_)
    refine SCode.exit ?_
    show SCode _ _ _ _
    refine SCode.seqR ?_
    have hdl : acc.data.toList.length = acc.size := by simp
    refine SOps.callR (bldH b g used acc.data.toList) [(q, .iter s p), (m, .map (hmap pts))] (bString b g used acc.data.toList (by rw [hdl]; omega)) rfl rfl ?_
    rintro _ _ ⟨rfl, rfl⟩
    refine SOps.assign rfl ?_
    refine SOps.nil ?_
    refine SCode.drop ?_
    refine SCode.ret ⟨_, Res.one (.tmp rfl), ?_, rfl⟩
    rw [hyph, if_pos hu, ← hf]
    rfl
end Go.GH
