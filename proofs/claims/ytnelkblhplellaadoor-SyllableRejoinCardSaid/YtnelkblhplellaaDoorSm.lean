/-
  The walks of the laws on hyphens. No conditions.
-/
import Derived.Test.YtnelkblhplellaaDoorSf
import Derived.Test.YtnelkblhplellaaDoorSq
set_option linter.unusedVariables false
set_option linter.unusedSimpArgs false
namespace Go.GH
open Go Go.Proofs
variable {E : Env}
/-- What ReplaceAll answers where a dash is struck. -/
def RA (E : Env) : Prop := ∀ s : ByteArray, s.size ≤ 1048576 → GCall Tryd.prog E 52 [.v (.string s), .v (.string { data := #[45] }), .v (.string { data := #[] })] [] (fun d H => d = .v (.string (rejoin s)) ∧ H = [])
theorem encode_size4 (r : Int) : (Utf8.encode r).size ≤ 4 := encode_size r
theorem hyF_size (pts : List Int) : ∀ (rs : List Int) (i : Nat) (acc : ByteArray), (hyF pts rs i acc).size ≤ acc.size + 5 * rs.length
  | [], _, acc => Nat.le_refl _
  | r :: rs, i, acc => by
    rw [hyF_cons]
    refine Nat.le_trans (hyF_size pts rs (i + 1) _) ?_
    have h1 := encode_size4 r
    have h2 : dash.size = 1 := rfl
    rw [ByteArray.size_append, List.length_cons]
    split
    · rw [ByteArray.size_append]; omega
    · omega
theorem hyph_size (pts : List Int) (s : ByteArray) : (hyph pts s).size ≤ 5 * s.size + s.size := by
  unfold hyph
  split
  · have h1 := hyF_size pts (runes s) 0 .empty
    have h2 := runes_len s
    have h3 : ByteArray.empty.size = 0 := rfl
    omega
  · omega
theorem hyF_data (pts : List Int) : ∀ (rs : List Int) (i : Nat) (acc : ByteArray), (hyF pts rs i acc).data.toList.filter (fun b => b != 45) = (acc ++ encs rs).data.toList.filter (fun b => b != 45)
  | [], _, acc => by simp [hyF, encs]
  | r :: rs, i, acc => by
    rw [hyF_cons, hyF_data pts rs (i + 1) _]
    have he : encs (r :: rs) = Utf8.encode r ++ encs rs := rfl
    rw [he]
    simp only [ByteArray.data_append, Array.toList_append, List.filter_append, List.append_assoc]
    split
    · simp only [ByteArray.data_append, Array.toList_append, List.filter_append]
      have : dash.data.toList.filter (fun b => b != 45) = [] := by decide
      rw [this, List.append_nil]
    · rfl
theorem rejoin_hyph (pts : List Int) (s : ByteArray) : rejoin (hyph pts s) = rejoin s := by
  unfold hyph
  split
  · rename_i h
    unfold rejoin
    rw [hyF_data, encs_runes h]
    congr 2
  · rfl
theorem sRejoin (hR : RA E) (s : ByteArray) (hs : s.size ≤ 1048576) : GCall Tryd.prog E 32 [.v (.string s)] [] (fun d H => d = .v (.string (rejoin s)) ∧ H = []) := by
  refine GCall.body (C := ⟨Tryd.prog, E, true⟩) Tryd.func32 rfl (fun _ => rfl) (by kernel_rfl) rfl ?_
  refine SCode.seqR ?_
  refine SOps.assign rfl ?_
  refine SOps.nil ?_
  refine SCode.seqR ?_
  refine SOps.move rfl ?_
  refine SOps.callP (hR _ (by omega)) rfl ?_
  rintro _ rfl
  refine SOps.assign rfl ?_
  refine SOps.nil ?_
  refine SCode.ret ?_
  exact ⟨_, Res.one (.tmp rfl), rfl, rfl⟩
theorem lawHyphenate (hV : VS E) (hR : RA E) (hA : AW E) (s : ByteArray) (pts : List Int)  : GCall Tryd.prog E 12 [.v (.string s), DInts pts] [] (fun d H => d = .v (.bool true) ∧ H = []) := by
  refine GCall.body (C := ⟨Tryd.prog, E, true⟩) Tryd.func12 rfl (fun _ => rfl) (by kernel_rfl) rfl ?_
  refine SCode.seqR ?_
  refine SOps.assign rfl ?_
  refine SOps.nil ?_
  refine SCode.seq ?_
  refine SCode.seqR ?_
  refine SOps.callP hA rfl ?_
  rintro _ rfl
  refine SOps.un rfl rfl ?_
  refine SOps.move rfl ?_
  refine SOps.move rfl ?_
  refine SOps.lenStr rfl strB_9 ?_
  refine SOps.bin rfl rfl rfl ?_
  refine SOps.pick rfl rfl ?_
  refine SOps.move rfl ?_
  refine SOps.caseB 12 rfl (fun hb1 => ?_) (fun hb1 => ?_)
  · try simp only [decide_eq_true_eq, decide_eq_false_iff_not, Bool.not_eq_true', Bool.not_eq_false', beq_iff_eq, bne_iff_ne, ne_eq, beq_eq_false_iff_ne, bne_eq_false_iff_eq, Int.not_lt, Int.not_le, Nat.not_lt, Nat.not_le, Int.ofNat_lt, Int.ofNat_le, Bool.not_eq_eq_eq_not, Bool.not_true, Bool.not_false] at hb1
    refine SOps.skip rfl ?_
    refine SOps.skip rfl ?_
    refine SOps.skip rfl ?_
    refine SOps.pick rfl rfl ?_
    refine SOps.nil ?_
    refine SCode.cond rfl (fun _ => ?_) (fun h => by cases h)
    refine SCode.seqR ?_
    refine SOps.callP hA rfl ?_
    rintro _ rfl
    refine SOps.assign rfl ?_
    refine SOps.nil ?_
    refine SCode.ret ?_
    exact ⟨_, Res.one (.tmp rfl), rfl, rfl⟩
  · try simp only [decide_eq_true_eq, decide_eq_false_iff_not, Bool.not_eq_true', Bool.not_eq_false', beq_iff_eq, bne_iff_ne, ne_eq, beq_eq_false_iff_ne, bne_eq_false_iff_eq, Int.not_lt, Int.not_le, Nat.not_lt, Nat.not_le, Int.ofNat_lt, Int.ofNat_le, Bool.not_eq_eq_eq_not, Bool.not_true, Bool.not_false] at hb1
    refine SOps.move rfl ?_
    refine SOps.lenM rfl sliceB_30_3_1 ?_
    refine SOps.bin rfl rfl rfl ?_
    refine SOps.pick rfl rfl ?_
    refine SOps.nil ?_
    refine SCode.cond rfl (fun hc2 => ?_) (fun hc2 => ?_)
    · try simp only [decide_eq_true_eq, decide_eq_false_iff_not, Bool.not_eq_true', Bool.not_eq_false', beq_iff_eq, bne_iff_ne, ne_eq, beq_eq_false_iff_ne, bne_eq_false_iff_eq, Int.not_lt, Int.not_le, Nat.not_lt, Nat.not_le, Int.ofNat_lt, Int.ofNat_le, Bool.not_eq_eq_eq_not, Bool.not_true, Bool.not_false] at hc2
      refine SCode.seqR ?_
      refine SOps.callP hA rfl ?_
      rintro _ rfl
      refine SOps.assign rfl ?_
      refine SOps.nil ?_
      refine SCode.ret ?_
      exact ⟨_, Res.one (.tmp rfl), rfl, rfl⟩
    · try simp only [decide_eq_true_eq, decide_eq_false_iff_not, Bool.not_eq_true', Bool.not_eq_false', beq_iff_eq, bne_iff_ne, ne_eq, beq_eq_false_iff_ne, bne_eq_false_iff_eq, Int.not_lt, Int.not_le, Nat.not_lt, Nat.not_le, Int.ofNat_lt, Int.ofNat_le, Bool.not_eq_eq_eq_not, Bool.not_true, Bool.not_false] at hc2
      refine SCode.skip ?_
      show SCode _ _ _ _
      refine SCode.seqR ?_
      refine SOps.move rfl ?_
      refine SOps.move rfl ?_
      refine SOps.callP (sHyphenate hV _ _ (by omega) (by omega)) rfl ?_
      rintro _ rfl
      refine SOps.move rfl ?_
      refine SOps.move rfl ?_
      refine SOps.callP (rHyphenate _ _ (by omega)) rfl ?_
      rintro _ rfl
      refine SOps.bin rfl rfl rfl ?_
      refine SOps.move rfl ?_
      refine SOps.caseB 25 rfl (fun hb3 => ?_) (fun hb3 => ?_)
      · try simp only [decide_eq_true_eq, decide_eq_false_iff_not, Bool.not_eq_true', Bool.not_eq_false', beq_iff_eq, bne_iff_ne, ne_eq, beq_eq_false_iff_ne, bne_eq_false_iff_eq, Int.not_lt, Int.not_le, Nat.not_lt, Nat.not_le, Int.ofNat_lt, Int.ofNat_le, Bool.not_eq_eq_eq_not, Bool.not_true, Bool.not_false] at hb3
        refine SOps.move rfl ?_
        refine SOps.callP (sRejoin hR _ (by omega)) rfl ?_
        rintro _ rfl
        refine SOps.move rfl ?_
        refine SOps.callP (rRejoin _ (by omega)) rfl ?_
        rintro _ rfl
        refine SOps.bin rfl rfl rfl ?_
        refine SOps.pick rfl rfl ?_
        refine SOps.assign rfl ?_
        refine SOps.nil ?_
        refine SCode.ret ?_
        exact ⟨_, Res.one (.tmp rfl), congrArg (fun b => DV.v (.bool b)) (by simp), rfl⟩
      · try simp only [decide_eq_true_eq, decide_eq_false_iff_not, Bool.not_eq_true', Bool.not_eq_false', beq_iff_eq, bne_iff_ne, ne_eq, beq_eq_false_iff_ne, bne_eq_false_iff_eq, Int.not_lt, Int.not_le, Nat.not_lt, Nat.not_le, Int.ofNat_lt, Int.ofNat_le, Bool.not_eq_eq_eq_not, Bool.not_true, Bool.not_false] at hb3
        exact absurd hb3 (by simp)
theorem lawRejoin (hV : VS E) (hR : RA E) (hA : AW E) (s : ByteArray) (pts : List Int)  : GCall Tryd.prog E 13 [.v (.string s), DInts pts] [] (fun d H => d = .v (.bool true) ∧ H = []) := by
  refine GCall.body (C := ⟨Tryd.prog, E, true⟩) Tryd.func13 rfl (fun _ => rfl) (by kernel_rfl) rfl ?_
  refine SCode.seqR ?_
  refine SOps.assign rfl ?_
  refine SOps.nil ?_
  refine SCode.seq ?_
  refine SCode.seqR ?_
  refine SOps.callP hA rfl ?_
  rintro _ rfl
  refine SOps.un rfl rfl ?_
  refine SOps.move rfl ?_
  refine SOps.move rfl ?_
  refine SOps.lenStr rfl strB_9 ?_
  refine SOps.bin rfl rfl rfl ?_
  refine SOps.pick rfl rfl ?_
  refine SOps.move rfl ?_
  refine SOps.caseB 12 rfl (fun hb1 => ?_) (fun hb1 => ?_)
  · try simp only [decide_eq_true_eq, decide_eq_false_iff_not, Bool.not_eq_true', Bool.not_eq_false', beq_iff_eq, bne_iff_ne, ne_eq, beq_eq_false_iff_ne, bne_eq_false_iff_eq, Int.not_lt, Int.not_le, Nat.not_lt, Nat.not_le, Int.ofNat_lt, Int.ofNat_le, Bool.not_eq_eq_eq_not, Bool.not_true, Bool.not_false] at hb1
    refine SOps.skip rfl ?_
    refine SOps.skip rfl ?_
    refine SOps.skip rfl ?_
    refine SOps.pick rfl rfl ?_
    refine SOps.nil ?_
    refine SCode.cond rfl (fun _ => ?_) (fun h => by cases h)
    refine SCode.seqR ?_
    refine SOps.callP hA rfl ?_
    rintro _ rfl
    refine SOps.assign rfl ?_
    refine SOps.nil ?_
    refine SCode.ret ?_
    exact ⟨_, Res.one (.tmp rfl), rfl, rfl⟩
  · try simp only [decide_eq_true_eq, decide_eq_false_iff_not, Bool.not_eq_true', Bool.not_eq_false', beq_iff_eq, bne_iff_ne, ne_eq, beq_eq_false_iff_ne, bne_eq_false_iff_eq, Int.not_lt, Int.not_le, Nat.not_lt, Nat.not_le, Int.ofNat_lt, Int.ofNat_le, Bool.not_eq_eq_eq_not, Bool.not_true, Bool.not_false] at hb1
    refine SOps.move rfl ?_
    refine SOps.lenM rfl sliceB_30_3_1 ?_
    refine SOps.bin rfl rfl rfl ?_
    refine SOps.pick rfl rfl ?_
    refine SOps.nil ?_
    refine SCode.cond rfl (fun hc2 => ?_) (fun hc2 => ?_)
    · try simp only [decide_eq_true_eq, decide_eq_false_iff_not, Bool.not_eq_true', Bool.not_eq_false', beq_iff_eq, bne_iff_ne, ne_eq, beq_eq_false_iff_ne, bne_eq_false_iff_eq, Int.not_lt, Int.not_le, Nat.not_lt, Nat.not_le, Int.ofNat_lt, Int.ofNat_le, Bool.not_eq_eq_eq_not, Bool.not_true, Bool.not_false] at hc2
      refine SCode.seqR ?_
      refine SOps.callP hA rfl ?_
      rintro _ rfl
      refine SOps.assign rfl ?_
      refine SOps.nil ?_
      refine SCode.ret ?_
      exact ⟨_, Res.one (.tmp rfl), rfl, rfl⟩
    · try simp only [decide_eq_true_eq, decide_eq_false_iff_not, Bool.not_eq_true', Bool.not_eq_false', beq_iff_eq, bne_iff_ne, ne_eq, beq_eq_false_iff_ne, bne_eq_false_iff_eq, Int.not_lt, Int.not_le, Nat.not_lt, Nat.not_le, Int.ofNat_lt, Int.ofNat_le, Bool.not_eq_eq_eq_not, Bool.not_true, Bool.not_false] at hc2
      refine SCode.skip ?_
      show SCode _ _ _ _
      refine SCode.seqR ?_
      have hz := hyph_size pts s
      refine SOps.move rfl ?_
      refine SOps.move rfl ?_
      refine SOps.callP (sHyphenate hV _ _ (by omega) (by omega)) rfl ?_
      rintro _ rfl
      refine SOps.callP (sRejoin hR _ (by omega)) rfl ?_
      rintro _ rfl
      refine SOps.move rfl ?_
      refine SOps.callP (sRejoin hR _ (by omega)) rfl ?_
      rintro _ rfl
      refine SOps.bin rfl rfl rfl ?_
      refine SOps.assign rfl ?_
      refine SOps.nil ?_
      refine SCode.ret ?_
      exact ⟨_, Res.one (.tmp rfl), congrArg (fun b => DV.v (.bool b)) (by rw [rejoin_hyph]; simp), rfl⟩
end Go.GH
