/-
  Part 4 of the texts behind the walks of this claim: an own layer over the kit's wp, plain laws, and walks. No conditions.
-/
import Derived.Test.YtkbijambnnjmkaaGreatDoorMz3
set_option linter.unusedVariables false
set_option linter.unusedSimpArgs false
set_option linter.deprecated false
namespace Go.GH
open Go Go.Proofs
variable {E : Env}
theorem elemB_9_1_16 : elemB Tryz.prog 9 1 16 = true := by kernel_rfl
theorem flatB_52 : flatB Tryz.prog 52 = true := by kernel_rfl
theorem sliceB_141_52_1 : sliceB Tryz.prog 141 52 1 = true := by kernel_rfl
theorem sliceB_52_9_1 : sliceB Tryz.prog 52 9 1 = true := by kernel_rfl
def encSS (l : List ByteArray) : List DV := [DStrs l]
theorem flatTk {α : Type} {ls : List (List α)} {i : Nat} (h : i < ls.length) : (ls.take (i + 1)).flatten = (ls.take i).flatten ++ ls[i] := by
  rw [List.take_add_one, List.getElem?_eq_getElem h, List.flatten_append]
  simp
theorem flatLn {α : Type} (ls : List (List α)) (i : Nat) : (ls.take i).flatten.length ≤ ls.flatten.length := by
  have h : ls.flatten = (ls.take i).flatten ++ (ls.drop i).flatten := by rw [← List.flatten_append, List.take_append_drop]
  rw [h, List.length_append]; omega
theorem kPer1   : GCall Tryz.prog E10 57 [.v (.int .i64 1)] [] (fun d H => d = .v (.int .i64 1) ∧ H = []) := by
 refine GCall.body (C := ⟨Tryz.prog, E10, true⟩) Tryz.func57 rfl (fun _ => rfl) (by kernel_rfl) rfl ?_
 refine SCode.seqR (SOps.assign rfl (SOps.nil (SCode.seq (SCode.seqR (SOps.move rfl (SOps.callP (kKnown 1) rfl ?_))))))
 rintro _ rfl
 refine SOps.un rfl rfl (SOps.nil ?_)
 refine SCode.cond rfl (fun h => by cases h) (fun _ => ?_)
 refine SCode.skip ?_
 show SCode _ _ _ _
 refine SCode.seqR (SOps.move rfl (SOps.indexPer (pu := true) 1 rfl (by omega) (SOps.loadPin rfl flatB_3 (SOps.assign rfl (SOps.nil (SCode.ret ?_))))))
 exact ⟨_, Res.one (.tmp rfl), rfl, rfl⟩
theorem sConcat (ls : List (List ByteArray)) (hne : ∀ l ∈ ls, l ≠ []) (h1 : 1 ≤ ls.flatten.length) (hn : ls.flatten.length ≤ 1048576) (hk : ls.length ≤ 1048576) : GCall Tryz.prog E10 69 [.isl true 1 (ls.map encSS)] [] (fun d H => d = DStrs ls.flatten ∧ H = []) := by
 refine GCall.body (C := ⟨Tryz.prog, E10, true⟩) Tryz.func69 rfl (fun _ => rfl) (by kernel_rfl) rfl ?_
 refine SCode.seqR (SOps.assign rfl (SOps.nil (SCode.seqR (SOps.assign rfl (SOps.nil (SCode.seq (SCode.seqR (SOps.move rfl (SOps.lenM rfl sliceB_141_52_1 (SOps.move rfl (SOps.nil (SCode.block (SCode.loop1 (fun (i : Nat) => (⟨36, [(0, .isl true 1 (ls.map encSS)), (3, .v (.int .i64 ((((ls.take i).flatten.length) : Nat) : Int))), (9, .isl true 1 (ls.map encSS)), (10, .v (.int .i64 (ls.length : Int))), (11, .v (.int .i64 (i : Int)))], []⟩ : St)) (fun (i : Nat) => i ≤ ls.length) (fun (i : Nat) => ls.length - i) (0) (by exact Nat.zero_le _) (St.Le.of ⟨(by first | rfl | (show some _ = some _; simp)), (by first | rfl | (show some _ = some _; simp)), (by first | rfl | (show some _ = some _; simp)), (by first | rfl | (show some _ = some _; simp)), (by first | rfl | (show some _ = some _; simp)), trivial⟩ rfl (by first | rfl | (simp))) ?_)))))))))))))
 rintro i hi
 have hfl := flatLn ls i
 refine SCode.seqR (SOps.bin rfl rfl rfl (SOps.nil (SCode.seq ?_)))
 refine SCode.cond rfl (fun hc1 => ?_) (fun hc1 => ?_)
 ·try simp only [nmL] at hc1
  refine SCode.skip ?_
  show SCode _ _ _ _
  refine SCode.seq (SCode.block (SCode.seqR ?_))
  have hil : i < ls.length := by omega
  have hf2 := flatLn ls (i + 1)
  rw [flatTk hil, List.length_append] at hf2
  have hf3 : ((ls.take (i + 1)).flatten.length) = ((ls.take i).flatten.length) + (ls[i]).length := by rw [flatTk hil, List.length_append]
  refine SOps.indexM (i) rfl rfl sliceB_141_52_1 (by first | omega | (simp only [lenB]; omega)) (by first | omega | (simp only [lenB]; omega)) (SOps.loadPin rfl flatB_52 (SOps.assign rfl (SOps.nil (SCode.seqR (SOps.move rfl (SOps.move rfl (SOps.lenM rfl sliceB_52_9_1 (SOps.addI rfl rfl (by first | omega | (simp only [lenB]; omega)) (by first | omega | (simp only [lenB]; omega)) (SOps.assign rfl (SOps.nil (SCode.seqR (SOps.move rfl (SOps.bin rfl rfl rfl (SOps.reSlot (t := 20) rfl (show _ = DV.v (.bool false) from congrArg (fun b => DV.v (.bool b)) (decide_eq_false (by omega))) (SOps.nil ?_)))))))))))))))
  refine SCode.cond rfl (fun h => by cases h) (fun _ => ?_)
  refine SCode.skip ?_
  show SCode _ _ _ _
  refine SCode.region (SOps.addI rfl rfl (by first | omega | (simp only [lenB]; omega)) (by first | omega | (simp only [lenB]; omega)) (SOps.move rfl (SOps.nil ?_)))
  exact ⟨i + 1, by omega, by omega, St.Le.of ⟨rfl, congrArg (fun z => some (DV.v (.int .i64 z))) (by omega), rfl, rfl, rfl, trivial⟩⟩
 ·try simp only [nmL] at hc1
  refine SCode.exit ?_
  show SCode _ _ _ _
  refine SCode.seqR ?_
  obtain rfl : i = ls.length := by omega
  refine SOps.reSlot (t := 3) (d' := .v (.int .i64 ((ls.flatten.length : Nat) : Int))) rfl (by rw [List.take_of_length_le (Nat.le_refl _)]) (SOps.move rfl (SOps.call (G := []) (sGrow ls.flatten.length (by omega) (by omega)) rfl rfl ?_))
  rintro _ _ ⟨b0, rfl, rfl⟩
  refine SOps.assign rfl (SOps.nil (SCode.seq (SCode.seqR (SOps.move rfl (SOps.lenM rfl sliceB_141_52_1 (SOps.move rfl (SOps.nil (SCode.block (SCode.loop2 (fun (i : Nat) (b : Nat) => (⟨36, [(6, .sl b 1 0 ((ls.take i).flatten.length)), (25, .isl true 1 (ls.map encSS)), (26, .v (.int .i64 (ls.length : Int))), (27, .v (.int .i64 (i : Int)))], [(b, .row 9 1 ((ls.take i).flatten.map encS))]⟩ : St)) (fun (i : Nat) (b : Nat) => i ≤ ls.length) (fun (i : Nat) (b : Nat) => ls.length - i) (0) (b0) (by exact Nat.zero_le _) (St.Le.of ⟨(by first | rfl | (show some _ = some _; simp)), (by first | rfl | (show some _ = some _; simp)), (by first | rfl | (show some _ = some _; simp)), (by first | rfl | (show some _ = some _; simp)), trivial⟩ rfl (by first | rfl | (simp))) ?_)))))))))
  rintro i b hi
  have hfl := flatLn ls i
  refine SCode.seqR (SOps.bin rfl rfl rfl (SOps.nil (SCode.seq ?_)))
  refine SCode.cond rfl (fun hc2 => ?_) (fun hc2 => ?_)
  ·try simp only [nmL] at hc2
   refine SCode.skip ?_
   show SCode _ _ _ _
   refine SCode.seq (SCode.block (SCode.seqR ?_))
   have hil : i < ls.length := by omega
   have hf2 := flatLn ls (i + 1)
   rw [flatTk hil, List.length_append] at hf2
   refine SOps.indexM (i) rfl rfl sliceB_141_52_1 (by first | omega | (simp only [lenB]; omega)) (by first | omega | (simp only [lenB]; omega)) (SOps.loadPin rfl flatB_52 (SOps.assign rfl (SOps.nil (SCode.region (SOps.move rfl (SOps.move rfl ?_))))))
   refine SOps.appendOwn 0 sliceB_52_9_1 elemB_9_1_16 rfl rfl rfl (by rw [List.length_map]) SrcD.isl (by simp [hne _ (List.getElem_mem hil)]) (by simp only [lenB, List.length_map]; omega) (by simp only [List.length_map]; omega) (fun b1 hb_1 => ?_)
   refine SOps.assign rfl (SOps.nil ?_)
   show SCode _ _ _ _
   refine SCode.region (SOps.addI rfl rfl (by first | omega | (simp only [lenB]; omega)) (by first | omega | (simp only [lenB]; omega)) (SOps.move rfl (SOps.nil ?_)))
   exact ⟨i + 1, b1, by omega, by omega, St.Le.of ⟨(by show some _ = some _; rw [flatTk hil, List.length_append, List.length_map]), rfl, rfl, rfl, trivial⟩ rfl (by rw [flatTk hil, List.map_append]; rfl)⟩
  ·try simp only [nmL] at hc2
   refine SCode.exit ?_
   show SCode _ _ _ _
   refine SCode.seqR ?_
   obtain rfl : i = ls.length := by omega
   refine SOps.freezeS (t := 6) 0 rfl rfl rfl (by rw [List.length_map]) (SOps.reSlot (t := 6) (d' := DStrs ls.flatten) rfl (by rw [List.take_of_length_le (Nat.le_refl _)]) (SOps.move rfl (SOps.assign rfl (SOps.nil (SCode.drop (SCode.ret ?_))))))
   exact ⟨_, Res.one (.tmp rfl), rfl, rfl⟩
end Go.GH
namespace Go.GH
open Go Go.Lib Go.Proofs Go.RowKit
def onE {α : Type} (b : Bool) (x : α) : Option α := bif b then some x else none
theorem onE_some {α : Type} {b : Bool} {x y : α} (h : onE b x = some y) : b = true ∧ x = y := by
  unfold onE at h
  cases b with
  | true => exact ⟨rfl, Option.some.inj h⟩
  | false => cases h
theorem bif_ite {α : Type} {b : Bool} {x y z : α} (h : (bif b then x else y) = z) : (b = true ∧ x = z) ∨ (b = false ∧ y = z) := by
  cases b with
  | true => exact .inl ⟨rfl, h⟩
  | false => exact .inr ⟨rfl, h⟩
theorem RL0 {ρ : Rn} {xs : List Value} : ∀ {ds : List DV}, RL ρ (xs.map DV.v) ds → ds = xs.map DV.v := by
  induction xs with
  | nil => intro ds h; exact h.inv_nil
  | cons x xs ih =>
    intro ds h
    obtain ⟨b, t, rfl, h1, h2⟩ := h.inv_cons
    rw [h1.inv_v, ih h2]; rfl
theorem RLL.same {ρ : Rn} {α : Type} {f : α → List DV} (hf : ∀ a e, RL ρ (f a) e → e = f a) : ∀ {l : List α} {es : List (List DV)}, RLL ρ (l.map f) es → es = l.map f
  | [], es, h => h.inv_nil
  | a :: l, es, h => by
    obtain ⟨b, t, rfl, h1, h2⟩ := PWl.inv_cons h
    rw [hf a b h1, RLL.same hf h2]; rfl
theorem RD.strs (ρ : Rn) (l : List ByteArray) : RD ρ (DStrs l) (DStrs l) := RD.isl' (PWl.refl (fun a ha => PWl.refl (fun d hd => by
  obtain ⟨x, _, rfl⟩ := List.mem_map.1 ha
  simp [encS] at hd
  subst hd
  exact .v _)))
theorem RD.strs_inv {ρ : Rn} {l : List ByteArray} {d : DV} (h : RD ρ (DStrs l) d) : d = DStrs l := by
  obtain ⟨es, rfl, h1⟩ := h.inv_isl
  exact congrArg _ (RLL.same (f := encS) (fun a e h => RL0 (xs := [.string a]) h) h1)
def unS : List (List DV) → Option (List ByteArray)
  | [] => some []
  | [.v (.string s)] :: l => (unS l).map (s :: ·)
  | _ => none
theorem unS_eq : ∀ {es : List (List DV)} {ws : List ByteArray}, unS es = some ws → es = ws.map encS
  | [], bs, h => by unfold unS at h; cases h; rfl
  | e :: l, bs, h => by
    unfold unS at h
    split at h
    · rename_i h0; cases h0
    · rename_i n l' h0
      simp only [List.cons.injEq] at h0
      obtain ⟨rfl, rfl⟩ := h0
      obtain ⟨bs', h1, rfl⟩ := Option.map_eq_some_iff.1 h
      rw [unS_eq h1]
      rfl
    · cases h
def unSS : List (List DV) → Option (List (List ByteArray))
  | [] => some []
  | [.isl false 1 es] :: l => match unS es, unSS l with
    | some ws, some r => some (ws :: r)
    | _, _ => none
  | _ => none
theorem unSS_eq : ∀ {es : List (List DV)} {ws : List (List ByteArray)}, unSS es = some ws → es = ws.map encSS
  | [], bs, h => by unfold unSS at h; cases h; rfl
  | e :: l, bs, h => by
    unfold unSS at h
    split at h
    · rename_i h0; cases h0
    · rename_i n l' h0
      simp only [List.cons.injEq] at h0
      obtain ⟨rfl, rfl⟩ := h0
      split at h
      · rename_i ws r h1 h2
        cases h
        rw [unS_eq h1, unSS_eq h2]; rfl
      · cases h
    · cases h
abbrev OkH (g : FuncId) (ds : List DV) (hp : Tr DO) (nx : Nat) (d : DV) (up : List (Nat × Option DO)) (nx' : Nat) : Prop :=
  Pure' hp.get nx (upsE hp up).get nx' (up.map (·.1)) ∧ CallOk Tryz.prog E10 g ds hp nx (d, upsE hp up, nx', up.map (·.1))
theorem hookP {g : FuncId} {ds : List DV} {hp : Tr DO} {nx : Nat} {d : DV} (hd : ∀ ρ, RD ρ d d) (h : ∀ ρ dsA, RL ρ ds dsA → GCall Tryz.prog E10 g dsA [] (fun d' H => d' = d ∧ H = [])) : OkH g ds hp nx d [] nx :=
  ⟨Pure'.refl _ _, fun ρ dsA H hc hf hR => (GCall.frameP (H0 := []) (G := H) (List.Perm.refl _) (h ρ dsA hR)).mono (by
    rintro d' H' ⟨H0', ⟨rfl, rfl⟩, rfl, _⟩
    exact ⟨ρ, Post.id (fun p hp => hp), hd ρ⟩)⟩
def leM (n : Nat) : Bool := Nat.ble n 1048576
def hkQ (f : FuncId) (ds : List DV) : Option (Option DV) := match ds with
  | [.v (.string s)] =>
    bif Nat.beq f 90 then some (some (.v (.bool (utf8R s)))) else
    bif Nat.beq f 35 then some (onE (leM s.size && (ascB s && ((fldB s).all (fun x => leM x.size) && leM (fldB s).length))) (DStrs (fldB s))) else none
  | [.v (.string s), .v (.string p)] =>
    bif Nat.beq f 53 then some (onE (leM s.size && (leM (cutB1 s p).size && leM (cutB2 s p).size)) (cutD s p)) else
    bif Nat.beq f 88 then some (onE (leM s.size && Nat.ble 1 p.size) (DStrs (spB p s))) else none
  | [.v (.string s), .v (.string p), .v (.string q)] => bif Nat.beq f 55 then some (onE (leM s.size && (Nat.ble 1 p.size && (leM q.size && leM (replB s p q).size))) (.v (.string (replB s p q)))) else none
  | [.v (.int .i64 (.ofNat n))] => bif Nat.beq f 57 then some (onE (Nat.beq n 1) (.v (.int .i64 1))) else none
  | [.v (.int .i64 (.ofNat y)), .v (.int .i64 (.ofNat m))] => bif Nat.beq f 15 then some (onE (leM y && (Nat.ble 1 m && Nat.ble m 12)) (.v (.int .i64 ((monS y m : Nat) : Int)))) else none
  | [.isl true 1 es] => bif Nat.beq f 69 then some (match unSS es with
    | some ls => onE (ls.all (fun l => Nat.blt 0 l.length) && (Nat.ble 1 ls.flatten.length && (leM ls.flatten.length && leM ls.length))) (DStrs ls.flatten)
    | none => none) else none
  | _ => none
theorem hkQ_ok {f : FuncId} {ds : List DV} {d : DV} {hp : Tr DO} {nx : Nat} (h : hkQ f ds = some (some d)) : OkH f ds hp nx d [] nx := by
  unfold hkQ at h
  split at h
  · rename_i s
    rcases bif_ite h with ⟨hf, h⟩ | ⟨_, h⟩
    · cases h
      obtain rfl := Nat.eq_of_beq_eq_true hf
      exact hookP (fun ρ => .v _) (fun ρ dsA hR => by rw [RL0 (xs := [.string s]) hR]; exact vs10 _)
    rcases bif_ite h with ⟨hf, h⟩ | ⟨_, h⟩
    · obtain rfl := Nat.eq_of_beq_eq_true hf
      obtain ⟨hc, rfl⟩ := onE_some (Option.some.inj h)
      simp only [Bool.and_eq_true, List.all_eq_true, leM] at hc
      obtain ⟨h1, h2, h3, h4⟩ := hc
      exact hookP (fun ρ => RD.strs ρ _) (fun ρ dsA hR => by rw [RL0 (xs := [.string s]) hR]; exact sFields10 s (Nat.le_of_ble_eq_true h1) h2 (fun x hx => Nat.le_of_ble_eq_true (h3 x hx)) (Nat.le_of_ble_eq_true h4))
    · cases h
  · rename_i s p
    rcases bif_ite h with ⟨hf, h⟩ | ⟨_, h⟩
    · obtain rfl := Nat.eq_of_beq_eq_true hf
      obtain ⟨hc, rfl⟩ := onE_some (Option.some.inj h)
      simp only [Bool.and_eq_true, leM] at hc
      obtain ⟨h1, h2, h3⟩ := hc
      exact hookP (fun ρ => RD.tup' (PWl.cons (.v _) (PWl.cons (.v _) (PWl.cons (.v _) PWl.nil)))) (fun ρ dsA hR => by rw [RL0 (xs := [.string s, .string p]) hR]; exact sCut10 s p (Nat.le_of_ble_eq_true h1) (Nat.le_of_ble_eq_true h2) (Nat.le_of_ble_eq_true h3))
    rcases bif_ite h with ⟨hf, h⟩ | ⟨_, h⟩
    · obtain rfl := Nat.eq_of_beq_eq_true hf
      obtain ⟨hc, rfl⟩ := onE_some (Option.some.inj h)
      simp only [Bool.and_eq_true, leM] at hc
      obtain ⟨h1, h2⟩ := hc
      exact hookP (fun ρ => RD.strs ρ _) (fun ρ dsA hR => by rw [RL0 (xs := [.string s, .string p]) hR]; exact sSplit10 s p (Nat.le_of_ble_eq_true h1) (Nat.le_of_ble_eq_true h2))
    · cases h
  · rename_i s p q
    rcases bif_ite h with ⟨hf, h⟩ | ⟨_, h⟩
    · obtain rfl := Nat.eq_of_beq_eq_true hf
      obtain ⟨hc, rfl⟩ := onE_some (Option.some.inj h)
      simp only [Bool.and_eq_true, leM] at hc
      obtain ⟨h1, h2, h3, h4⟩ := hc
      exact hookP (fun ρ => .v _) (fun ρ dsA hR => by rw [RL0 (xs := [.string s, .string p, .string q]) hR]; exact sRepl10 s p q (Nat.le_of_ble_eq_true h1) (Nat.le_of_ble_eq_true h2) (Nat.le_of_ble_eq_true h3) (Nat.le_of_ble_eq_true h4))
    · cases h
  · rename_i n
    rcases bif_ite h with ⟨hf, h⟩ | ⟨_, h⟩
    · obtain rfl := Nat.eq_of_beq_eq_true hf
      obtain ⟨hc, rfl⟩ := onE_some (Option.some.inj h)
      obtain rfl := Nat.eq_of_beq_eq_true hc
      exact hookP (fun ρ => .v _) (fun ρ dsA hR => by rw [RL0 (xs := [.int .i64 1]) hR]; exact kPer1)
    · cases h
  · rename_i y m
    rcases bif_ite h with ⟨hf, h⟩ | ⟨_, h⟩
    · obtain rfl := Nat.eq_of_beq_eq_true hf
      obtain ⟨hc, rfl⟩ := onE_some (Option.some.inj h)
      simp only [Bool.and_eq_true, leM] at hc
      obtain ⟨h1, h2, h3⟩ := hc
      exact hookP (fun ρ => .v _) (fun ρ dsA hR => by rw [RL0 (xs := [.int .i64 (y : Int), .int .i64 (m : Int)]) hR]; exact sMonth y m (Nat.le_of_ble_eq_true h1) (Nat.le_of_ble_eq_true h2) (Nat.le_of_ble_eq_true h3))
    · cases h
  · rename_i es
    rcases bif_ite h with ⟨hf, h⟩ | ⟨_, h⟩
    · obtain rfl := Nat.eq_of_beq_eq_true hf
      have h := Option.some.inj h
      split at h
      · rename_i ls hu
        obtain ⟨hc, rfl⟩ := onE_some h
        simp only [Bool.and_eq_true, leM, List.all_eq_true] at hc
        obtain ⟨h1, h2, h3, h4⟩ := hc
        refine hookP (fun ρ => RD.strs ρ _) (fun ρ dsA hR => ?_)
        obtain ⟨b, t, rfl, h5, h6⟩ := hR.inv_cons
        obtain rfl := h6.inv_nil
        obtain ⟨es', rfl, h7⟩ := h5.inv_isl
        rw [unSS_eq hu] at h7
        rw [RLL.same (fun a e h => by
          obtain ⟨b, t, rfl, h5, h6⟩ := PWl.inv_cons h
          rw [h6.inv_nil, h5.strs_inv]; rfl) h7]
        exact sConcat ls (fun l hl => by have := h1 l hl; intro e; subst e; cases this) (Nat.le_of_ble_eq_true h2) (Nat.le_of_ble_eq_true h3) (Nat.le_of_ble_eq_true h4)
      · cases h
    · cases h
  · cases h
def hook10 (f : FuncId) (ds : List DV) (hp : Nat → Option DO) (nx : Nat) : Option (Option (DV × List (Nat × Option DO) × Nat)) := match hkQ f ds with
  | some (some d) => some (some (d, [], nx))
  | some none => some none
  | none => none
def frz10 (f : FuncId) : Bool := [29, 30, 31, 32, 33, 34, 36, 37, 38, 39, 40, 41, 42, 43, 48, 49, 54, 56, 68].any (Nat.beq f)
noncomputable def K10 : Cfg := ⟨Tryz.prog, 1000000, hook10, fun _ => false, frz10, true⟩
theorem hook10_ok : HookOk Tryz.prog E10 K10 := by
  intro g ds hp nx d up nx' h wf
  change hook10 g ds hp.get nx = _ at h
  unfold hook10 at h
  split at h
  · rename_i d0 hd
    cases h
    exact hkQ_ok hd
  · cases h
  · cases h
theorem dfr10 : DfrOk Tryz.prog E10 K10.dfr := fun f hf => by cases hf
theorem calls10 (fuel n : Nat) : CallsOk Tryz.prog E10 (callE K10 fuel n) := ev_sound (C := ⟨Tryz.prog, E10, false⟩) rfl rfl (by kernel_rfl) dfr10 hook10_ok fuel n
end Go.GH
namespace Go.GH
open Go Go.Lib Go.Proofs Go.RowKit
def eqB : List UInt8 → List UInt8 → Bool
  | [], [] => true
  | a :: l, b :: r => bif Nat.beq a.toNat b.toNat then eqB l r else false
  | _, _ => false
theorem eqB_eq : ∀ {l r : List UInt8}, eqB l r = true → l = r
  | [], [], _ => rfl
  | a :: l, b :: r, h => by
    unfold eqB at h
    rcases bif_ite h with ⟨h1, h⟩ | ⟨_, h⟩
    · rw [UInt8.toNat_inj.1 (Nat.eq_of_beq_eq_true h1), eqB_eq h]
    · cases h
  | [], _ :: _, h => by cases h
  | _ :: _, [], h => by cases h
def eqV : Value → Value → Bool
  | .string a, .string b => eqB a.data.toList b.data.toList
  | .int .i64 (.ofNat a), .int .i64 (.ofNat b) => Nat.beq a b
  | .bool true, .bool true => true
  | .bool false, .bool false => true
  | .slice none 0 0, .slice none 0 0 => true
  | _, _ => false
theorem eqV_eq {x y : Value} (h : eqV x y = true) : x = y := by
  unfold eqV at h
  split at h
  · rename_i a b
    exact congrArg Value.string (ByteArray.ext (Array.toList_inj.1 (eqB_eq h)))
  · rw [Nat.eq_of_beq_eq_true h]
  · rfl
  · rfl
  · rfl
  · cases h
def allP {α β : Type} (f : α → β → Bool) : List α → List β → Bool
  | [], [] => true
  | a :: l, b :: r => bif f a b then allP f l r else false
  | _, _ => false
theorem allP_eq {α : Type} {f : α → α → Bool} (hf : ∀ a b, f a b = true → a = b) : ∀ {l r : List α}, allP f l r = true → l = r
  | [], [], _ => rfl
  | a :: l, b :: r, h => by
    unfold allP at h
    rcases bif_ite h with ⟨h1, h⟩ | ⟨_, h⟩
    · rw [hf _ _ h1, allP_eq hf h]
    · cases h
  | [], _ :: _, h => by cases h
  | _ :: _, [], h => by cases h
def eqD : Nat → DV → DV → Bool
  | 0, _, _ => false
  | n + 1, x, y => match x, y with
    | .v a, .v b => eqV a b
    | .agg a, .agg b => allP (eqD n) a b
    | .tup a, .tup b => allP (eqD n) a b
    | .isl true z a, .isl true z' b => bif Nat.beq z z' then allP (allP (eqD n)) a b else false
    | .isl false z a, .isl false z' b => bif Nat.beq z z' then allP (allP (eqD n)) a b else false
    | _, _ => false
theorem eqD_eq : ∀ {n : Nat} {x y : DV}, eqD n x y = true → x = y
  | 0, _, _, h => by cases h
  | n + 1, x, y, h => by
    unfold eqD at h
    split at h
    · rw [eqV_eq h]
    · rw [allP_eq (fun a b h => eqD_eq h) h]
    · rw [allP_eq (fun a b h => eqD_eq h) h]
    · rcases bif_ite h with ⟨h1, h⟩ | ⟨_, h⟩
      · rw [Nat.eq_of_beq_eq_true h1, allP_eq (fun a b h => allP_eq (fun a b h => eqD_eq h) h) h]
      · cases h
    · rcases bif_ite h with ⟨h1, h⟩ | ⟨_, h⟩
      · rw [Nat.eq_of_beq_eq_true h1, allP_eq (fun a b h => allP_eq (fun a b h => eqD_eq h) h) h]
      · cases h
    · cases h
theorem RL.sameL {ρ : Rn} {P : DV → Prop} (hP : ∀ d e, P d → RD ρ d e → e = d) : ∀ {l m : List DV}, (∀ d ∈ l, P d) → RL ρ l m → m = l
  | [], m, _, h => h.inv_nil
  | a :: l, m, hp, h => by
    obtain ⟨b, t, rfl, h1, h2⟩ := h.inv_cons
    rw [hP a b (hp a (List.mem_cons_self ..)) h1, RL.sameL hP (fun d hd => hp d (List.mem_cons_of_mem _ hd)) h2]
theorem RLL.sameL {ρ : Rn} {P : List DV → Prop} (hP : ∀ d e, P d → RL ρ d e → e = d) : ∀ {l m : List (List DV)}, (∀ d ∈ l, P d) → RLL ρ l m → m = l
  | [], m, _, h => h.inv_nil
  | a :: l, m, hp, h => by
    obtain ⟨b, t, rfl, h1, h2⟩ := h.inv_cons
    rw [hP a b (hp a (List.mem_cons_self ..)) h1, RLL.sameL hP (fun d hd => hp d (List.mem_cons_of_mem _ hd)) h2]
theorem noBlk_same {ρ : Rn} : ∀ {n : Nat} {d e : DV}, noBlk n d = true → RD ρ d e → e = d
  | 0, d, e, h, _ => by cases h
  | n + 1, d, e, h, hR => by
    unfold noBlk at h
    split at h
    · exact hR.inv_v
    · rw [List.all_eq_true] at h
      obtain ⟨cs, rfl, h1⟩ := hR.inv_agg
      rw [RL.sameL (P := fun d => noBlk n d = true) (fun d e hd hr => noBlk_same hd hr) h h1]
    · rw [List.all_eq_true] at h
      obtain ⟨cs, rfl, h1⟩ := hR.inv_tup
      rw [RL.sameL (P := fun d => noBlk n d = true) (fun d e hd hr => noBlk_same hd hr) h h1]
    · rw [List.all_eq_true] at h
      obtain ⟨cs, rfl, h1⟩ := hR.inv_isl
      rw [RLL.sameL (P := fun e => e.all (noBlk n) = true) (fun d e hd hr => RL.sameL (P := fun d => noBlk n d = true) (fun d e hd hr => noBlk_same hd hr) (List.all_eq_true.1 hd) hr) h h1]
    · cases h
abbrev Tab := List (FuncId × List DV × DV)
/-- What the evaluator says of the table. -/
def tabOk (K : Cfg) (T : Tab) : Bool := T.all (fun x => x.2.1.all (noBlk 12) && (noBlk 12 x.2.2 && (match evF K 1000 30 x.1 x.2.1 20 with
  | some d => eqD 20 d x.2.2
  | none => false)))
def findT : Tab → FuncId → List DV → Option DV
  | [], _, _ => none
  | x :: T, f, ds => bif Nat.beq x.1 f then (bif allP (eqD 20) x.2.1 ds then some x.2.2 else findT T f ds) else findT T f ds
theorem findT_mem : ∀ {T : Tab} {f : FuncId} {ds : List DV} {d : DV}, findT T f ds = some d → (f, ds, d) ∈ T
  | [], f, ds, d, h => by cases h
  | x :: T, f, ds, d, h => by
    unfold findT at h
    rcases bif_ite h with ⟨h1, h⟩ | ⟨_, h⟩
    · rcases bif_ite h with ⟨h2, h⟩ | ⟨_, h⟩
      · have e1 := Nat.eq_of_beq_eq_true h1
        have e2 : x.2.1 = ds := allP_eq (fun a b h => eqD_eq h) h2
        rw [← e1, ← e2, ← Option.some.inj h]
        exact List.mem_cons_self ..
      · exact List.mem_cons_of_mem _ (findT_mem h)
    · exact List.mem_cons_of_mem _ (findT_mem h)
def CallT (T : Tab) : Prop := ∀ x ∈ T, x.2.1.all (noBlk 12) = true ∧ noBlk 12 x.2.2 = true ∧ GCall Tryz.prog E10 x.1 x.2.1 [] (fun d' H => d' = x.2.2 ∧ H = [])
theorem callT_of {K : Cfg} {T : Tab} (hok : ∀ fuel n, CallsOk Tryz.prog E10 (callE K fuel n)) (h : tabOk K T = true) : CallT T := fun x hx => by
  have h1 := List.all_eq_true.1 h x hx
  simp only [Bool.and_eq_true] at h1
  obtain ⟨h2, h3, h4⟩ := h1
  refine ⟨h2, h3, ?_⟩
  split at h4
  · rename_i d hd
    rw [eqD_eq h4] at hd
    exact ev_top (m2 := 12) hok h2 hd
  · cases h4
theorem CallT.append {T U : Tab} (h : CallT T) (k : CallT U) : CallT (T ++ U) := fun x hx => (List.mem_append.1 hx).elim (h x) (k x)
theorem hookT_ok {T : Tab} (hT : CallT T) {f : FuncId} {ds : List DV} {d : DV} {hp : Tr DO} {nx : Nat} (h : findT T f ds = some d) : OkH f ds hp nx d [] nx := by
  obtain ⟨h1, h2, h3⟩ := hT _ (findT_mem h)
  exact hookP (fun ρ => noBlk_rd h2) (fun ρ dsA hR => by rw [RL.sameL (P := fun d => noBlk 12 d = true) (fun d e hd hr => noBlk_same hd hr) (List.all_eq_true.1 h1) hR]; exact h3)
def hookT (T : Tab) (f : FuncId) (ds : List DV) (hp : Nat → Option DO) (nx : Nat) : Option (Option (DV × List (Nat × Option DO) × Nat)) := match findT T f ds with
  | some d => some (some (d, [], nx))
  | none => hook10 f ds hp nx
noncomputable def K10T (T : Tab) : Cfg := ⟨Tryz.prog, 1000000, hookT T, fun _ => false, frz10, true⟩
theorem hookT10_ok {T : Tab} (hT : CallT T) : HookOk Tryz.prog E10 (K10T T) := by
  intro g ds hp nx d up nx' h wf
  change hookT T g ds hp.get nx = _ at h
  unfold hookT at h
  split at h
  · rename_i d0 hd
    cases h
    exact hookT_ok hT hd
  · exact hook10_ok g ds hp nx d up nx' h wf
theorem callsT {T : Tab} (hT : CallT T) (fuel n : Nat) : CallsOk Tryz.prog E10 (callE (K10T T) fuel n) := ev_sound (C := ⟨Tryz.prog, E10, false⟩) rfl rfl (by kernel_rfl) (fun f hf => by cases hf) (hookT10_ok hT) fuel n
/-! ### the table's words -/
def wS (l : List UInt8) : DV := .v (.string ⟨l.toArray⟩)
def wI (n : Nat) : DV := .v (.int .i64 (.ofNat n))
def wN : DV := .v (.slice none 0 0)
def wL (nn : Bool) (z : Nat) (es : List (List DV)) : DV := .isl nn z es
def wA (ds : List DV) : DV := .agg ds
def wP (ds : List DV) : DV := .tup ds
def wT (b : Bool) : DV := .v (.bool b)
end Go.GH
namespace Go.GH
open Go Go.Lib Go.Proofs Go.RowKit
def tabR0 : Tab := [
  (39, [wS [78,97,109,101], wL false 1 [[wS []]], wS [110,117,109,98,101,114,61,115,103], wL false 1 [[wS [110,111,109,58,32,48,46,110,111,109]], [wS [97,99,99,58,32,48,46,97,99,99]], [wS [100,97,116,58,32,48,46,100,97,116]]]], wA [wS [78,97,109,101], wL false 1 [[wL false 2 []]], wL false 2 [[wS [110,117,109,98,101,114], wS [115,103]]], wL false 2 [[wS [110,111,109], wL false 5 [[wI 2, wS [], wI 0, wS [110,111,109], wN]]], [wS [97,99,99], wL false 5 [[wI 2, wS [], wI 0, wS [97,99,99], wN]]], [wS [100,97,116], wL false 5 [[wI 2, wS [], wI 0, wS [100,97,116], wN]]]]]),
  (39, [wS [69,118,101,114,121], wL false 1 [[wS []]], wS [110,117,109,98,101,114,61,115,103], wL false 1 [[wS [110,111,109,58,32,116,111,116,97,32,48,46,110,111,109,45,115,103]], [wS [97,99,99,58,32,116,111,116,97,32,48,46,97,99,99,45,115,103]], [wS [100,97,116,58,32,116,111,116,97,32,48,46,100,97,116,45,115,103]]]], wA [wS [69,118,101,114,121], wL false 1 [[wL false 2 []]], wL false 2 [[wS [110,117,109,98,101,114], wS [115,103]]], wL false 2 [[wS [110,111,109], wL false 5 [[wI 1, wS [116,111,116,97], wI 0, wS [], wN], [wI 2, wS [], wI 0, wS [110,111,109,45,115,103], wN]]], [wS [97,99,99], wL false 5 [[wI 1, wS [116,111,116,97], wI 0, wS [], wN], [wI 2, wS [], wI 0, wS [97,99,99,45,115,103], wN]]], [wS [100,97,116], wL false 5 [[wI 1, wS [116,111,116,97], wI 0, wS [], wN], [wI 2, wS [], wI 0, wS [100,97,116,45,115,103], wN]]]]]),
  (39, [wS [83,111,109,101], wL false 1 [[wS []]], wS [110,117,109,98,101,114,61,115,103], wL false 1 [[wS [110,111,109,58,32,117,110,97,32,48,46,110,111,109,45,115,103]], [wS [97,99,99,58,32,117,110,97,32,48,46,97,99,99,45,115,103]], [wS [100,97,116,58,32,117,110,97,32,48,46,100,97,116,45,115,103]]]], wA [wS [83,111,109,101], wL false 1 [[wL false 2 []]], wL false 2 [[wS [110,117,109,98,101,114], wS [115,103]]], wL false 2 [[wS [110,111,109], wL false 5 [[wI 1, wS [117,110,97], wI 0, wS [], wN], [wI 2, wS [], wI 0, wS [110,111,109,45,115,103], wN]]], [wS [97,99,99], wL false 5 [[wI 1, wS [117,110,97], wI 0, wS [], wN], [wI 2, wS [], wI 0, wS [97,99,99,45,115,103], wN]]], [wS [100,97,116], wL false 5 [[wI 1, wS [117,110,97], wI 0, wS [], wN], [wI 2, wS [], wI 0, wS [100,97,116,45,115,103], wN]]]]]),
  (39, [wS [78,111], wL false 1 [[wS []]], wS [110,117,109,98,101,114,61,115,103], wL false 1 [[wS [110,111,109,58,32,110,117,108,97,32,48,46,110,111,109,45,115,103]], [wS [97,99,99,58,32,110,117,108,97,32,48,46,97,99,99,45,115,103]], [wS [100,97,116,58,32,110,117,108,97,32,48,46,100,97,116,45,115,103]]]], wA [wS [78,111], wL false 1 [[wL false 2 []]], wL false 2 [[wS [110,117,109,98,101,114], wS [115,103]]], wL false 2 [[wS [110,111,109], wL false 5 [[wI 1, wS [110,117,108,97], wI 0, wS [], wN], [wI 2, wS [], wI 0, wS [110,111,109,45,115,103], wN]]], [wS [97,99,99], wL false 5 [[wI 1, wS [110,117,108,97], wI 0, wS [], wN], [wI 2, wS [], wI 0, wS [97,99,99,45,115,103], wN]]], [wS [100,97,116], wL false 5 [[wI 1, wS [110,117,108,97], wI 0, wS [], wN], [wI 2, wS [], wI 0, wS [100,97,116,45,115,103], wN]]]]]),
  (39, [wS [69,118,101,114,121,69,120,99,101,112,116], wL false 1 [[wS []], [wS []]], wS [110,117,109,98,101,114,61,115,103], wL false 1 [[wS [110,111,109,58,32,116,111,116,97,32,48,46,110,111,109,45,115,103,32,115,101,110,32,49,46,97,99,99,45,115,103]], [wS [97,99,99,58,32,116,111,116,97,32,48,46,97,99,99,45,115,103,32,115,101,110,32,49,46,97,99,99,45,115,103]], [wS [100,97,116,58,32,116,111,116,97,32,48,46,100,97,116,45,115,103,32,115,101,110,32,49,46,97,99,99,45,115,103]]]], wA [wS [69,118,101,114,121,69,120,99,101,112,116], wL false 1 [[wL false 2 []], [wL false 2 []]], wL false 2 [[wS [110,117,109,98,101,114], wS [115,103]]], wL false 2 [[wS [110,111,109], wL false 5 [[wI 1, wS [116,111,116,97], wI 0, wS [], wN], [wI 2, wS [], wI 0, wS [110,111,109,45,115,103], wN], [wI 1, wS [115,101,110], wI 0, wS [], wN], [wI 2, wS [], wI 1, wS [97,99,99,45,115,103], wN]]], [wS [97,99,99], wL false 5 [[wI 1, wS [116,111,116,97], wI 0, wS [], wN], [wI 2, wS [], wI 0, wS [97,99,99,45,115,103], wN], [wI 1, wS [115,101,110], wI 0, wS [], wN], [wI 2, wS [], wI 1, wS [97,99,99,45,115,103], wN]]], [wS [100,97,116], wL false 5 [[wI 1, wS [116,111,116,97], wI 0, wS [], wN], [wI 2, wS [], wI 0, wS [100,97,116,45,115,103], wN], [wI 1, wS [115,101,110], wI 0, wS [], wN], [wI 2, wS [], wI 1, wS [97,99,99,45,115,103], wN]]]]]),
  (39, [wS [66,111,116,104], wL false 1 [[wS []], [wS []]], wS [110,117,109,98,101,114,61,112,108], wL false 1 [[wS [110,111,109,58,32,48,46,110,111,109,32,101,32,49,46,110,111,109]], [wS [97,99,99,58,32,48,46,97,99,99,32,101,32,49,46,97,99,99]], [wS [100,97,116,58,32,48,46,100,97,116,32,101,32,49,46,100,97,116]]]], wA [wS [66,111,116,104], wL false 1 [[wL false 2 []], [wL false 2 []]], wL false 2 [[wS [110,117,109,98,101,114], wS [112,108]]], wL false 2 [[wS [110,111,109], wL false 5 [[wI 2, wS [], wI 0, wS [110,111,109], wN], [wI 1, wS [101], wI 0, wS [], wN], [wI 2, wS [], wI 1, wS [110,111,109], wN]]], [wS [97,99,99], wL false 5 [[wI 2, wS [], wI 0, wS [97,99,99], wN], [wI 1, wS [101], wI 0, wS [], wN], [wI 2, wS [], wI 1, wS [97,99,99], wN]]], [wS [100,97,116], wL false 5 [[wI 2, wS [], wI 0, wS [100,97,116], wN], [wI 1, wS [101], wI 0, wS [], wN], [wI 2, wS [], wI 1, wS [100,97,116], wN]]]]]),
  (39, [wS [73,116], wN, wS [110,117,109,98,101,114,61,115,103], wL true 1 [[wS [110,111,109,58,32,105,108]], [wS [97,99,99,58,32,105,108,111,110]], [wS [100,97,116,58,32,105,108,111,114]]]], wA [wS [73,116], wN, wL false 2 [[wS [110,117,109,98,101,114], wS [115,103]]], wL false 2 [[wS [110,111,109], wL false 5 [[wI 1, wS [105,108], wI 0, wS [], wN]]], [wS [97,99,99], wL false 5 [[wI 1, wS [105,108,111,110], wI 0, wS [], wN]]], [wS [100,97,116], wL false 5 [[wI 1, wS [105,108,111,114], wI 0, wS [], wN]]]]])]
set_option maxRecDepth 100000 in
theorem tabR0_ok : tabOk K10 tabR0 = true := by kernel_rfl
def tabR1 : Tab := [
  (39, [wS [84,104,101,121], wN, wS [110,117,109,98,101,114,61,112,108], wL true 1 [[wS [110,111,109,58,32,105,108,105]], [wS [97,99,99,58,32,105,108,105,110]], [wS [100,97,116,58,32,105,108,105,114]]]], wA [wS [84,104,101,121], wN, wL false 2 [[wS [110,117,109,98,101,114], wS [112,108]]], wL false 2 [[wS [110,111,109], wL false 5 [[wI 1, wS [105,108,105], wI 0, wS [], wN]]], [wS [97,99,99], wL false 5 [[wI 1, wS [105,108,105,110], wI 0, wS [], wN]]], [wS [100,97,116], wL false 5 [[wI 1, wS [105,108,105,114], wI 0, wS [], wN]]]]]),
  (39, [wS [78,111,117,110], wL false 1 [[wS []]], wS [103,101,110,100,101,114,61,36,48,46,103,101,110,100,101,114], wL false 1 [[wS [110,111,109,45,115,103,58,32,48,46,110,111,109,45,115,103]], [wS [110,111,109,45,112,108,58,32,48,46,110,111,109,45,112,108]], [wS [97,99,99,45,115,103,58,32,48,46,97,99,99,45,115,103]], [wS [97,99,99,45,112,108,58,32,48,46,97,99,99,45,112,108]], [wS [100,97,116,45,115,103,58,32,48,46,100,97,116,45,115,103]], [wS [100,97,116,45,112,108,58,32,48,46,100,97,116,45,112,108]]]], wA [wS [78,111,117,110], wL false 1 [[wL false 2 []]], wL false 2 [[wS [103,101,110,100,101,114], wS [36,48,46,103,101,110,100,101,114]]], wL false 2 [[wS [110,111,109,45,115,103], wL false 5 [[wI 2, wS [], wI 0, wS [110,111,109,45,115,103], wN]]], [wS [110,111,109,45,112,108], wL false 5 [[wI 2, wS [], wI 0, wS [110,111,109,45,112,108], wN]]], [wS [97,99,99,45,115,103], wL false 5 [[wI 2, wS [], wI 0, wS [97,99,99,45,115,103], wN]]], [wS [97,99,99,45,112,108], wL false 5 [[wI 2, wS [], wI 0, wS [97,99,99,45,112,108], wN]]], [wS [100,97,116,45,115,103], wL false 5 [[wI 2, wS [], wI 0, wS [100,97,116,45,115,103], wN]]], [wS [100,97,116,45,112,108], wL false 5 [[wI 2, wS [], wI 0, wS [100,97,116,45,112,108], wN]]]]]),
  (39, [wS [65,100,106], wL false 1 [[wS []], [wS []]], wS [103,101,110,100,101,114,61,36,49,46,103,101,110,100,101,114], wL false 1 [[wS [110,111,109,45,115,103,58,32,48,46,36,49,46,103,101,110,100,101,114,45,115,103,32,49,46,110,111,109,45,115,103]], [wS [110,111,109,45,112,108,58,32,48,46,36,49,46,103,101,110,100,101,114,45,112,108,32,49,46,110,111,109,45,112,108]], [wS [97,99,99,45,115,103,58,32,48,46,36,49,46,103,101,110,100,101,114,45,115,103,32,49,46,97,99,99,45,115,103]], [wS [97,99,99,45,112,108,58,32,48,46,36,49,46,103,101,110,100,101,114,45,112,108,32,49,46,97,99,99,45,112,108]], [wS [100,97,116,45,115,103,58,32,48,46,36,49,46,103,101,110,100,101,114,45,115,103,32,49,46,100,97,116,45,115,103]], [wS [100,97,116,45,112,108,58,32,48,46,36,49,46,103,101,110,100,101,114,45,112,108,32,49,46,100,97,116,45,112,108]]]], wA [wS [65,100,106], wL false 1 [[wL false 2 []], [wL false 2 []]], wL false 2 [[wS [103,101,110,100,101,114], wS [36,49,46,103,101,110,100,101,114]]], wL false 2 [[wS [110,111,109,45,115,103], wL false 5 [[wI 2, wS [], wI 0, wS [36,49,46,103,101,110,100,101,114,45,115,103], wN], [wI 2, wS [], wI 1, wS [110,111,109,45,115,103], wN]]], [wS [110,111,109,45,112,108], wL false 5 [[wI 2, wS [], wI 0, wS [36,49,46,103,101,110,100,101,114,45,112,108], wN], [wI 2, wS [], wI 1, wS [110,111,109,45,112,108], wN]]], [wS [97,99,99,45,115,103], wL false 5 [[wI 2, wS [], wI 0, wS [36,49,46,103,101,110,100,101,114,45,115,103], wN], [wI 2, wS [], wI 1, wS [97,99,99,45,115,103], wN]]], [wS [97,99,99,45,112,108], wL false 5 [[wI 2, wS [], wI 0, wS [36,49,46,103,101,110,100,101,114,45,112,108], wN], [wI 2, wS [], wI 1, wS [97,99,99,45,112,108], wN]]], [wS [100,97,116,45,115,103], wL false 5 [[wI 2, wS [], wI 0, wS [36,49,46,103,101,110,100,101,114,45,115,103], wN], [wI 2, wS [], wI 1, wS [100,97,116,45,115,103], wN]]], [wS [100,97,116,45,112,108], wL false 5 [[wI 2, wS [], wI 0, wS [36,49,46,103,101,110,100,101,114,45,112,108], wN], [wI 2, wS [], wI 1, wS [100,97,116,45,112,108], wN]]]]]),
  (39, [wS [87,104,111], wL false 1 [[wS []], [wS []]], wS [103,101,110,100,101,114,61,36,48,46,103,101,110,100,101,114], wL true 1 [[wS [110,111,109,45,115,103,58,32,48,46,110,111,109,45,115,103,32,107,101,32,49,46,115,103,32,107,111]], [wS [110,111,109,45,112,108,58,32,48,46,110,111,109,45,112,108,32,107,101,32,49,46,112,108,32,107,111]], [wS [97,99,99,45,115,103,58,32,48,46,97,99,99,45,115,103,32,107,101,32,49,46,115,103,32,107,111]], [wS [97,99,99,45,112,108,58,32,48,46,97,99,99,45,112,108,32,107,101,32,49,46,112,108,32,107,111]], [wS [100,97,116,45,115,103,58,32,48,46,100,97,116,45,115,103,32,107,101,32,49,46,115,103,32,107,111]], [wS [100,97,116,45,112,108,58,32,48,46,100,97,116,45,112,108,32,107,101,32,49,46,112,108,32,107,111]]]], wA [wS [87,104,111], wL false 1 [[wL false 2 []], [wL false 2 []]], wL false 2 [[wS [103,101,110,100,101,114], wS [36,48,46,103,101,110,100,101,114]]], wL false 2 [[wS [110,111,109,45,115,103], wL false 5 [[wI 2, wS [], wI 0, wS [110,111,109,45,115,103], wN], [wI 1, wS [107,101], wI 0, wS [], wN], [wI 2, wS [], wI 1, wS [115,103], wN], [wI 1, wS [107,111], wI 0, wS [], wN]]], [wS [110,111,109,45,112,108], wL false 5 [[wI 2, wS [], wI 0, wS [110,111,109,45,112,108], wN], [wI 1, wS [107,101], wI 0, wS [], wN], [wI 2, wS [], wI 1, wS [112,108], wN], [wI 1, wS [107,111], wI 0, wS [], wN]]], [wS [97,99,99,45,115,103], wL false 5 [[wI 2, wS [], wI 0, wS [97,99,99,45,115,103], wN], [wI 1, wS [107,101], wI 0, wS [], wN], [wI 2, wS [], wI 1, wS [115,103], wN], [wI 1, wS [107,111], wI 0, wS [], wN]]], [wS [97,99,99,45,112,108], wL false 5 [[wI 2, wS [], wI 0, wS [97,99,99,45,112,108], wN], [wI 1, wS [107,101], wI 0, wS [], wN], [wI 2, wS [], wI 1, wS [112,108], wN], [wI 1, wS [107,111], wI 0, wS [], wN]]], [wS [100,97,116,45,115,103], wL false 5 [[wI 2, wS [], wI 0, wS [100,97,116,45,115,103], wN], [wI 1, wS [107,101], wI 0, wS [], wN], [wI 2, wS [], wI 1, wS [115,103], wN], [wI 1, wS [107,111], wI 0, wS [], wN]]], [wS [100,97,116,45,112,108], wL false 5 [[wI 2, wS [], wI 0, wS [100,97,116,45,112,108], wN], [wI 1, wS [107,101], wI 0, wS [], wN], [wI 2, wS [], wI 1, wS [112,108], wN], [wI 1, wS [107,111], wI 0, wS [], wN]]]]]),
  (39, [wS [65,99,116], wL false 1 [[wS []]], wS [], wL false 1 [[wS [115,103,58,32,48,46,115,103]], [wS [112,108,58,32,48,46,112,108]], [wS [105,110,102,58,32,48,46,105,110,102]]]], wA [wS [65,99,116], wL false 1 [[wL false 2 []]], wL false 2 [], wL false 2 [[wS [115,103], wL false 5 [[wI 2, wS [], wI 0, wS [115,103], wN]]], [wS [112,108], wL false 5 [[wI 2, wS [], wI 0, wS [112,108], wN]]], [wS [105,110,102], wL false 5 [[wI 2, wS [], wI 0, wS [105,110,102], wN]]]]]),
  (39, [wS [68,111], wL false 1 [[wS []], [wS []]], wS [], wL false 1 [[wS [115,103,58,32,48,46,115,103,32,49,46,97,99,99]], [wS [112,108,58,32,48,46,112,108,32,49,46,97,99,99]], [wS [105,110,102,58,32,48,46,105,110,102,32,49,46,97,99,99]]]], wA [wS [68,111], wL false 1 [[wL false 2 []], [wL false 2 []]], wL false 2 [], wL false 2 [[wS [115,103], wL false 5 [[wI 2, wS [], wI 0, wS [115,103], wN], [wI 2, wS [], wI 1, wS [97,99,99], wN]]], [wS [112,108], wL false 5 [[wI 2, wS [], wI 0, wS [112,108], wN], [wI 2, wS [], wI 1, wS [97,99,99], wN]]], [wS [105,110,102], wL false 5 [[wI 2, wS [], wI 0, wS [105,110,102], wN], [wI 2, wS [], wI 1, wS [97,99,99], wN]]]]]),
  (39, [wS [71,105,118,101], wL false 1 [[wS []], [wS []], [wS []]], wS [], wL false 1 [[wS [115,103,58,32,48,46,115,103,32,49,46,97,99,99,32,50,46,100,97,116]], [wS [112,108,58,32,48,46,112,108,32,49,46,97,99,99,32,50,46,100,97,116]], [wS [105,110,102,58,32,48,46,105,110,102,32,49,46,97,99,99,32,50,46,100,97,116]]]], wA [wS [71,105,118,101], wL false 1 [[wL false 2 []], [wL false 2 []], [wL false 2 []]], wL false 2 [], wL false 2 [[wS [115,103], wL false 5 [[wI 2, wS [], wI 0, wS [115,103], wN], [wI 2, wS [], wI 1, wS [97,99,99], wN], [wI 2, wS [], wI 2, wS [100,97,116], wN]]], [wS [112,108], wL false 5 [[wI 2, wS [], wI 0, wS [112,108], wN], [wI 2, wS [], wI 1, wS [97,99,99], wN], [wI 2, wS [], wI 2, wS [100,97,116], wN]]], [wS [105,110,102], wL false 5 [[wI 2, wS [], wI 0, wS [105,110,102], wN], [wI 2, wS [], wI 1, wS [97,99,99], wN], [wI 2, wS [], wI 2, wS [100,97,116], wN]]]]])]
set_option maxRecDepth 100000 in
theorem tabR1_ok : tabOk K10 tabR1 = true := by kernel_rfl
def tabR2 : Tab := [
  (39, [wS [67,111,115,116], wL false 1 [[wS []]], wS [], wL false 1 [[wS [115,103,58,32,48,46,115,103,32,37,48]], [wS [112,108,58,32,48,46,112,108,32,37,48]], [wS [105,110,102,58,32,48,46,105,110,102,32,37,48]]]], wA [wS [67,111,115,116], wL false 1 [[wL false 2 []]], wL false 2 [], wL false 2 [[wS [115,103], wL false 5 [[wI 2, wS [], wI 0, wS [115,103], wN], [wI 6, wS [], wI 0, wS [], wN]]], [wS [112,108], wL false 5 [[wI 2, wS [], wI 0, wS [112,108], wN], [wI 6, wS [], wI 0, wS [], wN]]], [wS [105,110,102], wL false 5 [[wI 2, wS [], wI 0, wS [105,110,102], wN], [wI 6, wS [], wI 0, wS [], wN]]]]]),
  (39, [wS [65,110,100,86,80], wL false 1 [[wS []], [wS []]], wS [], wL false 1 [[wS [115,103,58,32,48,46,115,103,32,101,100,32,49,46,115,103]], [wS [112,108,58,32,48,46,112,108,32,101,100,32,49,46,112,108]], [wS [105,110,102,58,32,48,46,105,110,102,32,101,100,32,49,46,105,110,102]]]], wA [wS [65,110,100,86,80], wL false 1 [[wL false 2 []], [wL false 2 []]], wL false 2 [], wL false 2 [[wS [115,103], wL false 5 [[wI 2, wS [], wI 0, wS [115,103], wN], [wI 1, wS [101,100], wI 0, wS [], wN], [wI 2, wS [], wI 1, wS [115,103], wN]]], [wS [112,108], wL false 5 [[wI 2, wS [], wI 0, wS [112,108], wN], [wI 1, wS [101,100], wI 0, wS [], wN], [wI 2, wS [], wI 1, wS [112,108], wN]]], [wS [105,110,102], wL false 5 [[wI 2, wS [], wI 0, wS [105,110,102], wN], [wI 1, wS [101,100], wI 0, wS [], wN], [wI 2, wS [], wI 1, wS [105,110,102], wN]]]]]),
  (39, [wS [65,115,115,101,114,116], wL false 1 [[wS []], [wS []]], wS [], wL true 1 [[wS [115,58,32,48,46,110,111,109,32,49,46,36,48,46,110,117,109,98,101,114]]]], wA [wS [65,115,115,101,114,116], wL false 1 [[wL false 2 []], [wL false 2 []]], wL false 2 [], wL false 2 [[wS [115], wL false 5 [[wI 2, wS [], wI 0, wS [110,111,109], wN], [wI 2, wS [], wI 1, wS [36,48,46,110,117,109,98,101,114], wN]]]]]),
  (39, [wS [77,117,115,116], wL false 1 [[wS []], [wS []]], wS [], wL true 1 [[wS [115,58,32,48,46,110,111,109,32,100,117,110,97,32,49,46,105,110,102]]]], wA [wS [77,117,115,116], wL false 1 [[wL false 2 []], [wL false 2 []]], wL false 2 [], wL false 2 [[wS [115], wL false 5 [[wI 2, wS [], wI 0, wS [110,111,109], wN], [wI 1, wS [100,117,110,97], wI 0, wS [], wN], [wI 2, wS [], wI 1, wS [105,110,102], wN]]]]]),
  (39, [wS [77,117,115,116,78,111,116], wL false 1 [[wS []], [wS []]], wS [], wL true 1 [[wS [115,58,32,48,46,110,111,109,32,100,117,110,97,32,110,101,32,49,46,105,110,102]]]], wA [wS [77,117,115,116,78,111,116], wL false 1 [[wL false 2 []], [wL false 2 []]], wL false 2 [], wL false 2 [[wS [115], wL false 5 [[wI 2, wS [], wI 0, wS [110,111,109], wN], [wI 1, wS [100,117,110,97], wI 0, wS [], wN], [wI 1, wS [110,101], wI 0, wS [], wN], [wI 2, wS [], wI 1, wS [105,110,102], wN]]]]]),
  (39, [wS [77,97,121], wL false 1 [[wS []], [wS []]], wS [], wL true 1 [[wS [115,58,32,48,46,110,111,109,32,112,111,118,97,32,49,46,105,110,102]]]], wA [wS [77,97,121], wL false 1 [[wL false 2 []], [wL false 2 []]], wL false 2 [], wL false 2 [[wS [115], wL false 5 [[wI 2, wS [], wI 0, wS [110,111,109], wN], [wI 1, wS [112,111,118,97], wI 0, wS [], wN], [wI 2, wS [], wI 1, wS [105,110,102], wN]]]]]),
  (39, [wS [68,117,114,105,110,103], wL false 1 [[wS []]], wS [], wL true 1 [[wS [115,58,32,100,101,32,64,48,32,97,100,32,64,49,32,48,46,115]]]], wA [wS [68,117,114,105,110,103], wL false 1 [[wL false 2 []]], wL false 2 [], wL false 2 [[wS [115], wL false 5 [[wI 1, wS [100,101], wI 0, wS [], wN], [wI 5, wS [], wI 0, wS [], wN], [wI 1, wS [97,100], wI 0, wS [], wN], [wI 5, wS [], wI 1, wS [], wN], [wI 2, wS [], wI 0, wS [115], wN]]]]])]
set_option maxRecDepth 100000 in
theorem tabR2_ok : tabOk K10 tabR2 = true := by kernel_rfl
def tabR3 : Tab := [
  (39, [wS [83,105,110,99,101], wL false 1 [[wS []]], wS [], wL true 1 [[wS [115,58,32,112,111,115,32,64,48,32,48,46,115]]]], wA [wS [83,105,110,99,101], wL false 1 [[wL false 2 []]], wL false 2 [], wL false 2 [[wS [115], wL false 5 [[wI 1, wS [112,111,115], wI 0, wS [], wN], [wI 5, wS [], wI 0, wS [], wN], [wI 2, wS [], wI 0, wS [115], wN]]]]]),
  (39, [wS [85,110,116,105,108], wL false 1 [[wS []]], wS [], wL true 1 [[wS [115,58,32,97,110,116,101,32,64,48,32,48,46,115]]]], wA [wS [85,110,116,105,108], wL false 1 [[wL false 2 []]], wL false 2 [], wL false 2 [[wS [115], wL false 5 [[wI 1, wS [97,110,116,101], wI 0, wS [], wN], [wI 5, wS [], wI 0, wS [], wN], [wI 2, wS [], wI 0, wS [115], wN]]]]]),
  (39, [wS [65,110,100], wL false 1 [[wS []], [wS []]], wS [], wL true 1 [[wS [115,58,32,97,109,98,111,32,48,46,115,32,107,97,105,32,49,46,115]]]], wA [wS [65,110,100], wL false 1 [[wL false 2 []], [wL false 2 []]], wL false 2 [], wL false 2 [[wS [115], wL false 5 [[wI 1, wS [97,109,98,111], wI 0, wS [], wN], [wI 2, wS [], wI 0, wS [115], wN], [wI 1, wS [107,97,105], wI 0, wS [], wN], [wI 2, wS [], wI 1, wS [115], wN]]]]]),
  (39, [wS [79,114], wL false 1 [[wS []], [wS []]], wS [], wL true 1 [[wS [115,58,32,97,117,116,32,48,46,115,32,118,101,108,32,49,46,115]]]], wA [wS [79,114], wL false 1 [[wL false 2 []], [wL false 2 []]], wL false 2 [], wL false 2 [[wS [115], wL false 5 [[wI 1, wS [97,117,116], wI 0, wS [], wN], [wI 2, wS [], wI 0, wS [115], wN], [wI 1, wS [118,101,108], wI 0, wS [], wN], [wI 2, wS [], wI 1, wS [115], wN]]]]]),
  (39, [wS [73,102], wL false 1 [[wS []], [wS []]], wS [], wL true 1 [[wS [115,58,32,115,101,32,48,46,115,32,116,117,109,32,49,46,115]]]], wA [wS [73,102], wL false 1 [[wL false 2 []], [wL false 2 []]], wL false 2 [], wL false 2 [[wS [115], wL false 5 [[wI 1, wS [115,101], wI 0, wS [], wN], [wI 2, wS [], wI 0, wS [115], wN], [wI 1, wS [116,117,109], wI 0, wS [], wN], [wI 2, wS [], wI 1, wS [115], wN]]]]]),
  (39, [wS [65,108,115,111], wL false 1 [[wS []], [wS []]], wS [], wL true 1 [[wS [115,58,32,48,46,115,32,97,110,107,97,117,32,49,46,110,111,109]]]], wA [wS [65,108,115,111], wL false 1 [[wL false 2 []], [wL false 2 []]], wL false 2 [], wL false 2 [[wS [115], wL false 5 [[wI 2, wS [], wI 0, wS [115], wN], [wI 1, wS [97,110,107,97,117], wI 0, wS [], wN], [wI 2, wS [], wI 1, wS [110,111,109], wN]]]]]),
  (39, [wS [80,108,101,97,115,101], wL false 1 [[wS []]], wS [], wL true 1 [[wS [115,58,32,112,114,101,103,111,32,48,46,115]]]], wA [wS [80,108,101,97,115,101], wL false 1 [[wL false 2 []]], wL false 2 [], wL false 2 [[wS [115], wL false 5 [[wI 1, wS [112,114,101,103,111], wI 0, wS [], wN], [wI 2, wS [], wI 0, wS [115], wN]]]]])]
set_option maxRecDepth 100000 in
theorem tabR3_ok : tabOk K10 tabR3 = true := by kernel_rfl
def tabW0 : Tab := [
  (43, [wL false 5 [[wS [112,97,115,115,101,110,103,101,114], wS [110], wS [112,97,115,97], wS [110,111,117,110], wN], [wS [99,104,105,108,100], wS [110], wS [98,105,98,101], wS [110,111,117,110], wN], [wS [103,117,97,114,100], wS [110], wS [103,97,114,100,97], wS [110,111,117,110], wN], [wS [100,111,103], wS [110], wS [107,97,110,111], wS [110,111,117,110], wN]], wS [103,101,110,100,101,114,61,109], wL true 2 [[wS [99,97,115,101], wL false 1 [[wS [110,111,109]], [wS [97,99,99]], [wS [100,97,116]]]], [wS [110,117,109,98,101,114], wL false 1 [[wS [115,103]], [wS [112,108]]]]]], wL false 4 [[wS [112,97,115,115,101,110,103,101,114], wN, wL false 2 [[wS [103,101,110,100,101,114], wS [109]]], wL false 2 [[wS [110,111,109,45,115,103], wL true 5 [[wI 3, wS [112,97,115,115,101,110,103,101,114], wI 0, wS [], wL false 2 [[wS [99,97,115,101], wS [110,111,109]], [wS [110,117,109,98,101,114], wS [115,103]]]]]], [wS [110,111,109,45,112,108], wL true 5 [[wI 3, wS [112,97,115,115,101,110,103,101,114], wI 0, wS [], wL false 2 [[wS [99,97,115,101], wS [110,111,109]], [wS [110,117,109,98,101,114], wS [112,108]]]]]], [wS [97,99,99,45,115,103], wL true 5 [[wI 3, wS [112,97,115,115,101,110,103,101,114], wI 0, wS [], wL false 2 [[wS [99,97,115,101], wS [97,99,99]], [wS [110,117,109,98,101,114], wS [115,103]]]]]], [wS [97,99,99,45,112,108], wL true 5 [[wI 3, wS [112,97,115,115,101,110,103,101,114], wI 0, wS [], wL false 2 [[wS [99,97,115,101], wS [97,99,99]], [wS [110,117,109,98,101,114], wS [112,108]]]]]], [wS [100,97,116,45,115,103], wL true 5 [[wI 3, wS [112,97,115,115,101,110,103,101,114], wI 0, wS [], wL false 2 [[wS [99,97,115,101], wS [100,97,116]], [wS [110,117,109,98,101,114], wS [115,103]]]]]], [wS [100,97,116,45,112,108], wL true 5 [[wI 3, wS [112,97,115,115,101,110,103,101,114], wI 0, wS [], wL false 2 [[wS [99,97,115,101], wS [100,97,116]], [wS [110,117,109,98,101,114], wS [112,108]]]]]]]], [wS [99,104,105,108,100], wN, wL false 2 [[wS [103,101,110,100,101,114], wS [109]]], wL false 2 [[wS [110,111,109,45,115,103], wL true 5 [[wI 3, wS [99,104,105,108,100], wI 0, wS [], wL false 2 [[wS [99,97,115,101], wS [110,111,109]], [wS [110,117,109,98,101,114], wS [115,103]]]]]], [wS [110,111,109,45,112,108], wL true 5 [[wI 3, wS [99,104,105,108,100], wI 0, wS [], wL false 2 [[wS [99,97,115,101], wS [110,111,109]], [wS [110,117,109,98,101,114], wS [112,108]]]]]], [wS [97,99,99,45,115,103], wL true 5 [[wI 3, wS [99,104,105,108,100], wI 0, wS [], wL false 2 [[wS [99,97,115,101], wS [97,99,99]], [wS [110,117,109,98,101,114], wS [115,103]]]]]], [wS [97,99,99,45,112,108], wL true 5 [[wI 3, wS [99,104,105,108,100], wI 0, wS [], wL false 2 [[wS [99,97,115,101], wS [97,99,99]], [wS [110,117,109,98,101,114], wS [112,108]]]]]], [wS [100,97,116,45,115,103], wL true 5 [[wI 3, wS [99,104,105,108,100], wI 0, wS [], wL false 2 [[wS [99,97,115,101], wS [100,97,116]], [wS [110,117,109,98,101,114], wS [115,103]]]]]], [wS [100,97,116,45,112,108], wL true 5 [[wI 3, wS [99,104,105,108,100], wI 0, wS [], wL false 2 [[wS [99,97,115,101], wS [100,97,116]], [wS [110,117,109,98,101,114], wS [112,108]]]]]]]], [wS [103,117,97,114,100], wN, wL false 2 [[wS [103,101,110,100,101,114], wS [109]]], wL false 2 [[wS [110,111,109,45,115,103], wL true 5 [[wI 3, wS [103,117,97,114,100], wI 0, wS [], wL false 2 [[wS [99,97,115,101], wS [110,111,109]], [wS [110,117,109,98,101,114], wS [115,103]]]]]], [wS [110,111,109,45,112,108], wL true 5 [[wI 3, wS [103,117,97,114,100], wI 0, wS [], wL false 2 [[wS [99,97,115,101], wS [110,111,109]], [wS [110,117,109,98,101,114], wS [112,108]]]]]], [wS [97,99,99,45,115,103], wL true 5 [[wI 3, wS [103,117,97,114,100], wI 0, wS [], wL false 2 [[wS [99,97,115,101], wS [97,99,99]], [wS [110,117,109,98,101,114], wS [115,103]]]]]], [wS [97,99,99,45,112,108], wL true 5 [[wI 3, wS [103,117,97,114,100], wI 0, wS [], wL false 2 [[wS [99,97,115,101], wS [97,99,99]], [wS [110,117,109,98,101,114], wS [112,108]]]]]], [wS [100,97,116,45,115,103], wL true 5 [[wI 3, wS [103,117,97,114,100], wI 0, wS [], wL false 2 [[wS [99,97,115,101], wS [100,97,116]], [wS [110,117,109,98,101,114], wS [115,103]]]]]], [wS [100,97,116,45,112,108], wL true 5 [[wI 3, wS [103,117,97,114,100], wI 0, wS [], wL false 2 [[wS [99,97,115,101], wS [100,97,116]], [wS [110,117,109,98,101,114], wS [112,108]]]]]]]], [wS [100,111,103], wN, wL false 2 [[wS [103,101,110,100,101,114], wS [109]]], wL false 2 [[wS [110,111,109,45,115,103], wL true 5 [[wI 3, wS [100,111,103], wI 0, wS [], wL false 2 [[wS [99,97,115,101], wS [110,111,109]], [wS [110,117,109,98,101,114], wS [115,103]]]]]], [wS [110,111,109,45,112,108], wL true 5 [[wI 3, wS [100,111,103], wI 0, wS [], wL false 2 [[wS [99,97,115,101], wS [110,111,109]], [wS [110,117,109,98,101,114], wS [112,108]]]]]], [wS [97,99,99,45,115,103], wL true 5 [[wI 3, wS [100,111,103], wI 0, wS [], wL false 2 [[wS [99,97,115,101], wS [97,99,99]], [wS [110,117,109,98,101,114], wS [115,103]]]]]], [wS [97,99,99,45,112,108], wL true 5 [[wI 3, wS [100,111,103], wI 0, wS [], wL false 2 [[wS [99,97,115,101], wS [97,99,99]], [wS [110,117,109,98,101,114], wS [112,108]]]]]], [wS [100,97,116,45,115,103], wL true 5 [[wI 3, wS [100,111,103], wI 0, wS [], wL false 2 [[wS [99,97,115,101], wS [100,97,116]], [wS [110,117,109,98,101,114], wS [115,103]]]]]], [wS [100,97,116,45,112,108], wL true 5 [[wI 3, wS [100,111,103], wI 0, wS [], wL false 2 [[wS [99,97,115,101], wS [100,97,116]], [wS [110,117,109,98,101,114], wS [112,108]]]]]]]]]),
  (43, [wL false 5 [[wS [102,101,114,114,121], wS [110], wS [110,97,118,97], wS [110,111,117,110], wN], [wS [116,105,99,107,101,116], wS [110], wS [98,105,108,101,116,97], wS [110,111,117,110], wN], [wS [98,97,103], wS [110], wS [115,97,107,97], wS [110,111,117,110], wN], [wS [100,111,111,114], wS [110], wS [112,111,114,116,97], wS [110,111,117,110], wN]], wS [103,101,110,100,101,114,61,102], wL true 2 [[wS [99,97,115,101], wL false 1 [[wS [110,111,109]], [wS [97,99,99]], [wS [100,97,116]]]], [wS [110,117,109,98,101,114], wL false 1 [[wS [115,103]], [wS [112,108]]]]]], wL false 4 [[wS [102,101,114,114,121], wN, wL false 2 [[wS [103,101,110,100,101,114], wS [102]]], wL false 2 [[wS [110,111,109,45,115,103], wL true 5 [[wI 3, wS [102,101,114,114,121], wI 0, wS [], wL false 2 [[wS [99,97,115,101], wS [110,111,109]], [wS [110,117,109,98,101,114], wS [115,103]]]]]], [wS [110,111,109,45,112,108], wL true 5 [[wI 3, wS [102,101,114,114,121], wI 0, wS [], wL false 2 [[wS [99,97,115,101], wS [110,111,109]], [wS [110,117,109,98,101,114], wS [112,108]]]]]], [wS [97,99,99,45,115,103], wL true 5 [[wI 3, wS [102,101,114,114,121], wI 0, wS [], wL false 2 [[wS [99,97,115,101], wS [97,99,99]], [wS [110,117,109,98,101,114], wS [115,103]]]]]], [wS [97,99,99,45,112,108], wL true 5 [[wI 3, wS [102,101,114,114,121], wI 0, wS [], wL false 2 [[wS [99,97,115,101], wS [97,99,99]], [wS [110,117,109,98,101,114], wS [112,108]]]]]], [wS [100,97,116,45,115,103], wL true 5 [[wI 3, wS [102,101,114,114,121], wI 0, wS [], wL false 2 [[wS [99,97,115,101], wS [100,97,116]], [wS [110,117,109,98,101,114], wS [115,103]]]]]], [wS [100,97,116,45,112,108], wL true 5 [[wI 3, wS [102,101,114,114,121], wI 0, wS [], wL false 2 [[wS [99,97,115,101], wS [100,97,116]], [wS [110,117,109,98,101,114], wS [112,108]]]]]]]], [wS [116,105,99,107,101,116], wN, wL false 2 [[wS [103,101,110,100,101,114], wS [102]]], wL false 2 [[wS [110,111,109,45,115,103], wL true 5 [[wI 3, wS [116,105,99,107,101,116], wI 0, wS [], wL false 2 [[wS [99,97,115,101], wS [110,111,109]], [wS [110,117,109,98,101,114], wS [115,103]]]]]], [wS [110,111,109,45,112,108], wL true 5 [[wI 3, wS [116,105,99,107,101,116], wI 0, wS [], wL false 2 [[wS [99,97,115,101], wS [110,111,109]], [wS [110,117,109,98,101,114], wS [112,108]]]]]], [wS [97,99,99,45,115,103], wL true 5 [[wI 3, wS [116,105,99,107,101,116], wI 0, wS [], wL false 2 [[wS [99,97,115,101], wS [97,99,99]], [wS [110,117,109,98,101,114], wS [115,103]]]]]], [wS [97,99,99,45,112,108], wL true 5 [[wI 3, wS [116,105,99,107,101,116], wI 0, wS [], wL false 2 [[wS [99,97,115,101], wS [97,99,99]], [wS [110,117,109,98,101,114], wS [112,108]]]]]], [wS [100,97,116,45,115,103], wL true 5 [[wI 3, wS [116,105,99,107,101,116], wI 0, wS [], wL false 2 [[wS [99,97,115,101], wS [100,97,116]], [wS [110,117,109,98,101,114], wS [115,103]]]]]], [wS [100,97,116,45,112,108], wL true 5 [[wI 3, wS [116,105,99,107,101,116], wI 0, wS [], wL false 2 [[wS [99,97,115,101], wS [100,97,116]], [wS [110,117,109,98,101,114], wS [112,108]]]]]]]], [wS [98,97,103], wN, wL false 2 [[wS [103,101,110,100,101,114], wS [102]]], wL false 2 [[wS [110,111,109,45,115,103], wL true 5 [[wI 3, wS [98,97,103], wI 0, wS [], wL false 2 [[wS [99,97,115,101], wS [110,111,109]], [wS [110,117,109,98,101,114], wS [115,103]]]]]], [wS [110,111,109,45,112,108], wL true 5 [[wI 3, wS [98,97,103], wI 0, wS [], wL false 2 [[wS [99,97,115,101], wS [110,111,109]], [wS [110,117,109,98,101,114], wS [112,108]]]]]], [wS [97,99,99,45,115,103], wL true 5 [[wI 3, wS [98,97,103], wI 0, wS [], wL false 2 [[wS [99,97,115,101], wS [97,99,99]], [wS [110,117,109,98,101,114], wS [115,103]]]]]], [wS [97,99,99,45,112,108], wL true 5 [[wI 3, wS [98,97,103], wI 0, wS [], wL false 2 [[wS [99,97,115,101], wS [97,99,99]], [wS [110,117,109,98,101,114], wS [112,108]]]]]], [wS [100,97,116,45,115,103], wL true 5 [[wI 3, wS [98,97,103], wI 0, wS [], wL false 2 [[wS [99,97,115,101], wS [100,97,116]], [wS [110,117,109,98,101,114], wS [115,103]]]]]], [wS [100,97,116,45,112,108], wL true 5 [[wI 3, wS [98,97,103], wI 0, wS [], wL false 2 [[wS [99,97,115,101], wS [100,97,116]], [wS [110,117,109,98,101,114], wS [112,108]]]]]]]], [wS [100,111,111,114], wN, wL false 2 [[wS [103,101,110,100,101,114], wS [102]]], wL false 2 [[wS [110,111,109,45,115,103], wL true 5 [[wI 3, wS [100,111,111,114], wI 0, wS [], wL false 2 [[wS [99,97,115,101], wS [110,111,109]], [wS [110,117,109,98,101,114], wS [115,103]]]]]], [wS [110,111,109,45,112,108], wL true 5 [[wI 3, wS [100,111,111,114], wI 0, wS [], wL false 2 [[wS [99,97,115,101], wS [110,111,109]], [wS [110,117,109,98,101,114], wS [112,108]]]]]], [wS [97,99,99,45,115,103], wL true 5 [[wI 3, wS [100,111,111,114], wI 0, wS [], wL false 2 [[wS [99,97,115,101], wS [97,99,99]], [wS [110,117,109,98,101,114], wS [115,103]]]]]], [wS [97,99,99,45,112,108], wL true 5 [[wI 3, wS [100,111,111,114], wI 0, wS [], wL false 2 [[wS [99,97,115,101], wS [97,99,99]], [wS [110,117,109,98,101,114], wS [112,108]]]]]], [wS [100,97,116,45,115,103], wL true 5 [[wI 3, wS [100,111,111,114], wI 0, wS [], wL false 2 [[wS [99,97,115,101], wS [100,97,116]], [wS [110,117,109,98,101,114], wS [115,103]]]]]], [wS [100,97,116,45,112,108], wL true 5 [[wI 3, wS [100,111,111,114], wI 0, wS [], wL false 2 [[wS [99,97,115,101], wS [100,97,116]], [wS [110,117,109,98,101,114], wS [112,108]]]]]]]]])]
set_option maxRecDepth 100000 in
theorem tabW0_ok : tabOk K10 tabW0 = true := by kernel_rfl
def tabW1 : Tab := [
  (43, [wL false 5 [[wS [116,105,114,101,100], wS [97], wS [108,97,115], wS [97,100,106,101,99,116,105,118,101], wN], [wS [111,108,100], wS [97], wS [118,101,116], wS [97,100,106,101,99,116,105,118,101], wN], [wS [119,101,116], wS [97], wS [117,109,105,100], wS [97,100,106,101,99,116,105,118,101], wN], [wS [115,109,97,108,108], wS [97], wS [112,105,107], wS [97,100,106,101,99,116,105,118,101], wN], [wS [108,111,99,107,101,100], wS [97], wS [107,108,97,118], wS [97,100,106,101,99,116,105,118,101], wN]], wS [], wL true 2 [[wS [103,101,110,100,101,114], wL false 1 [[wS [102]], [wS [109]]]], [wS [110,117,109,98,101,114], wL false 1 [[wS [115,103]], [wS [112,108]]]]]], wL false 4 [[wS [116,105,114,101,100], wN, wL false 2 [], wL false 2 [[wS [102,45,115,103], wL true 5 [[wI 3, wS [116,105,114,101,100], wI 0, wS [], wL false 2 [[wS [103,101,110,100,101,114], wS [102]], [wS [110,117,109,98,101,114], wS [115,103]]]]]], [wS [102,45,112,108], wL true 5 [[wI 3, wS [116,105,114,101,100], wI 0, wS [], wL false 2 [[wS [103,101,110,100,101,114], wS [102]], [wS [110,117,109,98,101,114], wS [112,108]]]]]], [wS [109,45,115,103], wL true 5 [[wI 3, wS [116,105,114,101,100], wI 0, wS [], wL false 2 [[wS [103,101,110,100,101,114], wS [109]], [wS [110,117,109,98,101,114], wS [115,103]]]]]], [wS [109,45,112,108], wL true 5 [[wI 3, wS [116,105,114,101,100], wI 0, wS [], wL false 2 [[wS [103,101,110,100,101,114], wS [109]], [wS [110,117,109,98,101,114], wS [112,108]]]]]]]], [wS [111,108,100], wN, wL false 2 [], wL false 2 [[wS [102,45,115,103], wL true 5 [[wI 3, wS [111,108,100], wI 0, wS [], wL false 2 [[wS [103,101,110,100,101,114], wS [102]], [wS [110,117,109,98,101,114], wS [115,103]]]]]], [wS [102,45,112,108], wL true 5 [[wI 3, wS [111,108,100], wI 0, wS [], wL false 2 [[wS [103,101,110,100,101,114], wS [102]], [wS [110,117,109,98,101,114], wS [112,108]]]]]], [wS [109,45,115,103], wL true 5 [[wI 3, wS [111,108,100], wI 0, wS [], wL false 2 [[wS [103,101,110,100,101,114], wS [109]], [wS [110,117,109,98,101,114], wS [115,103]]]]]], [wS [109,45,112,108], wL true 5 [[wI 3, wS [111,108,100], wI 0, wS [], wL false 2 [[wS [103,101,110,100,101,114], wS [109]], [wS [110,117,109,98,101,114], wS [112,108]]]]]]]], [wS [119,101,116], wN, wL false 2 [], wL false 2 [[wS [102,45,115,103], wL true 5 [[wI 3, wS [119,101,116], wI 0, wS [], wL false 2 [[wS [103,101,110,100,101,114], wS [102]], [wS [110,117,109,98,101,114], wS [115,103]]]]]], [wS [102,45,112,108], wL true 5 [[wI 3, wS [119,101,116], wI 0, wS [], wL false 2 [[wS [103,101,110,100,101,114], wS [102]], [wS [110,117,109,98,101,114], wS [112,108]]]]]], [wS [109,45,115,103], wL true 5 [[wI 3, wS [119,101,116], wI 0, wS [], wL false 2 [[wS [103,101,110,100,101,114], wS [109]], [wS [110,117,109,98,101,114], wS [115,103]]]]]], [wS [109,45,112,108], wL true 5 [[wI 3, wS [119,101,116], wI 0, wS [], wL false 2 [[wS [103,101,110,100,101,114], wS [109]], [wS [110,117,109,98,101,114], wS [112,108]]]]]]]], [wS [115,109,97,108,108], wN, wL false 2 [], wL false 2 [[wS [102,45,115,103], wL true 5 [[wI 3, wS [115,109,97,108,108], wI 0, wS [], wL false 2 [[wS [103,101,110,100,101,114], wS [102]], [wS [110,117,109,98,101,114], wS [115,103]]]]]], [wS [102,45,112,108], wL true 5 [[wI 3, wS [115,109,97,108,108], wI 0, wS [], wL false 2 [[wS [103,101,110,100,101,114], wS [102]], [wS [110,117,109,98,101,114], wS [112,108]]]]]], [wS [109,45,115,103], wL true 5 [[wI 3, wS [115,109,97,108,108], wI 0, wS [], wL false 2 [[wS [103,101,110,100,101,114], wS [109]], [wS [110,117,109,98,101,114], wS [115,103]]]]]], [wS [109,45,112,108], wL true 5 [[wI 3, wS [115,109,97,108,108], wI 0, wS [], wL false 2 [[wS [103,101,110,100,101,114], wS [109]], [wS [110,117,109,98,101,114], wS [112,108]]]]]]]], [wS [108,111,99,107,101,100], wN, wL false 2 [], wL false 2 [[wS [102,45,115,103], wL true 5 [[wI 3, wS [108,111,99,107,101,100], wI 0, wS [], wL false 2 [[wS [103,101,110,100,101,114], wS [102]], [wS [110,117,109,98,101,114], wS [115,103]]]]]], [wS [102,45,112,108], wL true 5 [[wI 3, wS [108,111,99,107,101,100], wI 0, wS [], wL false 2 [[wS [103,101,110,100,101,114], wS [102]], [wS [110,117,109,98,101,114], wS [112,108]]]]]], [wS [109,45,115,103], wL true 5 [[wI 3, wS [108,111,99,107,101,100], wI 0, wS [], wL false 2 [[wS [103,101,110,100,101,114], wS [109]], [wS [110,117,109,98,101,114], wS [115,103]]]]]], [wS [109,45,112,108], wL true 5 [[wI 3, wS [108,111,99,107,101,100], wI 0, wS [], wL false 2 [[wS [103,101,110,100,101,114], wS [109]], [wS [110,117,109,98,101,114], wS [112,108]]]]]]]]]),
  (43, [wL false 5 [[wS [119,97,105,116], wS [118,49], wS [97,116,101,110,100,105], wS [118,101,114,98], wN], [wS [115,108,101,101,112], wS [118,49], wS [100,111,114,109,105], wS [118,101,114,98], wN], [wS [115,109,111,107,101], wS [118,49], wS [102,117,109,105], wS [118,101,114,98], wN], [wS [100,101,112,97,114,116], wS [118,49], wS [112,97,114,116,105], wS [118,101,114,98], wN], [wS [97,114,114,105,118,101], wS [118,49], wS [118,101,110,105], wS [118,101,114,98], wN], [wS [99,97,114,114,121], wS [118,50], wS [112,111,114,116,105], wS [118,101,114,98], wN], [wS [111,112,101,110], wS [118,50], wS [97,112,101,114,105], wS [118,101,114,98], wN], [wS [116,111,117,99,104], wS [118,50], wS [116,111,107,105], wS [118,101,114,98], wN], [wS [98,111,97,114,100], wS [118,50], wS [109,111,110,116,105], wS [118,101,114,98], wN], [wS [101,110,116,101,114], wS [118,50], wS [101,110,105,114,105], wS [118,101,114,98], wN], [wS [115,104,111,119], wS [118,51], wS [109,111,115,116,114,105], wS [118,101,114,98], wN], [wS [103,105,118,101], wS [118,51], wS [100,111,110,105], wS [118,101,114,98], wN], [wS [114,101,116,117,114,110], wS [118,51], wS [114,101,110,100,105], wS [118,101,114,98], wN], [wS [99,111,115,116], wS [118,113], wS [107,111,115,116,105], wS [118,101,114,98], wN], [wS [119,101,105,103,104], wS [118,113], wS [112,101,115,105], wS [118,101,114,98], wN]], wS [], wL true 2 [[wS [102,111,114,109], wL false 1 [[wS [115,103]], [wS [112,108]], [wS [105,110,102]]]]]], wL false 4 [[wS [119,97,105,116], wN, wL false 2 [], wL false 2 [[wS [115,103], wL true 5 [[wI 3, wS [119,97,105,116], wI 0, wS [], wL false 2 [[wS [102,111,114,109], wS [115,103]]]]]], [wS [112,108], wL true 5 [[wI 3, wS [119,97,105,116], wI 0, wS [], wL false 2 [[wS [102,111,114,109], wS [112,108]]]]]], [wS [105,110,102], wL true 5 [[wI 3, wS [119,97,105,116], wI 0, wS [], wL false 2 [[wS [102,111,114,109], wS [105,110,102]]]]]]]], [wS [115,108,101,101,112], wN, wL false 2 [], wL false 2 [[wS [115,103], wL true 5 [[wI 3, wS [115,108,101,101,112], wI 0, wS [], wL false 2 [[wS [102,111,114,109], wS [115,103]]]]]], [wS [112,108], wL true 5 [[wI 3, wS [115,108,101,101,112], wI 0, wS [], wL false 2 [[wS [102,111,114,109], wS [112,108]]]]]], [wS [105,110,102], wL true 5 [[wI 3, wS [115,108,101,101,112], wI 0, wS [], wL false 2 [[wS [102,111,114,109], wS [105,110,102]]]]]]]], [wS [115,109,111,107,101], wN, wL false 2 [], wL false 2 [[wS [115,103], wL true 5 [[wI 3, wS [115,109,111,107,101], wI 0, wS [], wL false 2 [[wS [102,111,114,109], wS [115,103]]]]]], [wS [112,108], wL true 5 [[wI 3, wS [115,109,111,107,101], wI 0, wS [], wL false 2 [[wS [102,111,114,109], wS [112,108]]]]]], [wS [105,110,102], wL true 5 [[wI 3, wS [115,109,111,107,101], wI 0, wS [], wL false 2 [[wS [102,111,114,109], wS [105,110,102]]]]]]]], [wS [100,101,112,97,114,116], wN, wL false 2 [], wL false 2 [[wS [115,103], wL true 5 [[wI 3, wS [100,101,112,97,114,116], wI 0, wS [], wL false 2 [[wS [102,111,114,109], wS [115,103]]]]]], [wS [112,108], wL true 5 [[wI 3, wS [100,101,112,97,114,116], wI 0, wS [], wL false 2 [[wS [102,111,114,109], wS [112,108]]]]]], [wS [105,110,102], wL true 5 [[wI 3, wS [100,101,112,97,114,116], wI 0, wS [], wL false 2 [[wS [102,111,114,109], wS [105,110,102]]]]]]]], [wS [97,114,114,105,118,101], wN, wL false 2 [], wL false 2 [[wS [115,103], wL true 5 [[wI 3, wS [97,114,114,105,118,101], wI 0, wS [], wL false 2 [[wS [102,111,114,109], wS [115,103]]]]]], [wS [112,108], wL true 5 [[wI 3, wS [97,114,114,105,118,101], wI 0, wS [], wL false 2 [[wS [102,111,114,109], wS [112,108]]]]]], [wS [105,110,102], wL true 5 [[wI 3, wS [97,114,114,105,118,101], wI 0, wS [], wL false 2 [[wS [102,111,114,109], wS [105,110,102]]]]]]]], [wS [99,97,114,114,121], wN, wL false 2 [], wL false 2 [[wS [115,103], wL true 5 [[wI 3, wS [99,97,114,114,121], wI 0, wS [], wL false 2 [[wS [102,111,114,109], wS [115,103]]]]]], [wS [112,108], wL true 5 [[wI 3, wS [99,97,114,114,121], wI 0, wS [], wL false 2 [[wS [102,111,114,109], wS [112,108]]]]]], [wS [105,110,102], wL true 5 [[wI 3, wS [99,97,114,114,121], wI 0, wS [], wL false 2 [[wS [102,111,114,109], wS [105,110,102]]]]]]]], [wS [111,112,101,110], wN, wL false 2 [], wL false 2 [[wS [115,103], wL true 5 [[wI 3, wS [111,112,101,110], wI 0, wS [], wL false 2 [[wS [102,111,114,109], wS [115,103]]]]]], [wS [112,108], wL true 5 [[wI 3, wS [111,112,101,110], wI 0, wS [], wL false 2 [[wS [102,111,114,109], wS [112,108]]]]]], [wS [105,110,102], wL true 5 [[wI 3, wS [111,112,101,110], wI 0, wS [], wL false 2 [[wS [102,111,114,109], wS [105,110,102]]]]]]]], [wS [116,111,117,99,104], wN, wL false 2 [], wL false 2 [[wS [115,103], wL true 5 [[wI 3, wS [116,111,117,99,104], wI 0, wS [], wL false 2 [[wS [102,111,114,109], wS [115,103]]]]]], [wS [112,108], wL true 5 [[wI 3, wS [116,111,117,99,104], wI 0, wS [], wL false 2 [[wS [102,111,114,109], wS [112,108]]]]]], [wS [105,110,102], wL true 5 [[wI 3, wS [116,111,117,99,104], wI 0, wS [], wL false 2 [[wS [102,111,114,109], wS [105,110,102]]]]]]]], [wS [98,111,97,114,100], wN, wL false 2 [], wL false 2 [[wS [115,103], wL true 5 [[wI 3, wS [98,111,97,114,100], wI 0, wS [], wL false 2 [[wS [102,111,114,109], wS [115,103]]]]]], [wS [112,108], wL true 5 [[wI 3, wS [98,111,97,114,100], wI 0, wS [], wL false 2 [[wS [102,111,114,109], wS [112,108]]]]]], [wS [105,110,102], wL true 5 [[wI 3, wS [98,111,97,114,100], wI 0, wS [], wL false 2 [[wS [102,111,114,109], wS [105,110,102]]]]]]]], [wS [101,110,116,101,114], wN, wL false 2 [], wL false 2 [[wS [115,103], wL true 5 [[wI 3, wS [101,110,116,101,114], wI 0, wS [], wL false 2 [[wS [102,111,114,109], wS [115,103]]]]]], [wS [112,108], wL true 5 [[wI 3, wS [101,110,116,101,114], wI 0, wS [], wL false 2 [[wS [102,111,114,109], wS [112,108]]]]]], [wS [105,110,102], wL true 5 [[wI 3, wS [101,110,116,101,114], wI 0, wS [], wL false 2 [[wS [102,111,114,109], wS [105,110,102]]]]]]]], [wS [115,104,111,119], wN, wL false 2 [], wL false 2 [[wS [115,103], wL true 5 [[wI 3, wS [115,104,111,119], wI 0, wS [], wL false 2 [[wS [102,111,114,109], wS [115,103]]]]]], [wS [112,108], wL true 5 [[wI 3, wS [115,104,111,119], wI 0, wS [], wL false 2 [[wS [102,111,114,109], wS [112,108]]]]]], [wS [105,110,102], wL true 5 [[wI 3, wS [115,104,111,119], wI 0, wS [], wL false 2 [[wS [102,111,114,109], wS [105,110,102]]]]]]]], [wS [103,105,118,101], wN, wL false 2 [], wL false 2 [[wS [115,103], wL true 5 [[wI 3, wS [103,105,118,101], wI 0, wS [], wL false 2 [[wS [102,111,114,109], wS [115,103]]]]]], [wS [112,108], wL true 5 [[wI 3, wS [103,105,118,101], wI 0, wS [], wL false 2 [[wS [102,111,114,109], wS [112,108]]]]]], [wS [105,110,102], wL true 5 [[wI 3, wS [103,105,118,101], wI 0, wS [], wL false 2 [[wS [102,111,114,109], wS [105,110,102]]]]]]]], [wS [114,101,116,117,114,110], wN, wL false 2 [], wL false 2 [[wS [115,103], wL true 5 [[wI 3, wS [114,101,116,117,114,110], wI 0, wS [], wL false 2 [[wS [102,111,114,109], wS [115,103]]]]]], [wS [112,108], wL true 5 [[wI 3, wS [114,101,116,117,114,110], wI 0, wS [], wL false 2 [[wS [102,111,114,109], wS [112,108]]]]]], [wS [105,110,102], wL true 5 [[wI 3, wS [114,101,116,117,114,110], wI 0, wS [], wL false 2 [[wS [102,111,114,109], wS [105,110,102]]]]]]]], [wS [99,111,115,116], wN, wL false 2 [], wL false 2 [[wS [115,103], wL true 5 [[wI 3, wS [99,111,115,116], wI 0, wS [], wL false 2 [[wS [102,111,114,109], wS [115,103]]]]]], [wS [112,108], wL true 5 [[wI 3, wS [99,111,115,116], wI 0, wS [], wL false 2 [[wS [102,111,114,109], wS [112,108]]]]]], [wS [105,110,102], wL true 5 [[wI 3, wS [99,111,115,116], wI 0, wS [], wL false 2 [[wS [102,111,114,109], wS [105,110,102]]]]]]]], [wS [119,101,105,103,104], wN, wL false 2 [], wL false 2 [[wS [115,103], wL true 5 [[wI 3, wS [119,101,105,103,104], wI 0, wS [], wL false 2 [[wS [102,111,114,109], wS [115,103]]]]]], [wS [112,108], wL true 5 [[wI 3, wS [119,101,105,103,104], wI 0, wS [], wL false 2 [[wS [102,111,114,109], wS [112,108]]]]]], [wS [105,110,102], wL true 5 [[wI 3, wS [119,101,105,103,104], wI 0, wS [], wL false 2 [[wS [102,111,114,109], wS [105,110,102]]]]]]]]])]
set_option maxRecDepth 100000 in
theorem tabW1_ok : tabOk K10 tabW1 = true := by kernel_rfl
def tabW2 : Tab := [
  (43, [wL false 5 [[wS [109,97,114,116,97], wS [112,110], wS [109,97,114,116,97], wS [110,97,109,101], wN], [wS [99,97,112,116,97,105,110], wS [112,110], wS [107,97,112,105,116,97,110,111], wS [110,97,109,101], wN], [wS [110,111,114,116,104,45,102,101,114,114,121], wS [112,110], wS [110,111,114,100,111,110,97,118,97], wS [110,97,109,101], wN], [wS [115,111,117,116,104,45,102,101,114,114,121], wS [112,110], wS [115,117,100,111,110,97,118,97], wS [110,97,109,101], wN], [wS [111,108,100,45,113,117,97,121], wS [112,110], wS [107,97,105,111], wS [110,97,109,101], wN]], wS [], wL true 2 [[wS [99,97,115,101], wL false 1 [[wS [110,111,109]], [wS [97,99,99]], [wS [100,97,116]]]]]], wL false 4 [[wS [109,97,114,116,97], wN, wL false 2 [], wL false 2 [[wS [110,111,109], wL true 5 [[wI 3, wS [109,97,114,116,97], wI 0, wS [], wL false 2 [[wS [99,97,115,101], wS [110,111,109]]]]]], [wS [97,99,99], wL true 5 [[wI 3, wS [109,97,114,116,97], wI 0, wS [], wL false 2 [[wS [99,97,115,101], wS [97,99,99]]]]]], [wS [100,97,116], wL true 5 [[wI 3, wS [109,97,114,116,97], wI 0, wS [], wL false 2 [[wS [99,97,115,101], wS [100,97,116]]]]]]]], [wS [99,97,112,116,97,105,110], wN, wL false 2 [], wL false 2 [[wS [110,111,109], wL true 5 [[wI 3, wS [99,97,112,116,97,105,110], wI 0, wS [], wL false 2 [[wS [99,97,115,101], wS [110,111,109]]]]]], [wS [97,99,99], wL true 5 [[wI 3, wS [99,97,112,116,97,105,110], wI 0, wS [], wL false 2 [[wS [99,97,115,101], wS [97,99,99]]]]]], [wS [100,97,116], wL true 5 [[wI 3, wS [99,97,112,116,97,105,110], wI 0, wS [], wL false 2 [[wS [99,97,115,101], wS [100,97,116]]]]]]]], [wS [110,111,114,116,104,45,102,101,114,114,121], wN, wL false 2 [], wL false 2 [[wS [110,111,109], wL true 5 [[wI 3, wS [110,111,114,116,104,45,102,101,114,114,121], wI 0, wS [], wL false 2 [[wS [99,97,115,101], wS [110,111,109]]]]]], [wS [97,99,99], wL true 5 [[wI 3, wS [110,111,114,116,104,45,102,101,114,114,121], wI 0, wS [], wL false 2 [[wS [99,97,115,101], wS [97,99,99]]]]]], [wS [100,97,116], wL true 5 [[wI 3, wS [110,111,114,116,104,45,102,101,114,114,121], wI 0, wS [], wL false 2 [[wS [99,97,115,101], wS [100,97,116]]]]]]]], [wS [115,111,117,116,104,45,102,101,114,114,121], wN, wL false 2 [], wL false 2 [[wS [110,111,109], wL true 5 [[wI 3, wS [115,111,117,116,104,45,102,101,114,114,121], wI 0, wS [], wL false 2 [[wS [99,97,115,101], wS [110,111,109]]]]]], [wS [97,99,99], wL true 5 [[wI 3, wS [115,111,117,116,104,45,102,101,114,114,121], wI 0, wS [], wL false 2 [[wS [99,97,115,101], wS [97,99,99]]]]]], [wS [100,97,116], wL true 5 [[wI 3, wS [115,111,117,116,104,45,102,101,114,114,121], wI 0, wS [], wL false 2 [[wS [99,97,115,101], wS [100,97,116]]]]]]]], [wS [111,108,100,45,113,117,97,121], wN, wL false 2 [], wL false 2 [[wS [110,111,109], wL true 5 [[wI 3, wS [111,108,100,45,113,117,97,121], wI 0, wS [], wL false 2 [[wS [99,97,115,101], wS [110,111,109]]]]]], [wS [97,99,99], wL true 5 [[wI 3, wS [111,108,100,45,113,117,97,121], wI 0, wS [], wL false 2 [[wS [99,97,115,101], wS [97,99,99]]]]]], [wS [100,97,116], wL true 5 [[wI 3, wS [111,108,100,45,113,117,97,121], wI 0, wS [], wL false 2 [[wS [99,97,115,101], wS [100,97,116]]]]]]]]])]
set_option maxRecDepth 100000 in
theorem tabW2_ok : tabOk K10 tabW2 = true := by kernel_rfl
def tabP0 : Tab := [
  (21, [wA [wI 10, wL false 1 [[wS [110,117,108]], [wS [117,110]], [wS [100,117]], [wS [116,114,105]], [wS [107,118,97,114]], [wS [107,118,105,110]], [wS [115,101,115]], [wS [115,101,112]], [wS [111,107]], [wS [110,97,117]]], wL false 1 [[wS [100,101,107]], [wS [115,101,110,116,111]], [wS [109,105,108]]], wT false, wS [], wI 0, wS [], wT true], wA [wI 1, wI 1, wL false 2 [[wI 1, wS [116,97,103]], [wI 4, wS []], [wI 3, wS []], [wI 1, wS [97,110,110,111]], [wI 2, wS []]], wL false 2 [[wI 1, wS [111,114,97]], [wI 6, wS []], [wI 1, wS [109,105,110,117,116]], [wI 7, wS []]], wL false 1 [[wS [105,97,110,117,111]], [wS [102,101,98,114,111]], [wS [109,97,114,115,111]], [wS [97,112,114,105,108,111]], [wS [109,97,105,111]], [wS [105,117,110,105,111]], [wS [105,117,108,105,111]], [wS [97,103,111,115,116,111]], [wS [115,101,112,116,111]], [wS [111,107,116,111]], [wS [110,111,118,111]], [wS [100,101,107,111]]], wN, wN, wT true], wI 1501], wP [wL false 1 [[wS [116,97,103]], [wS [100,117]], [wS [105,97,110,117,111]], [wS [97,110,110,111]], [wS [110,117,108]], [wS [111,114,97]], [wS [117,110]], [wS [109,105,110,117,116]], [wS [117,110]]], wI 0])]
set_option maxRecDepth 100000 in
theorem tabP0_ok : tabOk K10 tabP0 = true := by kernel_rfl
def tabA : Tab := tabR0 ++ tabR1 ++ tabR2 ++ tabR3 ++ tabW0 ++ tabW1 ++ tabW2 ++ tabP0
theorem tabA_ok : CallT tabA := (((((((callT_of calls10 tabR0_ok).append (callT_of calls10 tabR1_ok)).append (callT_of calls10 tabR2_ok)).append (callT_of calls10 tabR3_ok)).append (callT_of calls10 tabW0_ok)).append (callT_of calls10 tabW1_ok)).append (callT_of calls10 tabW2_ok)).append (callT_of calls10 tabP0_ok)
end Go.GH
namespace Go.GH
open Go Go.Lib Go.Proofs Go.RowKit
set_option maxRecDepth 100000 in
theorem ev7 : evF (K10T tabA) 1000 30 7 [] 4 = some (.v (.bool true)) := by kernel_rfl
theorem aAwake : GCall Tryz.prog E10 7 [] [] (fun d H => d = .v (.bool true) ∧ H = []) := ev_top (m2 := 1) (callsT tabA_ok) rfl ev7
end Go.GH
namespace Go.GH
open Go Go.Proofs
variable {E : Env}
abbrev encDI (c y m e : Int) (lp : Bool) : List DV := [.v (.int .i64 c), .v (.int .i64 y), .v (.int .i64 m), .v (.int .i64 e), .v (.bool lp)]
abbrev encCI (k p h m : Int) : List DV := [.v (.int .i64 k), .v (.int .i64 p), .v (.int .i64 h), .v (.int .i64 m)]
/-- The call that leads back: of what stands for the day n it returns n, where n is in range. -/
abbrev BackD (E : Env) (f : FuncId) (ok : Prop) (n : Int) (cs : List DV) : Prop := GCall Tryz.prog E f [.agg cs] [] (fun d H => (∃ x er : Int, d = .tup [.v (.int .i64 x), .v (.int .i64 er)] ∧ (ok → x = n ∧ er = 0)) ∧ H = [])
abbrev HereD (E : Env) (f f' : FuncId) (n : Int) : Prop := GCall Tryz.prog E f [.v (.int .i64 n)] [] (fun d H => (∃ (c y m e er : Int) (lp : Bool), d = .tup [.agg (encDI c y m e lp), .v (.int .i64 er)] ∧ (er = 0 ↔ 0 ≤ n ∧ n ≤ 999999) ∧ BackD E f' (0 ≤ n ∧ n ≤ 999999) n (encDI c y m e lp)) ∧ H = [])
theorem hereD {f f' : FuncId} {n : Int} (h1 : ∀ k : Nat, k ≤ 999999 → n = (k : Int) → GCall Tryz.prog E f [.v (.int .i64 (k : Int))] [] (fun d H => ∃ (c y m e : Nat) (lp : Bool), d = .tup [.agg (encDt c y m e lp), .v (.int .i64 0)] ∧ GCall Tryz.prog E f' [.agg (encDt c y m e lp)] [] (fun d H => d = .tup [.v (.int .i64 (k : Int)), .v (.int .i64 0)] ∧ H = [])))
    (h2 : n < 0 ∨ 999999 < n → ∃ q : Int, q ≠ 0 ∧ GCall Tryz.prog E f [.v (.int .i64 n)] [] (fun d H => d = .tup [.agg (encDt 0 0 0 0 false), .v (.int .i64 q)])) (h3 : GCall Tryz.prog E f' [.agg (encDt 0 0 0 0 false)] [] (fun d H => d = .tup [.v (.int .i64 0), .v (.int .i64 1)] ∧ H = [])) : HereD E f f' n := by
  by_cases hn : 0 ≤ n ∧ n ≤ 999999
  · obtain ⟨k, rfl⟩ : ∃ k : Nat, n = (k : Int) := ⟨n.toNat, by omega⟩
    refine GCall.clean (h1 k (by omega) rfl) (fun d H ⟨c, y, m, e, lp, e1, hb⟩ => ⟨d, fun _ _ _ h => h, c, y, m, e, 0, lp, e1, ⟨fun _ => hn, fun _ => rfl⟩, hb.mono (fun d H ⟨h7, h8⟩ => ⟨⟨_, _, h7, fun _ => ⟨rfl, rfl⟩⟩, h8⟩)⟩)
  · obtain ⟨q, hq, hc⟩ := h2 (by omega)
    exact GCall.clean hc (fun d H e1 => ⟨d, fun _ _ _ h => h, 0, 0, 0, 0, q, false, e1, ⟨fun h => absurd h hq, fun h => absurd h hn⟩, h3.mono (fun d H ⟨h7, h8⟩ => ⟨⟨_, _, h7, fun h => absurd h hn⟩, h8⟩)⟩)
theorem chkR_ne {n : Int} (h : n < 0 ∨ 999999 < n) : chkR n ≠ 0 := by unfold chkR; split; decide; split; decide; omega
theorem aSol (n : Int) : HereD E 4 8 n := hereD (fun k hk _ => (sDate0 k hk).mono (fun d H ⟨y, m, r, e, h⟩ => ⟨1, y, m, r + 1, false, e, sDay k y m r h hk⟩)) (fun h => ⟨_, chkR_ne h, sDateB n h⟩) sDayZ
theorem aLun (n : Int) : HereD E 5 9 n := hereD (fun k hk _ => (lDate0 k hk).mono (fun d H ⟨y, q, r, hq, e, h1, h2, h3⟩ => ⟨2, y, _, r + 1, _, e, lDay k y q r hq h1 h2 h3 hk⟩)) (fun h => ⟨1, by decide, by rcases h with h | h; exact lDateB1 n h; exact lDateB2 n h⟩) lDayZ
theorem aCyc (n : Int) : HereD E 6 10 n := hereD (fun k hk _ => (sCycDate0 k hk).mono (fun d H e => ⟨3, _, _, _, false, e, sCycDay k hk⟩)) (fun h => ⟨_, chkR_ne h, sCycDateB n h⟩) sCycDayZ
theorem aTim (k : Nat) (h1 : 1 ≤ k) (h3 : k ≤ 3) (n : Int) : GCall Tryz.prog E 11 [.v (.int .i64 ((k : Nat) : Int)), .v (.int .i64 n)] [] (fun d H => (∃ (c p h m er : Int), d = .tup [.agg (encCI c p h m), .v (.int .i64 er)] ∧ (er = 0 ↔ 0 ≤ n ∧ n < 1440) ∧ BackD E 12 (0 ≤ n ∧ n < 1440) n (encCI c p h m)) ∧ H = []) := by
  by_cases hn : 0 ≤ n ∧ n < 1440
  · obtain ⟨j, rfl⟩ : ∃ j : Nat, n = (j : Int) := ⟨n.toNat, by omega⟩
    have hj : j < 1440 := by omega
    rcases (show k = 1 ∨ k = 2 ∨ k = 3 by omega) with rfl | rfl | rfl
    · exact (kT1 j hj).mono (fun d H ⟨e1, e2⟩ => ⟨⟨_, _, _, _, 0, e1, ⟨fun _ => hn, fun _ => rfl⟩, (kMin1 j hj).mono (fun d H ⟨h7, h8⟩ => ⟨⟨_, _, h7, fun _ => ⟨rfl, rfl⟩⟩, h8⟩)⟩, e2⟩)
    · exact (kT2 j hj).mono (fun d H ⟨e1, e2⟩ => ⟨⟨_, _, _, _, 0, e1, ⟨fun _ => hn, fun _ => rfl⟩, (kMin2 j hj).mono (fun d H ⟨h7, h8⟩ => ⟨⟨_, _, h7, fun _ => ⟨rfl, rfl⟩⟩, h8⟩)⟩, e2⟩)
    · exact (kT3 j hj).mono (fun d H ⟨e1, e2⟩ => ⟨⟨_, _, _, _, 0, e1, ⟨fun _ => hn, fun _ => rfl⟩, (kMin3 j hj).mono (fun d H ⟨h7, h8⟩ => ⟨⟨_, _, h7, fun _ => ⟨rfl, rfl⟩⟩, h8⟩)⟩, e2⟩)
  · exact GCall.clean (kTimeB (k : Int) n (by right; omega)) (fun d H e1 => ⟨d, fun _ _ _ h => h, 0, 0, 0, 0, 1, e1, ⟨fun h => absurd h (by decide), fun h => absurd h hn⟩, kMinZ.mono (fun d H ⟨h7, h8⟩ => ⟨⟨_, _, h7, fun h => absurd h hn⟩, h8⟩)⟩)
theorem lawCal (n m : Int)  : GCall Tryz.prog E10 3 [.v (.int .i64 n), .v (.int .i64 m)] [] (fun d H => d = .v (.bool true) ∧ H = []) := by
 refine GCall.body (C := ⟨Tryz.prog, E10, true⟩) Tryz.func3 rfl (fun _ => rfl) (by kernel_rfl) rfl ?_
 refine SCode.seqR (SOps.assign rfl (SOps.nil (SCode.seqR (SOps.move rfl (SOps.callP (aSol n) rfl ?_)))))
 rintro _ ⟨c1, y1, m1, e1, r1, lp1, rfl, hr1, hb1_⟩
 refine SOps.move rfl (SOps.extract rfl rfl (SOps.extract rfl rfl ?_))
 refine SOps.alloc (sz := 5) zeroIs_23 (fun b0 hb_0 => ?_)
 refine SOps.storeAM 0 rfl rfl aggB_23_5 rfl (SOps.freezeRef (t := 5) 0 0 rfl rfl rfl rfl rfl (SOps.assign rfl (SOps.nil (SCode.seqR (SOps.move rfl (SOps.callP (aLun n) rfl ?_))))))
 rintro _ ⟨c2, y2, m2, e2, r2, lp2, rfl, hr2, hb2_⟩
 refine SOps.move rfl (SOps.extract rfl rfl (SOps.extract rfl rfl ?_))
 refine SOps.alloc (sz := 5) zeroIs_23 (fun b1 hb_1 => ?_)
 refine SOps.storeAM 0 rfl rfl aggB_23_5 rfl (SOps.freezeRef (t := 7) 0 0 rfl rfl rfl rfl rfl (SOps.assign rfl (SOps.nil (SCode.seqR (SOps.move rfl (SOps.callP (aCyc n) rfl ?_))))))
 rintro _ ⟨c3, y3, m3, e3, r3, lp3, rfl, hr3, hb3_⟩
 refine SOps.move rfl (SOps.extract rfl rfl (SOps.extract rfl rfl ?_))
 refine SOps.alloc (sz := 5) zeroIs_23 (fun b2 hb_2 => ?_)
 refine SOps.storeAM 0 rfl rfl aggB_23_5 rfl (SOps.freezeRef (t := 9) 0 0 rfl rfl rfl rfl rfl (SOps.assign rfl (SOps.nil (SCode.seq (SCode.seqR (SOps.callP aAwake rfl ?_))))))
 rintro _ rfl
 refine SOps.un rfl rfl (SOps.move rfl (SOps.move rfl (SOps.bin rfl rfl rfl (SOps.move rfl (SOps.bin rfl rfl rfl (SOps.boolNe rfl rfl boolTy_4 (SOps.reSlot (t := 44) rfl (show _ = DV.v (.bool false) from congrArg (fun b => DV.v (.bool b)) (by rw [show (r1 == 0) = (r2 == 0) from by by_cases h9 : r1 = 0; exact (beq_iff_eq.2 h9).trans (beq_iff_eq.2 (by omega)).symm; exact (beq_eq_false_iff_ne.2 h9).trans (beq_eq_false_iff_ne.2 (by omega)).symm]; exact bne_self_eq_false _)) (SOps.pick rfl rfl (SOps.move rfl (SOps.move rfl (SOps.bin rfl rfl rfl (SOps.move rfl (SOps.bin rfl rfl rfl (SOps.boolNe rfl rfl boolTy_4 (SOps.reSlot (t := 51) rfl (show _ = DV.v (.bool false) from congrArg (fun b => DV.v (.bool b)) (by rw [show (r1 == 0) = (r3 == 0) from by by_cases h9 : r1 = 0; exact (beq_iff_eq.2 h9).trans (beq_iff_eq.2 (by omega)).symm; exact (beq_eq_false_iff_ne.2 h9).trans (beq_eq_false_iff_ne.2 (by omega)).symm]; exact bne_self_eq_false _)) (SOps.pick rfl rfl (SOps.nil ?_)))))))))))))))))
 refine SCode.cond rfl (fun h => by cases h) (fun _ => ?_)
 refine SCode.skip ?_
 show SCode _ _ _ _
 refine SCode.seqR (SOps.loadPinA rfl aggB_23_5 (Nat.le_of_ble_eq_true rfl) (SOps.callP hb1_ rfl ?_))
 rintro _ ⟨x1, q1, rfl, hx1⟩
 refine SOps.move rfl (SOps.extract rfl rfl (SOps.extract rfl rfl (SOps.assign rfl (SOps.assign rfl (SOps.nil (SCode.seqR (SOps.loadPinA rfl aggB_23_5 (Nat.le_of_ble_eq_true rfl) (SOps.callP hb2_ rfl ?_))))))))
 rintro _ ⟨x2, q2, rfl, hx2⟩
 refine SOps.move rfl (SOps.extract rfl rfl (SOps.extract rfl rfl (SOps.assign rfl (SOps.assign rfl (SOps.nil (SCode.seqR (SOps.loadPinA rfl aggB_23_5 (Nat.le_of_ble_eq_true rfl) (SOps.callP hb3_ rfl ?_))))))))
 rintro _ ⟨x3, q3, rfl, hx3⟩
 refine SOps.move rfl (SOps.extract rfl rfl (SOps.extract rfl rfl (SOps.assign rfl (SOps.assign rfl (SOps.nil (SCode.seq (SCode.seqR (SOps.move rfl (SOps.bin rfl rfl rfl (SOps.move rfl ?_))))))))))
 refine SOps.caseB 70 rfl (fun hb1 => ?_) (fun hb1 => ?_)
 ·try simp only [nmL] at hb1
  refine SOps.move rfl (SOps.bin rfl rfl rfl (SOps.reSlot (t := 72) rfl (show _ = DV.v (.bool false) from congrArg (fun b => DV.v (.bool b)) (by simp [(hx1 (hr1.1 (by assumption))).2])) (SOps.move rfl (SOps.move rfl (SOps.bin rfl rfl rfl (SOps.reSlot (t := 75) rfl (show _ = DV.v (.bool false) from congrArg (fun b => DV.v (.bool b)) (by simp [(hx2 (hr1.1 (by assumption))).2])) (SOps.pick rfl rfl (SOps.move rfl (SOps.move rfl (SOps.bin rfl rfl rfl (SOps.reSlot (t := 79) rfl (show _ = DV.v (.bool false) from congrArg (fun b => DV.v (.bool b)) (by simp [(hx3 (hr1.1 (by assumption))).2])) (SOps.pick rfl rfl (SOps.move rfl (SOps.move rfl (SOps.move rfl (SOps.bin rfl rfl rfl (SOps.reSlot (t := 84) rfl (show _ = DV.v (.bool false) from congrArg (fun b => DV.v (.bool b)) (by simp [(hx1 (hr1.1 (by assumption))).1])) (SOps.pick rfl rfl (SOps.move rfl (SOps.move rfl (SOps.move rfl (SOps.bin rfl rfl rfl (SOps.reSlot (t := 89) rfl (show _ = DV.v (.bool false) from congrArg (fun b => DV.v (.bool b)) (by simp [(hx2 (hr1.1 (by assumption))).1])) (SOps.pick rfl rfl (SOps.move rfl (SOps.move rfl (SOps.move rfl (SOps.bin rfl rfl rfl (SOps.reSlot (t := 94) rfl (show _ = DV.v (.bool false) from congrArg (fun b => DV.v (.bool b)) (by simp [(hx3 (hr1.1 (by assumption))).1])) (SOps.pick rfl rfl (SOps.pick rfl rfl (SOps.nil ?_))))))))))))))))))))))))))))))))
  refine SCode.cond rfl (fun h => by cases h) (fun _ => ?_)
  refine SCode.skip ?_
  show SCode _ _ _ _
  refine SCode.seq (SCode.seqR (SOps.assign rfl (SOps.nil (SCode.block (SCode.loop1 (fun (k : Nat) => (⟨134, [(1, .v (.int .i64 m)), (17, .v (.int .i64 ((k : Nat) : Int)))], []⟩ : St)) (fun (k : Nat) => 1 ≤ k ∧ k ≤ 4) (fun (k : Nat) => 4 - k) (1) (by exact ⟨by omega, by omega⟩) (St.Le.of ⟨(by first | rfl | (show some _ = some _; simp)), (by first | rfl | (show some _ = some _; simp)), trivial⟩ rfl (by first | rfl | (simp))) ?_)))))
  rintro k ⟨hk1, hk2⟩
  refine SCode.seq (SCode.seqR (SOps.move rfl (SOps.bin rfl rfl rfl (SOps.nil ?_))))
  refine SCode.cond rfl (fun hc2 => ?_) (fun hc2 => ?_)
  ·try simp only [nmL] at hc2
   refine SCode.skip ?_
   show SCode _ _ _ _
   refine SCode.seq (SCode.block (SCode.seqR (SOps.move rfl (SOps.move rfl (SOps.callP (aTim k hk1 (by omega) m) rfl ?_)))))
   rintro _ ⟨c4, p4, h4, m4, r4, rfl, hr4, hb4_⟩
   refine SOps.move rfl (SOps.extract rfl rfl (SOps.extract rfl rfl ?_))
   refine SOps.alloc (sz := 4) zeroIs_31 (fun b3 hb_3 => ?_)
   refine SOps.storeAM 0 rfl rfl aggB_31_4 rfl (SOps.freezeRef (t := 18) 0 0 rfl rfl rfl rfl rfl (SOps.assign rfl (SOps.nil (SCode.seqR (SOps.loadPinA rfl aggB_31_4 (Nat.le_of_ble_eq_true rfl) (SOps.callP hb4_ rfl ?_))))))
   rintro _ ⟨x4, q4, rfl, hx4⟩
   refine SOps.move rfl (SOps.extract rfl rfl (SOps.extract rfl rfl (SOps.assign rfl (SOps.assign rfl (SOps.nil (SCode.seqR (SOps.move rfl (SOps.bin rfl rfl rfl (SOps.move rfl (SOps.bin rfl rfl rfl (SOps.move rfl ?_)))))))))))
   refine SOps.caseB 116 rfl (fun hb3 => ?_) (fun hb3 => ?_)
   ·try simp only [nmL] at hb3
    refine SOps.move rfl (SOps.bin rfl rfl rfl (SOps.pick rfl rfl (SOps.boolNe rfl rfl boolTy_4 (SOps.reSlot (t := 120) rfl (show _ = DV.v (.bool false) from congrArg (fun b => DV.v (.bool b)) (by by_cases h9 : r4 = 0; (simp [h9] <;> omega); (simp [beq_eq_false_iff_ne.2 h9] <;> omega))) (SOps.move rfl (SOps.move rfl (SOps.bin rfl rfl rfl (SOps.move rfl ?_))))))))
    refine SOps.caseB 124 rfl (fun hb4 => ?_) (fun hb4 => ?_)
    ·try simp only [nmL] at hb4
     refine SOps.move rfl (SOps.bin rfl rfl rfl (SOps.reSlot (t := 126) rfl (show _ = DV.v (.bool false) from congrArg (fun b => DV.v (.bool b)) (by simp [(hx4 (hr4.1 (by assumption))).2])) (SOps.move rfl (SOps.move rfl (SOps.move rfl (SOps.bin rfl rfl rfl (SOps.reSlot (t := 130) rfl (show _ = DV.v (.bool false) from congrArg (fun b => DV.v (.bool b)) (by simp [(hx4 (hr4.1 (by assumption))).1])) (SOps.pick rfl rfl (SOps.pick rfl rfl (SOps.pick rfl rfl (SOps.nil ?_)))))))))))
     refine SCode.cond rfl (fun h => by cases h) (fun _ => ?_)
     refine SCode.skip ?_
     show SCode _ _ _ _
     refine SCode.region (SOps.move rfl (SOps.addI rfl rfl (by first | omega | (simp only [lenB]; omega)) (by first | omega | (simp only [lenB]; omega)) (SOps.assign rfl (SOps.nil ?_))))
     exact ⟨k + 1, ⟨by omega, by omega⟩, by omega, St.Le.of ⟨rfl, rfl, trivial⟩⟩
    ·try simp only [nmL] at hb4
     refine SOps.skip rfl (SOps.skip rfl (SOps.skip rfl (SOps.skip rfl (SOps.skip rfl (SOps.skip rfl (SOps.skip rfl (SOps.pick rfl rfl (SOps.pick rfl rfl (SOps.nil ?_)))))))))
     refine SCode.cond rfl (fun h => by cases h) (fun _ => ?_)
     refine SCode.skip ?_
     show SCode _ _ _ _
     refine SCode.region (SOps.move rfl (SOps.addI rfl rfl (by first | omega | (simp only [lenB]; omega)) (by first | omega | (simp only [lenB]; omega)) (SOps.assign rfl (SOps.nil ?_))))
     exact ⟨k + 1, ⟨by omega, by omega⟩, by omega, St.Le.of ⟨rfl, rfl, trivial⟩⟩
   ·try simp only [nmL] at hb3
    refine SOps.skip rfl (SOps.skip rfl (SOps.pick rfl rfl (SOps.boolNe rfl rfl boolTy_4 (SOps.reSlot (t := 120) rfl (show _ = DV.v (.bool false) from congrArg (fun b => DV.v (.bool b)) (by by_cases h9 : r4 = 0; (simp [h9] <;> omega); (simp [beq_eq_false_iff_ne.2 h9] <;> omega))) (SOps.move rfl (SOps.move rfl (SOps.bin rfl rfl rfl (SOps.move rfl ?_))))))))
    refine SOps.caseB 124 rfl (fun hb5 => ?_) (fun hb5 => ?_)
    ·try simp only [nmL] at hb5
     refine SOps.move rfl (SOps.bin rfl rfl rfl (SOps.reSlot (t := 126) rfl (show _ = DV.v (.bool false) from congrArg (fun b => DV.v (.bool b)) (by simp [(hx4 (hr4.1 (by assumption))).2])) (SOps.move rfl (SOps.move rfl (SOps.move rfl (SOps.bin rfl rfl rfl (SOps.reSlot (t := 130) rfl (show _ = DV.v (.bool false) from congrArg (fun b => DV.v (.bool b)) (by simp [(hx4 (hr4.1 (by assumption))).1])) (SOps.pick rfl rfl (SOps.pick rfl rfl (SOps.pick rfl rfl (SOps.nil ?_)))))))))))
     refine SCode.cond rfl (fun h => by cases h) (fun _ => ?_)
     refine SCode.skip ?_
     show SCode _ _ _ _
     refine SCode.region (SOps.move rfl (SOps.addI rfl rfl (by first | omega | (simp only [lenB]; omega)) (by first | omega | (simp only [lenB]; omega)) (SOps.assign rfl (SOps.nil ?_))))
     exact ⟨k + 1, ⟨by omega, by omega⟩, by omega, St.Le.of ⟨rfl, rfl, trivial⟩⟩
    ·try simp only [nmL] at hb5
     refine SOps.skip rfl (SOps.skip rfl (SOps.skip rfl (SOps.skip rfl (SOps.skip rfl (SOps.skip rfl (SOps.skip rfl (SOps.pick rfl rfl (SOps.pick rfl rfl (SOps.nil ?_)))))))))
     refine SCode.cond rfl (fun h => by cases h) (fun _ => ?_)
     refine SCode.skip ?_
     show SCode _ _ _ _
     refine SCode.region (SOps.move rfl (SOps.addI rfl rfl (by first | omega | (simp only [lenB]; omega)) (by first | omega | (simp only [lenB]; omega)) (SOps.assign rfl (SOps.nil ?_))))
     exact ⟨k + 1, ⟨by omega, by omega⟩, by omega, St.Le.of ⟨rfl, rfl, trivial⟩⟩
  ·try simp only [nmL] at hc2
   refine SCode.exit ?_
   show SCode _ _ _ _
   refine SCode.seqR (SOps.assign rfl (SOps.nil (SCode.ret ?_)))
   exact ⟨_, Res.one (.tmp rfl), rfl, rfl⟩
 ·try simp only [nmL] at hb1
  refine SOps.skip rfl (SOps.skip rfl (SOps.skip rfl (SOps.skip rfl (SOps.skip rfl (SOps.skip rfl (SOps.skip rfl (SOps.skip rfl (SOps.skip rfl (SOps.skip rfl (SOps.skip rfl (SOps.skip rfl (SOps.skip rfl (SOps.skip rfl (SOps.skip rfl (SOps.skip rfl (SOps.skip rfl (SOps.skip rfl (SOps.skip rfl (SOps.skip rfl (SOps.skip rfl (SOps.skip rfl (SOps.skip rfl (SOps.skip rfl (SOps.skip rfl (SOps.pick rfl rfl (SOps.nil ?_))))))))))))))))))))))))))
  refine SCode.cond rfl (fun h => by cases h) (fun _ => ?_)
  refine SCode.skip ?_
  show SCode _ _ _ _
  refine SCode.seq (SCode.seqR (SOps.assign rfl (SOps.nil (SCode.block (SCode.loop1 (fun (k : Nat) => (⟨134, [(1, .v (.int .i64 m)), (17, .v (.int .i64 ((k : Nat) : Int)))], []⟩ : St)) (fun (k : Nat) => 1 ≤ k ∧ k ≤ 4) (fun (k : Nat) => 4 - k) (1) (by exact ⟨by omega, by omega⟩) (St.Le.of ⟨(by first | rfl | (show some _ = some _; simp)), (by first | rfl | (show some _ = some _; simp)), trivial⟩ rfl (by first | rfl | (simp))) ?_)))))
  rintro k ⟨hk1, hk2⟩
  refine SCode.seq (SCode.seqR (SOps.move rfl (SOps.bin rfl rfl rfl (SOps.nil ?_))))
  refine SCode.cond rfl (fun hc6 => ?_) (fun hc6 => ?_)
  ·try simp only [nmL] at hc6
   refine SCode.skip ?_
   show SCode _ _ _ _
   refine SCode.seq (SCode.block (SCode.seqR (SOps.move rfl (SOps.move rfl (SOps.callP (aTim k hk1 (by omega) m) rfl ?_)))))
   rintro _ ⟨c4, p4, h4, m4, r4, rfl, hr4, hb4_⟩
   refine SOps.move rfl (SOps.extract rfl rfl (SOps.extract rfl rfl ?_))
   refine SOps.alloc (sz := 4) zeroIs_31 (fun b4 hb_4 => ?_)
   refine SOps.storeAM 0 rfl rfl aggB_31_4 rfl (SOps.freezeRef (t := 18) 0 0 rfl rfl rfl rfl rfl (SOps.assign rfl (SOps.nil (SCode.seqR (SOps.loadPinA rfl aggB_31_4 (Nat.le_of_ble_eq_true rfl) (SOps.callP hb4_ rfl ?_))))))
   rintro _ ⟨x4, q4, rfl, hx4⟩
   refine SOps.move rfl (SOps.extract rfl rfl (SOps.extract rfl rfl (SOps.assign rfl (SOps.assign rfl (SOps.nil (SCode.seqR (SOps.move rfl (SOps.bin rfl rfl rfl (SOps.move rfl (SOps.bin rfl rfl rfl (SOps.move rfl ?_)))))))))))
   refine SOps.caseB 116 rfl (fun hb7 => ?_) (fun hb7 => ?_)
   ·try simp only [nmL] at hb7
    refine SOps.move rfl (SOps.bin rfl rfl rfl (SOps.pick rfl rfl (SOps.boolNe rfl rfl boolTy_4 (SOps.reSlot (t := 120) rfl (show _ = DV.v (.bool false) from congrArg (fun b => DV.v (.bool b)) (by by_cases h9 : r4 = 0; (simp [h9] <;> omega); (simp [beq_eq_false_iff_ne.2 h9] <;> omega))) (SOps.move rfl (SOps.move rfl (SOps.bin rfl rfl rfl (SOps.move rfl ?_))))))))
    refine SOps.caseB 124 rfl (fun hb8 => ?_) (fun hb8 => ?_)
    ·try simp only [nmL] at hb8
     refine SOps.move rfl (SOps.bin rfl rfl rfl (SOps.reSlot (t := 126) rfl (show _ = DV.v (.bool false) from congrArg (fun b => DV.v (.bool b)) (by simp [(hx4 (hr4.1 (by assumption))).2])) (SOps.move rfl (SOps.move rfl (SOps.move rfl (SOps.bin rfl rfl rfl (SOps.reSlot (t := 130) rfl (show _ = DV.v (.bool false) from congrArg (fun b => DV.v (.bool b)) (by simp [(hx4 (hr4.1 (by assumption))).1])) (SOps.pick rfl rfl (SOps.pick rfl rfl (SOps.pick rfl rfl (SOps.nil ?_)))))))))))
     refine SCode.cond rfl (fun h => by cases h) (fun _ => ?_)
     refine SCode.skip ?_
     show SCode _ _ _ _
     refine SCode.region (SOps.move rfl (SOps.addI rfl rfl (by first | omega | (simp only [lenB]; omega)) (by first | omega | (simp only [lenB]; omega)) (SOps.assign rfl (SOps.nil ?_))))
     exact ⟨k + 1, ⟨by omega, by omega⟩, by omega, St.Le.of ⟨rfl, rfl, trivial⟩⟩
    ·try simp only [nmL] at hb8
     refine SOps.skip rfl (SOps.skip rfl (SOps.skip rfl (SOps.skip rfl (SOps.skip rfl (SOps.skip rfl (SOps.skip rfl (SOps.pick rfl rfl (SOps.pick rfl rfl (SOps.nil ?_)))))))))
     refine SCode.cond rfl (fun h => by cases h) (fun _ => ?_)
     refine SCode.skip ?_
     show SCode _ _ _ _
     refine SCode.region (SOps.move rfl (SOps.addI rfl rfl (by first | omega | (simp only [lenB]; omega)) (by first | omega | (simp only [lenB]; omega)) (SOps.assign rfl (SOps.nil ?_))))
     exact ⟨k + 1, ⟨by omega, by omega⟩, by omega, St.Le.of ⟨rfl, rfl, trivial⟩⟩
   ·try simp only [nmL] at hb7
    refine SOps.skip rfl (SOps.skip rfl (SOps.pick rfl rfl (SOps.boolNe rfl rfl boolTy_4 (SOps.reSlot (t := 120) rfl (show _ = DV.v (.bool false) from congrArg (fun b => DV.v (.bool b)) (by by_cases h9 : r4 = 0; (simp [h9] <;> omega); (simp [beq_eq_false_iff_ne.2 h9] <;> omega))) (SOps.move rfl (SOps.move rfl (SOps.bin rfl rfl rfl (SOps.move rfl ?_))))))))
    refine SOps.caseB 124 rfl (fun hb9 => ?_) (fun hb9 => ?_)
    ·try simp only [nmL] at hb9
     refine SOps.move rfl (SOps.bin rfl rfl rfl (SOps.reSlot (t := 126) rfl (show _ = DV.v (.bool false) from congrArg (fun b => DV.v (.bool b)) (by simp [(hx4 (hr4.1 (by assumption))).2])) (SOps.move rfl (SOps.move rfl (SOps.move rfl (SOps.bin rfl rfl rfl (SOps.reSlot (t := 130) rfl (show _ = DV.v (.bool false) from congrArg (fun b => DV.v (.bool b)) (by simp [(hx4 (hr4.1 (by assumption))).1])) (SOps.pick rfl rfl (SOps.pick rfl rfl (SOps.pick rfl rfl (SOps.nil ?_)))))))))))
     refine SCode.cond rfl (fun h => by cases h) (fun _ => ?_)
     refine SCode.skip ?_
     show SCode _ _ _ _
     refine SCode.region (SOps.move rfl (SOps.addI rfl rfl (by first | omega | (simp only [lenB]; omega)) (by first | omega | (simp only [lenB]; omega)) (SOps.assign rfl (SOps.nil ?_))))
     exact ⟨k + 1, ⟨by omega, by omega⟩, by omega, St.Le.of ⟨rfl, rfl, trivial⟩⟩
    ·try simp only [nmL] at hb9
     refine SOps.skip rfl (SOps.skip rfl (SOps.skip rfl (SOps.skip rfl (SOps.skip rfl (SOps.skip rfl (SOps.skip rfl (SOps.pick rfl rfl (SOps.pick rfl rfl (SOps.nil ?_)))))))))
     refine SCode.cond rfl (fun h => by cases h) (fun _ => ?_)
     refine SCode.skip ?_
     show SCode _ _ _ _
     refine SCode.region (SOps.move rfl (SOps.addI rfl rfl (by first | omega | (simp only [lenB]; omega)) (by first | omega | (simp only [lenB]; omega)) (SOps.assign rfl (SOps.nil ?_))))
     exact ⟨k + 1, ⟨by omega, by omega⟩, by omega, St.Le.of ⟨rfl, rfl, trivial⟩⟩
  ·try simp only [nmL] at hc6
   refine SCode.exit ?_
   show SCode _ _ _ _
   refine SCode.seqR (SOps.assign rfl (SOps.nil (SCode.ret ?_)))
   exact ⟨_, Res.one (.tmp rfl), rfl, rfl⟩
end Go.GH
