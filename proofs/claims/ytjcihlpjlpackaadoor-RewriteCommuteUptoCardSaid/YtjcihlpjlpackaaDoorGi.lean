/-
  Rules for cuts, conversions, function values and ranges over strings, over abstract states. Proved here: each rule, from the model's own steps. No conditions.
-/
import Derived.Test.YtjcihlpjlpackaaDoorGh
set_option linter.unusedVariables false
set_option linter.unusedSimpArgs false
namespace Go.GH
open Go Go.RowKit

/-! #### runes of a string -/
theorem decode_w (s : ByteArray) (i : Nat) : 1 ≤ (Utf8.decode s i).2 := by
  simp only [Utf8.decode]
  repeat' split
  all_goals simp_all [Utf8.runeError]
/-- From place i on: each rune and where it begins. -/
def stepsF (s : ByteArray) : Nat → Nat → List (Nat × Int)
  | 0, _ => []
  | f + 1, i => if i < s.size then (i, ((Utf8.decode s i).1 : Int)) :: stepsF s f (i + (Utf8.decode s i).2) else []
theorem stepsF_stable (s : ByteArray) : ∀ (f g i : Nat), s.size - i ≤ f → s.size - i ≤ g → stepsF s f i = stepsF s g i
  | 0, 0, _, _, _ => rfl
  | 0, g + 1, i, h, _ => by simp [stepsF, show ¬ i < s.size from by omega]
  | f + 1, 0, i, _, h => by simp [stepsF, show ¬ i < s.size from by omega]
  | f + 1, g + 1, i, h1, h2 => by
    simp only [stepsF]
    split
    · have := decode_w s i
      rw [stepsF_stable s f g _ (by omega) (by omega)]
    · rfl
def steps (s : ByteArray) (i : Nat) : List (Nat × Int) := stepsF s (s.size - i) i
theorem steps_lt {s : ByteArray} {i : Nat} (h : i < s.size) : steps s i = (i, ((Utf8.decode s i).1 : Int)) :: steps s (i + (Utf8.decode s i).2) := by
  unfold steps
  obtain ⟨k, hk⟩ : ∃ k, s.size - i = k + 1 := ⟨s.size - i - 1, by omega⟩
  have := decode_w s i
  rw [hk]
  simp only [stepsF, if_pos h]
  rw [stepsF_stable s k (s.size - (i + (Utf8.decode s i).2)) _ (by omega) (Nat.le_refl _)]
theorem steps_ge {s : ByteArray} {i : Nat} (h : s.size ≤ i) : steps s i = [] := by
  unfold steps
  rw [show s.size - i = 0 from by omega]
  rfl
def runes (s : ByteArray) : List Int := (steps s 0).map (·.2)
theorem stepsF_len (s : ByteArray) : ∀ (f i : Nat), (stepsF s f i).length ≤ s.size - i
  | 0, _ => by simp [stepsF]
  | f + 1, i => by
    simp only [stepsF]
    split
    · have := stepsF_len s f (i + (Utf8.decode s i).2)
      have := decode_w s i
      simp only [List.length_cons]; omega
    · simp
theorem runes_len (s : ByteArray) : (runes s).length ≤ s.size := by
  have := stepsF_len s (s.size - 0) 0
  simpa [runes, steps] using this
theorem steps_mem {s : ByteArray} : ∀ {f i : Nat} {p : Nat × Int}, p ∈ stepsF s f i → i ≤ p.1 ∧ p.1 < s.size ∧ 0 ≤ p.2 ∧ p.2 ≤ 2147483647
  | 0, _, _, h => by simp [stepsF] at h
  | f + 1, i, p, h => by
    simp only [stepsF] at h
    split at h
    · rename_i hlt
      rcases List.mem_cons.1 h with rfl | h
      · have := decode_le s i
        exact ⟨Nat.le_refl _, hlt, by simp, by simp; omega⟩
      · have := steps_mem h
        exact ⟨by omega, this.2⟩
    · simp at h
theorem runes_mem {s : ByteArray} {r : Int} (h : r ∈ runes s) : 0 ≤ r ∧ r ≤ 2147483647 := by
  obtain ⟨p, hp, rfl⟩ := List.mem_map.1 h
  exact (steps_mem hp).2.2
theorem runesFrom_eq (s : ByteArray) : ∀ (f i : Nat) (acc : Array Value), s.size - i ≤ f → Conv.runesFrom s f i acc = acc ++ ((steps s i).map (fun p => Value.int .i32 p.2)).toArray
  | 0, i, acc, h => by simp [Conv.runesFrom, steps_ge (show s.size ≤ i from by omega)]
  | f + 1, i, acc, h => by
    simp only [Conv.runesFrom]
    by_cases hi : i < s.size
    · have := decode_w s i
      simp only [hi, if_true]
      rw [runesFrom_eq s f _ _ (by omega), steps_lt hi]
      simp
    · rw [if_neg hi, steps_ge (by omega)]
      simp
theorem i32_has {n : Int} (h : -2147483648 ≤ n ∧ n ≤ 2147483647) : IntKind.i32.has n := by
  simp [IntKind.has, IntKind.min, IntKind.max, IntKind.signed, IntKind.bits]
  have h31 : (2 : Int) ^ 31 = 2147483648 := by decide
  omega
theorem has_i32 {n : Int} (h : IntKind.i32.has n) : -2147483648 ≤ n ∧ n ≤ 2147483647 := by
  simp [IntKind.has, IntKind.min, IntKind.max, IntKind.signed, IntKind.bits] at h
  have h31 : (2 : Int) ^ 31 = 2147483648 := by decide
  omega
def rcell (r : Int) : List DV := [.v (.int .i32 r)]

/-- The string of some runes. -/
def encs : List Int → ByteArray
  | [] => .empty
  | r :: rs => Utf8.encode r ++ encs rs

section
variable {C : Ctx} {E : Env} {base : Base} {F : Nat → Prop} {st : St} {a : Act} {w : World} {ops : Array Oper} {rest : List Oper} {R : St → Prop}
  {t : Tmp} {ty : TypeId} {pos : String} {aft : Array Edge} {g : Option (Nat × Bool)}

/-! #### cuts -/
inductive Bnd (st : St) : Option Operand → Nat → Nat → Prop
  | none {d : Nat} : Bnd st none d d
  | some {x : Operand} {d n : Nat} {k : IntKind} (h : st.val x = some (.v (.int k (n : Int)))) : Bnd st (some x) d n

theorem run_bounds {P : Program} (hs : SimF E base F st a w) {lo hi : Option Operand} {len cap l h : Nat} (b : Bool) (hl : Bnd st lo 0 l) (hh : Bnd st hi len h) (h1 : l ≤ h) (h2 : h ≤ cap) :
    (Instr.sliceBounds b len cap (lo.map a.eval) (hi.map a.eval) none).run P w = .ok (l, h, cap) w := by
  have key : ∀ (k : IntKind) (n y : Nat) (c : BoundsCode), n ≤ y → (Instr.sliceBound (.int k (n : Int)) y c).run P w = .ok n w := fun k n y c hn => by
    have : ((n : Int)) ≤ (y : Int) := by omega
    simp [Instr.sliceBound, asIntOf, hn]
  cases hl with
  | none =>
    cases hh with
    | none => simp [Instr.sliceBounds]
    | some hx => simp [Instr.sliceBounds, (hs.val hx).inv_v.1, key _ _ _ _ h2]
  | some hx =>
    cases hh with
    | none => simp [Instr.sliceBounds, (hs.val hx).inv_v.1, key _ _ _ _ h1]
    | some hy => simp [Instr.sliceBounds, (hs.val hx).inv_v.1, (hs.val hy).inv_v.1, key _ _ _ _ h1, key _ _ _ _ h2]

theorem exec_slice (a : Act) (T : TypeId) (xo : Operand) (lo hi : Option Operand) : execOp a.eval ⟨some t, .slice T xo lo hi none, ty, pos, aft, g⟩ = (do pure (.value (← Instr.sliceAt T (a.eval xo) (lo.map a.eval) (hi.map a.eval) none))) := rfl

theorem SOps.sliceStr {T : TypeId} {xo : Operand} {lo hi : Option Operand} {s : ByteArray} (l h : Nat) (hT : strB C.P T = true) (hx : st.val xo = some (.v (.string s))) (hl : Bnd st lo 0 l) (hh : Bnd st hi s.size h) (h1 : l ≤ h) (h2 : h ≤ s.size)
    (hrest : SOps C ops rest (st.put t (.v (.string (s.extract l h)))) R)
    (hg : st.wants ops g = some true := by rfl) (ht : Nat.blt t st.n = true := by rfl) : SOps C ops (⟨some t, .slice T xo lo hi none, ty, pos, aft, g⟩ :: rest) st R :=
  SOps.val rfl hg ht (fun base a w F hs => by
    obtain ⟨h3, h4⟩ := (hs.val hx).inv_v
    refine ⟨.string (s.extract l h), ?_, .v ?_⟩
    · rw [exec_slice, h3]
      have := run_bounds (P := C.P) hs false hl hh h1 h2
      simp only [Instr.sliceAt, Instr.slice, Sem.run_bind, run_underlying (strB_spec hT), Result.andThen_ok, this, Option.isSome_none, Bool.false_eq_true, if_false, Sem.run_pure, pure_bind]
    · have : (s.extract l h).size ≤ s.size := by rw [ByteArray.size_extract]; omega
      simp only [scal] at h4 ⊢
      omega) hrest

theorem SOps.sliceIsl {T e sz n1 : Nat} {xo : Operand} {lo hi : Option Operand} {nn : Bool} {es : List (List DV)} (l h : Nat) (hT : sliceB C.P T e sz = true) (hx : st.val xo = some (.isl nn sz es)) (hl : Bnd st lo 0 l) (hh : Bnd st hi es.length h) (h1 : l ≤ h) (h2 : h ≤ es.length)
    (hrest : SOps C ops rest (st.put t (.isl nn sz ((es.drop l).take (h - l)))) R)
    (hg : st.wants ops g = some true := by rfl) (ht : Nat.blt t st.n = true := by rfl) : SOps C ops (⟨some t, .slice T xo lo hi none, ty, pos, aft, g⟩ :: rest) st R :=
  SOps.val rfl hg ht (fun base a w F hs => by
    have h3 := hs.val hx
    generalize hv : a.eval xo = v at h3
    obtain ⟨hu, i, hi', hsz'⟩ := sliceB_spec hT
    cases h3 with
    | @isl A len cap nn sz es b o xs hlen hcap hB hnn hA hsz hc hr =>
      have hb := run_bounds (P := C.P) hs true hl (hlen ▸ hh) h1 (show h ≤ cap by omega)
      have hget : ∀ (i : Nat) e, ((es.drop l).take (h - l))[i]? = some e → i < h - l ∧ es[l + i]? = some e := fun i e he => by
        rw [List.getElem?_take] at he
        split at he
        · rename_i hlt; rw [List.getElem?_drop] at he; exact ⟨hlt, he⟩
        · cases he
      refine ⟨.slice (if cap = l then A else A.map (·.add (l * sz))) (h - l) (cap - l), ?_, .isl (b := b) (o := o + l * sz) (fun i j => xs (l + i) j) (by simp; omega) (by omega) (by simp; omega) (fun hn => ?_) (fun hne => ?_) (fun i e he => hsz _ e (hget i e he).2) (fun i e j d he hj => ?_) (fun i e j d he hj => hr _ e j d (hget i e he).2 hj)⟩
      · rw [exec_slice, hv]
        simp only [Instr.sliceAt, Instr.slice, Sem.run_bind, run_underlying hu, Result.andThen_ok, hb, sizeOf, typeInfo, run_program, hi', Sem.run_pure, hsz']
      · split
        · exact hnn hn
        · intro e; exact hnn hn (Option.map_eq_none_iff.1 e)
      · have hlh : l < h := by
          rcases Nat.lt_or_ge l h with h' | h'
          · exact h'
          · exact absurd (List.eq_nil_of_length_eq_zero (by simp; omega)) hne
        have hes : es ≠ [] := by intro e; simp [e] at h2; omega
        obtain ⟨rfl, hF⟩ := hA hes
        rw [if_neg (by omega)]
        exact ⟨by simp [add_plain'], hF⟩
      · have := hc _ e j d (hget i e he).2 hj
        rw [Nat.add_mul, Nat.add_assoc] at this
        rw [Nat.add_assoc]
        exact this) hrest

theorem SOps.sliceSl {T e sz b off len : Nat} {xo : Operand} {lo hi : Option Operand} (l h : Nat) (hT : sliceB C.P T e sz = true) (hx : st.val xo = some (.sl b sz off len)) (hl : Bnd st lo 0 l) (hh : Bnd st hi len h) (h1 : l < h ∨ l = 0) (h2 : h ≤ len)
    (hrest : SOps C ops rest (st.put t (.sl b sz (off + l) (h - l))) R)
    (hg : st.wants ops g = some true := by rfl) (ht : Nat.blt t st.n = true := by rfl) : SOps C ops (⟨some t, .slice T xo lo hi none, ty, pos, aft, g⟩ :: rest) st R :=
  SOps.val rfl hg ht (fun base a w F hs => by
    have h3 := hs.val hx
    generalize hv : a.eval xo = v at h3
    obtain ⟨hu, i, hi', hsz'⟩ := sliceB_spec hT
    cases h3 with
    | @sl b sz off len cap e' n q1 q2 q3 q4 =>
      have hb := run_bounds (P := C.P) hs true hl hh (show l ≤ h by omega) (show h ≤ cap by omega)
      have haddr : (if cap = l then (some ⟨b, off * sz, none⟩ : Option Addr) else (some ⟨b, off * sz, none⟩ : Option Addr).map (·.add (l * sz))) = some ⟨b, (off + l) * sz, none⟩ := by
        by_cases hcl : cap = l
        · have hl0 : l = 0 := by omega
          rw [if_pos hcl, hl0, Nat.add_zero]
        · rw [if_neg hcl]; simp [add_plain', Nat.add_mul]
      refine ⟨.slice (some ⟨b, (off + l) * sz, none⟩) (h - l) (cap - l), ?_, .sl (by omega) q2 (by rw [show off + l + (cap - l) = off + cap from by omega]; exact q3) (by omega)⟩
      rw [exec_slice, hv]
      simp only [Instr.sliceAt, Instr.slice, Sem.run_bind, run_underlying hu, Result.andThen_ok, hb, sizeOf, typeInfo, run_program, hi', Sem.run_pure, hsz', haddr]) hrest
/-- A cut of nothing, at the end of an own row. -/
theorem SOps.sliceSlE {T e sz b off len : Nat} {xo : Operand} {lo hi : Option Operand} (l h : Nat) (hT : sliceB C.P T e sz = true) (hx : st.val xo = some (.sl b sz off len)) (hl : Bnd st lo 0 l) (hh : Bnd st hi len h) (h1 : l = h) (h2 : h ≤ len)
    (hrest : SOps C ops rest (st.put t (.isl true sz [])) R)
    (hg : st.wants ops g = some true := by rfl) (ht : Nat.blt t st.n = true := by rfl) : SOps C ops (⟨some t, .slice T xo lo hi none, ty, pos, aft, g⟩ :: rest) st R :=
  SOps.val rfl hg ht (fun base a w F hs => by
    have h3 := hs.val hx
    generalize hv : a.eval xo = v at h3
    obtain ⟨hu, i, hi', hsz'⟩ := sliceB_spec hT
    cases h3 with
    | @sl b sz off len cap e' n q1 q2 q3 q4 =>
      have hb := run_bounds (P := C.P) hs true hl hh (show l ≤ h by omega) (show h ≤ cap by omega)
      refine ⟨.slice (if cap = l then (some ⟨b, off * sz, none⟩ : Option Addr) else (some ⟨b, off * sz, none⟩ : Option Addr).map (·.add (l * sz))) (h - l) (cap - l), ?_, .isl (b := 0) (o := 0) (fun _ _ => undef) (by simp; omega) (by omega) (by simp [lenB]) (fun _ => ?_) (fun h => absurd rfl h) (fun i e h => by simp at h) (fun i e j d h => by simp at h) (fun i e j d h => by simp at h)⟩
      · rw [exec_slice, hv]
        simp only [Instr.sliceAt, Instr.slice, Sem.run_bind, run_underlying hu, Result.andThen_ok, hb, sizeOf, typeInfo, run_program, hi', Sem.run_pure, hsz']
      · split <;> simp) hrest

/-! #### conversions -/
theorem SOps.convInt {src dst : TypeId} {xo : Operand} {k k' : IntKind} {n : Int} (hx : st.val xo = some (.v (.int k n))) (hs' : (C.P.underlying src).isSome = true) (hT : intB C.P dst k' = true) (hrest : SOps C ops rest (st.put t (.v (.int k' (k'.wrap n)))) R)
    (hg : st.wants ops g = some true := by rfl) (ht : Nat.blt t st.n = true := by rfl) : SOps C ops (⟨some t, .convert src dst xo, ty, pos, aft, g⟩ :: rest) st R :=
  SOps.val rfl hg ht (fun base a w F hs => by
    obtain ⟨d, hd⟩ := Option.isSome_iff_exists.1 hs'
    refine ⟨.int k' (k'.wrap n), ?_, .v (has_wrap _ _)⟩
    simp [execOp, (hs.val hx).inv_v.1, convert, run_underlying hd, run_underlying (intB_spec hT), Conv.intToInt]) hrest
theorem encode_size (n : Int) : (Utf8.encode n).size ≤ 4 := by
  simp only [Utf8.encode]
  repeat' split
  all_goals (first | decide | simp [ByteArray.size])
theorem SOps.convIntStr {src dst : TypeId} {xo : Operand} {k : IntKind} {n : Int} (hx : st.val xo = some (.v (.int k n))) (hs' : (C.P.underlying src).isSome = true) (hT : strB C.P dst = true) (hrest : SOps C ops rest (st.put t (.v (.string (Utf8.encode n)))) R)
    (hg : st.wants ops g = some true := by rfl) (ht : Nat.blt t st.n = true := by rfl) : SOps C ops (⟨some t, .convert src dst xo, ty, pos, aft, g⟩ :: rest) st R :=
  SOps.val rfl hg ht (fun base a w F hs => by
    obtain ⟨d, hd⟩ := Option.isSome_iff_exists.1 hs'
    refine ⟨.string (Utf8.encode n), ?_, .v ?_⟩
    · simp [execOp, (hs.val hx).inv_v.1, convert, run_underlying hd, run_underlying (strB_spec hT), Conv.intToString]
    · have := encode_size n
      simp only [scal, lenB]; omega) hrest
theorem SOps.convRunes {src dst e : TypeId} {xo : Operand} {s : ByteArray} (hx : st.val xo = some (.v (.string s))) (hS : strB C.P src = true) (hT : sliceB C.P dst e 1 = true) (hE : intB C.P e .i32 = true)
    (hrest : ∀ b, st.fresh b → SOps C ops rest ⟨st.n, (t, .sl b 1 0 (runes s).length) :: st.slots, (b, .row e 1 ((runes s).map rcell)) :: st.heap⟩ R)
    (hg : st.wants ops g = some true := by rfl) (ht : Nat.blt t st.n = true := by rfl) : SOps C ops (⟨some t, .convert src dst xo, ty, pos, aft, g⟩ :: rest) st R := by
  refine SOps.new (d := fun b => .sl b 1 0 (runes s).length) (ob := fun _ => .row e 1 ((runes s).map rcell)) rfl hg ht (fun base a w F hs => ?_) hrest
  obtain ⟨h1, h2⟩ := (hs.val hx).inv_v
  have hlen := runes_len s
  simp only [scal] at h2
  have helems : Conv.runesFrom s s.size 0 #[] = ((runes s).map (Value.int .i32)).toArray := by
    rw [runesFrom_eq s s.size 0 #[] (by omega)]; simp [runes, List.map_map]
  have hcap := grownCap_ge w (runes s).length 0 e
  refine ⟨w.drew, .slice (some ⟨w.heap.size, 0, none⟩) (runes s).length (grownCap w (runes s).length 0 e), .cells (((runes s).map (Value.int .i32)).toArray ++ Array.replicate (grownCap w (runes s).length 0 e - (runes s).length) (Value.int .i32 0)) e, Step.drew _ _, rfl, ?_, ?_, ?_⟩
  · rw [show execOp a.eval ⟨some t, .convert src dst xo, ty, pos, aft, g⟩ = (do pure (.value (← convert src dst (a.eval xo)))) from rfl, h1]
    simp [convert, run_underlying (strB_spec hS), run_underlying (sliceB_spec hT).1, run_underlying (intB_spec hE), Conv.stringToRunes, helems, Question.forced, newRow, grownCap]
  · have := Rep.sl (w := w.drew.alloc (.cells (((runes s).map (Value.int .i32)).toArray ++ Array.replicate (grownCap w (runes s).length 0 e - (runes s).length) (Value.int .i32 0)) e)) (F := F) (b := w.heap.size) (sz := 1) (off := 0) (len := (runes s).length) (cap := grownCap w (runes s).length 0 e) (e := e)
      (n := (((runes s).map (Value.int .i32)).toArray ++ Array.replicate (grownCap w (runes s).length 0 e - (runes s).length) (Value.int .i32 0)).size) hcap (shape_new w.drew _ _) (by simp; omega) (by omega)
    simpa using this
  · refine ⟨_, heap_new' w.drew _, by simp, by simp; omega, fun i e' hi => ?_⟩
    rw [List.getElem?_map] at hi
    obtain ⟨r, hr, rfl⟩ := Option.map_eq_some_iff.1 hi
    refine ⟨rfl, fun j d hj => ?_⟩
    match j, hj with
    | 0, hj =>
      simp [rcell] at hj
      subst hj
      have hlt := (List.getElem?_eq_some_iff.1 hr).1
      refine ⟨.int .i32 r, ?_, rfl, .v (i32_has ?_)⟩
      · rw [Array.getElem?_append, if_pos (by simpa using hlt)]; simp [hr]
      · have := runes_mem (List.mem_of_getElem? hr); omega
    | j + 1, hj => simp [rcell] at hj

/-! #### function values -/
theorem SOps.makeFunc {f : FuncId} {xs : Array Operand} {ds : List DV} (hx : st.vals xs.toList = some ds) (hrest : SOps C ops rest (st.put t (.fn f ds)) R)
    (hg : st.wants ops g = some true := by rfl) (ht : Nat.blt t st.n = true := by rfl) : SOps C ops (⟨some t, .makeFunc (.func f) #[] xs, ty, pos, aft, g⟩ :: rest) st R :=
  SOps.val rfl hg ht (fun base a w F hs => by
    obtain ⟨h1, h2⟩ := hs.vals xs.toList ds hx
    refine ⟨.func (.func f) #[] (xs.map a.eval), by simp [execOp, Instr.makeFunc], .fn (by simpa using h1) (fun j x d hj hd => ?_)⟩
    rw [eval_args] at hj
    obtain ⟨y, hy, rfl⟩ := Option.map_eq_some_iff.1 hj
    exact h2 j y d hy hd) hrest

/-! #### a range over a string -/
theorem SOps.rangeStr {T : TypeId} {xo : Operand} {s : ByteArray} (hx : st.val xo = some (.v (.string s))) (hT : strB C.P T = true)
    (hrest : ∀ b, st.fresh b → SOps C ops rest ⟨st.n, (t, .it b) :: st.slots, (b, .iter s 0) :: st.heap⟩ R)
    (hg : st.wants ops g = some true := by rfl) (ht : Nat.blt t st.n = true := by rfl) : SOps C ops (⟨some t, .range T xo, ty, pos, aft, g⟩ :: rest) st R :=
  SOps.new (d := fun b => .it b) (ob := fun _ => .iter s 0) rfl hg ht (fun base a w F hs =>
    ⟨w, .pointer (some ⟨w.heap.size, 0, none⟩), .stringIter s 0, Step.refl _ _, rfl, by simp [execOp, (hs.val hx).inv_v.1, Instr.range, run_underlying (strB_spec hT)], .it _, heap_new' w _⟩) hrest

def World.setObj' (w : World) (b : Nat) (o : Obj) : World := { w with heap := w.heap.setIfInBounds b o }
theorem SOps.next (i : Nat) {xo : Operand} {b p : Nat} {s : ByteArray} (hx : st.val xo = some (.it b)) (hi : st.heap[i]? = some (b, .iter s p))
    (hT : p < s.size → SOps C ops rest ⟨st.n, (t, .tup [.v (.bool true), .v (.int .i64 p), .v (.int .i32 (Utf8.decode s p).1)]) :: st.slots, st.heap.set i (b, .iter s (p + (Utf8.decode s p).2))⟩ R)
    (hF : s.size ≤ p → SOps C ops rest (st.put t (.tup [.v (.bool false)])) R) (hsz : s.size ≤ lenB)
    (hg : st.wants ops g = some true := by rfl) (ht : Nat.blt t st.n = true := by rfl) : SOps C ops (⟨some t, .next xo true, ty, pos, aft, g⟩ :: rest) st R := by
  by_cases hp : p < s.size
  · refine SOps.op (R1 := (· = ⟨st.n, (t, .tup [.v (.bool true), .v (.int .i64 p), .v (.int .i32 (Utf8.decode s p).1)]) :: st.slots, st.heap.set i (b, .iter s (p + (Utf8.decode s p).2))⟩)) hg ?_ (fun st' e => e ▸ hT hp)
    intro base ok a w F hs K Q hK
    have h1 := hs.val hx
    generalize hv : a.eval xo = v at h1
    cases h1 with
    | it =>
      have hob : w.heap[b]? = some (.stringIter s p) := (hs.heap _ (List.mem_of_getElem? hi)).2.2
      have hlt := (Array.getElem?_eq_some_iff.1 hob).1
      have hrun : (execOp a.eval ⟨some t, .next xo true, ty, pos, aft, g⟩).run C.P w = .ok (.value (.tuple #[.bool true, .int .i64 p, .int .i32 (Utf8.decode s p).1])) (World.setObj' w b (.stringIter s (p + (Utf8.decode s p).2))) := by
        simp [execOp, hv, Instr.next, getObj, setObj, Sem.run, hob, hp, goInt, World.setObj']
      unfold Oper.wp
      rw [hrun, Oper.upon_value]
      have hst : Step (· = b) w (World.setObj' w b (.stringIter s (p + (Utf8.decode s p).2))) := by
        refine ⟨rfl, rfl, rfl, by simp [World.setObj'], fun c _ hc => ?_, fun c q hq => ?_⟩
        · simp only [World.setObj', Array.getElem?_setIfInBounds]; rw [if_neg (fun e => hc e.symm)]
        · unfold World.shape? at *
          by_cases e : c = b
          · subst e; rw [hob] at hq; cases hq
          · simp only [World.setObj', Array.getElem?_setIfInBounds]; rw [if_neg (fun e' => e e'.symm)]; exact hq
      refine hK _ _ _ rfl ⟨F, ?_⟩
      refine SimF.put (st := ⟨st.n, st.slots, st.heap.set i (b, .iter s (p + (Utf8.decode s p).2))⟩) (hs.write hi hst ?_) (by simpa using ht) ?_
      · show (World.setObj' w b _).heap[b]? = _
        simp [World.setObj', hlt]
      · refine .tup rfl (fun j x d hj hd => ?_)
        have hr := decode_le s p
        match j, hj, hd with
        | 0, hj, hd => simp at hj hd; subst hj; subst hd; exact .v trivial
        | 1, hj, hd => simp at hj hd; subst hj; subst hd; exact .v (i64_len (by omega))
        | 2, hj, hd => simp at hj hd; subst hj; subst hd; exact .v (i32_has (by omega))
        | j + 3, hj, hd => simp at hd
  · refine SOps.val rfl hg ht (fun base a w F hs => ?_) (hF (by omega))
    have h1 := hs.val hx
    generalize hv : a.eval xo = v at h1
    cases h1 with
    | it =>
      have hob : w.heap[b]? = some (.stringIter s p) := (hs.heap _ (List.mem_of_getElem? hi)).2.2
      refine ⟨.tuple #[.bool false], by simp [execOp, hv, Instr.next, getObj, Sem.run, hob, hp], .tup rfl (fun j x d hj hd => ?_)⟩
      match j, hj, hd with
      | 0, hj, hd => simp at hj hd; subst hj; subst hd; exact .v trivial
      | j + 1, hj, hd => simp at hd
end
end Go.GH
