/-
  Rules by which operations are walked over abstract states: arithmetic and comparisons, addresses, loads and stores, strings. Proved here: each rule, from the model's own steps. No conditions.
-/
import Derived.Test.YtjcihlpjlpackaaDoorGb
import Derived.WalkLawsBesides
set_option linter.unusedVariables false
set_option linter.unusedSimpArgs false
namespace Go.GH
open Go Go.RowKit

/-! ### arithmetic on plain values -/
theorem has_wrap (k : IntKind) (n : Int) : k.has (k.wrap n) := by
  have h64 : (2 : Int) ^ 64 = 18446744073709551616 := by decide
  have h63 : (2 : Int) ^ 63 = 9223372036854775808 := by decide
  have h32 : (2 : Int) ^ 32 = 4294967296 := by decide
  have h31 : (2 : Int) ^ 31 = 2147483648 := by decide
  have h16 : (2 : Int) ^ 16 = 65536 := by decide
  have h15 : (2 : Int) ^ 15 = 32768 := by decide
  have h8 : (2 : Int) ^ 8 = 256 := by decide
  have h7 : (2 : Int) ^ 7 = 128 := by decide
  cases k <;> simp [IntKind.has, IntKind.wrap, IntKind.min, IntKind.max, IntKind.signed, IntKind.bits, h64, h63, h32, h31, h16, h15, h8, h7] <;> (try split) <;> omega

theorem wrap_id {k : IntKind} {n : Int} (h : k.has n) : k.wrap n = n := by
  have h64 : (2 : Int) ^ 64 = 18446744073709551616 := by decide
  have h63 : (2 : Int) ^ 63 = 9223372036854775808 := by decide
  have h32 : (2 : Int) ^ 32 = 4294967296 := by decide
  have h31 : (2 : Int) ^ 31 = 2147483648 := by decide
  have h16 : (2 : Int) ^ 16 = 65536 := by decide
  have h15 : (2 : Int) ^ 15 = 32768 := by decide
  have h8 : (2 : Int) ^ 8 = 256 := by decide
  have h7 : (2 : Int) ^ 7 = 128 := by decide
  revert h
  cases k <;> simp [IntKind.has, IntKind.wrap, IntKind.min, IntKind.max, IntKind.signed, IntKind.bits, h64, h63, h32, h31, h16, h15, h8, h7] <;> intros <;> (try split) <;> omega

theorem has_i64 {n : Int} (h1 : -9223372036854775808 ≤ n) (h2 : n ≤ 9223372036854775807) : IntKind.i64.has n := by
  simp [IntKind.has, IntKind.min, IntKind.max, IntKind.signed, IntKind.bits]
  have h63 : (2 : Int) ^ 63 = 9223372036854775808 := by decide
  omega
theorem i64_has {n : Int} (h : IntKind.i64.has n) : -9223372036854775808 ≤ n ∧ n ≤ 9223372036854775807 := by
  simp [IntKind.has, IntKind.min, IntKind.max, IntKind.signed, IntKind.bits] at h
  have h63 : (2 : Int) ^ 63 = 9223372036854775808 := by decide
  omega

theorem str_eq (a b : ByteArray) : (a.toList == b.toList) = decide (a = b) := by
  have h : a.toList = b.toList ↔ a = b := by
    constructor
    · intro h
      have h1 : a.data.toList = b.data.toList := by simpa [ByteArray.toList_eq] using h
      cases a; cases b; simp_all
    · rintro rfl; rfl
  by_cases e : a = b
  · simp [e]
  · rw [decide_eq_false e, beq_eq_false_iff_ne]
    exact fun x => e (h.1 x)

/-- What an operator yields of two plain values. -/
def binV : BinOp → Value → Value → Option Value
  | .add, .int k a, .int k' b => if k = k' then some (.int k (k.wrap (a + b))) else none
  | .sub, .int k a, .int k' b => if k = k' then some (.int k (k.wrap (a - b))) else none
  | .mul, .int k a, .int k' b => if k = k' then some (.int k (k.wrap (a * b))) else none
  | .eql, .int k a, .int k' b => if k = k' then some (.bool (a == b)) else none
  | .neq, .int k a, .int k' b => if k = k' then some (.bool (a != b)) else none
  | .lss, .int k a, .int k' b => if k = k' then some (.bool (decide (a < b))) else none
  | .leq, .int k a, .int k' b => if k = k' then some (.bool (decide (a ≤ b))) else none
  | .gtr, .int k a, .int k' b => if k = k' then some (.bool (decide (b < a))) else none
  | .geq, .int k a, .int k' b => if k = k' then some (.bool (decide (b ≤ a))) else none
  | .eql, .string a, .string b => some (.bool (decide (a = b)))
  | .neq, .string a, .string b => some (.bool (!decide (a = b)))
  | _, _, _ => none

theorem binV_scal {op : BinOp} {x y z : Value} (h : binV op x y = some z) : scal z := by
  unfold binV at h
  split at h <;> first
    | (split at h <;> first | (obtain rfl := Option.some.inj h; first | exact has_wrap _ _ | trivial) | cases h)
    | (obtain rfl := Option.some.inj h; trivial)
    | cases h

section
variable {P : Program}
theorem run_binV {op : BinOp} {x y z : Value} (h : binV op x y = some z) (t : TypeId) (xo yo : Operand) (w : World) :
    (do eqGuard op t xo yo x y; binOp op t x y : Sem Value).run P w = .ok z w := by
  unfold binV at h
  split at h <;> first
    | (split at h <;> first
        | (rename_i k a k' b hk; subst hk; obtain rfl := Option.some.inj h
           simp [eqGuard, binOp, Op.intArith, Op.intCmp])
        | cases h)
    | (rename_i a b; obtain rfl := Option.some.inj h
       simp [eqGuard, binOp, Op.stringOp, str_eq]; done)
    | cases h
def boolTy (P : Program) (t : TypeId) : Bool := match P.underlying t with | some .bool => true | _ => false
theorem boolTy_spec {t : TypeId} (h : boolTy P t = true) : P.underlying t = some .bool := by
  unfold boolTy at h; split at h
  · assumption
  · cases h
theorem run_equalIn_bool (d : Nat) {t : TypeId} (h : boolTy P t = true) (a b : Bool) (w : World) : (Op.equalIn (d + 1) t (.bool a) (.bool b)).run P w = .ok (a == b) w := by
  simp [Op.equalIn, run_underlying (boolTy_spec h)]
theorem run_boolEq {t : TypeId} (h : boolTy P t = true) (a b : Bool) (xo yo : Operand) (w : World) :
    (do eqGuard .eql t xo yo (.bool a) (.bool b); binOp .eql t (.bool a) (.bool b) : Sem Value).run P w = .ok (.bool (a == b)) w := by
  have e := run_equalIn_bool 9999 h a b w
  simp only [eqGuard_at_bool, binOp, Op.equal, Op.maxDepth, Sem.run_bind, Sem.run_pure, Result.andThen_ok, e]
theorem run_boolNe {t : TypeId} (h : boolTy P t = true) (a b : Bool) (xo yo : Operand) (w : World) :
    (do eqGuard .neq t xo yo (.bool a) (.bool b); binOp .neq t (.bool a) (.bool b) : Sem Value).run P w = .ok (.bool (a != b)) w := by
  have e := run_equalIn_bool 9999 h a b w
  simp only [eqGuard_at_bool, binOp, Op.equal, Op.maxDepth, Sem.run_bind, Sem.run_pure, Result.andThen_ok, e]
  cases a <;> cases b <;> rfl
end

def unV : UnOp → Value → Option Value
  | .not, .bool b => some (.bool (!b))
  | .neg, .int k n => some (.int k (k.wrap (0 - n)))
  | _, _ => none
theorem run_unV {P : Program} {op : UnOp} {x z : Value} (h : unV op x = some z) (w : World) : (Op.unary op x).run P w = .ok z w ∧ scal z := by
  unfold unV at h
  split at h
  · obtain rfl := Option.some.inj h; exact ⟨by simp [Op.unary], trivial⟩
  · obtain rfl := Option.some.inj h; exact ⟨by simp [Op.unary, Op.intArith], has_wrap _ _⟩
  · cases h

/-! ### closed facts on types -/
def flatB (P : Program) (t : TypeId) : Bool := match P.underlying t with | some (.struct _) => false | some (.array ..) => false | some _ => true | none => false
def aggB (P : Program) (t : TypeId) (n : Nat) : Bool := (match P.underlying t with | some (.struct _) => true | some (.array ..) => true | _ => false) && ((P.info? t).map (·.size) == some n)
def fieldB (P : Program) (s f off : Nat) : Bool := match P.underlying s with
  | some (.struct fs) => match fs[f]? with
    | some fl => fl.offset == off && (match P.info? fl.type with | some i => i.size != 0 | none => false)
    | none => false
  | _ => false
def sliceB (P : Program) (t e sz : Nat) : Bool := match P.underlying t with
  | some (.slice e') => e' == e && ((P.info? e).map (·.size) == some sz)
  | _ => false
def strB (P : Program) (t : TypeId) : Bool := match P.underlying t with | some .string => true | _ => false
def intB (P : Program) (t : TypeId) (k : IntKind) : Bool := match P.underlying t with | some (.int k') => k == k' | _ => false

section
variable {P : Program} {w : World}
theorem isAgg_flat {t : TypeId} (h : flatB P t = true) : (isAgg t).run P w = .ok false w := by
  unfold flatB at h
  unfold isAgg
  cases hu : P.underlying t with
  | none => rw [hu] at h; cases h
  | some d => rw [hu] at h; cases d <;> first | (simp at h; done) | simp [run_underlying hu]
theorem isAgg_agg {t n : Nat} (h : aggB P t n = true) : (isAgg t).run P w = .ok true w ∧ (sizeOf t).run P w = .ok n w := by
  unfold aggB at h
  rw [Bool.and_eq_true] at h
  obtain ⟨h1, h2⟩ := h
  constructor
  · unfold isAgg
    cases hu : P.underlying t with
    | none => rw [hu] at h1; cases h1
    | some d => rw [hu] at h1; cases d <;> first | (simp at h1; done) | simp [run_underlying hu]
  · cases hi : P.info? t with
    | none => rw [hi] at h2; cases h2
    | some i =>
      rw [hi] at h2
      simp at h2
      simp [sizeOf, typeInfo, hi, h2]
theorem sliceB_spec {t e sz : Nat} (h : sliceB P t e sz = true) : P.underlying t = some (.slice e) ∧ ∃ i, P.info? e = some i ∧ i.size = sz := by
  unfold sliceB at h
  split at h
  · rename_i e' hu
    simp at h
    obtain ⟨rfl, i, hi, hs⟩ := h
    exact ⟨hu, i, hi, hs⟩
  · cases h
theorem strB_spec {t : Nat} (h : strB P t = true) : P.underlying t = some .string := by
  unfold strB at h; split at h
  · assumption
  · cases h
theorem intB_spec {t : Nat} {k : IntKind} (h : intB P t k = true) : P.underlying t = some (.int k) := by
  unfold intB at h; split at h
  · rename_i k' hu; simp at h; subst h; exact hu
  · cases h
theorem run_field {s f off : Nat} (h : fieldB P s f off = true) (a : Addr) : (Instr.fieldAt s (.pointer (some a)) f).run P w = .ok (.pointer (some (a.add off))) w := by
  unfold fieldB at h
  split at h
  · rename_i fs hu
    split at h
    · rename_i fl hf
      simp only [Bool.and_eq_true, beq_iff_eq] at h
      obtain ⟨ho, hs⟩ := h
      split at hs
      · rename_i i hi
        have hne : i.size ≠ 0 := by simpa using hs
        simp [Instr.fieldAt, run_underlying hu, hf, Instr.sureAddr, fieldPlace, sizeOf, typeInfo, hi, hne, ho]
      · cases hs
    · cases h
  · cases h
end

theorem add_plain' (b o n : Nat) : (⟨b, o, none⟩ : Addr).add n = ⟨b, o + n, none⟩ := by
  unfold Addr.add; split <;> simp_all

section ops
variable {C : Ctx} {E : Env} {base : Base} {F : Nat → Prop} {st : St} {a : Act} {w : World} {ops : Array Oper} {rest : List Oper} {R : St → Prop}
  {t : Tmp} {ty : TypeId} {pos : String} {aft : Array Edge} {g : Option (Nat × Bool)}

theorem run_binNext {P : Program} {op : BinOp} {T : TypeId} {xo yo : Operand} {x y z : Value} {w : World} (h : (do eqGuard op T xo yo x y; binOp op T x y : Sem Value).run P w = .ok z w) :
    (do let v ← (do eqGuard op T xo yo x y; binOp op T x y : Sem Value); pure (Next.value v) : Sem Next).run P w = .ok (.value z) w := by
  rw [Sem.run_bind, h]; rfl
/-- An operator, by its run. -/
theorem SOps.binRun {op : BinOp} {T T2 : TypeId} {xo yo : Operand} {x y z : Value} (hx : st.val xo = some (.v x)) (hy : st.val yo = some (.v y))
    (hz : ∀ w, (do eqGuard op T xo yo x y; binOp op T x y : Sem Value).run C.P w = .ok z w) (hsc : scal z)
    (hrest : SOps C ops rest (st.put t (.v z)) R) 
    (hg : st.wants ops g = some true := by rfl) (ht : Nat.blt t st.n = true := by rfl) : SOps C ops (⟨some t, .binOp op T xo yo T2, ty, pos, aft, g⟩ :: rest) st R :=
  SOps.val rfl hg ht (fun base a w F hs => by
    refine ⟨z, ?_, .v hsc⟩
    simp only [execOp, (hs.val hx).inv_v.1, (hs.val hy).inv_v.1]
    exact run_binNext (hz w)) hrest
theorem SOps.bin {op : BinOp} {T T2 : TypeId} {xo yo : Operand} {x y z : Value} (hx : st.val xo = some (.v x)) (hy : st.val yo = some (.v y)) (hz : binV op x y = some z)
    (hrest : SOps C ops rest (st.put t (.v z)) R)
    (hg : st.wants ops g = some true := by rfl) (ht : Nat.blt t st.n = true := by rfl) : SOps C ops (⟨some t, .binOp op T xo yo T2, ty, pos, aft, g⟩ :: rest) st R :=
  SOps.binRun hx hy (fun w => run_binV hz T xo yo w) (binV_scal hz) hrest hg ht
theorem SOps.boolEq {T T2 : TypeId} {xo yo : Operand} {x y : Bool} (hx : st.val xo = some (.v (.bool x))) (hy : st.val yo = some (.v (.bool y))) (hT : boolTy C.P T = true)
    (hrest : SOps C ops rest (st.put t (.v (.bool (x == y)))) R)
    (hg : st.wants ops g = some true := by rfl) (ht : Nat.blt t st.n = true := by rfl) : SOps C ops (⟨some t, .binOp .eql T xo yo T2, ty, pos, aft, g⟩ :: rest) st R :=
  SOps.binRun hx hy (fun w => run_boolEq hT x y xo yo w) trivial hrest hg ht
theorem SOps.boolNe {T T2 : TypeId} {xo yo : Operand} {x y : Bool} (hx : st.val xo = some (.v (.bool x))) (hy : st.val yo = some (.v (.bool y))) (hT : boolTy C.P T = true)
    (hrest : SOps C ops rest (st.put t (.v (.bool (x != y)))) R)
    (hg : st.wants ops g = some true := by rfl) (ht : Nat.blt t st.n = true := by rfl) : SOps C ops (⟨some t, .binOp .neq T xo yo T2, ty, pos, aft, g⟩ :: rest) st R :=
  SOps.binRun hx hy (fun w => run_boolNe hT x y xo yo w) trivial hrest hg ht

/-- An int that does not wrap. -/
theorem SOps.addI {T T2 : TypeId} {xo yo : Operand} {x y : Int} (hx : st.val xo = some (.v (.int .i64 x))) (hy : st.val yo = some (.v (.int .i64 y)))
    (h1 : -9223372036854775808 ≤ x + y) (h2 : x + y ≤ 9223372036854775807) (hrest : SOps C ops rest (st.put t (.v (.int .i64 (x + y)))) R)
    (hg : st.wants ops g = some true := by rfl) (ht : Nat.blt t st.n = true := by rfl) : SOps C ops (⟨some t, .binOp .add T xo yo T2, ty, pos, aft, g⟩ :: rest) st R :=
  SOps.bin hx hy (z := .int .i64 (x + y)) (by simp [binV, wrap_id (has_i64 h1 h2)]) hrest hg ht
theorem SOps.subI {T T2 : TypeId} {xo yo : Operand} {x y : Int} (hx : st.val xo = some (.v (.int .i64 x))) (hy : st.val yo = some (.v (.int .i64 y)))
    (h1 : -9223372036854775808 ≤ x - y) (h2 : x - y ≤ 9223372036854775807) (hrest : SOps C ops rest (st.put t (.v (.int .i64 (x - y)))) R)
    (hg : st.wants ops g = some true := by rfl) (ht : Nat.blt t st.n = true := by rfl) : SOps C ops (⟨some t, .binOp .sub T xo yo T2, ty, pos, aft, g⟩ :: rest) st R :=
  SOps.bin hx hy (z := .int .i64 (x - y)) (by simp [binV, wrap_id (has_i64 h1 h2)]) hrest hg ht

theorem SOps.un {op : UnOp} {T : TypeId} {xo : Operand} {x z : Value} (hx : st.val xo = some (.v x)) (hz : unV op x = some z) (hrest : SOps C ops rest (st.put t (.v z)) R)
    (hg : st.wants ops g = some true := by rfl) (ht : Nat.blt t st.n = true := by rfl) : SOps C ops (⟨some t, .unOp op T xo, ty, pos, aft, g⟩ :: rest) st R :=
  SOps.val rfl hg ht (fun base a w F hs => by
    obtain ⟨h1, h2⟩ := run_unV (P := C.P) hz w
    exact ⟨z, by simp [execOp, (hs.val hx).inv_v.1, h1], .v h2⟩) hrest

/-! #### lengths -/
theorem i64_len {n : Nat} (h : n ≤ lenB) : IntKind.i64.has n := has_i64 (by omega) (by unfold lenB at h; omega)
theorem SOps.lenStr {T : TypeId} {xo : Operand} {s : ByteArray} (hx : st.val xo = some (.v (.string s))) (hT : strB C.P T = true) (hrest : SOps C ops rest (st.put t (.v (.int .i64 s.size))) R)
    (hg : st.wants ops g = some true := by rfl) (ht : Nat.blt t st.n = true := by rfl) : SOps C ops (⟨some t, .call { callee := .builtin .len, args := #[xo], argTypes := #[T] }, ty, pos, aft, g⟩ :: rest) st R :=
  SOps.val rfl hg ht (fun base a w F hs => by
    obtain ⟨h1, h2⟩ := (hs.val hx).inv_v
    refine ⟨.int .i64 s.size, ?_, .v (i64_len h2)⟩
    simp [execOp, resolve, invoke, builtin, h1, Builtin.len_, run_underlying (strB_spec hT), goInt]) hrest
theorem SOps.lenIsl {T e sz n1 : Nat} {xo : Operand} {nn : Bool} {es : List (List DV)} (hx : st.val xo = some (.isl nn n1 es)) (hT : sliceB C.P T e sz = true) (hrest : SOps C ops rest (st.put t (.v (.int .i64 es.length))) R)
    (hg : st.wants ops g = some true := by rfl) (ht : Nat.blt t st.n = true := by rfl) : SOps C ops (⟨some t, .call { callee := .builtin .len, args := #[xo], argTypes := #[T] }, ty, pos, aft, g⟩ :: rest) st R :=
  SOps.val rfl hg ht (fun base a w F hs => by
    have h1 := hs.val hx
    generalize hv : a.eval xo = v at h1
    cases h1 with
    | isl xs hlen hcap hB hnn hA hsz hc hr =>
      refine ⟨.int .i64 es.length, ?_, .v (i64_len hB)⟩
      simp [execOp, resolve, invoke, builtin, hv, Builtin.len_, run_underlying (sliceB_spec hT).1, goInt, hlen]) hrest
theorem SOps.lenSl {T e sz b n1 off len : Nat} {xo : Operand} (hx : st.val xo = some (.sl b n1 off len)) (hT : sliceB C.P T e sz = true) (hrest : SOps C ops rest (st.put t (.v (.int .i64 len))) R)
    (hg : st.wants ops g = some true := by rfl) (ht : Nat.blt t st.n = true := by rfl) : SOps C ops (⟨some t, .call { callee := .builtin .len, args := #[xo], argTypes := #[T] }, ty, pos, aft, g⟩ :: rest) st R :=
  SOps.val rfl hg ht (fun base a w F hs => by
    have h1 := hs.val hx
    generalize hv : a.eval xo = v at h1
    cases h1 with
    | sl h1 h2 h3 h4 =>
      refine ⟨.int .i64 len, ?_, .v (i64_len h4)⟩
      simp [execOp, resolve, invoke, builtin, hv, Builtin.len_, run_underlying (sliceB_spec hT).1, goInt]) hrest
/-- A nil slice. -/
theorem SOps.lenNil {T e sz : Nat} {xo : Operand} (hx : st.val xo = some (.v (.slice none 0 0))) (hT : sliceB C.P T e sz = true) (hrest : SOps C ops rest (st.put t (.v (.int .i64 0))) R)
    (hg : st.wants ops g = some true := by rfl) (ht : Nat.blt t st.n = true := by rfl) : SOps C ops (⟨some t, .call { callee := .builtin .len, args := #[xo], argTypes := #[T] }, ty, pos, aft, g⟩ :: rest) st R :=
  SOps.val rfl hg ht (fun base a w F hs => by
    have h1 := (hs.val hx).inv_v.1
    refine ⟨.int .i64 0, ?_, .v (has_i64 (by omega) (by omega))⟩
    simp [execOp, resolve, invoke, builtin, h1, Builtin.len_, run_underlying (sliceB_spec hT).1, goInt]) hrest

/-! #### addresses -/
theorem run_indexAt {P : Program} {w : World} {T e sz : Nat} (hT : sliceB P T e sz = true) (b o len cap : Nat) (k : IntKind) (i : Nat) (hi : i < len) :
    (Instr.indexAt T (.slice (some ⟨b, o, none⟩) len cap) (.int k (i : Int))).run P w = .ok (.pointer (some ⟨b, o + i * sz, none⟩)) w := by
  obtain ⟨h1, inf, h2, h3⟩ := sliceB_spec hT
  have hlt : (i : Int) < (len : Int) := by omega
  simp [Instr.indexAt, run_underlying h1, asIntOf, hi, sizeOf, typeInfo, h2, h3, add_plain']

theorem SOps.indexIsl {T e sz : Nat} {xo io : Operand} {nn : Bool} {es : List (List DV)} {k : IntKind} (i : Nat) {c : List DV} (hx : st.val xo = some (.isl nn sz es)) (hi : st.val io = some (.v (.int k i)))
    (hT : sliceB C.P T e sz = true) (hc : es[i]? = some c) (hrest : SOps C ops rest (st.put t (.ipin c)) R)
    (hg : st.wants ops g = some true := by rfl) (ht : Nat.blt t st.n = true := by rfl) : SOps C ops (⟨some t, .indexAddr T xo io, ty, pos, aft, g⟩ :: rest) st R :=
  SOps.val rfl hg ht (fun base a w F hs => by
    have h1 := hs.val hx
    have h2 := (hs.val hi).inv_v.1
    generalize hv : a.eval xo = v at h1
    cases h1 with
    | @isl A len cap nn sz es b o xs hlen hcap hB hnn hA hsz hcell hr =>
      have hne : es ≠ [] := by intro h; simp [h] at hc
      have hlt : i < len := by rw [hlen]; exact (List.getElem?_eq_some_iff.1 hc).1
      obtain ⟨rfl, hF⟩ := hA hne
      refine ⟨.pointer (some ⟨b, o + i * sz, none⟩), ?_, .ipin (fun j => xs i j) hF (fun j d hj => ?_) (fun j d hj => hr i c j d hc hj)⟩
      · simp [execOp, hv, h2, run_indexAt hT b o len cap k i hlt]
      · rw [Nat.add_assoc]; exact hcell i c j d hc hj) hrest
theorem SOps.indexSl {T e sz b off len : Nat} {xo io : Operand} {k : IntKind} (i : Nat) (hx : st.val xo = some (.sl b sz off len)) (hi : st.val io = some (.v (.int k i)))
    (hT : sliceB C.P T e sz = true) (hlt : i < len) (hrest : SOps C ops rest (st.put t (.ref b ((off + i) * sz))) R)
    (hg : st.wants ops g = some true := by rfl) (ht : Nat.blt t st.n = true := by rfl) : SOps C ops (⟨some t, .indexAddr T xo io, ty, pos, aft, g⟩ :: rest) st R :=
  SOps.val rfl hg ht (fun base a w F hs => by
    have h1 := hs.val hx
    have h2 := (hs.val hi).inv_v.1
    generalize hv : a.eval xo = v at h1
    cases h1 with
    | @sl b sz off len cap e' n q1 q2 q3 q4 =>
      refine ⟨.pointer (some ⟨b, (off + i) * sz, none⟩), ?_, .ref _ _⟩
      simp [execOp, hv, h2, run_indexAt hT b (off * sz) len cap k i hlt, Nat.add_mul]) hrest

theorem SOps.fieldPin {s f off : Nat} {xo : Operand} {cs : List DV} (hx : st.val xo = some (.ipin cs)) (hs : fieldB C.P s f off = true) (hrest : SOps C ops rest (st.put t (.ipin (cs.drop off))) R)
    (hg : st.wants ops g = some true := by rfl) (ht : Nat.blt t st.n = true := by rfl) : SOps C ops (⟨some t, .fieldAddr s xo f, ty, pos, aft, g⟩ :: rest) st R :=
  SOps.val rfl hg ht (fun base a w F hsim => by
    have h1 := hsim.val hx
    generalize hv : a.eval xo = v at h1
    cases h1 with
    | @ipin b o cs xs hF hc hr =>
      refine ⟨.pointer (some ⟨b, o + off, none⟩), ?_, .ipin (fun j => xs (off + j)) hF (fun j d hj => ?_) (fun j d hj => ?_)⟩
      · simp [execOp, hv, run_field hs, add_plain']
      · rw [List.getElem?_drop] at hj; rw [Nat.add_assoc]; exact hc _ _ hj
      · rw [List.getElem?_drop] at hj; exact hr _ _ hj) hrest
theorem SOps.fieldRef {s f off b o : Nat} {xo : Operand} (hx : st.val xo = some (.ref b o)) (hs : fieldB C.P s f off = true) (hrest : SOps C ops rest (st.put t (.ref b (o + off))) R)
    (hg : st.wants ops g = some true := by rfl) (ht : Nat.blt t st.n = true := by rfl) : SOps C ops (⟨some t, .fieldAddr s xo f, ty, pos, aft, g⟩ :: rest) st R :=
  SOps.val rfl hg ht (fun base a w F hsim => by
    have h1 := hsim.val hx
    generalize hv : a.eval xo = v at h1
    cases h1 with
    | ref => exact ⟨_, by simp [execOp, hv, run_field hs, add_plain'], .ref _ _⟩) hrest

/-! #### loads -/
theorem run_loadFlat {P : Program} {w : World} {T : TypeId} (hT : flatB P T = true) {p : Addr} {x : Value} (hc : w.cell? p = some x) : (Instr.loadAt T (.pointer (some p))).run P w = .ok x w := by
  simp [Instr.loadAt, Instr.sureAddr, loadVar, isAgg_flat hT, hc]
theorem run_loadAgg {P : Program} {w : World} {T n : Nat} (hT : aggB P T n = true) {b o : Nat} (xs : Nat → Value) (hc : ∀ j, j < n → w.cell? ⟨b, o + j, none⟩ = some (xs j)) :
    (Instr.loadAt T (.pointer (some ⟨b, o, none⟩))).run P w = .ok (.agg ((List.range n).map xs).toArray) w := by
  obtain ⟨h1, h2⟩ := isAgg_agg (w := w) hT
  have h3 := run_loadCells (P := P) w ⟨b, o, none⟩ n xs (fun j hj => by rw [add_plain']; exact hc j hj)
  simp [Instr.loadAt, Instr.sureAddr, loadVar, h1, h2, h3]

theorem SOps.loadPin {T : TypeId} {xo : Operand} {d : DV} {cs : List DV} (hx : st.val xo = some (.ipin (d :: cs))) (hT : flatB C.P T = true) (hrest : SOps C ops rest (st.put t d) R)
    (hg : st.wants ops g = some true := by rfl) (ht : Nat.blt t st.n = true := by rfl) : SOps C ops (⟨some t, .load T xo, ty, pos, aft, g⟩ :: rest) st R :=
  SOps.val rfl hg ht (fun base a w F hsim => by
    have h1 := hsim.val hx
    generalize hv : a.eval xo = v at h1
    cases h1 with
    | ipin xs hF hc hr => exact ⟨xs 0, by simp [execOp, hv, run_loadFlat hT (by simpa using (hc 0 d rfl).1)], hr 0 d rfl⟩) hrest
theorem SOps.loadPinA {T n : Nat} {xo : Operand} {cs : List DV} (hx : st.val xo = some (.ipin cs)) (hT : aggB C.P T n = true) (hn : n ≤ cs.length) (hrest : SOps C ops rest (st.put t (.agg (cs.take n))) R)
    (hg : st.wants ops g = some true := by rfl) (ht : Nat.blt t st.n = true := by rfl) : SOps C ops (⟨some t, .load T xo, ty, pos, aft, g⟩ :: rest) st R :=
  SOps.val rfl hg ht (fun base a w F hsim => by
    have h1 := hsim.val hx
    generalize hv : a.eval xo = v at h1
    cases h1 with
    | ipin xs hF hc hr =>
      refine ⟨.agg ((List.range n).map xs).toArray, ?_, .agg (by simp; omega) (fun j x d hj hd => ?_)⟩
      · rw [show execOp a.eval ⟨some t, .load T xo, ty, pos, aft, g⟩ = (do pure (.value (← Instr.loadAt T (a.eval xo)))) from rfl, hv]
        simp [run_loadAgg hT xs (fun j hj => by
          have : j < cs.length := by omega
          exact (hc j _ (List.getElem?_eq_getElem this)).1)]
      · rw [List.getElem?_take] at hd
        split at hd
        · rename_i hlt
          have e : (List.range n)[j]? = some j := List.getElem?_range hlt
          simp [e] at hj
          subst hj
          exact hr _ _ hd
        · cases hd) hrest
end ops
end Go.GH
