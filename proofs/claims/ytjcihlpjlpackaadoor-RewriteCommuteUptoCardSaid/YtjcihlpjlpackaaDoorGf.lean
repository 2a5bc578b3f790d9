/-
  Rules for append, make, slice literals, struct literals and cuts over abstract states. Proved here: each rule, from the model's own steps. No conditions.
-/
import Derived.Test.YtjcihlpjlpackaaDoorGe
import Derived.Laws.MakeOwn
set_option linter.unusedVariables false
set_option linter.unusedSimpArgs false
namespace Go.GH
open Go Go.RowKit

def elemB (P : Program) (e sz by_ : Nat) : Bool := match P.info? e with
  | some i => i.size == sz && i.bytes == by_ && decide (0 < sz) && (match i.zero with | some z => z.cells.size == sz | none => false)
  | none => false
theorem elemB_spec {P : Program} {e sz by_ : Nat} (h : elemB P e sz by_ = true) : ∃ i z, P.info? e = some i ∧ i.zero = some z ∧ z.cells.size = sz ∧ i.size = sz ∧ i.bytes = by_ ∧ 0 < sz := by
  unfold elemB at h
  split at h
  · rename_i i hi
    simp only [Bool.and_eq_true, beq_iff_eq, decide_eq_true_eq] at h
    obtain ⟨⟨⟨h1, h2⟩, h3⟩, h4⟩ := h
    split at h4
    · rename_i z hz
      exact ⟨i, z, hi, hz, by simpa using h4, h1, h2, h3⟩
    · cases h4
  · cases h

/-- x is a slice of the elements ns. -/
def Src (w : World) (F : Nat → Prop) (x : Value) (sz : Nat) (ns : List (List DV)) : Prop :=
  ∃ (A : Option Addr) (m c : Nat) (news : List Value), x = .slice A m c ∧ m = ns.length ∧ news.length = m * sz ∧ (∀ u ∈ news, u.oneCell' = true) ∧
    (m ≠ 0 → ∃ ad, A = some ad ∧ ∀ (j : Nat) u, news[j]? = some u → w.cell? (ad.add j) = some u) ∧
    ∀ (i : Nat) e, ns[i]? = some e → e.length = sz ∧ ∀ (j : Nat) d, e[j]? = some d → ∃ u, news[i * sz + j]? = some u ∧ Rep w F u d

inductive SrcD (st : St) : DV → Nat → List (List DV) → Prop
  | isl {nn : Bool} {sz : Nat} {es : List (List DV)} : SrcD st (.isl nn sz es) sz es
  | own (i : Nat) {b elem sz off m : Nat} {es : List (List DV)} (hi : st.heap[i]? = some (b, .row elem sz es)) (hle : off + m ≤ es.length) : SrcD st (.sl b sz off m) sz ((es.drop off).take m)
  | nil {sz : Nat} : SrcD st (.v (.slice none 0 0)) sz []

theorem split_idx {sz q m : Nat} (hq : q < m * sz) : q / sz < m ∧ q % sz < sz ∧ q / sz * sz + q % sz = q := by
  have h0 : 0 < sz := by
    rcases Nat.eq_zero_or_pos sz with h | h
    · subst h; simp at hq
    · exact h
  exact ⟨Nat.div_lt_of_lt_mul (by rwa [Nat.mul_comm]), Nat.mod_lt _ h0, by rw [Nat.mul_comm]; exact Nat.div_add_mod q sz⟩

theorem SimF.src {E : Env} {base : Base} {F : Nat → Prop} {st : St} {a : Act} {w : World} (hs : SimF E base F st a w) {x : Value} {d : DV} {sz : Nat} {ns : List (List DV)} (hx : Rep w F x d) (h : SrcD st d sz ns) : Src w F x sz ns := by
  cases h with
  | nil => exact ⟨none, 0, 0, [], hx.inv_v.1, rfl, by simp, by simp, fun h => absurd rfl h, fun i e h => by simp at h⟩
  | isl =>
    cases hx with
    | @isl A len cap nn sz es b o xs hlen hcap hB hnn hA hsz hc hr =>
      have hget : ∀ q, q < ns.length * sz → ∃ e d, ns[q / sz]? = some e ∧ e[q % sz]? = some d := fun q hq => by
        obtain ⟨h1, h2, h3⟩ := split_idx hq
        have he := List.getElem?_eq_getElem h1
        have hl := hsz _ _ he
        exact ⟨_, _, he, List.getElem?_eq_getElem (by rw [hl]; exact h2)⟩
      refine ⟨A, len, cap, (List.range (len * sz)).map (fun q => xs (q / sz) (q % sz)), rfl, hlen, by simp, fun u hu => ?_, fun hne => ?_, fun i e he => ⟨hsz i e he, fun j d hj => ?_⟩⟩
      · obtain ⟨q, hq, rfl⟩ := List.mem_map.1 hu
        obtain ⟨e, d, h1, h2⟩ := hget q (by rw [← hlen]; exact List.mem_range.1 hq)
        exact (hc _ e _ d h1 h2).2
      · have hne' : ns ≠ [] := by intro h; rw [h] at hlen; exact hne hlen
        obtain ⟨rfl, hF⟩ := hA hne'
        refine ⟨_, rfl, fun q u hq => ?_⟩
        rw [List.getElem?_map] at hq
        obtain ⟨q', hq', rfl⟩ := Option.map_eq_some_iff.1 hq
        have hlt : q < len * sz := by have := (List.getElem?_eq_some_iff.1 hq').1; simpa using this
        have : q' = q := by rw [List.getElem?_range hlt] at hq'; exact (Option.some.inj hq').symm
        subst this
        obtain ⟨e, d, h1, h2⟩ := hget q' (by rw [← hlen]; exact hlt)
        have h3 := (hc _ e _ d h1 h2).1
        rw [add_plain']
        rwa [(split_idx hlt).2.2] at h3
      · have h1 := hsz i e he
        have hjl : j < sz := by rw [← h1]; exact (List.getElem?_eq_some_iff.1 hj).1
        have hil : i < ns.length := (List.getElem?_eq_some_iff.1 he).1
        have hlt : i * sz + j < len * sz := by
          rw [hlen]
          have : (i + 1) * sz ≤ ns.length * sz := Nat.mul_le_mul_right _ (by omega)
          rw [Nat.add_mul] at this; omega
        refine ⟨xs i j, ?_, hr i e j d he hj⟩
        rw [List.getElem?_map, List.getElem?_range hlt]
        obtain ⟨_, h5, h6⟩ := split_idx hlt
        have := pair_inj h6 h5 hjl
        simp only [Option.map_some, this.1, this.2]
  | @own i b elem sz off m es hi hle =>
    cases hx with
    | @sl b sz off len cap e n q1 q2 q3 q4 =>
      obtain ⟨cs, k1, k2, k3, k4⟩ := (hs.heap _ (List.mem_of_getElem? hi)).2.2
      have hfit : (off + m) * sz ≤ cs.size := Nat.le_trans (Nat.mul_le_mul_right _ hle) k2
      have hget : ∀ q, q < m * sz → ∃ e d x, es[off + q / sz]? = some e ∧ e[q % sz]? = some d ∧ cs[off * sz + q]? = some x ∧ x.oneCell' = true ∧ Rep w F x d := fun q hq => by
        obtain ⟨h1, h2, h3⟩ := split_idx hq
        have he := List.getElem?_eq_getElem (show off + q / sz < es.length by omega)
        have hl := (k4 _ _ he).1
        have hd := List.getElem?_eq_getElem (show q % sz < (es[off + q / sz]'(by omega)).length by rw [hl]; exact h2)
        obtain ⟨x, hx, ho, hr⟩ := (k4 _ _ he).2 _ _ hd
        exact ⟨_, _, x, he, hd, by rw [← hx, Nat.add_mul, Nat.add_assoc, h3], ho, hr⟩
      refine ⟨_, m, cap, (cs.toList.drop (off * sz)).take (m * sz), rfl, by simp; omega, by simp; rw [Nat.add_mul] at hfit; omega, fun u hu => ?_, fun _ => ⟨_, rfl, fun q u hq => ?_⟩, fun i e he => ?_⟩
      · obtain ⟨q, hq⟩ := List.mem_iff_getElem?.1 hu
        rw [List.getElem?_take] at hq
        split at hq
        · rename_i hlt
          rw [List.getElem?_drop] at hq
          obtain ⟨e, d, x, _, _, h3, h4, _⟩ := hget q hlt
          rw [Array.getElem?_toList, h3] at hq
          exact Option.some.inj hq ▸ h4
        · cases hq
      · rw [List.getElem?_take] at hq
        split at hq
        · rename_i hlt
          rw [List.getElem?_drop, Array.getElem?_toList] at hq
          rw [add_plain', cell_of_row w b _ cs _ _ k1]
          exact hq
        · cases hq
      · rw [List.getElem?_take] at he
        split at he
        · rename_i hlt
          rw [List.getElem?_drop] at he
          refine ⟨(k4 _ _ he).1, fun j d hj => ?_⟩
          obtain ⟨x, hx, ho, hr⟩ := (k4 _ _ he).2 j d hj
          have hjl : j < sz := by rw [← (k4 _ _ he).1]; exact (List.getElem?_eq_some_iff.1 hj).1
          refine ⟨x, ?_, hr⟩
          have : (i + 1) * sz ≤ m * sz := Nat.mul_le_mul_right _ (by omega)
          rw [Nat.add_mul] at this
          rw [List.getElem?_take, if_pos (by omega), List.getElem?_drop, Array.getElem?_toList, ← hx, Nat.add_mul, Nat.add_assoc]
        · cases he

theorem Src.mono {w w' : World} {F : Nat → Prop} {x : Value} {sz : Nat} {ns : List (List DV)} (h : Src w F x sz ns) (hc : ∀ a u, w.cell? a = some u → w'.cell? a = some u) (hr : ∀ u d, Rep w F u d → Rep w' F u d) : Src w' F x sz ns := by
  obtain ⟨A, m, c, news, h1, h2, h3, h4, h5, h6⟩ := h
  exact ⟨A, m, c, news, h1, h2, h3, h4, fun hm => by obtain ⟨ad, h7, h8⟩ := h5 hm; exact ⟨ad, h7, fun j u hj => hc _ _ (h8 j u hj)⟩, fun i e he => ⟨(h6 i e he).1, fun j d hj => by
    obtain ⟨u, h7, h8⟩ := (h6 i e he).2 j d hj; exact ⟨u, h7, hr _ _ h8⟩⟩⟩

/-- What append does, of a nil slice or one that owns its block g. -/
theorem append_run {P : Program} {w : World} {F : Nat → Prop} {T e sz by_ : Nat} (hT : sliceB P T e sz = true) (hE : elemB P e sz by_ = true) {x y : Value} {es ns : List (List DV)} (hF : ∀ b, F b → b < w.heap.size)
    (hx : (x = .slice none 0 0 ∧ es = []) ∨ ∃ g cap cs, x = .slice (some ⟨g, 0, none⟩) es.length cap ∧ ¬ F g ∧ es.length ≤ cap ∧ cap * sz ≤ cs.size ∧ w.heap[g]? = some (.cells cs e (0, 0)) ∧ ObjRep w F g (.row e sz es))
    (hy : Src w F y sz ns) (hne : ns ≠ []) (hB : es.length + ns.length ≤ lenB) (hby : (es.length + ns.length) * by_ ≤ 140737488355328) (ty : TypeId) :
    ∃ g' cap' w', (Builtin.append_ #[T, T] ty #[x, y]).run P w = .ok (.slice (some ⟨g', 0, none⟩) (es.length + ns.length) cap') w' ∧ es.length + ns.length ≤ cap' ∧
      ((∃ A n c, x = .slice (some ⟨g', A, none⟩) n c) ∨ g' = w.heap.size) ∧ Step (· = g') w w' ∧ ObjRep w' F g' (.row e sz (es ++ ns)) ∧
      (∃ cs, w'.heap[g']? = some (.cells cs e (0, 0)) ∧ cap' * sz ≤ cs.size) := by
  obtain ⟨hu, i0, hi0, hs0⟩ := sliceB_spec hT
  obtain ⟨i, z, hi, hz, hzs, hsz, hbs, hpos⟩ := elemB_spec hE
  obtain rfl : i0 = i := Option.some.inj (hi0.symm.trans hi)
  obtain ⟨A, m, c, news, rfl, hm, hl, h1, hA, hn⟩ := hy
  have hm0 : m ≠ 0 := by rw [hm]; intro h; exact hne (List.eq_nil_of_length_eq_zero h)
  obtain ⟨ad, rfl, hnews⟩ := hA hm0
  unfold lenB at hB
  subst hm
  -- a fresh block that holds olds and news
  have fresh : ∀ (olds : List Value) (extra : Array Value), olds.length = es.length * sz → (∀ (i : Nat) e', es[i]? = some e' → e'.length = sz ∧ ∀ (j : Nat) d, e'[j]? = some d → ∃ u, olds[i * sz + j]? = some u ∧ u.oneCell' = true ∧ Rep w F u d) →
      ObjRep (w.drew.alloc (.cells (olds.toArray ++ news.toArray ++ extra) e)) F w.heap.size (.row e sz (es ++ ns)) := fun olds extra ho hold => by
    have k := (Step.drew (fun _ => False) w).trans (Step.alloc (fun _ => False) w.drew (.cells (olds.toArray ++ news.toArray ++ extra) e))
    have hmono : ∀ {u d}, Rep w F u d → Rep (w.drew.alloc (.cells (olds.toArray ++ news.toArray ++ extra) e)) F u d := fun hr => hr.mono (fun b hb => k.block b (hF b hb) (fun x => x)) k.shape (fun _ h => h)
    refine ⟨_, heap_new' w.drew _, by simp [ho, hl, Nat.add_mul], by simp [lenB]; omega, fun q e' hq => ?_⟩
    rw [List.getElem?_append] at hq
    split at hq
    · rename_i hlt
      refine ⟨(hold q e' hq).1, fun j d hj => ?_⟩
      obtain ⟨u, h2, h3, h4⟩ := (hold q e' hq).2 j d hj
      have hlt2 := (List.getElem?_eq_some_iff.1 h2).1
      refine ⟨u, ?_, h3, hmono h4⟩
      rw [Array.getElem?_append, if_pos (by simp; omega), Array.getElem?_append, if_pos (by simpa using hlt2)]
      simpa using h2
    · rename_i hlt
      refine ⟨(hn _ e' hq).1, fun j d hj => ?_⟩
      obtain ⟨u, h2, h4⟩ := (hn _ e' hq).2 j d hj
      have hlt2 := (List.getElem?_eq_some_iff.1 h2).1
      refine ⟨u, ?_, h1 u (List.mem_of_getElem? h2), hmono h4⟩
      have e1 : q * sz + j = es.length * sz + ((q - es.length) * sz + j) := by rw [← Nat.add_assoc, ← Nat.add_mul]; congr 2; omega
      rw [e1, Array.getElem?_append, if_pos (by simp [ho]; omega), Array.getElem?_append, if_neg (by simp [ho])]
      simp only [List.size_toArray, ho, Nat.add_sub_cancel_left]
      simpa using h2
  have freshSt : ∀ o T, Step T w (w.drew.alloc o) := fun o T => (Step.drew T w).trans (Step.alloc T w.drew o)
  rcases hx with ⟨rfl, rfl⟩ | ⟨g, cap, cs, rfl, hgF, hcap, hcs, hg, hrow⟩
  · have hr := run_append_nil (P := P) w T ty e i0 z hu hi hz ad ns.length c news (by rw [hl, hsz]) hnews (by omega) (by simp at hB; omega) (by rw [hbs]; simp at hby; omega)
    refine ⟨w.heap.size, grownCap w ns.length 0 e, w.drew.alloc (.cells (news.toArray ++ Builtin.zeroCells z.cells (grownCap w ns.length 0 e - ns.length)) e), ?_, ?_, .inr rfl, freshSt _ _, ?_, _, heap_new' w.drew _, ?_⟩
    · simpa using hr
    · simpa using grownCap_ge w ns.length 0 e
    · have := fresh [] (Builtin.zeroCells z.cells (grownCap w ns.length 0 e - ns.length)) (by simp) (fun i e' h => by simp at h)
      simpa using this
    · have := grownCap_ge w ns.length 0 e
      simp only [Array.size_append, List.size_toArray, size_zeroCells, hzs, hl]
      rw [← Nat.add_mul]
      exact Nat.mul_le_mul_right _ (by omega)
  · by_cases hroom : es.length + ns.length ≤ cap
    · obtain ⟨cs', hg', k2, k3, k4⟩ := hrow
      obtain rfl : cs' = cs := by rw [hg] at hg'; simp at hg'; exact hg'.symm
      have hfit : es.length * sz + news.length ≤ cs'.size := by
        have : (es.length + ns.length) * sz ≤ cap * sz := Nat.mul_le_mul_right _ hroom
        rw [Nat.add_mul] at this
        omega
      have hr := run_append_room (P := P) w T ty e i0 hu hi g es.length cap cs' hg ad ns.length c news (by rw [hl, hsz]) hnews h1 hroom (by rw [hsz]; exact hfit)
      rw [hsz] at hr
      have hheap := setRow_heap w g cs' (cs'.toList.take (es.length * sz) ++ news ++ cs'.toList.drop (es.length * sz + news.length)).toArray e (0, 0) hg
      have hsame : (cs'.toList.take (es.length * sz) ++ news ++ cs'.toList.drop (es.length * sz + news.length)).length = cs'.size := by simp; omega
      have hst : Step (· = g) w (w.setRow g (cs'.toList.take (es.length * sz) ++ news ++ cs'.toList.drop (es.length * sz + news.length)).toArray) :=
        ⟨rfl, rfl, rfl, by simp, fun b _ hb => setRow_other w g b _ hb, fun b s hb => by
          unfold World.shape? at *
          by_cases e1 : b = g
          · subst e1; rw [hheap]; rw [hg] at hb; simpa only [List.size_toArray, hsame] using hb
          · rw [setRow_other w g b _ e1]; exact hb⟩
      have hmono : ∀ {u d}, Rep w F u d → Rep (w.setRow g (cs'.toList.take (es.length * sz) ++ news ++ cs'.toList.drop (es.length * sz + news.length)).toArray) F u d := fun hr =>
        hr.mono (fun b hb => setRow_other w g b _ (fun e => hgF (e ▸ hb))) hst.shape (fun _ h => h)
      refine ⟨g, cap, _, hr, hroom, .inl ⟨0, _, _, rfl⟩, hst, ⟨_, hheap, ?_, by simp [lenB]; omega, fun q e' hq => ?_⟩, _, hheap, ?_⟩
      · simp only [List.size_toArray, hsame, List.length_append, Nat.add_mul]; omega
      · rw [List.getElem?_append] at hq
        split at hq
        · rename_i hlt
          refine ⟨(k4 q e' hq).1, fun j d hj => ?_⟩
          obtain ⟨u, h2, h3, h4⟩ := (k4 q e' hq).2 j d hj
          have hjl : j < sz := by rw [← (k4 q e' hq).1]; exact (List.getElem?_eq_some_iff.1 hj).1
          have : (q + 1) * sz ≤ es.length * sz := Nat.mul_le_mul_right _ (by omega)
          rw [Nat.add_mul] at this
          refine ⟨u, ?_, h3, hmono h4⟩
          simp only [List.getElem?_toArray]
          rw [List.getElem?_append, if_pos (by simp; omega), List.getElem?_append, if_pos (by simp; omega), List.getElem?_take, if_pos (by omega)]
          simpa using h2
        · rename_i hlt
          refine ⟨(hn _ e' hq).1, fun j d hj => ?_⟩
          obtain ⟨u, h2, h4⟩ := (hn _ e' hq).2 j d hj
          have hlt2 := (List.getElem?_eq_some_iff.1 h2).1
          refine ⟨u, ?_, h1 u (List.mem_of_getElem? h2), hmono h4⟩
          have e1 : q * sz + j = es.length * sz + ((q - es.length) * sz + j) := by rw [← Nat.add_assoc, ← Nat.add_mul]; congr 2; omega
          have e2 : (cs'.toList.take (es.length * sz)).length = es.length * sz := by simp; omega
          simp only [List.getElem?_toArray]
          rw [e1, List.getElem?_append, if_pos (by simp; omega), List.getElem?_append, if_neg (by rw [e2]; omega), e2, Nat.add_sub_cancel_left]
          exact h2
      · simp only [List.size_toArray, hsame]; exact hcs
    · obtain ⟨cs', hg', k2, k3, k4⟩ := hrow
      obtain rfl : cs' = cs := by rw [hg] at hg'; simp at hg'; exact hg'.symm
      have hr := run_append_grow (P := P) w T ty e i0 z hu hi hz ⟨g, 0, none⟩ es.length cap (cs'.toList.take (es.length * sz)) (by simp; rw [hsz]; omega)
        (fun j v hj => by
          rw [List.getElem?_take] at hj
          split at hj
          · rw [add_plain', cell_of_row w g _ cs' _ _ hg]; simpa using hj
          · cases hj) ad ns.length c news (by rw [hl, hsz]) hnews (by omega) (by omega) (growslice_fits (by omega) (by rw [hbs]; exact hby))
      refine ⟨w.heap.size, _, _, hr, grownCap_ge _ _ _ _, .inr rfl, freshSt _ _, ?_, _, heap_new' w.drew _, ?_⟩
      · refine fresh _ _ (by simp; omega) (fun q e' hq => ⟨(k4 q e' hq).1, fun j d hj => ?_⟩)
        obtain ⟨u, h2, h3, h4⟩ := (k4 q e' hq).2 j d hj
        have hjl : j < sz := by rw [← (k4 q e' hq).1]; exact (List.getElem?_eq_some_iff.1 hj).1
        have hql : q < es.length := (List.getElem?_eq_some_iff.1 hq).1
        have : (q + 1) * sz ≤ es.length * sz := Nat.mul_le_mul_right _ (by omega)
        rw [Nat.add_mul] at this
        exact ⟨u, by rw [List.getElem?_take, if_pos (by omega)]; simpa using h2, h3, h4⟩
      · have := grownCap_ge w (es.length + ns.length) cap e
        simp only [Array.size_append, List.size_toArray, size_zeroCells, hzs, hl, List.length_take, Array.length_toList]
        rw [Nat.min_eq_left (by omega), ← Nat.add_mul, ← Nat.add_mul]
        exact Nat.mul_le_mul_right _ (by omega)

section
variable {C : Ctx} {E : Env} {base : Base} {F : Nat → Prop} {st : St} {a : Act} {w : World} {ops : Array Oper} {rest : List Oper} {R : St → Prop}
  {t : Tmp} {ty : TypeId} {pos : String} {aft : Array Edge} {g : Option (Nat × Bool)}

theorem nodup_set {α : Type} {x : α} : ∀ {l : List α} {i : Nat}, l.Nodup → x ∉ l → (l.set i x).Nodup
  | [], _, _, _ => by simp
  | y :: l, 0, h, hx => by
    simp only [List.set_cons_zero, List.nodup_cons] at *
    exact ⟨fun hm => hx (List.mem_cons_of_mem _ hm), h.2⟩
  | y :: l, i + 1, h, hx => by
    simp only [List.set_cons_succ, List.nodup_cons] at *
    refine ⟨fun hm => ?_, nodup_set h.2 (fun hm => hx (List.mem_cons_of_mem _ hm))⟩
    rcases List.mem_or_eq_of_mem_set hm with h1 | h1
    · exact h.1 h1
    · exact hx (by rw [h1]; exact List.mem_cons_self ..)
theorem exec_append (a : Act) (xo yo : Operand) (T : TypeId) {P : Program} {w w' : World} {v : Value} (h : (Builtin.append_ #[T, T] ty #[a.eval xo, a.eval yo]).run P w = .ok v w') :
    (execOp a.eval ⟨some t, .call { callee := .builtin .append, args := #[xo, yo], argTypes := #[T, T] }, ty, pos, aft, g⟩).run P w = .ok (.value v) w' := by
  simp [execOp, resolve, invoke, builtin, h]

/-- append onto a nil slice. -/
theorem SOps.appendNil {T e sz by_ : Nat} {xo yo : Operand} {d : DV} {ns : List (List DV)} (hT : sliceB C.P T e sz = true) (hE : elemB C.P e sz by_ = true) (hx : st.val xo = some (.v (.slice none 0 0))) (hy : st.val yo = some d)
    (hs' : SrcD st d sz ns) (hne : ns ≠ []) (hB : ns.length ≤ lenB) (hby : ns.length * by_ ≤ 140737488355328)
    (hrest : ∀ b, st.fresh b → SOps C ops rest ⟨st.n, (t, .sl b sz 0 ns.length) :: st.slots, (b, .row e sz ns) :: st.heap⟩ R)
    (hg : st.wants ops g = some true := by rfl) (ht : Nat.blt t st.n = true := by rfl) :
    SOps C ops (⟨some t, .call { callee := .builtin .append, args := #[xo, yo], argTypes := #[T, T] }, ty, pos, aft, g⟩ :: rest) st R := by
  refine SOps.op (R1 := fun st' => ∃ b, st.fresh b ∧ st' = ⟨st.n, (t, .sl b sz 0 ns.length) :: st.slots, (b, .row e sz ns) :: st.heap⟩) hg ?_ (fun st' ⟨b, hb, e⟩ => e ▸ hrest b hb)
  intro base ok a w F hs K Q hK
  obtain ⟨g', cap', w', hr, hcap, hloc, hst, hrow, cs, hcs1, hcs2⟩ := append_run (P := C.P) (es := []) hT hE (fun b hb => (hs.lt b hb).1) (.inl ⟨(hs.val hx).inv_v.1, rfl⟩) (hs.src (hs.val hy) hs') hne (by simpa using hB) (by simpa using hby) ty
  have hg' : g' = w.heap.size := by
    rcases hloc with ⟨A, n, c, h⟩ | h
    · rw [(hs.val hx).inv_v.1] at h; simp at h
    · exact h
  subst hg'
  unfold Oper.wp
  rw [exec_append a xo yo T hr, Oper.upon_value]
  have h1 := hs.world (hst.then (T' := fun _ => False) (Step.refl _ _) (fun _ _ h => h.elim) |>.mono (fun i hi h => absurd hi (by rw [h]; exact Nat.lt_irrefl _)))
  have hfresh : st.fresh w.heap.size := fun p hp e => Nat.lt_irrefl _ (e ▸ (hs.heap p hp).2.2.lt)
  refine hK _ _ _ ⟨w.heap.size, hfresh, rfl⟩ ⟨F, ?_⟩
  have hrow' : ObjRep w' F w.heap.size (.row e sz ns) := by simpa using hrow
  have h2 : SimF C.E base F ⟨st.n, st.slots, (w.heap.size, .row e sz ns) :: st.heap⟩ a w' := {
    keep := h1.keep, base_lt := h1.base_lt, sub := h1.sub, lt := h1.lt, env := h1.env, size := h1.size, slots := h1.slots
    heap := fun p hp => by
      rcases List.mem_cons.1 hp with rfl | hp
      · exact ⟨.inr hs.keep.size, fun hF => Nat.lt_irrefl _ (hs.lt _ hF).1, hrow'⟩
      · exact h1.heap p hp
    keys := by
      simp only [List.map_cons, List.nodup_cons]
      refine ⟨fun hm => ?_, h1.keys⟩
      obtain ⟨p, hp, e⟩ := List.mem_map.1 hm
      exact hfresh p hp e
    defers := h1.defers }
  refine SimF.put (st := ⟨st.n, st.slots, (w.heap.size, .row e sz ns) :: st.heap⟩) h2 (by simpa using ht) ?_
  have := Rep.sl (w := w') (F := F) (b := w.heap.size) (sz := sz) (off := 0) (len := ns.length) (cap := cap') (e := e) (n := cs.size) (by simpa using hcap) (by simp [World.shape?, hcs1]) (by simpa using hcs2) hB
  simpa using this

/-- append onto a slice that owns its row. -/
theorem SOps.appendOwn (i : Nat) {T e sz by_ b n : Nat} {xo yo : Operand} {d : DV} {es ns : List (List DV)} (hT : sliceB C.P T e sz = true) (hE : elemB C.P e sz by_ = true) (hx : st.val xo = some (.sl b sz 0 n)) (hy : st.val yo = some d)
    (hi : st.heap[i]? = some (b, .row e sz es)) (hn : es.length = n) (hs' : SrcD st d sz ns) (hne : ns ≠ []) (hB : n + ns.length ≤ lenB) (hby : (n + ns.length) * by_ ≤ 140737488355328)
    (hrest : ∀ b', (b' = b ∨ st.fresh b') → SOps C ops rest ⟨st.n, (t, .sl b' sz 0 (n + ns.length)) :: st.slots, st.heap.set i (b', .row e sz (es ++ ns))⟩ R)
    (hg : st.wants ops g = some true := by rfl) (ht : Nat.blt t st.n = true := by rfl) :
    SOps C ops (⟨some t, .call { callee := .builtin .append, args := #[xo, yo], argTypes := #[T, T] }, ty, pos, aft, g⟩ :: rest) st R := by
  refine SOps.op (R1 := fun st' => ∃ b', (b' = b ∨ st.fresh b') ∧ st' = ⟨st.n, (t, .sl b' sz 0 (n + ns.length)) :: st.slots, st.heap.set i (b', .row e sz (es ++ ns))⟩) hg ?_ (fun st' ⟨b', hb, e⟩ => e ▸ hrest b' hb)
  intro base ok a w F hs K Q hK
  have hmem := hs.heap _ (List.mem_of_getElem? hi)
  have h1 := hs.val hx
  have hyr := hs.val hy
  generalize hv : a.eval xo = v at h1
  cases h1 with
  | @sl b sz off len cap e' q q1 q2 q3 q4 =>
    have hrow0 := hmem.2.2
    obtain ⟨cs, k1, k2, k3, k4⟩ := hrow0
    have hsh : w.shape? b = some (e, cs.size) := by simp [World.shape?, k1]
    have hcapq : cap * sz ≤ cs.size := by
      rw [hsh] at q2
      have := (Prod.mk.inj (Option.some.inj q2)).2
      rw [this]; simpa using q3
    obtain ⟨g', cap', w', hr, hcap, hloc, hst, hrow, cs', hcs1, hcs2⟩ := append_run (P := C.P) (x := .slice (some ⟨b, 0, none⟩) n cap) (es := es) hT hE (fun b hb => (hs.lt b hb).1)
      (.inr ⟨b, cap, cs, by rw [hn], hmem.2.1, by rw [hn]; exact q1, hcapq, k1, hmem.2.2⟩) (hs.src hyr hs') hne (by rw [hn]; exact hB) (by rw [hn]; exact hby) ty
    rw [hn] at hr hcap
    unfold Oper.wp
    rw [exec_append a xo yo T (by rw [hv]; simpa using hr), Oper.upon_value]
    have hrep : Rep w' F (.slice (some ⟨g', 0, none⟩) (n + ns.length) cap') (.sl g' sz 0 (n + ns.length)) := by
      have := Rep.sl (w := w') (F := F) (b := g') (sz := sz) (off := 0) (len := n + ns.length) (cap := cap') (e := e) (n := cs'.size) hcap (by simp [World.shape?, hcs1]) (by simpa using hcs2) hB
      simpa using this
    by_cases hgb : g' = b
    · subst hgb
      refine hK _ _ _ ⟨g', .inl rfl, rfl⟩ ⟨F, ?_⟩
      exact SimF.put (st := ⟨st.n, st.slots, st.heap.set i (g', .row e sz (es ++ ns))⟩) (hs.write hi hst hrow) (by simpa using ht) hrep
    · have hnew : g' = w.heap.size := by
        rcases hloc with ⟨A, n', c, h⟩ | h
        · injection h with h1; injection h1 with h1; injection h1 with h1 _; exact absurd h1.symm hgb
        · exact h
      subst hnew
      have hfresh : st.fresh w.heap.size := fun p hp e => Nat.lt_irrefl _ (e ▸ (hs.heap p hp).2.2.lt)
      have h2 := hs.world (hst.mono (T' := fun _ => False) (fun i hi h => absurd hi (by rw [h]; exact Nat.lt_irrefl _)))
      refine hK _ _ _ ⟨w.heap.size, .inr hfresh, rfl⟩ ⟨F, ?_⟩
      have h3 : SimF C.E base F ⟨st.n, st.slots, st.heap.set i (w.heap.size, .row e sz (es ++ ns))⟩ a w' := {
        keep := h2.keep, base_lt := h2.base_lt, sub := h2.sub, lt := h2.lt, env := h2.env, size := h2.size, slots := h2.slots
        heap := fun p hp => by
          rcases mem_set hp with rfl | ⟨j, hj, hp⟩
          · exact ⟨.inr hs.keep.size, fun hF => Nat.lt_irrefl _ (hs.lt _ hF).1, hrow⟩
          · exact h2.heap p (List.mem_of_getElem? hp)
        keys := by
          rw [List.map_set]
          exact nodup_set h2.keys (fun hm => by
            obtain ⟨p, hp, e⟩ := List.mem_map.1 hm
            exact hfresh p hp e)
        defers := h2.defers }
      exact SimF.put (st := ⟨st.n, st.slots, st.heap.set i (w.heap.size, .row e sz (es ++ ns))⟩) h3 (by simpa using ht) hrep
end
end Go.GH
