/-
  What a card's reading of an argument gives: its cells read as plain data in the call's first world, where every block stands. Proved here: by the reading's own steps. No conditions.
-/
import Derived.Test.YtjcihlpjlpackaaDoorGn
import Derived.ChangeArms
import Derived.DataReads
set_option linter.unusedVariables false
set_option linter.unusedSimpArgs false
namespace Go.GH
open Go Go.RowKit

inductive DTy where
  | int (k : IntKind)
  | str
  | bool
  | sl (L : List DTy)
/-- The cells of a value of type t. -/
inductive TyIs (P : Program) : TypeId → List DTy → Prop
  | int {t : TypeId} {k : IntKind} (h : P.underlying t = some (.int k)) : TyIs P t [.int k]
  | str {t : TypeId} (h : P.underlying t = some .string) : TyIs P t [.str]
  | bool {t : TypeId} (h : P.underlying t = some .bool) : TyIs P t [.bool]
  | sl {t e : TypeId} {L : List DTy} (h : P.underlying t = some (.slice e)) (he : TyIs P e L) (hc : P.cellsOf e = L.length) (hne : L ≠ []) : TyIs P t [.sl L]
  | struct {t : TypeId} {fs : Array Field} (Ls : List (List DTy)) (h : P.underlying t = some (.struct fs)) (hc : P.cellsOf t = Ls.flatten.length) (hl : Ls.length = fs.size)
      (hf : ∀ (i : Nat) f Li, fs[i]? = some f → Ls[i]? = some Li → TyIs P f.type Li) (ho : ∀ (i : Nat) f Li, fs[i]? = some f → Ls[i]? = some Li → f.offset = (Ls.take i).flatten.length ∧ P.cellsOf f.type = Li.length) : TyIs P t Ls.flatten
inductive HasD : DTy → DV → Prop
  | int {k : IntKind} {n : Int} (h : k.has n) : HasD (.int k) (.v (.int k n))
  | str {s : ByteArray} (h : s.size ≤ lenB) : HasD .str (.v (.string s))
  | bool {b : Bool} : HasD .bool (.v (.bool b))
  | sl {L : List DTy} {es : List (List DV)} (hl : ∀ (i : Nat) e, es[i]? = some e → e.length = L.length) (hd : ∀ (i : Nat) e (j : Nat) d ty, es[i]? = some e → e[j]? = some d → L[j]? = some ty → HasD ty d) : HasD (.sl L) (.isl false L.length es)

def AllF (w : World) : Nat → Prop := fun b => b < w.heap.size
def Cells (w : World) (cs : List Value) (L : List DTy) (ds : List DV) : Prop :=
  cs.length = L.length ∧ ds.length = L.length ∧ ∀ (j : Nat) v d ty, cs[j]? = some v → ds[j]? = some d → L[j]? = some ty → Rep w (AllF w) v d ∧ HasD ty d ∧ v.oneCell' = true
theorem cell?_lt {w : World} {a : Addr} {v : Value} (h : w.cell? a = some v) : a.block < w.heap.size ∧ a.spot = none := by
  unfold World.cell? at h
  split at h
  · rename_i c _ _ hb
    refine ⟨(Array.getElem?_eq_some_iff.1 hb).1, ?_⟩
    split at h
    · cases h
    · rename_i hs; simpa using hs
  · cases h
theorem lit_int_wf {k : IntKind} {n : Int} (h : (Lit.int k n).wf = true) : k.has n := by
  simp [Lit.wf, IntKind.has] at h ⊢
  exact h

def PW (w : World) (cs : List Value) (L : List DTy) : Prop :=
  cs.length = L.length ∧ ∀ (j : Nat) v ty, cs[j]? = some v → L[j]? = some ty → ∃ d, Rep w (AllF w) v d ∧ HasD ty d ∧ v.oneCell' = true
theorem PW.cells {w : World} {cs : List Value} {L : List DTy} (h : PW w cs L) : ∃ ds, Cells w cs L ds := by
  have key : ∀ j, ∃ d, ∀ v ty, cs[j]? = some v → L[j]? = some ty → Rep w (AllF w) v d ∧ HasD ty d ∧ v.oneCell' = true := fun j => by
    by_cases hj : j < L.length
    · obtain ⟨d, hd⟩ := h.2 j _ _ (List.getElem?_eq_getElem (show j < cs.length by rw [h.1]; exact hj)) (List.getElem?_eq_getElem hj)
      refine ⟨d, fun v ty hv ht => ?_⟩
      rw [List.getElem?_eq_getElem (show j < cs.length by rw [h.1]; exact hj)] at hv
      rw [List.getElem?_eq_getElem hj] at ht
      obtain rfl := Option.some.inj hv
      obtain rfl := Option.some.inj ht
      exact hd
    · exact ⟨.any, fun v ty _ ht => absurd (List.getElem?_eq_some_iff.1 ht).1 hj⟩
  refine ⟨(List.range L.length).map (fun j => (key j).choose), h.1, by simp, fun j v d ty hv hd ht => ?_⟩
  rw [List.getElem?_map] at hd
  obtain ⟨q, hq, rfl⟩ := Option.map_eq_some_iff.1 hd
  have hlt : j < L.length := (List.getElem?_eq_some_iff.1 ht).1
  rw [List.getElem?_range hlt] at hq
  obtain rfl := Option.some.inj hq
  exact (key j).choose_spec v ty hv ht
theorem PW.one {w : World} {v : Value} {ty : DTy} {d : DV} (h1 : Rep w (AllF w) v d) (h2 : HasD ty d) (h3 : v.oneCell' = true) : PW w [v] [ty] :=
  ⟨rfl, fun j u t hv ht => by
    match j, hv, ht with
    | 0, hv, ht => simp at hv ht; subst hv; subst ht; exact ⟨d, h1, h2, h3⟩
    | j + 1, hv, ht => simp at hv⟩
theorem flatten_find {α : Type} : ∀ (Ls : List (List α)) (j : Nat) (x : α), Ls.flatten[j]? = some x → ∃ (i : Nat) (Li : List α) (q : Nat), Ls[i]? = some Li ∧ Li[q]? = some x ∧ j = (Ls.take i).flatten.length + q
  | [], j, x, h => by simp at h
  | L :: Ls, j, x, h => by
    rw [List.flatten_cons, List.getElem?_append] at h
    split at h
    · exact ⟨0, L, j, rfl, h, by simp⟩
    · rename_i hlt
      obtain ⟨i, Li, q, h1, h2, h3⟩ := flatten_find Ls _ x h
      exact ⟨i + 1, Li, q, by simpa using h1, h2, by rw [List.take_succ_cons, List.flatten_cons, List.length_append]; omega⟩

theorem pw_trod {H : Type} {enc : TypeId × Value → H} {P : Program} {w : World} {sp : Nat → Bool} {held : Bool} {t : TypeId} {L : List DTy} (h : TyIs P t L) :
    ∀ (fuel : Nat) (cs : List Value) (x : DataW H × List MemPlace), DataW.trod enc P w 0 sp held fuel t cs = some x → PW w cs L := by
  induction h with
  | @int t k h =>
    intro fuel cs x hx
    obtain ⟨n, rfl, _, hwf⟩ := DataW.trod_int h hx
    exact .one (d := .v (.int k n)) (.v (show k.has n from lit_int_wf hwf)) (.int (lit_int_wf hwf)) rfl
  | @str t h =>
    intro fuel cs x hx
    obtain ⟨s, rfl, _, hs⟩ := DataW.trod_string h hx
    have hs : s.size ≤ lenB := by
      have e : maxLen = lenB := by decide
      omega
    exact .one (d := .v (.string s)) (.v hs) (.str hs) rfl
  | @bool t h =>
    intro fuel cs x hx
    obtain ⟨b, rfl, _⟩ := DataW.trod_bool h hx
    exact .one (d := .v (.bool b)) (.v trivial) .bool rfl
  | @sl t e L h he hc hne ih =>
    intro fuel cs x hx
    rcases DataW.trod_slice h hx with ⟨rfl, _⟩ | ⟨a, len, cap, elems, rest, n, rfl, rfl, _, hb, hl, hm, hlen, hel, _, _⟩
    · exact .one (d := .isl false L.length []) (.isl (b := 0) (o := 0) (fun _ _ => undef) rfl (by omega) (by simp [lenB]) (fun h => by cases h) (fun h => absurd rfl h) (fun i e h => by simp at h) (fun i e j d h => by simp at h) (fun i e j d h => by simp at h))
        (.sl (fun i e h => by simp at h) (fun i e j d ty h => by simp at h)) rfl
    · have key : ∀ i, ∃ p : List Value × List DV, i < len → w.cells? 0 (a.add (i * L.length)) L.length = some p.1 ∧ Cells w p.1 L p.2 := fun i => by
        by_cases hi : i < len
        · have h1 := hel i hi
          rw [List.getElem?_eq_getElem (by omega)] at h1
          obtain ⟨cs', h2, h3⟩ := Option.bind_eq_some_iff.1 h1
          obtain ⟨ds, hds⟩ := (ih n cs' _ h3).cells
          exact ⟨(cs', ds), fun _ => ⟨by rw [← hc]; exact h2, hds⟩⟩
        · exact ⟨([], []), fun h => absurd h hi⟩
      have hpos : 0 < L.length := List.length_pos_iff.2 hne
      have hspot : 0 < len → a.spot = none ∧ a.block < w.heap.size := fun h0 => by
        obtain ⟨h1, h2, _⟩ := (key 0).choose_spec h0
        obtain ⟨_, _, h4⟩ := World.cells?_some h1
        have h5 := h4 0 hpos
        rw [List.getElem?_eq_getElem (by omega)] at h5
        simp only [Nat.zero_mul] at h5
        have h6 := cell?_lt h5
        simp [Addr.add] at h6
        exact ⟨h6.2, h6.1⟩
      have hadd : 0 < len → ∀ q, a.add q = ⟨a.block, a.off + q, none⟩ := fun h0 q => by
        have := (hspot h0).1
        obtain ⟨b, o, s⟩ := a
        simp only at this
        subst this
        exact add_plain' b o q
      let es : List (List DV) := (List.range len).map (fun i => (key i).choose.2)
      have hes : ∀ (i : Nat) e, es[i]? = some e → i < len ∧ e = (key i).choose.2 := fun i e hi => by
        simp only [es, List.getElem?_map] at hi
        obtain ⟨q, hq, rfl⟩ := Option.map_eq_some_iff.1 hi
        have hlt : i < len := by have := (List.getElem?_eq_some_iff.1 hq).1; simpa using this
        rw [List.getElem?_range hlt] at hq
        obtain rfl := Option.some.inj hq
        exact ⟨hlt, rfl⟩
      have hcell : ∀ (i : Nat) e (j : Nat) d, es[i]? = some e → e[j]? = some d → ∃ v ty, L[j]? = some ty ∧ w.cell? ⟨a.block, a.off + (i * L.length + j), none⟩ = some v ∧ ((key i).choose.1)[j]? = some v ∧ Rep w (AllF w) v d ∧ HasD ty d ∧ v.oneCell' = true := fun i e j d hi hj => by
        obtain ⟨hlt, rfl⟩ := hes i e hi
        obtain ⟨h1, h2, h3, h4⟩ := (key i).choose_spec hlt
        obtain ⟨_, _, h5⟩ := World.cells?_some h1
        have hjl : j < L.length := by rw [← h3]; exact (List.getElem?_eq_some_iff.1 hj).1
        have hv := List.getElem?_eq_getElem (show j < ((key i).choose.1).length by omega)
        refine ⟨_, _, List.getElem?_eq_getElem hjl, ?_, hv, h4 j _ d _ hv hj (List.getElem?_eq_getElem hjl)⟩
        rw [← hv, ← h5 j hjl, hadd (by omega), add_plain', Nat.add_assoc]
      have hesl : es.length = len := by simp [es]
      have hmx : maxLen = lenB := by decide
      refine .one (d := .isl false L.length es) (.isl (b := a.block) (o := a.off) (fun i j => (((key i).choose.1)[j]?).getD undef) hesl.symm hl (by omega) (fun h => by cases h) (fun hne' => ?_) (fun i e hi => ?_) (fun i e j d hi hj => ?_) (fun i e j d hi hj => ?_)) (.sl (fun i e hi => ?_) (fun i e j d ty hi hj hty => ?_)) rfl
      · have h0 : 0 < len := by
          rcases Nat.eq_zero_or_pos len with h | h
          · exact absurd (by simp [es, h]) hne'
          · exact h
        refine ⟨?_, (hspot h0).2⟩
        have := (hspot h0).1
        obtain ⟨b, o, s⟩ := a
        simp only at this
        subst this
        rfl
      · obtain ⟨hlt, rfl⟩ := hes i e hi; exact ((key i).choose_spec hlt).2.2.1
      · obtain ⟨v, ty, _, h2, h3, _, _, h6⟩ := hcell i e j d hi hj
        simp only [h3, Option.getD_some]
        exact ⟨h2, h6⟩
      · obtain ⟨v, ty, _, _, h3, h4, _⟩ := hcell i e j d hi hj
        simp only [h3, Option.getD_some]
        exact h4
      · obtain ⟨hlt, rfl⟩ := hes i e hi; exact ((key i).choose_spec hlt).2.2.1
      · obtain ⟨v, ty', h1, _, _, _, h5, _⟩ := hcell i e j d hi hj
        rw [h1] at hty
        obtain rfl := Option.some.inj hty
        exact h5
  | @struct t fs Ls h hc hl hf ho ih =>
    intro fuel cs x hx
    obtain ⟨xs, n, rfl, _, hlen, hxl, hx⟩ := DataW.trod_struct h hx
    refine ⟨hlen.trans hc, fun j v ty hv hty => ?_⟩
    obtain ⟨i, Li, q, h1, h2, rfl⟩ := flatten_find Ls j ty hty
    have hi : i < fs.size := by rw [← hl]; exact (List.getElem?_eq_some_iff.1 h1).1
    have hfi := Array.getElem?_eq_getElem hi
    obtain ⟨o1, o2⟩ := ho i _ Li hfi h1
    have h3 := hx i _ hfi
    rw [List.getElem?_eq_getElem (show i < xs.length by omega)] at h3
    obtain ⟨_, h4⟩ := ih i _ Li hfi h1 n _ _ h3
    have hql : q < Li.length := (List.getElem?_eq_some_iff.1 h2).1
    exact h4 q v ty (by rw [List.getElem?_take, if_pos (by omega), List.getElem?_drop, o1]; exact hv) h2

/-- What a law's contract leaves. -/
theorem CPost.told {E : Env} {w : World} {F : Nat → Prop} {x : Value} {e : Ending} {w' : World} (h : CPost E w F [] (fun d H => d = .v x ∧ H = []) e w') : e = .returned x ∧ Below w.heap.size w w' := by
  obtain ⟨u, d, H', F', rfl, ⟨rfl, rfl⟩, _, _, hr, _, _, hst⟩ := h
  exact ⟨by rw [hr.inv_v.1], (hst.mono (T' := fun _ => False) (fun i _ hi => by cases hi)).below⟩
/-- A law's contract, at a world where every block stands. -/
theorem GCall.told {P : Program} {E : Env} {f : FuncId} {ds : List DV} {x : Value} (h : GCall P E f ds [] (fun d H => d = .v x ∧ H = [])) {w : World} {vs : Array Value} (hE : E.holds w (AllF w)) (hl : vs.size = ds.length)
    (hr : ∀ (j : Nat) (v : Value) (d : DV), vs[j]? = some v → ds[j]? = some d → Rep w (AllF w) v d) : Calls P f vs w (fun e w' => e = .returned x ∧ Below w.heap.size w w') :=
  (h.2 w (AllF w) vs hE (fun b hb => hb) hl hr (fun p hp => by cases hp) List.nodup_nil).mono (fun e w' hp => hp.told)
end Go.GH
