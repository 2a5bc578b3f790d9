/-
  What a card's reading of an argument gives where its bulk is bounded: no string, no list in it is longer. Proved here: by the reading's own steps. No conditions.
-/
import Derived.Test.YtjcihlpjlpackaaDoorGp
import Derived.Test.YtjcihlpjlpackaaDoorRows
import Derived.Test.YtjcihlpjlpackaaDoorHd
set_option linter.unusedVariables false
set_option linter.unusedSimpArgs false
namespace Go.GH
open Go Go.RowKit Go.Proofs.YtjcihlpjlpackaaDoor

inductive SmallD (N : Nat) : DV → Prop
  | v {x : Value} (h : ∀ s, x = .string s → s.size ≤ N) : SmallD N (.v x)
  | isl {nn : Bool} {sz : Nat} {es : List (List DV)} (hl : es.length ≤ N) (h : ∀ (i : Nat) e (j : Nat) d, es[i]? = some e → e[j]? = some d → SmallD N d) : SmallD N (.isl nn sz es)
theorem bulk_one {H : Type} (d : DataW H) : 1 ≤ Rows.uptoBulk d := by
  cases d with
  | lit l => cases l <;> simp [Rows.uptoBulk]
  | _ => simp [Rows.uptoBulk]
theorem bulk_part {H : Type} {d : DataW H} : ∀ {l : List (DataW H)}, d ∈ l → Rows.uptoBulk d ≤ Rows.uptoBulkAll l
  | [], h => by cases h
  | x :: l, h => by
    rw [Rows.uptoBulkAll]
    rcases List.mem_cons.1 h with rfl | h
    · omega
    · have := bulk_part h; omega
theorem bulk_len {H : Type} : ∀ (l : List (DataW H)), l.length ≤ Rows.uptoBulkAll l
  | [] => Nat.zero_le _
  | x :: l => by
    rw [Rows.uptoBulkAll, List.length_cons]
    have := bulk_len l
    have := bulk_one x
    omega
theorem bulk_elems {H : Type} (a b : List (DataW H)) : Rows.uptoBulkAll a ≤ Rows.uptoBulk (.slice a b) := by
  rw [Rows.uptoBulk]; omega
theorem bulk_agg {H : Type} (a : List (DataW H)) : Rows.uptoBulkAll a ≤ Rows.uptoBulk (.agg a) := by
  rw [Rows.uptoBulk]; omega
theorem bulk_str {H : Type} (s : ByteArray) : Rows.uptoBulk (DataW.lit (H := H) (.string s.data.toList)) = s.size + 1 := by
  rw [Rows.uptoBulk]; simp
def CellsS (N : Nat) (w : World) (cs : List Value) (L : List DTy) (ds : List DV) : Prop :=
  cs.length = L.length ∧ ds.length = L.length ∧ ∀ (j : Nat) v d ty, cs[j]? = some v → ds[j]? = some d → L[j]? = some ty → Rep w (AllF w) v d ∧ HasD ty d ∧ v.oneCell' = true ∧ SmallD N d
def PWS (N : Nat) (w : World) (cs : List Value) (L : List DTy) : Prop :=
  cs.length = L.length ∧ ∀ (j : Nat) v ty, cs[j]? = some v → L[j]? = some ty → ∃ d, Rep w (AllF w) v d ∧ HasD ty d ∧ v.oneCell' = true ∧ SmallD N d
theorem PWS.cells {N : Nat} {w : World} {cs : List Value} {L : List DTy} (h : PWS N w cs L) : ∃ ds, CellsS N w cs L ds := by
  have key : ∀ j, ∃ d, ∀ v ty, cs[j]? = some v → L[j]? = some ty → Rep w (AllF w) v d ∧ HasD ty d ∧ v.oneCell' = true ∧ SmallD N d := fun j => by
    by_cases hj : j < L.length
    · obtain ⟨d, hd⟩ := h.2 j _ _ (List.getElem?_eq_getElem (show j < cs.length by rw [h.1]; exact hj)) (List.getElem?_eq_getElem hj)
      refine ⟨d, fun v ty hv ht => ?_⟩
      rw [List.getElem?_eq_getElem (show j < cs.length by rw [h.1]; exact hj)] at hv
      rw [List.getElem?_eq_getElem hj] at ht
      obtain rfl := Option.some.inj hv
      obtain rfl := Option.some.inj ht
      exact hd
    · exact ⟨.any, fun v ty _ ht => absurd (List.getElem?_eq_some_iff.1 ht).1 hj⟩
  refine ⟨(List.range L.length).map (fun j => (key j).choose), h.1, by simp, fun j v d ty hv hd ht => ?_⟩
  rw [List.getElem?_map] at hd
  obtain ⟨q, hq, rfl⟩ := Option.map_eq_some_iff.1 hd
  have hlt : j < L.length := (List.getElem?_eq_some_iff.1 ht).1
  rw [List.getElem?_range hlt] at hq
  obtain rfl := Option.some.inj hq
  exact (key j).choose_spec v ty hv ht
theorem PWS.one {N : Nat} {w : World} {v : Value} {ty : DTy} {d : DV} (h1 : Rep w (AllF w) v d) (h2 : HasD ty d) (h3 : v.oneCell' = true) (h4 : SmallD N d) : PWS N w [v] [ty] :=
  ⟨rfl, fun j u t hv ht => by
    match j, hv, ht with
    | 0, hv, ht => simp at hv ht; subst hv; subst ht; exact ⟨d, h1, h2, h3, h4⟩
    | j + 1, hv, ht => simp at hv⟩
theorem pws_trod {N : Nat} {H : Type} {enc : TypeId × Value → H} {P : Program} {w : World} {sp : Nat → Bool} {held : Bool} {t : TypeId} {L : List DTy} (h : TyIs P t L) :
    ∀ (fuel : Nat) (cs : List Value) (x : DataW H × List MemPlace), DataW.trod enc P w 0 sp held fuel t cs = some x → Rows.uptoBulk x.1 ≤ N → PWS N w cs L := by
  induction h with
  | @int t k h =>
    intro fuel cs x hx hb0
    obtain ⟨n, rfl, hxe, hwf⟩ := DataW.trod_int h hx
    exact .one (d := .v (.int k n)) (.v (show k.has n from lit_int_wf hwf)) (.int (lit_int_wf hwf)) rfl (.v (fun s e => by cases e))
  | @str t h =>
    intro fuel cs x hx hb0
    obtain ⟨s, rfl, hxe, hs⟩ := DataW.trod_string h hx
    have hs : s.size ≤ lenB := by
      have e : maxLen = lenB := by decide
      omega
    exact .one (d := .v (.string s)) (.v hs) (.str hs) rfl (.v (fun s' e => by cases e; rw [hxe, bulk_str] at hb0; omega))
  | @bool t h =>
    intro fuel cs x hx hb0
    obtain ⟨b, rfl, _⟩ := DataW.trod_bool h hx
    exact .one (d := .v (.bool b)) (.v trivial) .bool rfl (.v (fun s e => by cases e))
  | @sl t e L h he hc hne ih =>
    intro fuel cs x hx hb0
    rcases DataW.trod_slice h hx with ⟨rfl, _⟩ | ⟨a, len, cap, elems, rest, n, rfl, rfl, hxe, hb, hl, hm, hlen, hel, _, _⟩
    · exact .one (d := .isl false L.length []) (.isl (b := 0) (o := 0) (fun _ _ => undef) rfl (by omega) (by simp [lenB]) (fun h => by cases h) (fun h => absurd rfl h) (fun i e h => by simp at h) (fun i e j d h => by simp at h) (fun i e j d h => by simp at h))
        (.sl (fun i e h => by simp at h) (fun i e j d ty h => by simp at h)) rfl (.isl (by simp) (fun i e j d h => by simp at h))
    · have key : ∀ i, ∃ p : List Value × List DV, i < len → w.cells? 0 (a.add (i * L.length)) L.length = some p.1 ∧ CellsS N w p.1 L p.2 := fun i => by
        by_cases hi : i < len
        · have h1 := hel i hi
          rw [List.getElem?_eq_getElem (by omega)] at h1
          obtain ⟨cs', h2, h3⟩ := Option.bind_eq_some_iff.1 h1
          have hbe : Rows.uptoBulk (elems[i]'(by omega)).1 ≤ N := by
            rw [hxe] at hb0
            exact Nat.le_trans (bulk_part (List.mem_map.2 ⟨_, List.getElem_mem _, rfl⟩)) (Nat.le_trans (bulk_elems _ _) hb0)
          obtain ⟨ds, hds⟩ := (ih n cs' _ h3 hbe).cells
          exact ⟨(cs', ds), fun _ => ⟨by rw [← hc]; exact h2, hds⟩⟩
        · exact ⟨([], []), fun h => absurd h hi⟩
      have hpos : 0 < L.length := List.length_pos_iff.2 hne
      have hspot : 0 < len → a.spot = none ∧ a.block < w.heap.size := fun h0 => by
        obtain ⟨h1, h2, _⟩ := (key 0).choose_spec h0
        obtain ⟨_, _, h4⟩ := World.cells?_some h1
        have h5 := h4 0 hpos
        rw [List.getElem?_eq_getElem (by omega)] at h5
        simp only [Nat.zero_mul] at h5
        have h6 := cell?_lt h5
        simp [Addr.add] at h6
        exact ⟨h6.2, h6.1⟩
      have hadd : 0 < len → ∀ q, a.add q = ⟨a.block, a.off + q, none⟩ := fun h0 q => by
        have := (hspot h0).1
        obtain ⟨b, o, s⟩ := a
        simp only at this
        subst this
        exact add_plain' b o q
      let es : List (List DV) := (List.range len).map (fun i => (key i).choose.2)
      have hes : ∀ (i : Nat) e, es[i]? = some e → i < len ∧ e = (key i).choose.2 := fun i e hi => by
        simp only [es, List.getElem?_map] at hi
        obtain ⟨q, hq, rfl⟩ := Option.map_eq_some_iff.1 hi
        have hlt : i < len := by have := (List.getElem?_eq_some_iff.1 hq).1; simpa using this
        rw [List.getElem?_range hlt] at hq
        obtain rfl := Option.some.inj hq
        exact ⟨hlt, rfl⟩
      have hcell : ∀ (i : Nat) e (j : Nat) d, es[i]? = some e → e[j]? = some d → ∃ v ty, L[j]? = some ty ∧ w.cell? ⟨a.block, a.off + (i * L.length + j), none⟩ = some v ∧ ((key i).choose.1)[j]? = some v ∧ Rep w (AllF w) v d ∧ HasD ty d ∧ v.oneCell' = true ∧ SmallD N d := fun i e j d hi hj => by
        obtain ⟨hlt, rfl⟩ := hes i e hi
        obtain ⟨h1, h2, h3, h4⟩ := (key i).choose_spec hlt
        obtain ⟨_, _, h5⟩ := World.cells?_some h1
        have hjl : j < L.length := by rw [← h3]; exact (List.getElem?_eq_some_iff.1 hj).1
        have hv := List.getElem?_eq_getElem (show j < ((key i).choose.1).length by omega)
        refine ⟨_, _, List.getElem?_eq_getElem hjl, ?_, hv, h4 j _ d _ hv hj (List.getElem?_eq_getElem hjl)⟩
        rw [← hv, ← h5 j hjl, hadd (by omega), add_plain', Nat.add_assoc]
      have hesl : es.length = len := by simp [es]
      have hmx : maxLen = lenB := by decide
      refine .one (d := .isl false L.length es) (.isl (b := a.block) (o := a.off) (fun i j => (((key i).choose.1)[j]?).getD undef) hesl.symm hl (by omega) (fun h => by cases h) (fun hne' => ?_) (fun i e hi => ?_) (fun i e j d hi hj => ?_) (fun i e j d hi hj => ?_)) (.sl (fun i e hi => ?_) (fun i e j d ty hi hj hty => ?_)) rfl (.isl (by rw [hesl, ← hlen]; rw [hxe] at hb0; exact Nat.le_trans (by simpa using bulk_len (elems.map (·.1))) (Nat.le_trans (bulk_elems _ _) hb0)) (fun i e j d hi hj => by obtain ⟨_, _, _, _, _, _, _, _, h7⟩ := hcell i e j d hi hj; exact h7))
      · have h0 : 0 < len := by
          rcases Nat.eq_zero_or_pos len with h | h
          · exact absurd (by simp [es, h]) hne'
          · exact h
        refine ⟨?_, (hspot h0).2⟩
        have := (hspot h0).1
        obtain ⟨b, o, s⟩ := a
        simp only at this
        subst this
        rfl
      · obtain ⟨hlt, rfl⟩ := hes i e hi; exact ((key i).choose_spec hlt).2.2.1
      · obtain ⟨v, ty, _, h2, h3, _, _, h6, _⟩ := hcell i e j d hi hj
        simp only [h3, Option.getD_some]
        exact ⟨h2, h6⟩
      · obtain ⟨v, ty, _, _, h3, h4, _⟩ := hcell i e j d hi hj
        simp only [h3, Option.getD_some]
        exact h4
      · obtain ⟨hlt, rfl⟩ := hes i e hi; exact ((key i).choose_spec hlt).2.2.1
      · obtain ⟨v, ty', h1, _, _, _, h5, _⟩ := hcell i e j d hi hj
        rw [h1] at hty
        obtain rfl := Option.some.inj hty
        exact h5
  | @struct t fs Ls h hc hl hf ho ih =>
    intro fuel cs x hx hb0
    obtain ⟨xs, n, rfl, hxe, hlen, hxl, hx⟩ := DataW.trod_struct h hx
    refine ⟨hlen.trans hc, fun j v ty hv hty => ?_⟩
    obtain ⟨i, Li, q, h1, h2, rfl⟩ := flatten_find Ls j ty hty
    have hi : i < fs.size := by rw [← hl]; exact (List.getElem?_eq_some_iff.1 h1).1
    have hfi := Array.getElem?_eq_getElem hi
    obtain ⟨o1, o2⟩ := ho i _ Li hfi h1
    have h3 := hx i _ hfi
    rw [List.getElem?_eq_getElem (show i < xs.length by omega)] at h3
    have hbe : Rows.uptoBulk (xs[i]'(by omega)).1 ≤ N := by
      rw [hxe] at hb0
      exact Nat.le_trans (bulk_part (List.mem_map.2 ⟨_, List.getElem_mem _, rfl⟩)) (Nat.le_trans (bulk_agg _) hb0)
    obtain ⟨_, h4⟩ := ih i _ Li hfi h1 n _ _ h3 hbe
    have hql : q < Li.length := (List.getElem?_eq_some_iff.1 h2).1
    exact h4 q v ty (by rw [List.getElem?_take, if_pos (by omega), List.getElem?_drop, o1]; exact hv) h2

/-- An argument of one cell. -/
theorem arg_repS {N : Nat} {H : Type} {enc : TypeId × Value → H} {P : Program} {w : World} {sp : Nat → Bool} {held : Bool} {t : TypeId} {ty : DTy} {v : Value} {d : DataW H} {p : List MemPlace} (hT : TyIs P t [ty]) (h : DataW.Trod enc P w 0 sp held t v d p) (hv : v.cells = #[v]) (hb : Rows.uptoBulk d ≤ N) : ∃ dv, Rep w (AllF w) v dv ∧ HasD ty dv ∧ SmallD N dv := by
  obtain ⟨fuel, h⟩ := h
  rw [hv] at h
  obtain ⟨ds, h1, h2, h3⟩ := (pws_trod hT fuel _ _ h hb).cells
  match ds, h2 with
  | [dv], _ => exact ⟨dv, (h3 0 v dv ty rfl rfl rfl).1, (h3 0 v dv ty rfl rfl rfl).2.1, (h3 0 v dv ty rfl rfl rfl).2.2.2⟩
/-- An argument of several cells. -/
theorem arg_repAS {N : Nat} {H : Type} {enc : TypeId × Value → H} {P : Program} {w : World} {sp : Nat → Bool} {held : Bool} {t : TypeId} {L : List DTy} {us : Array Value} {d : DataW H} {p : List MemPlace} (hT : TyIs P t L) (h : DataW.Trod enc P w 0 sp held t (.agg us) d p) (hb : Rows.uptoBulk d ≤ N) : ∃ ds, Rep w (AllF w) (.agg us) (.agg ds) ∧ ElemIs L ds ∧ ∀ d ∈ ds, SmallD N d := by
  obtain ⟨fuel, h⟩ := h
  obtain ⟨ds, h1, h2, h3⟩ := (pws_trod hT fuel _ _ h hb).cells
  have hus : us.size = ds.length := by rw [h2, ← h1]; rfl
  refine ⟨ds, .agg hus (fun j x dd hx hd => ?_), ⟨h2, fun j dd ty hd ht => ?_⟩, fun dd hdd => ?_⟩
  · have hlt : j < L.length := by rw [← h2]; exact (List.getElem?_eq_some_iff.1 hd).1
    exact (h3 j x dd _ (by show us.toList[j]? = some x; simpa using hx) hd (List.getElem?_eq_getElem hlt)).1
  · have hlt : j < us.size := by rw [hus]; exact (List.getElem?_eq_some_iff.1 hd).1
    exact (h3 j us[j] dd ty (by show us.toList[j]? = some us[j]; simp [hlt]) hd ht).2.1
  · obtain ⟨j, hj⟩ := List.mem_iff_getElem?.1 hdd
    have hlt : j < us.size := by rw [hus]; exact (List.getElem?_eq_some_iff.1 hj).1
    have hlL : j < L.length := by rw [← h2]; exact (List.getElem?_eq_some_iff.1 hj).1
    exact (h3 j us[j] dd _ (by show us.toList[j]? = some us[j]; simp [hlt]) hj (List.getElem?_eq_getElem hlL)).2.2.2
end Go.GH
