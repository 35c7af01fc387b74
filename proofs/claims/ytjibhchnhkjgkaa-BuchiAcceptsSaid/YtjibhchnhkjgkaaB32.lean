/- Own text of this workplace: a part of the proofs of this place's statements. -/
import Derived.Test.YtjibhchnhkjgkaaB31
import Derived.Test.YtjibhchnhkjgkaaB24
import Derived.Test.YtjibhchnhkjgkaaB23
set_option linter.unusedVariables false
set_option linter.unusedSimpArgs false
set_option linter.unusedSectionVars false
namespace Go.Au
open Go Go.RowKit

/-! ### edges whose letters are swapped -/
def sw (e : Edge) : Edge := ⟨e.frm, e.to, e.no, e.must⟩
abbrev lentEM : List Value := [.int .i64 (-7), .int .i64 0, .int .u16 0, .int .u16 0, .int .i64 (-8), .int .i64 0, .int .u16 0, .int .u16 0]
/-- beside one store -/
structure StR (w0 : World) (b : Nat) (new : List Value) (W W' : World) : Prop where
  chg : Chg (fun k => k = b) W W'
  row : b < W.heap.size → W'.heap[b]? = W.heap[b]? ∨ W'.heap[b]? = some (.cells new.toArray 52 (0, 0))
theorem preStR (w0 : World) (b : Nat) (new : List Value) : Pre (StR w0 b new) :=
  ⟨fun h => ⟨h.mono fun _ hf => hf.elim, fun hl => .inl (h.block b hl id)⟩, fun h g => ⟨h.chg.trans g.chg, fun hl => by
    rcases g.row (Nat.lt_of_lt_of_le hl h.chg.size) with a | a
    · rcases h.row hl with c | c
      · exact .inl (a.trans c)
      · exact .inr (a.trans c)
    · exact .inr a⟩⟩
theorem own_same {w w' : World} {b : Nat} {t : TypeId} {cs : List Value} (h : Own w b t cs) (he : w'.heap[b]? = w.heap[b]?) : Own w' b t cs := he.trans h
/-- the first store is done -/
def sw1 (L : List Edge) (i : Nat) (e : Edge) : List Value := lay (L.flatMap Edge.cells ++ lentEM) (0 + i * 4 + 2) [.int .u16 e.no]
theorem sw1_len (L : List Edge) (i : Nat) (e : Edge) : (sw1 L i e).length = (L.flatMap Edge.cells ++ lentEM).length := lay_length _ _ _
theorem sw_fits {L : List Edge} {n i k : Nat} (h : L.length = n) (hi : i < n) (hk : k < 4) : 0 + i * 4 + k + 1 ≤ (L.flatMap Edge.cells ++ lentEM).length := by
  rw [List.length_append, flat_len (size := 4) (fun _ => rfl)]; omega
theorem edge_at {w : World} {b i : Nat} {L : List Edge} {e : Edge} {v : Value} (h : Own w b 52 (L.flatMap Edge.cells ++ lentEM)) (hi : L[i]? = some e) (k : Nat) (hv : e.cells[k]? = some v) : w.rangeAt b (0 + i * 4 + k) [v] := by
  have hk := (List.getElem?_eq_some_iff.1 hv).1
  have hk : k < 4 := hk
  have hg := flat_get (f := Edge.cells) (size := 4) (fun _ => rfl) L i e hi k hk
  refine Own.one h (i := i * 4 + k) ?_ (by omega)
  rw [List.getElem?_append_left (List.getElem?_eq_some_iff.1 (hg.trans hv)).1, hg, hv]
theorem sw_lay : ∀ {L : List Edge} {i : Nat} {e : Edge}, L[i]? = some e → lay (sw1 L i e) (0 + i * 4 + 3) [.int .u16 e.must] = (L.set i (sw e)).flatMap Edge.cells ++ lentEM
  | [], i, e, h => by simp at h
  | a :: r, 0, e, h => by simp at h; subst h; rfl
  | a :: r, i + 1, e, h => by
    have ih := sw_lay (L := r) (i := i) (e := e) (by simpa using h)
    unfold sw1 at ih ⊢
    simp only [lay] at ih ⊢
    rw [show 0 + (i + 1) * 4 + 2 = (0 + i * 4 + 2) + 1 + 1 + 1 + 1 by omega, show 0 + (i + 1) * 4 + 3 = (0 + i * 4 + 3) + 1 + 1 + 1 + 1 by omega]
    simp only [List.flatMap_cons, Edge.cells, List.cons_append, List.nil_append, List.set_cons_succ] at ih ⊢
    rw [ih]
theorem sw_next {es : List Edge} {i : Nat} (hi : i < es.length) : ((es.take i).map sw ++ es.drop i).set i (sw es[i]) = (es.take (i + 1)).map sw ++ es.drop (i + 1) := by
  have h1 : i - ((es.take i).map sw).length = 0 := by rw [List.length_map, List.length_take]; omega
  rw [List.set_append_right _ _ (by rw [List.length_map, List.length_take]; omega), h1, List.drop_eq_getElem_cons hi, List.take_succ_eq_append_getElem hi, List.map_append, List.set_cons_zero, List.append_assoc]
  rfl
theorem sw_done (es : List Edge) : (es.take es.length).map sw ++ es.drop es.length = es.map sw := by simp
theorem sw_wf {es : List Edge} (h : ∀ e ∈ es, e.wf) : ∀ e ∈ es.map sw, e.wf := fun e he => by
  obtain ⟨a, ha, rfl⟩ := List.mem_map.1 he
  obtain ⟨h1, h2, h3, h4⟩ := h a ha
  exact ⟨h3, h4, h1, h2⟩

/-! ### letters that are turned -/
def xr (c : Int) : Int := bits .xor .u16 c 1
theorem wrapU16_range (z : Int) : 0 ≤ IntKind.u16.wrap z ∧ IntKind.u16.wrap z < 65536 := by
  show 0 ≤ (if (false && decide (z % 65536 ≥ 32768)) = true then z % 65536 - 65536 else z % 65536) ∧ (if (false && decide (z % 65536 ≥ 32768)) = true then z % 65536 - 65536 else z % 65536) < 65536
  rw [if_neg (by simp)]; omega
theorem xr_range (c : Int) : Let16 (xr c) := wrapU16_range _
abbrev lentUM : List Value := [.int .u16 60001, .int .u16 60002]
theorem let_lay {L : List Int} {i : Nat} (z : Int) (hi : i < L.length) : lay (L.flatMap fU ++ lentUM) (0 + i * 1) [.int .u16 z] = (L.set i z).flatMap fU ++ lentUM := by
  show (L.flatMap fU ++ lentUM).set (0 + i * 1) (.int .u16 z) = _
  have hf : ∀ l : List Int, l.flatMap fU = l.map fun x => Value.int .u16 x := fun l => by induction l <;> simp_all
  rw [show 0 + i * 1 = i by omega, hf, hf, List.set_append_left _ _ (by simpa using hi), List.map_set]

theorem tk_len {α : Type} (f : α → α) {l : List α} {i : Nat} (hi : i ≤ l.length) : ((l.take i).map f ++ l.drop i).length = l.length := by rw [List.length_append, List.length_map, List.length_take, List.length_drop]; omega
theorem tk_get {α : Type} (f : α → α) {l : List α} {i : Nat} (hi : i < l.length) : ((l.take i).map f ++ l.drop i)[i]? = some l[i] := by
  have h1 : i - ((l.take i).map f).length = 0 := by rw [List.length_map, List.length_take]; omega
  rw [List.getElem?_append_right (by rw [List.length_map, List.length_take]; omega), h1, List.drop_eq_getElem_cons hi]
  rfl
theorem xr_next {l : List Int} {i : Nat} (hi : i < l.length) : ((l.take i).map xr ++ l.drop i).set i (xr l[i]) = (l.take (i + 1)).map xr ++ l.drop (i + 1) := by
  have h1 : i - ((l.take i).map xr).length = 0 := by rw [List.length_map, List.length_take]; omega
  rw [List.set_append_right _ _ (by rw [List.length_map, List.length_take]; omega), h1, List.drop_eq_getElem_cons hi, List.take_succ_eq_append_getElem hi, List.map_append, List.set_cons_zero, List.append_assoc]
  rfl
theorem xr_done (l : List Int) : (l.take l.length).map xr ++ l.drop l.length = l.map xr := by simp
section
variable {lo hi : Nat} {w w' : World} {p i e s : Value}
theorem LentRows.chgT {S : Nat → Prop} {v : Value} {xss : List (List Int)} (h : LentRows lo hi w v xss) (hc : Chg S w w') (hs : ∀ b t cs, Own w b t cs → t = 24 ∨ t = 3 → ¬ S b) : LentRows lo hi w' v xss := by
  obtain ⟨b, vs, b77, hv, h1, h2, h3, h4, h5, h6, h7, h8⟩ := h
  exact ⟨b, vs, b77, hv, h1, h2, hc.own h3 (hs b _ _ h3 (.inl rfl)), h4, h5, hc.own h6 (hs b77 _ _ h6 (.inr rfl)), h7, fun i x hx => by
    obtain ⟨u, g1, g2, g3⟩ := h8 i x hx
    exact ⟨u, g1, g2.chgT hc fun b cs hb => hs b _ _ hb (.inr rfl), g3⟩⟩
theorem Glent.swap {g : General} {xe : Nat} {L : List Edge} (h : Glent lo hi w p i (.slice (some ⟨xe, 0, none⟩) g.edges.length (g.edges.length + 2)) s g) (hL : L.length = g.edges.length) (hw : ∀ x ∈ L, x.wf) (hc : Chg (fun k => k = xe) w w') (m : Own w' xe 52 (L.flatMap Edge.cells ++ lentEM)) :
    Glent lo hi w' p i (.slice (some ⟨xe, 0, none⟩) g.edges.length (g.edges.length + 2)) s { g with edges := L } := by
  obtain ⟨b, he, h1, h2, m0⟩ := id h.edges
  cases he
  have hne : ∀ b t cs, Own w b t cs → t ≠ 52 → ¬ b = xe := fun b t cs hb ht => own_ne hb m0 ht
  exact ⟨h.props.chgT hc fun b cs hb => hne b _ _ hb (by decide), h.init.chgT hc fun b cs hb => hne b _ _ hb (by decide), ⟨xe, by show _ = Value.slice _ L.length (L.length + 2); rw [hL], h1, h2, m⟩, hw, h.sets.chgT hc fun b t cs hb ht => hne b t cs hb (by rcases ht with rfl | rfl <;> decide)⟩
theorem Blent.swap {g : Buchi} {xe : Nat} {L : List Edge} (h : Blent lo hi w p i (.slice (some ⟨xe, 0, none⟩) g.edges.length (g.edges.length + 2)) s g) (hL : L.length = g.edges.length) (hw : ∀ x ∈ L, x.wf) (hc : Chg (fun k => k = xe) w w') (m : Own w' xe 52 (L.flatMap Edge.cells ++ lentEM)) :
    Blent lo hi w' p i (.slice (some ⟨xe, 0, none⟩) g.edges.length (g.edges.length + 2)) s { g with edges := L } := by
  obtain ⟨b, he, h1, h2, m0⟩ := id h.edges
  cases he
  have hne : ∀ b t cs, Own w b t cs → t ≠ 52 → ¬ b = xe := fun b t cs hb ht => own_ne hb m0 ht
  exact ⟨h.props.chgT hc fun b cs hb => hne b _ _ hb (by decide), h.init.chgT hc fun b cs hb => hne b _ _ hb (by decide), ⟨xe, by show _ = Value.slice _ L.length (L.length + 2); rw [hL], h1, h2, m⟩, hw, h.final.chgT hc fun b cs hb => hne b _ _ hb (by decide)⟩
theorem WordV.chgS {S : Nat → Prop} {x : Word} {s l : Value} (h : WordV lo hi w s l x) (hc : Chg S w w') (hs : ∀ k, lo ≤ k → k < hi → ¬ S k) : WordV lo hi w' s l x :=
  ⟨h.stem.chg hc hs (fun _ _ h => h), h.loop.chg hc hs (fun _ _ h => h), h.ls, h.ll⟩
theorem Glent.toV {g : General} (h : Glent lo hi w p i e s g) (lp : g.props.length < 4611686018427387904) (li : g.init.length < 4611686018427387904) (le : g.edges.length < 4611686018427387904) (ls : g.sets.length < 4611686018427387904) : GenV lo hi w p i e s g :=
  ⟨h.props.row (fun _ => rfl), h.init.row (fun _ => rfl), (h.edges.row (size := 4) (fun _ => rfl)).and h.wf, h.sets.row.rows, lp, li, le, ls⟩
theorem Blent.toV {g : Buchi} (h : Blent lo hi w p i e s g) (lp : g.props.length < 4611686018427387904) (li : g.init.length < 4611686018427387904) (le : g.edges.length < 4611686018427387904) (ls : g.final.length < 4611686018427387904) : BuchiV lo hi w p i e s g :=
  ⟨h.props.row (fun _ => rfl), h.init.row (fun _ => rfl), (h.edges.row (size := 4) (fun _ => rfl)).and h.wf, h.final.row (fun _ => rfl), lp, li, le, ls⟩
end
theorem nb (y : Bool) : (!(y == y)) = false := by cases y <;> rfl
theorem eb (y : Bool) : (y == y) = true := by cases y <;> rfl
end Go.Au
