/- Own text of this workplace: a part of the proofs of this place's statements. -/
import Derived.Test.YtjibhchnhkjgkaaB19
set_option linter.unusedVariables false
set_option linter.unusedSimpArgs false
set_option linter.unusedSectionVars false
namespace Go.Au
open Go Go.RowKit

theorem tyTexts (xs : List ByteArray) : Ty 9 (xs.flatMap fS ++ [.string ⟨#[116, 104, 101, 32, 111, 119, 110, 101, 114, 39, 115]⟩, .string ⟨#[116, 104, 101, 32, 111, 119, 110, 101, 114, 39, 115]⟩]) :=
  ⟨by simp, fun _ => ⟨xs ++ [⟨#[116, 104, 101, 32, 111, 119, 110, 101, 114, 39, 115]⟩, ⟨#[116, 104, 101, 32, 111, 119, 110, 101, 114, 39, 115]⟩], by simp⟩, by simp, by simp⟩
theorem tyInts (xs : List Int) : Ty 3 (xs.flatMap fI ++ [.int .i64 (-771), .int .i64 (-772)]) := ⟨fun _ => ⟨xs ++ [-771, -772], by simp⟩, by simp, by simp, by simp⟩
theorem tyEdges {xs : List Edge} (h : ∀ x ∈ xs, x.wf) : Ty 52 (xs.flatMap Edge.cells ++ [.int .i64 (-7), .int .i64 0, .int .u16 0, .int .u16 0, .int .i64 (-8), .int .i64 0, .int .u16 0, .int .u16 0]) :=
  ⟨by simp, by simp, by simp, fun _ => ⟨xs ++ [⟨-7, 0, 0, 0⟩, ⟨-8, 0, 0, 0⟩], by simp [Edge.cells], fun x hx => by
    rcases List.mem_append.1 hx with hx | hx
    · exact h x hx
    · simp at hx; rcases hx with rfl | rfl <;> simp [Edge.wf]⟩⟩
section
variable {w w' : World} {lo hi n : Nat} {v : Value}
theorem wellTexts (h : WellT Ty 9 1 lo hi w v n) : ∃ ys : List ByteArray, ys.length = n ∧ Strs lo hi w v ys := by
  obtain ⟨ys, h1, -, h2⟩ := h.row (f := fS) (Q := fun _ => True) (fun _ => rfl) (by decide) (fun cs hT => by obtain ⟨xs, hx⟩ := hT.2.1 rfl; exact ⟨xs, hx, fun _ _ => trivial⟩)
  exact ⟨ys, h1, h2⟩
theorem wellInts (h : WellT Ty 3 1 lo hi w v n) : ∃ ys : List Int, ys.length = n ∧ Ints lo hi w v ys := by
  obtain ⟨ys, h1, -, h2⟩ := h.row (f := fI) (Q := fun _ => True) (fun _ => rfl) (by decide) (fun cs hT => by obtain ⟨xs, hx⟩ := hT.1 rfl; exact ⟨xs, hx, fun _ _ => trivial⟩)
  exact ⟨ys, h1, h2⟩
theorem wellEdges (h : WellT Ty 52 4 lo hi w v n) : ∃ ys : List Edge, ys.length = n ∧ Edges lo hi w v ys := by
  obtain ⟨ys, h1, hw, h2⟩ := h.row (f := Edge.cells) (Q := Edge.wf) (fun _ => rfl) (by decide) (fun cs hT => hT.2.2.2 rfl)
  exact ⟨ys, h1, h2.and hw⟩
theorem WellT.at {t : TypeId} {size b : Nat} (h : WellT Ty t size lo hi w v n) (hb : v.ownBlock = some b) : lo ≤ b ∧ b < hi := by
  obtain ⟨b', _, _, rfl, l1, l2, _⟩ := h
  have : b' = b := by simpa [Value.ownBlock] using hb
  omega
end

theorem spoilGeneral_c {w w0 : World} {lo hi lo2 hi2 : Nat} {p i e s p2 i2 e2 s2 : Value} {g : General} (h : Glent lo hi w p i e s g) (h' : Gin lo2 hi2 w0 p2 i2 e2 s2 g) (hhi : hi ≤ w.heap.size) :
    Calls Proofs.Try.prog 17 [.agg #[p, .int .i64 g.states, i, e, s]].toArray w (Ret fun _ w' => Chg (fun k => lo ≤ k ∧ k < hi) w w' ∧ ∃ g' : General, g'.states = g.states ∧ ∀ w'', Chg (fun k => hi ≤ k ∧ k < w.heap.size) w' w'' → GenV lo w''.heap.size w'' p i e s g') := by
  obtain ⟨lp, li, le, ls⟩ : _ ∧ _ ∧ _ ∧ _ := ⟨h'.lp, h'.li, h'.le, h'.ls⟩
  refine call agree Proofs.Try.func17 rfl Proofs.Try.ntmps17 (by kernel_rfl) ?_
  refine nd fun b1 w1 e1' s1' k1 m1 => ?_
  have m1 : Own w1 b1 28 [p, .int .i64 g.states, i, e, s] := m1
  have h := h.chg k1 fun _ _ _ h => h
  have tp := h.props.wellT (size := 1) (fun _ => rfl) rfl (by omega) (tyTexts g.props)
  have ti := h.init.wellT (size := 1) (fun _ => rfl) rfl (by omega) (tyInts g.init)
  have te := h.edges.wellT (size := 4) (fun _ => rfl) rfl (by omega) (tyEdges h.wf)
  have tr := h.sets.well (by omega)
  refine ld agree (Own.at_ (xs := [p]) (o := 0) m1 rfl) (by rfl) ?_
  have hcall := spoilTexts_c tp.well
  refine cl callSpoilTexts hcall ?_
  rintro _ w2 ⟨b2, c2, q1, q2, q3, q4, q5⟩
  have hb2 := tp.at q1
  replace tr := tr.keep q3 (fun b cs hb => own_ne hb q2 (by decide)) q5
  replace tp := tp.shp q5
  replace ti := ti.shp q5
  replace te := te.shp q5
  replace m1 := q3.own m1 (by omega)
  have K2 : Chg (fun k => lo ≤ k ∧ k < hi) w w2 := (k1.mono fun _ hf => hf.elim).trans (q3.mono fun k hk => by omega)
  clear q1 q2 q3 q5 hb2
  refine ld agree (Own.at_ (xs := [i]) (o := 2) m1 rfl) (by rfl) ?_
  have hcall := spoilInts_c ti.well
  refine cl callSpoilInts hcall ?_
  rintro _ w3 ⟨b3, c3, q1, q2, q3, q4', q5⟩
  have hb3 := ti.at q1
  replace tr := tr.keep q3 (fun b cs hb => own_ne hb q2 (by decide)) q5
  replace tp := tp.shp q5
  replace ti := ti.shp q5
  replace te := te.shp q5
  replace m1 := q3.own m1 (by omega)
  replace K2 := K2.trans (q3.mono fun k hk => (by omega : lo ≤ k ∧ k < hi))
  clear q1 q2 q3 q5 hb3
  refine ld agree (Own.at_ (xs := [e]) (o := 3) m1 rfl) (by rfl) ?_
  have hcall := spoilEdges_c te.well
  refine cl callSpoilEdges hcall ?_
  rintro _ w4 ⟨b4, c4, q1, q2, q3, q4'', q5⟩
  have hb4 := te.at q1
  replace tr := tr.keep q3 (fun b cs hb => own_ne hb q2 (by decide)) q5
  replace tp := tp.shp q5
  replace ti := ti.shp q5
  replace te := te.shp q5
  replace m1 := q3.own m1 (by omega)
  replace K2 := K2.trans (q3.mono fun k hk => (by omega : lo ≤ k ∧ k < hi))
  clear q1 q2 q3 q5 hb4
  refine ld agree (Own.at_ (xs := [s]) (o := 4) m1 rfl) (by rfl) ?_
  have hcall := spoilRows_c tr (by omega)
  refine cl callSpoilRows hcall ?_
  rintro _ w5 ⟨q1, q2, q3, q4⟩
  obtain ⟨xp, lxp, hxp⟩ := wellTexts (tp.shp q3)
  obtain ⟨xi, lxi, hxi⟩ := wellInts (ti.shp q3)
  obtain ⟨xe, lxe, hxe⟩ := wellEdges (te.shp q3)
  have hz := q1.size
  have hz4 := K2.size
  refine ⟨K2.trans q1, ⟨xp, g.states, xi, xe, List.replicate g.sets.length [-5]⟩, rfl, fun w'' kk => ?_⟩
  have hz2 := kk.size
  exact ⟨(hxp.chg kk (fun _ _ _ h => by omega) (fun _ _ h => h)).mono (fun _ _ h => h) (Nat.le_refl _) (by omega), (hxi.chg kk (fun _ _ _ h => by omega) (fun _ _ h => h)).mono (fun _ _ h => h) (Nat.le_refl _) (by omega), (hxe.chg kk (fun _ _ _ h => by omega) (fun _ _ h => h)).mono (fun _ _ h => h) (Nat.le_refl _) (by omega), q4 w'' (kk.mono fun k hk => by omega), by show xp.length < _; omega, by show xi.length < _; omega, by show xe.length < _; omega, by show (List.replicate _ _).length < _; rw [List.length_replicate]; omega⟩
theorem callSpoilGeneral : callable Proofs.Try.prog 17 = true := by kernel_rfl

theorem spoilBuchi_c {w w0 : World} {lo hi lo2 hi2 : Nat} {p i e s p2 i2 e2 s2 : Value} {g : Buchi} (h : Blent lo hi w p i e s g) (h' : Bin lo2 hi2 w0 p2 i2 e2 s2 g) (hhi : hi ≤ w.heap.size) :
    Calls Proofs.Try.prog 18 [.agg #[p, .int .i64 g.states, i, e, s]].toArray w (Ret fun _ w' => Chg (fun k => lo ≤ k ∧ k < hi) w w' ∧ ∃ g' : Buchi, g'.states = g.states ∧ BuchiV lo w'.heap.size w' p i e s g') := by
  obtain ⟨lp, li, le, ls⟩ : _ ∧ _ ∧ _ ∧ _ := ⟨h'.lp, h'.li, h'.le, h'.ls⟩
  refine call agree Proofs.Try.func18 rfl Proofs.Try.ntmps18 (by kernel_rfl) ?_
  refine nd fun b1 w1 e1' s1' k1 m1 => ?_
  have m1 : Own w1 b1 31 [p, .int .i64 g.states, i, e, s] := m1
  have h := h.chg k1 fun _ _ _ h => h
  have tp := h.props.wellT (size := 1) (fun _ => rfl) rfl (by omega) (tyTexts g.props)
  have ti := h.init.wellT (size := 1) (fun _ => rfl) rfl (by omega) (tyInts g.init)
  have te := h.edges.wellT (size := 4) (fun _ => rfl) rfl (by omega) (tyEdges h.wf)
  have tf := h.final.wellT (size := 1) (fun _ => rfl) rfl (by omega) (tyInts g.final)
  refine ld agree (Own.at_ (xs := [p]) (o := 0) m1 rfl) (by rfl) ?_
  have hcall := spoilTexts_c tp.well
  refine cl callSpoilTexts hcall ?_
  rintro _ w2 ⟨b2, c2, q1, q2, q3, q4, q5⟩
  have hb2 := tp.at q1
  replace tf := tf.shp q5
  replace tp := tp.shp q5
  replace ti := ti.shp q5
  replace te := te.shp q5
  replace m1 := q3.own m1 (by omega)
  have K2 : Chg (fun k => lo ≤ k ∧ k < hi) w w2 := (k1.mono fun _ hf => hf.elim).trans (q3.mono fun k hk => by omega)
  clear q1 q2 q3 q5 hb2
  refine ld agree (Own.at_ (xs := [i]) (o := 2) m1 rfl) (by rfl) ?_
  have hcall := spoilInts_c ti.well
  refine cl callSpoilInts hcall ?_
  rintro _ w3 ⟨b3, c3, q1, q2, q3, q4', q5⟩
  have hb3 := ti.at q1
  replace tf := tf.shp q5
  replace tp := tp.shp q5
  replace ti := ti.shp q5
  replace te := te.shp q5
  replace m1 := q3.own m1 (by omega)
  replace K2 := K2.trans (q3.mono fun k hk => (by omega : lo ≤ k ∧ k < hi))
  clear q1 q2 q3 q5 hb3
  refine ld agree (Own.at_ (xs := [e]) (o := 3) m1 rfl) (by rfl) ?_
  have hcall := spoilEdges_c te.well
  refine cl callSpoilEdges hcall ?_
  rintro _ w4 ⟨b4, c4, q1, q2, q3, q4'', q5⟩
  have hb4 := te.at q1
  replace tf := tf.shp q5
  replace tp := tp.shp q5
  replace ti := ti.shp q5
  replace te := te.shp q5
  replace m1 := q3.own m1 (by omega)
  replace K2 := K2.trans (q3.mono fun k hk => (by omega : lo ≤ k ∧ k < hi))
  clear q1 q2 q3 q5 hb4
  refine ld agree (Own.at_ (xs := [s]) (o := 4) m1 rfl) (by rfl) ?_
  have hcall := spoilInts_c tf.well
  refine cl callSpoilInts hcall ?_
  rintro _ w5 ⟨b5, c5, q1, q2, q3, q4''', q5⟩
  have hb5 := tf.at q1
  obtain ⟨xp, lxp, hxp⟩ := wellTexts (tp.shp q5)
  obtain ⟨xi, lxi, hxi⟩ := wellInts (ti.shp q5)
  obtain ⟨xe, lxe, hxe⟩ := wellEdges (te.shp q5)
  obtain ⟨xf, lxf, hxf⟩ := wellInts (tf.shp q5)
  have hz := k1.size
  refine ⟨K2.trans (q3.mono fun k hk => (by omega : lo ≤ k ∧ k < hi)), ⟨xp, g.states, xi, xe, xf⟩, rfl, ?_⟩
  exact ⟨hxp.mono (fun _ _ h => h) (Nat.le_refl _) (by omega), hxi.mono (fun _ _ h => h) (Nat.le_refl _) (by omega), hxe.mono (fun _ _ h => h) (Nat.le_refl _) (by omega), hxf.mono (fun _ _ h => h) (Nat.le_refl _) (by omega), by show xp.length < _; omega, by show xi.length < _; omega, by show xe.length < _; omega, by show xf.length < _; omega⟩
theorem callSpoilBuchi : callable Proofs.Try.prog 18 = true := by kernel_rfl
end Go.Au
