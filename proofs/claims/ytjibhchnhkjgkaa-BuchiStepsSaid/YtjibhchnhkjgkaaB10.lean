/- Own text of this workplace: a part of the proofs of this place's statements. -/
import Derived.Test.YtjibhchnhkjgkaaB9
import Derived.Test.YtjibhchnhkjgkaaA11
set_option linter.unusedVariables false
set_option linter.unusedSimpArgs false
set_option linter.unusedSectionVars false
namespace Go.Au
open Go Go.RowKit Go.MapKept
open Go.Maps (Keyed)

def fromS (es : List Edge) (s : Int) : List Edge := es.filter fun e => decide (e.frm = s)
def succOf (es : List Edge) (x : Word) (at_ : Nat) : List Place := (es.filter fun e => goesS e (x.at at_)).map fun e => (e.to, x.behind at_)
def succ (g : General) (x : Word) (p : Place) : List Place := succOf (fromS g.edges p.1) x p.2.toNat

/-- an automaton that is right -/
structure Good (g : General) : Prop where
  s0 : 0 ≤ g.states
  s1 : g.states ≤ 65536
  init : ∀ s ∈ g.init, 0 ≤ s ∧ s < g.states
  edges : ∀ e ∈ g.edges, 0 ≤ e.frm ∧ e.frm < g.states ∧ 0 ≤ e.to ∧ e.to < g.states
  sets : ∀ l ∈ g.sets, ∀ s ∈ l, 0 ≤ s ∧ s < g.states

theorem rising_range {n : Int} : ∀ {l : List Int} {p : Option Int}, risingFrom n p l = true → ∀ s ∈ l, 0 ≤ s ∧ s < n
  | [], _, _, s, h => by simp at h
  | x :: r, p, h, s, hs => by
    simp only [risingFrom, Bool.and_eq_true, Bool.not_eq_true', Bool.or_eq_false_iff, decide_eq_false_iff_not] at h
    rcases List.mem_cons.1 hs with rfl | hs
    · omega
    · exact rising_range h.2 s hs
theorem edgesGo_range {n k : Int} : ∀ {l : List Edge} {p : Option Edge}, edgesGo n k p l = true → ∀ e ∈ l, 0 ≤ e.frm ∧ e.frm < n ∧ 0 ≤ e.to ∧ e.to < n
  | [], _, _, s, h => by simp at h
  | x :: r, p, h, e, he => by
    simp only [edgesGo, Bool.and_eq_true] at h
    rcases List.mem_cons.1 he with rfl | he
    · have h1 := rising_range h.1 e.frm (by simp)
      have h2 := rising_range h.2.1 e.to (by simp)
      exact ⟨h1.1, h1.2, h2.1, h2.2⟩
    · exact edgesGo_range h.2.2.2.2.2.2 e he
theorem Good.of {g : General} (h : checkS g = true) : Good g := by
  simp only [checkS, Bool.and_eq_true, Bool.not_eq_true', decide_eq_false_iff_not] at h
  obtain ⟨⟨⟨⟨⟨h1, h2⟩, h3⟩, h4⟩, h5⟩, h6⟩ := h
  exact ⟨by omega, by omega, rising_range h4, edgesGo_range h5, fun l hl s hs => rising_range (List.all_eq_true.1 h6 l hl) s hs⟩

theorem wordOk_loop {x : Word} {n : Nat} (h : wordOk x n = true) : x.loop.length ≠ 0 := by
  simp only [wordOk, Bool.and_eq_true, Bool.not_eq_true', decide_eq_false_iff_not] at h
  exact h.1.1
theorem places_pos {x : Word} (h : x.loop.length ≠ 0) : 0 < x.places ∧ x.stem.length < x.places ∧ x.places = x.stem.length + x.loop.length := by
  unfold Word.places; rw [if_neg h]; omega
theorem behind_lt {x : Word} (h : x.loop.length ≠ 0) {i : Nat} (hi : i < x.places) : 0 ≤ x.behind i ∧ x.behind i < x.places := by
  have := places_pos h
  unfold Word.behind
  rw [if_neg (by omega)]
  split <;> omega

def InBox (g : General) (x : Word) (p : Place) : Prop := 0 ≤ p.1 ∧ p.1 < g.states ∧ 0 ≤ p.2 ∧ p.2 < x.places
theorem succ_box {g : General} {x : Word} (hg : Good g) (hx : x.loop.length ≠ 0) {p : Place} (hp : InBox g x p) : ∀ q ∈ succ g x p, InBox g x q := by
  intro q hq
  simp only [succ, succOf, fromS, List.mem_map, List.mem_filter] at hq
  obtain ⟨e, ⟨⟨he, -⟩, -⟩, rfl⟩ := hq
  have h1 := hg.edges e he
  obtain ⟨_, _, h2, h3⟩ := hp
  have h4 := behind_lt hx (i := p.2.toNat) (by omega)
  exact ⟨h1.2.2.1, h1.2.2.2, h4.1, h4.2⟩

/-- what is reached -/
structure AllOf (g : General) (x : Word) (all : List Place) : Prop where
  nodup : all.Nodup
  init : ∀ s ∈ g.init, (s, 0) ∈ all
  closed : ∀ p ∈ all, ∀ q ∈ succ g x p, q ∈ all
  least : ∀ X : Place → Prop, (∀ s ∈ g.init, X (s, 0)) → (∀ p q, X p → q ∈ succ g x p → X q) → ∀ p ∈ all, X p
theorem AllOf.box {g : General} {x : Word} {all : List Place} (h : AllOf g x all) (hg : Good g) (hx : x.loop.length ≠ 0) : ∀ p ∈ all, InBox g x p :=
  h.least _ (fun s hs => by
    have := hg.init s hs
    have := places_pos hx
    exact ⟨by simp; omega, by simp; omega, by simp, by simp; omega⟩) (fun p q hp hq => succ_box hg hx hp q hq)
theorem box_len {g : General} {x : Word} {all : List Place} (hn : all.Nodup) (hg : Good g) (h : ∀ p ∈ all, InBox g x p) : all.length ≤ g.states.toNat * x.places :=
  nodup_box hn fun p hp => by obtain ⟨a, b, c, d⟩ := h p hp; exact ⟨a, by have := hg.s0; omega, c, d⟩

theorem Bag.lookRow {w : World} {base size : Nat} {el : TypeId} {pre : List (Value × List Value)} {α : Type} [DecidableEq α] {nl : List (α × Value)} {F : α → List Value} (h : Bag w base el size (pre ++ nl.map fun p => (p.2, F p.1))) (hz : ∀ a, alook nl a = none → F a = []) (a : α) : ∃ n, w.ownsRow base el size (aget nl nilS a) n (F a) := by
  unfold aget
  cases hl : alook nl a with
  | none => rw [hz a hl]; exact ⟨0, World.ownsRow_nil _ _ _ _⟩
  | some v => exact h.own (v, F a) (List.mem_append_right _ (List.mem_map.2 ⟨(a, v), alook_some_mem hl, rfl⟩))

theorem RowE.and {α : Type} {E : World → List Value → α → Prop} {Q : α → Prop} {size lo hi : Nat} {w : World} {v : Value} {xs : List α} (h : RowE E size lo hi w v xs) (hq : ∀ x ∈ xs, Q x) : RowE (fun w cs x => E w cs x ∧ Q x) size lo hi w v xs := by
  obtain ⟨a, cap, hv, hc, h⟩ := h
  refine ⟨a, cap, hv, hc, fun i x hx => ?_⟩
  obtain ⟨b, o, ha, hlo, hhi, cs, hl, hr, he⟩ := h i x hx
  exact ⟨b, o, ha, hlo, hhi, cs, hl, hr, he, hq x (List.mem_of_getElem? hx)⟩

/-- edges by the state from which they go, under way -/
structure ByV (w : World) (base bb n : Nat) (vs : List Value) (es : List Edge) : Prop where
  len : vs.length = n
  mb : Own w bb 25 vs
  bag : Bag w base 52 4 ((List.range n).map fun (s : Nat) => (vs.getD s nilS, (fromS es s).flatMap Edge.cells))

theorem fromS_snoc (es : List Edge) (e : Edge) (s : Int) : fromS (es ++ [e]) s = if e.frm = s then fromS es s ++ [e] else fromS es s := by
  simp only [fromS, List.filter_append]
  split
  · rename_i h; simp [h]
  · rename_i h; simp [h]

theorem ByV.set {w w' w'' : World} {base bb n : Nat} {vs : List Value} {es : List Edge} (h : ByV w base bb n vs es) {e : Edge} {f : Nat} (hf : e.frm = (f : Int)) (hfn : f < n) {v' : Value} {n' : Nat} (hb : base ≤ bb)
    (hc : Chg (fun k => some k = (vs.getD f nilS).ownBlock) w w') (hv : w'.ownsRow base 52 4 v' n' ((fromS es f).flatMap Edge.cells ++ e.cells)) (hnew : ∀ g, v'.ownBlock = some g → (vs.getD f nilS).ownBlock = some g ∨ w.heap.size ≤ g)
    (hc2 : Chg (fun k => k = bb) w' w'') (hm : Own w'' bb 25 (vs.set f v')) : ByV w'' base bb n (vs.set f v') (es ++ [e]) := by
  refine ⟨by simp [h.len], hm, ?_⟩
  have hi : ((List.range n).map fun (s : Nat) => (vs.getD s nilS, (fromS es s).flatMap Edge.cells))[f]? = some (vs.getD f nilS, (fromS es f).flatMap Edge.cells) := by simp [hfn]
  have hb1 := h.bag.set hi hc (fun b hb => .inl hb) hv hnew
  have heq : (List.range n).map (fun (s : Nat) => ((vs.set f v').getD s nilS, (fromS (es ++ [e]) s).flatMap Edge.cells)) = ((List.range n).map fun (s : Nat) => (vs.getD s nilS, (fromS es s).flatMap Edge.cells)).set f (v', (fromS es f).flatMap Edge.cells ++ e.cells) := by
    apply List.ext_getElem?
    intro i
    rw [List.getElem?_set]
    simp only [List.getElem?_map, List.length_map, List.length_range]
    by_cases hin : i < n
    · rw [List.getElem?_range hin]
      simp only [Option.map_some]
      rw [fromS_snoc, hf]
      by_cases hif : f = i
      · subst hif
        rw [if_pos rfl, if_pos rfl, if_pos hin]
        simp [h.len, hin]
      · rw [if_neg hif, if_neg (by omega)]
        simp [List.getElem?_set, hif]
    · rw [List.getElem?_eq_none (by simpa using hin)]
      by_cases hif : f = i
      · omega
      · rw [if_neg hif]; rfl
  rw [heq]
  have hm' : ∀ x ∈ ((List.range n).map fun (s : Nat) => (vs.getD s nilS, (fromS es s).flatMap Edge.cells)).set f (v', (fromS es f).flatMap Edge.cells ++ e.cells), x.1.ownBlock ≠ some bb := by
    refine hb1.ne (o := .cells vs.toArray 25 (0, 0)) ?_ (fun cs fr hh => by injection hh with _ h2; exact absurd h2 (by decide))
    refine hc.heap h.mb fun he => ?_
    exact h.bag.ne h.mb (fun cs fr hh => by injection hh with _ h2; exact absurd h2 (by decide)) _ (List.mem_of_getElem? hi) he.symm
  exact hb1.chg hc2 fun x hx b hb2 hs => by subst hs; exact hm' x hx hb2

abbrev EdgeRows (lo hi : Nat) := RowE (fun w cs (xs : List Edge) => ∃ u, cs = [u] ∧ Edges lo hi w u xs) 1 lo hi
theorem ByV.row {w : World} {base bb n : Nat} {vs : List Value} {es : List Edge} (h : ByV w base bb n vs es) (hb : base ≤ bb) (hwf : ∀ e ∈ es, e.wf) : EdgeRows base w.heap.size w (.slice (some ⟨bb, 0, none⟩) n n) ((List.range n).map fun (s : Nat) => fromS es s) := by
  have hlt := h.mb.lt
  refine row1R h.mb (fun i x hx => ?_) (by simp) (by simp) hb hlt
  rw [List.getElem?_map] at hx
  have hin : i < n := by
    rcases Nat.lt_or_ge i n with h1 | h1
    · exact h1
    · rw [List.getElem?_eq_none (by simpa using h1)] at hx; cases hx
  rw [List.getElem?_range hin] at hx
  simp only [Option.map_some, Option.some.injEq] at hx
  subst hx
  have hv : vs[i]? = some (vs.getD i nilS) := by simp [List.getD_eq_getElem?_getD, h.len, hin]
  obtain ⟨m, hm⟩ := h.bag.own (vs.getD i nilS, (fromS es i).flatMap Edge.cells) (List.mem_map.2 ⟨i, by simpa using hin, rfl⟩)
  exact ⟨_, hv, _, rfl, (ownsRow_row (f := Edge.cells) (fun _ => rfl) hm (by decide)).and fun e he => hwf e (List.mem_filter.1 he).1⟩
end Go.Au
