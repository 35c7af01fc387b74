/- Own text of this workplace: a part of the proofs of this place's statements. -/
import Derived.Test.YtjibhchnhkjgkaaA14
set_option linter.unusedVariables false
set_option linter.unusedSimpArgs false
set_option linter.unusedSectionVars false
namespace Go.Au
open Go Go.RowKit

/-! ### rows by a number, each grown by itself -/
section
variable {β : Type}
def keyed (L : List (Int × β)) (s : Int) : List β := (L.filter (fun p => decide (p.1 = s))).map (·.2)
theorem keyed_snoc (L : List (Int × β)) (a : Int) (x : β) (s : Int) : keyed (L ++ [(a, x)]) s = if a = s then keyed L s ++ [x] else keyed L s := by
  simp only [keyed, List.filter_append, List.map_append]
  split
  · rename_i h; simp [h]
  · rename_i h; simp [h]
theorem keyed_mem {L : List (Int × β)} {s : Int} {x : β} : x ∈ keyed L s ↔ (s, x) ∈ L := by
  simp only [keyed, List.mem_map, List.mem_filter, decide_eq_true_eq]
  constructor
  · rintro ⟨⟨a, b⟩, ⟨h1, rfl⟩, rfl⟩; exact h1
  · intro h; exact ⟨(s, x), ⟨h, rfl⟩, rfl⟩
theorem keyed_len (L : List (Int × β)) (s : Int) : (keyed L s).length ≤ L.length := by
  unfold keyed; rw [List.length_map]; exact List.length_filter_le _ _

structure RowsV (rowT el : TypeId) (size : Nat) (f : β → List Value) (w : World) (base bb n : Nat) (vs : List Value) (L : List (Int × β)) : Prop where
  len : vs.length = n
  mb : Own w bb rowT vs
  bag : Bag w base el size ((List.range n).map fun (s : Nat) => (vs.getD s nilS, (keyed L s).flatMap f))

variable {rowT el : TypeId} {size : Nat} {f : β → List Value} {w w' w'' : World} {base bb n : Nat} {vs : List Value} {L : List (Int × β)}
theorem rep_nil (n : Nat) : rep [nilS] n = List.replicate n nilS := by
  induction n with
  | zero => rfl
  | succ n ih => simp [rep, ih, List.replicate_succ]
theorem rep_one (v : Value) (n : Nat) : rep [v] n = List.replicate n v := by
  induction n with
  | zero => rfl
  | succ n ih => simp [rep, ih, List.replicate_succ]
theorem RowsV.zero (m : Own w bb rowT (rep [nilS] n)) : RowsV rowT el size f w base bb n (rep [nilS] n) [] := by
  refine ⟨by simp [rep_nil], m, ⟨fun y hy => ?_, ?_⟩⟩
  · obtain ⟨s, hs, rfl⟩ := List.mem_map.1 hy
    refine ⟨0, ?_⟩
    simp only [rep_nil, keyed, List.filter_nil, List.map_nil, List.flatMap_nil]
    have : (List.replicate n nilS).getD s nilS = nilS := by simp [List.getD_eq_getElem?_getD, List.getElem?_replicate]; split <;> rfl
    rw [this]
    exact World.ownsRow_nil _ _ _ _
  · rw [List.pairwise_map]
    refine List.pairwise_of_forall fun a b c hc => ?_
    have : (rep [nilS] n).getD a nilS = nilS := by simp [rep_nil, List.getD_eq_getElem?_getD, List.getElem?_replicate]; split <;> rfl
    simp only [this, Value.ownBlock] at hc
    cases hc
theorem RowsV.kp (h : RowsV rowT el size f w base bb n vs L) (hc : Kp w w') : RowsV rowT el size f w' base bb n vs L := ⟨h.len, hc.own h.mb id, h.bag.kp hc⟩
theorem RowsV.set (hne : rowT ≠ el) (h : RowsV rowT el size f w base bb n vs L) {a : Int} {x : β} {k : Nat} (hf : a = (k : Int)) (hfn : k < n) {v' : Value} {n' : Nat}
    (hc : Chg (fun j => some j = (vs.getD k nilS).ownBlock) w w') (hv : w'.ownsRow base el size v' n' ((keyed L k).flatMap f ++ f x)) (hnew : ∀ g, v'.ownBlock = some g → (vs.getD k nilS).ownBlock = some g ∨ w.heap.size ≤ g)
    (hc2 : Chg (fun j => j = bb) w' w'') (hm : Own w'' bb rowT (vs.set k v')) : RowsV rowT el size f w'' base bb n (vs.set k v') (L ++ [(a, x)]) := by
  refine ⟨by simp [h.len], hm, ?_⟩
  have hi : ((List.range n).map fun (s : Nat) => (vs.getD s nilS, (keyed L s).flatMap f))[k]? = some (vs.getD k nilS, (keyed L k).flatMap f) := by simp [hfn]
  have hb1 := h.bag.set hi hc (fun b hb => .inl hb) hv hnew
  have heq : (List.range n).map (fun (s : Nat) => ((vs.set k v').getD s nilS, (keyed (L ++ [(a, x)]) s).flatMap f)) = ((List.range n).map fun (s : Nat) => (vs.getD s nilS, (keyed L s).flatMap f)).set k (v', (keyed L k).flatMap f ++ f x) := by
    apply List.ext_getElem?
    intro i
    rw [List.getElem?_set]
    simp only [List.getElem?_map, List.length_map, List.length_range]
    by_cases hin : i < n
    · rw [List.getElem?_range hin]
      simp only [Option.map_some]
      rw [keyed_snoc, hf]
      by_cases hif : k = i
      · subst hif
        rw [if_pos rfl, if_pos rfl, if_pos hin]
        simp [h.len, hin]
      · rw [if_neg hif, if_neg (by omega)]
        simp [List.getElem?_set, hif]
    · rw [List.getElem?_eq_none (by simpa using hin)]
      by_cases hif : k = i
      · omega
      · rw [if_neg hif]; rfl
  rw [heq]
  have hkind : ∀ cs fr, Obj.cells vs.toArray rowT (0, 0) ≠ .cells cs el fr := fun cs fr hh => by injection hh with _ h2; exact hne h2
  have hm' : ∀ x' ∈ ((List.range n).map fun (s : Nat) => (vs.getD s nilS, (keyed L s).flatMap f)).set k (v', (keyed L k).flatMap f ++ f x), x'.1.ownBlock ≠ some bb := by
    refine hb1.ne (o := .cells vs.toArray rowT (0, 0)) ?_ hkind
    refine hc.heap h.mb fun he => ?_
    exact h.bag.ne h.mb hkind _ (List.mem_of_getElem? hi) he.symm
  exact hb1.chg hc2 fun x hx b hb2 hs => by subst hs; exact hm' x hx hb2
/-- a row of it -/
theorem RowsV.at_ (h : RowsV rowT el size f w base bb n vs L) (hf : ∀ x, (f x).length = size) (hpos : 0 < size) {k : Nat} (hk : k < n) : w.ownsRow base el size (vs.getD k nilS) (keyed L k).length ((keyed L k).flatMap f) := by
  obtain ⟨m, hm⟩ := h.bag.own (vs.getD k nilS, (keyed L k).flatMap f) (List.mem_map.2 ⟨k, by simpa using hk, rfl⟩)
  have := hm.1
  rw [flat_len hf] at this
  have : m = (keyed L k).length := (Nat.eq_of_mul_eq_mul_right hpos this).symm
  exact this ▸ hm
theorem RowsV.get (h : RowsV rowT el size f w base bb n vs L) {k : Nat} (hk : k < n) : vs[k]? = some (vs.getD k nilS) := by simp [List.getD_eq_getElem?_getD, h.len, hk]
theorem RowsV.row (h : RowsV rowT el size f w base bb n vs L) (hb : base ≤ bb) (hf : ∀ x, (f x).length = size) (hpos : 0 < size) : RowE (fun w cs (xs : List β) => ∃ u, cs = [u] ∧ RowE (fun _ cs x => cs = f x) size base w.heap.size w u xs) 1 base w.heap.size w (.slice (some ⟨bb, 0, none⟩) n n) ((List.range n).map fun (s : Nat) => keyed L s) := by
  have hlt := h.mb.lt
  refine row1R h.mb (fun i x hx => ?_) (by simp) (by simp) hb hlt
  rw [List.getElem?_map] at hx
  have hin : i < n := by
    rcases Nat.lt_or_ge i n with h1 | h1
    · exact h1
    · rw [List.getElem?_eq_none (by simpa using h1)] at hx; cases hx
  rw [List.getElem?_range hin] at hx
  simp only [Option.map_some, Option.some.injEq] at hx
  subst hx
  exact ⟨_, h.get hin, _, rfl, ownsRow_row (f := f) hf (h.at_ hf hpos hin) hpos⟩
end

section
variable {α : Type} {w : World} {base n size : Nat} {el : TypeId} {v : Value} {vs : List Value} {xs : List α} {E : World → List Value → α → Prop}
/-- a row of one's own of single cells, each of which is told -/
theorem ownsRow_rowR (h : w.ownsRow base el 1 v n vs) (hn : xs.length = n) (hE : ∀ (i : Nat) (x : α), xs[i]? = some x → ∃ u : Value, vs[i]? = some u ∧ E w [u] x) : RowE E 1 base w.heap.size w v xs := by
  subst hn
  rcases h.2 with ⟨rfl, h0⟩ | ⟨g, cap, cur, rfl, a2, a3, a4, a5, a6, a7⟩
  · have hl : xs = [] := List.eq_nil_of_length_eq_zero (by omega)
    subst hl
    exact ⟨none, 0, rfl, Nat.le_refl _, fun i x hx => by simp at hx⟩
  · refine ⟨_, cap, rfl, a4, fun i x hx => ?_⟩
    obtain ⟨u, hu, he⟩ := hE i x hx
    refine ⟨g, 0, rfl, a2, lt_of_heap a3, [u], rfl, ?_, he⟩
    intro j y hy
    cases j with
    | succ j => simp at hy
    | zero =>
      simp at hy
      subst hy
      rw [cell_of_row w g _ cur el (0, 0) a3]
      rw [← a7, List.getElem?_take] at hu
      split at hu
      · simpa using hu
      · cases hu
end
end Go.Au
