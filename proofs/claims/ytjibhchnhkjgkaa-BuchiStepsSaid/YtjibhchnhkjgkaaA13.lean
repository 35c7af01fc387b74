/- Own text of this workplace: a part of the proofs of this place's statements. -/
import Derived.Test.YtjibhchnhkjgkaaA12
import Derived.Deep.Slices
import Derived.SizedLaws
set_option linter.unusedVariables false
set_option linter.unusedSimpArgs false
set_option linter.unusedSectionVars false
namespace Go.Au
open Go Go.RowKit

/-! ### what is handed in -/
section
variable {P : Program} {w : World} {α : Type}

/-- cells of a type, where they can be read as data, hold an x -/
def Opens (P : Program) (w : World) (t : TypeId) (E : List Value → α → Prop) : Prop :=
  ∀ (H : Type) (enc : TypeId × Value → H) (fuel base : Nat) (sp : Nat → Bool) (hd : Bool) (cs : List Value) (d : DataW H) (ps : List MemPlace),
    DataW.trod enc P w base sp hd fuel t cs = some (d, ps) → (d.weights P t).all (· ≤ reachBytes) = true → ∃ x, E cs x

theorem Opens.mono {E E' : List Value → α → Prop} {t : TypeId} (h : Opens P w t E) (hE : ∀ cs x, E cs x → E' cs x) : Opens P w t E' :=
  fun H enc f b sp hd cs d ps h1 h2 => (h H enc f b sp hd cs d ps h1 h2).imp fun x hx => hE cs x hx

theorem opens_int {t : TypeId} {k : IntKind} (ht : P.underlying t = some (.int k)) : Opens P w t (fun cs (x : Int) => cs = [.int k x] ∧ k.min ≤ x ∧ x ≤ k.max) := by
  intro H enc f b sp hd cs d ps h _
  obtain ⟨n, rfl, -, hw⟩ := DataW.trod_int ht h
  simp only [Lit.wf, Bool.and_eq_true, decide_eq_true_eq] at hw
  exact ⟨n, rfl, hw⟩
theorem opens_bool {t : TypeId} (ht : P.underlying t = some .bool) : Opens P w t (fun cs (x : Bool) => cs = [.bool x]) := by
  intro H enc f b sp hd cs d ps h _
  obtain ⟨n, rfl, -⟩ := DataW.trod_bool ht h
  exact ⟨n, rfl⟩
theorem opens_string {t : TypeId} (ht : P.underlying t = some .string) : Opens P w t (fun cs (x : ByteArray) => cs = [.string x] ∧ x.size ≤ reachBytes) := by
  intro H enc f b sp hd cs d ps h hw
  obtain ⟨s, rfl, hx, -⟩ := DataW.trod_string ht h
  simp only [Prod.mk.injEq] at hx
  obtain ⟨rfl, -⟩ := hx
  refine ⟨s, rfl, ?_⟩
  have := List.all_eq_true.1 hw s.data.toList.length (by simp [DataW.weights])
  simpa using this

theorem weightsAll_mem {H : Type} {e : TypeId} : ∀ {l : List (DataW H)} {d : DataW H}, d ∈ l → ∀ n ∈ d.weights P e, n ∈ DataW.weightsAll P e l
  | [], _, h, _, _ => by simp at h
  | a :: l, d, h, n, hn => by
    simp only [DataW.weightsAll, List.mem_append]
    rcases List.mem_cons.1 h with rfl | h
    · exact .inl hn
    · exact .inr (weightsAll_mem h n hn)

theorem choose_list {p : Nat → α → Prop} : ∀ {n : Nat}, (∀ i, i < n → ∃ x, p i x) → ∃ xs : List α, xs.length = n ∧ ∀ i x, xs[i]? = some x → p i x
  | 0, _ => ⟨[], rfl, fun i x h => by simp at h⟩
  | n + 1, h => by
    obtain ⟨xs, h1, h2⟩ := choose_list (n := n) fun i hi => h i (by omega)
    obtain ⟨x, hx⟩ := h n (by omega)
    refine ⟨xs ++ [x], by simp [h1], fun i y hy => ?_⟩
    rw [List.getElem?_append] at hy
    split at hy
    · exact h2 i y hy
    · have hi : i = n := by
        have := (List.getElem?_eq_some_iff.1 hy).1
        simp at this
        omega
      subst hi
      rw [h1] at hy
      simp at hy
      exact hy ▸ hx

/-- a slice -/
theorem opens_slice {t e : TypeId} {size B : Nat} {E : List Value → α → Prop} (ht : P.underlying t = some (.slice e)) (hc : P.cellsOf e = size) (hpos : 0 < size) (hb : P.bytesOf e = B) (hB : 0 < B) (hE : Opens P w e E) :
    Opens P w t (fun cs (xs : List α) => ∃ v, cs = [v] ∧ RowE (fun _ => E) size 0 w.heap.size w v xs ∧ xs.length * B ≤ reachBytes) := by
  intro H enc f b sp hd cs d ps h hw
  rcases Deep.open_slice ht h with ⟨rfl, -⟩ | ⟨a, len, cap, m, n, D, Pl, rfl, hba, hl, hcm, hm, hx, hel⟩
  · exact ⟨[], _, rfl, ⟨none, 0, rfl, Nat.le_refl _, fun i x hx => by simp at hx⟩, by simp⟩
  · simp only [Prod.mk.injEq] at hx
    obtain ⟨rfl, -⟩ := hx
    have hlm : len ≤ m := by rw [hm]; split <;> omega
    simp only [DataW.weights, ht, List.all_cons, List.all_append, Bool.and_eq_true, decide_eq_true_eq, hb] at hw
    obtain ⟨hw1, hw2, -⟩ := hw
    have hw1 : len * B ≤ reachBytes := by
      refine Nat.le_trans (Nat.mul_le_mul_right _ ?_) hw1
      simp
    have hex : ∀ i, i < len → ∃ x, ∃ cs', cs'.length = size ∧ (∀ j v, cs'[j]? = some v → w.cell? ((a.add (i * size)).add j) = some v) ∧ E cs' x := by
      intro i hi
      obtain ⟨cs', h1, h2⟩ := hel i (by omega)
      rw [hc] at h1
      obtain ⟨-, hlen, hcell⟩ := World.cells?_some h1
      obtain ⟨x, hx⟩ := hE H enc n b sp hd cs' (D i) (Pl i) h2 (by
        rw [List.all_eq_true] at hw2 ⊢
        exact fun q hq => hw2 q (weightsAll_mem (List.mem_map.2 ⟨i, by simpa using hi, rfl⟩) q hq))
      exact ⟨x, cs', hlen, fun j v hv => by
        have := (List.getElem?_eq_some_iff.1 hv).1
        rw [hcell j (by omega), hv], hx⟩
    obtain ⟨xs, hxl, hxs⟩ := choose_list hex
    subst hxl
    refine ⟨xs, _, rfl, ⟨some a, cap, rfl, hl, fun i x hx => ?_⟩, hw1⟩
    have hi := (List.getElem?_eq_some_iff.1 hx).1
    obtain ⟨cs0, hl0, hc0, -⟩ := hxs 0 xs[0] (by rw [List.getElem?_eq_getElem (by omega)])
    have hspot : a.spot = none := by
      cases cs0 with
      | nil => simp at hl0; omega
      | cons v r =>
        have := hc0 0 v rfl
        rw [Nat.zero_mul] at this
        simp only [Addr.add, if_true] at this
        unfold World.cell? at this
        split at this
        · split at this
          · cases this
          · rename_i hn; simpa using hn
        · cases this
    obtain ⟨cs', hlen, hcell, he⟩ := hxs i x hx
    obtain ⟨bk, of, sp'⟩ := a
    simp only at hspot
    subst hspot
    have hadd : ∀ j, (Addr.add (Addr.add ⟨bk, of, none⟩ (i * size)) j) = ⟨bk, of + i * size + j, none⟩ := by
      intro j
      rw [Deep.add_add]
      simp only [Addr.add]
      split
      · rename_i h0; rw [show of + i * size + j = of by omega]
      · rw [Nat.add_assoc]
    have hrd : w.rangeAt bk (of + i * size) cs' := fun j v hv => by
      have := hcell j v hv
      rw [hadd] at this
      exact this
    refine ⟨bk, of, rfl, Nat.zero_le _, ?_, cs', hlen, hrd, he⟩
    cases cs' with
    | nil => simp at hlen; omega
    | cons v r => exact World.block_lt_of_cell? w _ (hrd 0 v rfl)

/-- a struct's fields -/
theorem field_of {H : Type} {enc : TypeId × Value → H} {fuel base : Nat} {sp : Nat → Bool} {hd : Bool} {t : TypeId} {fs : Array Field} {cs : List Value} {d : DataW H} {ps : List MemPlace} (ht : P.underlying t = some (.struct fs)) (h : DataW.trod enc P w base sp hd fuel t cs = some (d, ps)) (hw : (d.weights P t).all (· ≤ reachBytes) = true) :
    cs.length = P.cellsOf t ∧ ∀ (j : Nat) (f : Field), fs[j]? = some f → ∀ {β : Type} {E : List Value → β → Prop}, Opens P w f.type E → ∃ x, E ((cs.drop f.offset).take (P.cellsOf f.type)) x := by
  obtain ⟨xs, n, -, hx, hlen, hxl, hf⟩ := DataW.trod_struct ht h
  simp only [Prod.mk.injEq] at hx
  obtain ⟨rfl, -⟩ := hx
  refine ⟨hlen, fun j f hj β E hE => ?_⟩
  have hfj := hf j f hj
  have hjl : j < xs.length := by rw [hxl]; exact (Array.getElem?_eq_some_iff.1 hj).1
  rw [List.getElem?_eq_getElem hjl] at hfj
  refine hE H enc n base sp hd _ _ _ hfj ?_
  rw [List.all_eq_true] at hw ⊢
  intro q hq
  refine hw q ?_
  simp only [DataW.weights, ht]
  exact DataW.weights_mem_each (j := j) (t := f.type) (by simp [hj]) (by simp [List.getElem?_eq_getElem hjl]) q hq

/-- a handed-in argument -/
theorem handed {H : Type} {enc : TypeId × Value → H} {base : Nat} {sp : Nat → Bool} {hd : Bool} {t : TypeId} {v : Value} {d : DataW H} {ps : List MemPlace} {E : List Value → α → Prop} {ts : List TypeId} {ds : List (DataW H)} (j : Nat) (h : DataW.Trod enc P w base sp hd t v d ps)
    (hsz : (DataW.weightsEach P ts ds).all (· ≤ reachBytes) = true) (ht : ts[j]? = some t) (hdj : ds[j]? = some d) (hE : Opens P w t E) : ∃ x, E v.cells.toList x := by
  obtain ⟨fuel, hf⟩ := h
  refine hE H enc fuel base sp hd _ _ _ hf ?_
  rw [List.all_eq_true] at hsz ⊢
  exact fun q hq => hsz q (DataW.weights_mem_each ht hdj q hq)
end
end Go.Au
namespace Go.Au
open Go Go.RowKit
theorem fld_at {P : Program} {w : World} {β : Type} {fs : Array Field} {cs : List Value} (hf : ∀ (j : Nat) (f : Field), fs[j]? = some f → ∀ {β : Type} {E : List Value → β → Prop}, Opens P w f.type E → ∃ x, E ((cs.drop f.offset).take (P.cellsOf f.type)) x)
    (j off sz : Nat) {ty : TypeId} {E : List Value → β → Prop} (h : (fs[j]?).map (fun f => (f.offset, f.type)) = some (off, ty)) (hz : P.cellsOf ty = sz) (hE : Opens P w ty E) : ∃ x, E ((cs.drop off).take sz) x := by
  cases hj : fs[j]? with
  | none => rw [hj] at h; cases h
  | some f =>
    rw [hj] at h
    simp only [Option.map_some, Option.some.injEq, Prod.mk.injEq] at h
    obtain ⟨rfl, rfl⟩ := h
    obtain ⟨x, hx⟩ := hf j f hj hE
    rw [hz] at hx
    exact ⟨x, hx⟩
end Go.Au
