/- Own text of this workplace: a part of the proofs of this place's statements. -/
import Derived.Test.YtjibhchnhkjgkaaB18
import Derived.Test.YtjibhchnhkjgkaaB19
set_option linter.unusedVariables false
set_option linter.unusedSimpArgs false
set_option linter.unusedSectionVars false
namespace Go.Au
open Go Go.RowKit

/-! ### what is handed in, opened -/
section
variable {W : World}
theorem opensInts : Opens Proofs.Try.prog W 24 (fun cs (xs : List Int) => ∃ v, cs = [v] ∧ Ints 0 W.heap.size W v xs ∧ xs.length * 8 ≤ 140737488351232) :=
  (opens_slice (size := 1) (B := 8) Proofs.Try.underlying24 (by kernel_rfl) (by decide) (by kernel_rfl) (by decide) (opens_int Proofs.Try.underlying3)).mono fun cs xs ⟨v, h1, h2, h3⟩ => ⟨v, h1, h2.mono (fun _ _ h => h.1) (Nat.le_refl _) (Nat.le_refl _), h3⟩
theorem opensTexts : Opens Proofs.Try.prog W 23 (fun cs (xs : List ByteArray) => ∃ v, cs = [v] ∧ Strs 0 W.heap.size W v xs ∧ xs.length * 16 ≤ 140737488351232) :=
  (opens_slice (size := 1) (B := 16) Proofs.Try.underlying23 (by kernel_rfl) (by decide) (by kernel_rfl) (by decide) (opens_string Proofs.Try.underlying9)).mono fun cs xs ⟨v, h1, h2, h3⟩ => ⟨v, h1, h2.mono (fun _ _ h => h.1) (Nat.le_refl _) (Nat.le_refl _), h3⟩
theorem opensLetters : Opens Proofs.Try.prog W 42 (fun cs (xs : List Int) => ∃ v, cs = [v] ∧ Letters 0 W.heap.size W v xs ∧ xs.length * 2 ≤ 140737488351232) :=
  (opens_slice (size := 1) (B := 2) Proofs.Try.underlying42 (by kernel_rfl) (by decide) (by kernel_rfl) (by decide) (opens_int Proofs.Try.underlying50)).mono fun cs xs ⟨v, h1, h2, h3⟩ => ⟨v, h1, h2.mono (fun _ x h => ⟨h.1, h.2.1, Int.lt_add_one_of_le h.2.2⟩) (Nat.le_refl _) (Nat.le_refl _), h3⟩
theorem opensRows : Opens Proofs.Try.prog W 26 (fun cs (xs : List (List Int)) => ∃ v, cs = [v] ∧ IntRowsB 0 W.heap.size W v xs ∧ xs.length * 24 ≤ 140737488351232) :=
  (opens_slice (size := 1) (B := 24) Proofs.Try.underlying26 (by kernel_rfl) (by decide) (by kernel_rfl) (by decide) opensInts).mono fun cs xs ⟨v, h1, h2, h3⟩ => ⟨v, h1, h2.mono (fun _ x h => h) (Nat.le_refl _) (Nat.le_refl _), h3⟩

theorem five {cs : List Value} (h : cs.length = 5) : ∃ a b c d e, cs = [a, b, c, d, e] := by
  match cs, h with
  | [a, b, c, d, e], _ => exact ⟨a, b, c, d, e, rfl⟩
theorem four {cs : List Value} (h : cs.length = 4) : ∃ a b c d, cs = [a, b, c, d] := by
  match cs, h with
  | [a, b, c, d], _ => exact ⟨a, b, c, d, rfl⟩
theorem two {cs : List Value} (h : cs.length = 2) : ∃ a b, cs = [a, b] := by
  match cs, h with
  | [a, b], _ => exact ⟨a, b, rfl⟩
theorem c1int : Proofs.Try.prog.cellsOf 3 = 1 := by kernel_rfl
theorem c1u16 : Proofs.Try.prog.cellsOf 50 = 1 := by kernel_rfl
theorem c1ints : Proofs.Try.prog.cellsOf 24 = 1 := by kernel_rfl
theorem c1texts : Proofs.Try.prog.cellsOf 23 = 1 := by kernel_rfl
theorem c1edges : Proofs.Try.prog.cellsOf 25 = 1 := by kernel_rfl
theorem c1rows : Proofs.Try.prog.cellsOf 26 = 1 := by kernel_rfl
theorem c1letters : Proofs.Try.prog.cellsOf 42 = 1 := by kernel_rfl

theorem opensEdge : Opens Proofs.Try.prog W 52 (fun cs (x : Edge) => cs = Edge.cells x ∧ x.wf) := by
  intro H enc fuel base sp hd cs d ps h hw
  obtain ⟨hl, hf⟩ := field_of Proofs.Try.underlying52 h hw
  have hl : cs.length = 4 := hl.trans (by kernel_rfl)
  obtain ⟨a, b, c, d, rfl⟩ := four hl
  obtain ⟨x0, h0⟩ := fld_at hf 0 0 1 rfl c1int (opens_int Proofs.Try.underlying3)
  obtain ⟨x1, h1⟩ := fld_at hf 1 1 1 rfl c1int (opens_int Proofs.Try.underlying3)
  obtain ⟨x2, h2⟩ := fld_at hf 2 2 1 rfl c1u16 (opens_int Proofs.Try.underlying50)
  obtain ⟨x3, h3⟩ := fld_at hf 3 3 1 rfl c1u16 (opens_int Proofs.Try.underlying50)
  simp at h0 h1 h2 h3
  refine ⟨⟨x0, x1, x2, x3⟩, by simp [Edge.cells, h0, h1, h2, h3], h2.2.1, Int.lt_add_one_of_le h2.2.2, h3.2.1, Int.lt_add_one_of_le h3.2.2⟩
theorem opensEdges : Opens Proofs.Try.prog W 25 (fun cs (xs : List Edge) => ∃ v, cs = [v] ∧ Edges 0 W.heap.size W v xs ∧ xs.length * 24 ≤ 140737488351232) :=
  (opens_slice (size := 4) (B := 24) Proofs.Try.underlying25 (by kernel_rfl) (by decide) (by kernel_rfl) (by decide) opensEdge).mono fun cs xs ⟨v, h1, h2, h3⟩ => ⟨v, h1, h2.mono (fun _ _ h => h) (Nat.le_refl _) (Nat.le_refl _), h3⟩
theorem opensGeneral : Opens Proofs.Try.prog W 28 (fun cs (g : General) => ∃ p i e s, cs = [p, .int .i64 g.states, i, e, s] ∧ Gin 0 W.heap.size W p i e s g) := by
  intro H enc fuel base sp hd cs d ps h hw
  obtain ⟨hl, hf⟩ := field_of Proofs.Try.underlying28 h hw
  have hl : cs.length = 5 := hl.trans (by kernel_rfl)
  obtain ⟨a, b, c, d, e, rfl⟩ := five hl
  obtain ⟨x0, v0, e0, h0, b0⟩ := fld_at hf 0 0 1 rfl c1texts opensTexts
  obtain ⟨x1, e1, -⟩ := fld_at hf 1 1 1 rfl c1int (opens_int Proofs.Try.underlying3)
  obtain ⟨x2, v2, e2, h2, b2⟩ := fld_at hf 2 2 1 rfl c1ints opensInts
  obtain ⟨x3, v3, e3, h3, b3⟩ := fld_at hf 3 3 1 rfl c1edges opensEdges
  obtain ⟨x4, v4, e4, h4, b4⟩ := fld_at hf 4 4 1 rfl c1rows opensRows
  simp at e0 e1 e2 e3 e4
  subst e0 e1 e2 e3 e4
  exact ⟨⟨x0, x1, x2, x3, x4⟩, _, _, _, _, rfl, h0, h2, h3, h4, b0, b2, b3, b4⟩
theorem opensBuchi : Opens Proofs.Try.prog W 31 (fun cs (g : Buchi) => ∃ p i e s, cs = [p, .int .i64 g.states, i, e, s] ∧ Bin 0 W.heap.size W p i e s g) := by
  intro H enc fuel base sp hd cs d ps h hw
  obtain ⟨hl, hf⟩ := field_of Proofs.Try.underlying31 h hw
  have hl : cs.length = 5 := hl.trans (by kernel_rfl)
  obtain ⟨a, b, c, d, e, rfl⟩ := five hl
  obtain ⟨x0, v0, e0, h0, b0⟩ := fld_at hf 0 0 1 rfl c1texts opensTexts
  obtain ⟨x1, e1, -⟩ := fld_at hf 1 1 1 rfl c1int (opens_int Proofs.Try.underlying3)
  obtain ⟨x2, v2, e2, h2, b2⟩ := fld_at hf 2 2 1 rfl c1ints opensInts
  obtain ⟨x3, v3, e3, h3, b3⟩ := fld_at hf 3 3 1 rfl c1edges opensEdges
  obtain ⟨x4, v4, e4, h4, b4⟩ := fld_at hf 4 4 1 rfl c1ints opensInts
  simp at e0 e1 e2 e3 e4
  subst e0 e1 e2 e3 e4
  exact ⟨⟨x0, x1, x2, x3, x4⟩, _, _, _, _, rfl, h0, h2, h3, h4, b0, b2, b3, b4⟩
theorem opensWord : Opens Proofs.Try.prog W 44 (fun cs (g : Word) => ∃ p q, cs = [p, q] ∧ Letters 0 W.heap.size W p g.stem ∧ Letters 0 W.heap.size W q g.loop ∧ g.stem.length * 2 ≤ 140737488351232 ∧ g.loop.length * 2 ≤ 140737488351232) := by
  intro H enc fuel base sp hd cs d ps h hw
  obtain ⟨hl, hf⟩ := field_of Proofs.Try.underlying44 h hw
  have hl : cs.length = 2 := hl.trans (by kernel_rfl)
  obtain ⟨a, b, rfl⟩ := two hl
  obtain ⟨x0, v0, e0, h0, b0⟩ := fld_at hf 0 0 1 rfl c1letters opensLetters
  obtain ⟨x1, v1, e1, h1, b1⟩ := fld_at hf 1 1 1 rfl c1letters opensLetters
  simp at e0 e1
  subst e0 e1
  exact ⟨⟨x0, x1⟩, _, _, rfl, h0, h1, b0, b1⟩
end
end Go.Au
