/- Own text of this workplace: a part of the proofs of this place's statements. -/
import Derived.Test.YtjibhchnhkjgkaaB7
import Derived.Test.YtjibhchnhkjgkaaA9
set_option linter.unusedVariables false
set_option linter.unusedSimpArgs false
set_option linter.unusedSectionVars false
namespace Go.Au
open Go Go.RowKit Go.MapKept
open Go.Maps (Keyed)

abbrev Place := Int × Int
def pcells (p : Place) : List Value := [.int .i64 p.1, .int .i64 p.2]
def pval (p : Place) : Value := .agg #[.int .i64 p.1, .int .i64 p.2]
theorem pval_inj (x y : Place) (h : pval x = pval y) : x = y := by
  obtain ⟨a, b⟩ := x
  obtain ⟨c, d⟩ := y
  simp [pval] at h
  rw [h.1, h.2]
def I64 (x : Int) : Prop := -9223372036854775808 ≤ x ∧ x ≤ 9223372036854775807
theorem wf64 {x : Int} (h : I64 x) : (Lit.int .i64 x).wf = true := by
  show (decide ((-9223372036854775808 : Int) ≤ x) && decide (x ≤ (9223372036854775807 : Int))) = true
  rw [decide_eq_true h.1, decide_eq_true h.2]; rfl
theorem placeKeyed : Keyed Proofs.Try.prog 133 := Maps.Keyed.of_law (deep_law_laid (P := Proofs.Try.prog) (by kernel_rfl) (m := 2) (by decide) (of_decide_eq_true (by kernel_rfl)) (by kernel_rfl) (by rw [Proofs.Try.underlying133]))
theorem placeType : Proofs.Try.prog.keyType 133 = true := by kernel_rfl
theorem typesPos : ∃ m, Proofs.Try.prog.types.size = m + 1 := ⟨Proofs.Try.prog.types.size - 1, by
  have : 0 < Proofs.Try.prog.types.size := of_decide_eq_true (by kernel_rfl)
  omega⟩
theorem placeKey {p : Place} (h1 : I64 p.1) (h2 : I64 p.2) : ∃ lit, keyOf Proofs.Try.prog 133 (pval p) = some lit := by
  obtain ⟨m, hm⟩ := typesPos
  have w1 : (Lit.int .i64 p.1).wf = true := wf64 h1
  have w2 : (Lit.int .i64 p.2).wf = true := wf64 h2
  unfold keyOf pval
  simp only [Proofs.Try.underlying133]
  rw [if_pos (by simp [placeType, Value.formed, Proofs.Try.underlying133]; try kernel_rfl), hm]
  unfold Program.keyLits
  simp only [Proofs.Try.underlying133, Value.cells]
  rw [if_pos ⟨by kernel_rfl, by kernel_rfl⟩]
  have hc : Proofs.Try.prog.cellsOf 3 = 1 := by kernel_rfl
  simp [hc, Program.keyLits, Proofs.Try.underlying3, w1, w2, List.mapM_cons]
end Go.Au
