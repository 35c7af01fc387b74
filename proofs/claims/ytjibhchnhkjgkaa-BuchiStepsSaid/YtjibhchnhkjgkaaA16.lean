/- Own text of this workplace: a part of the proofs of this place's statements. -/
import Derived.Test.YtjibhchnhkjgkaaA15
import Derived.Laws.Small
set_option linter.unusedVariables false
set_option linter.unusedSimpArgs false
set_option linter.unusedSectionVars false
namespace Go.Au
open Go Go.RowKit
section
variable {P : Program} {w : World}
/-- the greater of two numbers -/
theorem mx {ρ : Operand → Value} {op : Oper} {ts : Array TypeId} {x y : Operand} {k k' : IntKind} {a b : Int} {K : Value → World → Prop} (ho : op.op = .call { callee := .builtin .max, args := #[x, y], argTypes := ts }) (hx : ρ x = .int k a) (hy : ρ y = .int k' b)
    (hk : K (.int k (if b > a then b else a)) w) : Raw P ρ op w K := by
  refine ⟨_, w, ?_, hk⟩
  unfold execOp
  simp only [ho, resolve, invoke, builtin, Sem.run_bind, Sem.run_pure, Result.andThen_ok, List.map_toArray, List.map_cons, List.map_nil, hx, hy, run_max_int2]
end
end Go.Au
namespace Go.Au
open Go Go.RowKit
theorem mxE {P : Program} {w : World} {ρ : Operand → Value} {op : Oper} {ts : Array TypeId} {x y : Operand} {k k' : IntKind} {a b z : Int} {K : Value → World → Prop} (ho : op.op = .call { callee := .builtin .max, args := #[x, y], argTypes := ts }) (hx : ρ x = .int k a) (hy : ρ y = .int k' b)
    (hz : (if b > a then b else a) = z) (hk : K (.int k z) w) : Raw P ρ op w K := mx ho hx hy (by rw [hz]; exact hk)
end Go.Au
