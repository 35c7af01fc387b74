/- Own text of this workplace: a part of the proofs of this place's statements. -/
import Derived.Test.YtjibhchnhkjgkaaA5
import Derived.Test.YtjibhchnhkjgkaaG
set_option linter.unusedVariables false
set_option linter.unusedSimpArgs false
set_option linter.unusedSectionVars false
namespace Go.Au
open Go Go.RowKit

def int (x : Int) : Value := .int .i64 x
abbrev Ints := RowE (fun _ cs (x : Int) => cs = [.int .i64 x]) 1

def risingFrom (n : Int) : Option Int → List Int → Bool
  | _, [] => true
  | p, x :: r => !(decide (x < 0) || decide (n ≤ x) || (match p with | some y => decide (x ≤ y) | none => false)) && risingFrom n (some x) r

theorem isRow_c {w : World} {lo hi : Nat} {v : Value} {xs : List Int} {n : Int} (h : Ints lo hi w v xs) (hl : xs.length < 4611686018427387904) :
    Calls Proofs.Try.prog 51 [v, .int .i64 n].toArray w (Ret fun r w' => r = .bool (risingFrom n none xs) ∧ Kp w w') := by
  obtain ⟨a, cap, rfl, hcap, hx⟩ := h
  refine call agree Proofs.Try.func51 rfl Proofs.Try.ntmps51 (by kernel_rfl) ?_
  refine loop agree (σ := Nat) (fun i => [(0, .slice a xs.length cap), (1, .int .i64 n), (7, .slice a xs.length cap), (8, .int .i64 xs.length), (9, .int .i64 i)])
    (fun i w' => Kp w w' ∧ i ≤ xs.length ∧ risingFrom n none xs = risingFrom n (if i = 0 then none else xs[i-1]?) (xs.drop i)) (fun i => xs.length - i) 0
    ⟨rfl, rfl, rfl, rfl, rfl, trivial⟩ ⟨Chg.refl _ _, by omega, by simp⟩ ?_
  rintro i e0 w1 ⟨hk, hi, hr⟩
  refine sp (fun h1 => ?_) (fun h1 => ?_)
  · obtain ⟨b, o, rfl, hlo, hhi, cs, hcs, hrd, rfl⟩ := hx i xs[i] (by simp)
    refine ne ⟨by omega, h1⟩ ?_
    refine ld agree (hk.range hrd id) rfl ?_
    have hi' : i < xs.length := by omega
    rw [List.drop_eq_getElem_cons hi'] at hr
    refine sp (fun h2 => ?_) (fun h2 => ?_)
    · exact ⟨congrArg Value.bool (by rw [hr]; simp [risingFrom, h2]), hk⟩
    · refine sp (fun h3 => ?_) (fun h3 => ?_)
      · exact ⟨congrArg Value.bool (by rw [hr]; simp [risingFrom, h3]), hk⟩
      · refine sp (fun h4 => ?_) (fun h4 => ?_)
        · refine aw (by omega) (by omega) ?_
          obtain ⟨b', o', hb', -, -, cs', hcs', hrd', rfl⟩ := hx (i - 1) xs[i-1] (by simp)
          cases hb'
          refine ne ⟨by omega, by omega⟩ ?_
          refine ld agree (o := o + ((i : Int) - 1).toNat * 1) (hk.range (by rw [show ((i : Int) - 1).toNat = i - 1 by omega]; exact hrd') id) rfl ?_
          have h0 : i ≠ 0 := by omega
          rw [if_neg h0, List.getElem?_eq_getElem (by omega)] at hr
          refine sp (fun h5 => ?_) (fun h5 => ?_)
          · exact ⟨congrArg Value.bool (by rw [hr]; simp [risingFrom, h5]), hk⟩
          · refine aw (by omega) (by omega) ?_
            refine again (i + 1) ⟨rfl, rfl, rfl, rfl, rfl, trivial⟩ ⟨hk, by omega, ?_⟩ (by omega)
            rw [hr]; simp [risingFrom, h2, h3, h5, List.getElem?_eq_getElem hi']
        · refine aw (by omega) (by omega) ?_
          refine again (i + 1) ⟨rfl, rfl, rfl, rfl, rfl, trivial⟩ ⟨hk, by omega, ?_⟩ (by omega)
          have h0 : i = 0 := by omega
          subst h0
          rw [hr]; simp [risingFrom, h2, h3, List.getElem?_eq_getElem hi']
  · refine ⟨congrArg Value.bool (by rw [hr, List.drop_eq_nil_of_le (by omega)]; rfl), hk⟩
end Go.Au
