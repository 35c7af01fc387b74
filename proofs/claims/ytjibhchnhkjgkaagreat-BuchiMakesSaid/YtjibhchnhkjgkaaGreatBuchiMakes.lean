/- BuchiMakes: for every start and all arguments, the law returns true and nothing old turns. No conditions. -/
import Derived.Test.YtjibhchnhkjgkaaGreatRows
import Derived.WalkKit
import Derived.ProofKit
import Derived.OpenShut
import Derived.ShutString
import Derived.ChangeOld
import Derived.Below
import Derived.SizedLaws
import Derived.Test.YtjibhchnhkjgkaaGreatP0
import Derived.Test.YtjibhchnhkjgkaaGreatG
import Derived.Test.YtjibhchnhkjgkaaGreatP2
import Derived.Test.YtjibhchnhkjgkaaGreatP3
import Derived.Test.YtjibhchnhkjgkaaGreatP4
import Derived.Test.YtjibhchnhkjgkaaGreatP5
import Derived.Test.YtjibhchnhkjgkaaGreatP6
import Derived.Test.YtjibhchnhkjgkaaGreatP7
set_option maxRecDepth 40000
set_option linter.unusedVariables false
set_option linter.unusedSimpArgs false
set_option linter.unusedSectionVars false
namespace Go.Proofs.YtjibhchnhkjgkaaGreat.buchiMakes
open Go.ChangeShapes Go.WideShapes Go.ChangeAt Go.RowKit
open Go.ChangeMaps (open_string shut_string)
set_option linter.unusedVariables false
theorem own : ownKnob Tryz.prog.godebug = none := by kernel_rfl
theorem laidOut : laidOutB Tryz.prog = true := by kernel_rfl
set_option maxRecDepth 100000 in
theorem lifted (os : Os) (started : os.Started) (H : Type) (enc : TypeId × Value → H) :
    ReturnsInHanded {} Tryz.checked os 3 .any (Rows.buchiMakesSpec.pre6 enc Tryz.prog Tryz.f3 Rows.buchiMakesRow.domain false) (Rows.buchiMakesSpec.post enc Tryz.prog Tryz.f3 false true false false) := by
  refine returnsInHanded_of_change_sized (C := Tryz.checked) own started (by kernel_rfl) Tryz.func3
    (ChangeSpec.witness6 (enc := enc) (C := Tryz.checked) false ⟨#[], #[.agg #[.slice none 0 0, .int .i64 0, .slice none 0 0, .slice none 0 0, .slice none 0 0], .agg #[.slice none 0 0, .int .i64 0, .slice none 0 0, .slice none 0 0, .slice none 0 0]], []⟩ 8 (by kernel_rfl) (by kernel_rfl) (by kernel_rfl) (by kernel_rfl)) ?_
  intro W base args ds gs before hval0 hW hcnd hsz0 _
  have hsz : (DataW.weightsEach Tryz.prog (Tryz.f3.params.toList ++ Rows.buchiMakesSpec.plain.varTypes Tryz.prog) (ds ++ gs)).all (· ≤ reachBytes) = true := hsz0
  have hval : ∀ (j : Nat) t v, Tryz.f3.params[j]? = some t → args[j]? = some v → Value.okWide Tryz.prog W .any base t v := hval0
  have hW' := hW
  obtain ⟨p, q, hA0, hV, rfl, hfz, hnd⟩ := hW
  have hA : DataW.TrodAll enc Tryz.prog W 0 (fun _ => true) true Tryz.f3.params.toList args.toList ds p := hA0
  rw [Tryz.params3] at hA hval hsz
  obtain ⟨v0, vs0, d0, ds0, p0, q0, hargs, rfl, rfl, h0, r0⟩ := trodAll_cons hA
  obtain ⟨v1, vs1, d1, ds1, p1, q1, rfl, rfl, rfl, h1, r1⟩ := trodAll_cons r0
  obtain ⟨rfl, rfl, rfl⟩ := trodAll_nil r1
  obtain rfl : args = #[v0, v1] := by cases args; simp_all
  obtain ⟨rfl, rfl⟩ := trodVars_none hV
  obtain ⟨cs0, rfl, -⟩ := okWide_struct Tryz.underlying27 (hval 0 27 v0 rfl rfl)
  obtain ⟨cs1, rfl, -⟩ := okWide_struct Tryz.underlying29 (hval 1 29 v1 rfl rfl)
  have k0 := h0
  have k1 := h1
  have lt0 : ∀ x ∈ p0, x.block < W.heap.size := by obtain ⟨m, hm⟩ := k0; exact DataW.trod_lt m _ _ _ hm
  have lt1 : ∀ x ∈ p1, x.block < W.heap.size := by obtain ⟨m, hm⟩ := k1; exact DataW.trod_lt m _ _ _ hm
  obtain ⟨g, pv, iv, ev, sv, hg, hin⟩ := Au.handed (j := 0) (t := 27) h0 hsz rfl rfl Au.opensGeneral
  obtain ⟨b, pv1, iv1, ev1, fv1, hb, hbin⟩ := Au.handed (j := 1) (t := 29) h1 hsz rfl rfl Au.opensBuchi
  have hcs : cs0 = #[pv, .int .i64 g.states, iv, ev, sv] := by
    have : cs0.toList = [pv, .int .i64 g.states, iv, ev, sv] := hg
    apply Array.toList_inj.1; simpa using this
  subst hcs
  have hcs : cs1 = #[pv1, .int .i64 b.states, iv1, ev1, fv1] := by
    have : cs1.toList = [pv1, .int .i64 b.states, iv1, ev1, fv1] := hb
    apply Array.toList_inj.1; simpa using this
  subst hcs
  clear hA0 hval0 hsz0 hsz
  refine (Au.lawMakes_c hin hbin).mono fun e W' he => ?_
  obtain ⟨bel, rfl⟩ := Au.row_of he
  exact ⟨_, rfl, _, _, _, [], _, [], hW', trodAll_mk1 (shut_bool Tryz.underlying4 _), (trodAll_cons_mk (Below.trod laidOut (by kernel_rfl) (of_decide_eq_true (by kernel_rfl)) k0 bel lt0) (trodAll_cons_mk (Below.trod laidOut (by kernel_rfl) (of_decide_eq_true (by kernel_rfl)) k1 bel lt1) trodAll_mk0)), rfl, bel.frame _, fun h => by cases h⟩
theorem over : Rows.buchiMakesRow.holds Tryz.pinned (OpenSpec.ofChange Rows.buchiMakesSpec) :=
  OpenClaim.holds_of_wide 3 Tryz.f3 rfl rfl rfl rfl rfl rfl rfl ⟨rfl, rfl, rfl, rfl, rfl⟩ rfl rfl rfl rfl rfl (by kernel_rfl) Tryz.func3 (by kernel_rfl)
    (of_decide_eq_true (by kernel_rfl)) (by unfold Func.isWrapper; first | (rw [if_pos (by decide +kernel)]; kernel_rfl) | (rw [if_neg (by decide +kernel)]; exact ⟨rfl, rfl⟩))
    (fun os started H enc _ => lifted os started H enc)
theorem proved : Rows.BuchiMakesSaid := over
end Go.Proofs.YtjibhchnhkjgkaaGreat.buchiMakes
namespace Go.Proofs.YtjibhchnhkjgkaaGreat
theorem buchiMakes_holds : Rows.BuchiMakesSaid := buchiMakes.proved
end Go.Proofs.YtjibhchnhkjgkaaGreat
