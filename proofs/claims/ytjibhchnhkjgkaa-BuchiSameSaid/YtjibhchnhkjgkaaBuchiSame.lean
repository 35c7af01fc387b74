/- BuchiSame: for every start and all arguments, the law returns true and nothing old turns. No conditions. -/
import Derived.Test.YtjibhchnhkjgkaaRows
import Derived.WalkKit
import Derived.ProofKit
import Derived.OpenShut
import Derived.ShutString
import Derived.ChangeOld
import Derived.Below
import Derived.SizedLaws
import Derived.Test.YtjibhchnhkjgkaaP0
import Derived.Test.YtjibhchnhkjgkaaG
import Derived.Test.YtjibhchnhkjgkaaP2
import Derived.Test.YtjibhchnhkjgkaaP3
import Derived.Test.YtjibhchnhkjgkaaP4
import Derived.Test.YtjibhchnhkjgkaaP5
import Derived.Test.YtjibhchnhkjgkaaP6
set_option maxRecDepth 40000
set_option linter.unusedVariables false
set_option linter.unusedSimpArgs false
set_option linter.unusedSectionVars false
namespace Go.Proofs.Ytjibhchnhkjgkaa.buchiSame
open Go.ChangeShapes Go.WideShapes Go.ChangeAt Go.RowKit
open Go.ChangeMaps (open_string shut_string)
set_option linter.unusedVariables false
theorem own : ownKnob Try.prog.godebug = none := by kernel_rfl
theorem laidOut : laidOutB Try.prog = true := by kernel_rfl
set_option maxRecDepth 100000 in
theorem lifted (os : Os) (started : os.Started) (H : Type) (enc : TypeId × Value → H) :
    ReturnsInHanded {} Try.checked os 8 .any (Rows.buchiSameSpec.pre6 enc Try.prog Try.f8 Rows.buchiSameRow.domain false) (Rows.buchiSameSpec.post enc Try.prog Try.f8 false true false false) := by
  refine returnsInHanded_of_change_sized (C := Try.checked) own started (by kernel_rfl) Try.func8
    (ChangeSpec.witness6 (enc := enc) (C := Try.checked) false ⟨#[], #[.agg #[.slice none 0 0, .int .i64 0, .slice none 0 0, .slice none 0 0, .slice none 0 0], .agg #[.slice none 0 0, .int .i64 0, .slice none 0 0, .slice none 0 0, .slice none 0 0], .agg #[.slice none 0 0, .slice none 0 0]], []⟩ 8 (by kernel_rfl) (by kernel_rfl) (by kernel_rfl) (by kernel_rfl)) ?_
  intro W base args ds gs before hval0 hW hcnd hsz0 _
  have hsz : (DataW.weightsEach Try.prog (Try.f8.params.toList ++ Rows.buchiSameSpec.plain.varTypes Try.prog) (ds ++ gs)).all (· ≤ reachBytes) = true := hsz0
  have hval : ∀ (j : Nat) t v, Try.f8.params[j]? = some t → args[j]? = some v → Value.okWide Try.prog W .any base t v := hval0
  have hW' := hW
  obtain ⟨p, q, hA0, hV, rfl, hfz, hnd⟩ := hW
  have hA : DataW.TrodAll enc Try.prog W 0 (fun _ => true) true Try.f8.params.toList args.toList ds p := hA0
  rw [Try.params8] at hA hval hsz
  obtain ⟨v0, vs0, d0, ds0, p0, q0, hargs, rfl, rfl, h0, r0⟩ := trodAll_cons hA
  obtain ⟨v1, vs1, d1, ds1, p1, q1, rfl, rfl, rfl, h1, r1⟩ := trodAll_cons r0
  obtain ⟨v2, vs2, d2, ds2, p2, q2, rfl, rfl, rfl, h2, r2⟩ := trodAll_cons r1
  obtain ⟨rfl, rfl, rfl⟩ := trodAll_nil r2
  obtain rfl : args = #[v0, v1, v2] := by cases args; simp_all
  obtain ⟨rfl, rfl⟩ := trodVars_none hV
  obtain ⟨cs0, rfl, -⟩ := okWide_struct Try.underlying28 (hval 0 28 v0 rfl rfl)
  obtain ⟨cs1, rfl, -⟩ := okWide_struct Try.underlying31 (hval 1 31 v1 rfl rfl)
  obtain ⟨cs2, rfl, -⟩ := okWide_struct Try.underlying44 (hval 2 44 v2 rfl rfl)
  have k0 := h0
  have k2 := h2
  have lt2 : ∀ x ∈ p2, x.block < W.heap.size := by obtain ⟨m, hm⟩ := k2; exact DataW.trod_lt m _ _ _ hm
  have k1 := h1
  have lt0 : ∀ x ∈ p0, x.block < W.heap.size := by obtain ⟨m, hm⟩ := k0; exact DataW.trod_lt m _ _ _ hm
  have lt1 : ∀ x ∈ p1, x.block < W.heap.size := by obtain ⟨m, hm⟩ := k1; exact DataW.trod_lt m _ _ _ hm
  obtain ⟨g, pv, iv, ev, sv, hg, hin⟩ := Au.handed (j := 0) (t := 28) h0 hsz rfl rfl Au.opensGeneral
  obtain ⟨b, pv1, iv1, ev1, fv1, hb, hbin⟩ := Au.handed (j := 1) (t := 31) h1 hsz rfl rfl Au.opensBuchi
  obtain ⟨x, stv, lov, hx, hst, hlo, hsl, hll⟩ := Au.handed (j := 2) (t := 44) h2 hsz rfl rfl Au.opensWord
  have hcs : cs0 = #[pv, .int .i64 g.states, iv, ev, sv] := by
    have : cs0.toList = [pv, .int .i64 g.states, iv, ev, sv] := hg
    apply Array.toList_inj.1; simpa using this
  subst hcs
  have hcs : cs1 = #[pv1, .int .i64 b.states, iv1, ev1, fv1] := by
    have : cs1.toList = [pv1, .int .i64 b.states, iv1, ev1, fv1] := hb
    apply Array.toList_inj.1; simpa using this
  subst hcs
  have hcs : cs2 = #[stv, lov] := by
    have : cs2.toList = [stv, lov] := hx
    apply Array.toList_inj.1; simpa using this
  subst hcs
  clear hA0 hval0 hsz0 hsz
  refine (Au.lawSame_c hin hbin ⟨hst, hlo, hsl, hll⟩).mono fun e W' he => ?_
  obtain ⟨bel, rfl⟩ := Au.row_of he
  exact ⟨_, rfl, _, _, _, [], _, [], hW', trodAll_mk1 (shut_bool Try.underlying4 _), (trodAll_cons_mk (Below.trod laidOut (by kernel_rfl) (of_decide_eq_true (by kernel_rfl)) k0 bel lt0) (trodAll_cons_mk (Below.trod laidOut (by kernel_rfl) (of_decide_eq_true (by kernel_rfl)) k1 bel lt1) (trodAll_cons_mk (Below.trod laidOut (by kernel_rfl) (of_decide_eq_true (by kernel_rfl)) k2 bel lt2) trodAll_mk0))), rfl, bel.frame _, fun h => by cases h⟩
theorem over : Rows.buchiSameRow.holds Try.pinned (OpenSpec.ofChange Rows.buchiSameSpec) :=
  OpenClaim.holds_of_wide 8 Try.f8 rfl rfl rfl rfl rfl rfl rfl ⟨rfl, rfl, rfl, rfl, rfl⟩ rfl rfl rfl rfl rfl (by kernel_rfl) Try.func8 (by kernel_rfl)
    (of_decide_eq_true (by kernel_rfl)) (by unfold Func.isWrapper; first | (rw [if_pos (by decide +kernel)]; kernel_rfl) | (rw [if_neg (by decide +kernel)]; exact ⟨rfl, rfl⟩))
    (fun os started H enc _ => lifted os started H enc)
theorem proved : Rows.BuchiSameSaid := over
end Go.Proofs.Ytjibhchnhkjgkaa.buchiSame
namespace Go.Proofs.Ytjibhchnhkjgkaa
theorem buchiSame_holds : Rows.BuchiSameSaid := buchiSame.proved
end Go.Proofs.Ytjibhchnhkjgkaa
