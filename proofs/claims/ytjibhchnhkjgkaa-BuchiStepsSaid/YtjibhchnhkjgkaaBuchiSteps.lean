/- BuchiSteps: for every start and all arguments, the law returns true and nothing old turns. No conditions. -/
import Derived.Test.YtjibhchnhkjgkaaRows
import Derived.Test.YtjibhchnhkjgkaaB39
import Derived.Test.YtjibhchnhkjgkaaB24
import Derived.WalkKit
import Derived.ProofKit
import Derived.OpenShut
import Derived.ShutString
import Derived.ChangeOld
import Derived.Below
import Derived.SizedLaws
set_option linter.unusedVariables false
set_option linter.unusedSimpArgs false
set_option linter.unusedSectionVars false
namespace Go.Proofs.Ytjibhchnhkjgkaa.buchiSteps
open Go.ChangeShapes Go.WideShapes Go.ChangeAt Go.RowKit
open Go.ChangeMaps (open_string shut_string)
set_option linter.unusedVariables false
theorem own : ownKnob Try.prog.godebug = none := by kernel_rfl
theorem laidOut : laidOutB Try.prog = true := by kernel_rfl
set_option maxRecDepth 100000 in
theorem lifted (os : Os) (started : os.Started) (H : Type) (enc : TypeId × Value → H) :
    ReturnsInHanded {} Try.checked os 7 .any (Rows.buchiStepsSpec.pre6 enc Try.prog Try.f7 Rows.buchiStepsRow.domain false) (Rows.buchiStepsSpec.post enc Try.prog Try.f7 false true false false) := by
  refine returnsInHanded_of_change_sized (C := Try.checked) own started (by kernel_rfl) Try.func7
    (ChangeSpec.witness6 (enc := enc) (C := Try.checked) false ⟨#[], #[.agg #[.slice none 0 0, .int .i64 0, .slice none 0 0, .slice none 0 0, .slice none 0 0], .slice none 0 0, .int .u16 0], []⟩ 8 (by kernel_rfl) (by kernel_rfl) (by kernel_rfl) (by kernel_rfl)) ?_
  intro W base args ds gs before hval0 hW hcnd hsz0 _
  have hsz : (DataW.weightsEach Try.prog (Try.f7.params.toList ++ Rows.buchiStepsSpec.plain.varTypes Try.prog) (ds ++ gs)).all (· ≤ reachBytes) = true := hsz0
  have hval : ∀ (j : Nat) t v, Try.f7.params[j]? = some t → args[j]? = some v → Value.okWide Try.prog W .any base t v := hval0
  have hW' := hW
  obtain ⟨p, q, hA0, hV, rfl, hfz, hnd⟩ := hW
  have hA : DataW.TrodAll enc Try.prog W 0 (fun _ => true) true Try.f7.params.toList args.toList ds p := hA0
  rw [Try.params7] at hA hval hsz
  obtain ⟨v0, vs0, d0, ds0, p0, q0, hargs, rfl, rfl, h0, r0⟩ := trodAll_cons hA
  obtain ⟨v1, vs1, d1, ds1, p1, q1, rfl, rfl, rfl, h1, r1⟩ := trodAll_cons r0
  obtain ⟨v2, vs2, d2, ds2, p2, q2, rfl, rfl, rfl, h2, r2⟩ := trodAll_cons r1
  obtain ⟨rfl, rfl, rfl⟩ := trodAll_nil r2
  obtain rfl : args = #[v0, v1, v2] := by cases args; simp_all
  obtain ⟨rfl, rfl⟩ := trodVars_none hV
  obtain ⟨cs0, rfl, -⟩ := okWide_struct Try.underlying31 (hval 0 31 v0 rfl rfl)
  obtain ⟨a1, len1, cap1, rfl⟩ := okWide_slice Try.underlying24 (hval 1 24 v1 rfl rfl)
  obtain ⟨l0, rfl⟩ := okWide_int Try.underlying50 (hval 2 50 v2 rfl rfl)
  have k0 := h0
  have k2 := h2
  have lt2 : ∀ x ∈ p2, x.block < W.heap.size := by obtain ⟨m, hm⟩ := k2; exact DataW.trod_lt m _ _ _ hm
  have k1 := h1
  have lt0 : ∀ x ∈ p0, x.block < W.heap.size := by obtain ⟨m, hm⟩ := k0; exact DataW.trod_lt m _ _ _ hm
  have lt1 : ∀ x ∈ p1, x.block < W.heap.size := by obtain ⟨m, hm⟩ := k1; exact DataW.trod_lt m _ _ _ hm
  obtain ⟨g, pv, iv, ev, sv, hg, hin⟩ := Au.handed (j := 0) (t := 31) h0 hsz rfl rfl Au.opensBuchi
  obtain ⟨fin, fv, hf, hfin, hfl⟩ := Au.handed (j := 1) (t := 24) h1 hsz rfl rfl Au.opensInts
  have hcs : cs0 = #[pv, .int .i64 g.states, iv, ev, sv] := by
    have : cs0.toList = [pv, .int .i64 g.states, iv, ev, sv] := hg
    apply Array.toList_inj.1; simpa using this
  subst hcs
  have hfv : Value.slice a1 len1 cap1 = fv := by
    have : [Value.slice a1 len1 cap1] = [fv] := hf
    injection this
  subst hfv
  obtain ⟨l, hl, hl1, hl2⟩ := Au.handed (j := 2) (t := 50) h2 hsz rfl rfl (Au.opens_int Try.underlying50)
  have hll : Value.int .u16 l0 = .int .u16 l := by
    have : [Value.int .u16 l0] = [.int .u16 l] := hl
    injection this
  obtain rfl : l0 = l := by injection hll
  clear hA0 hval0 hsz0 hsz
  refine (Au.lawSteps_c hin hfin hfl l0 ⟨hl1, Int.lt_add_one_of_le hl2⟩).mono fun e W' he => ?_
  obtain ⟨bel, rfl⟩ := Au.row_of he
  exact ⟨_, rfl, _, _, _, [], _, [], hW', trodAll_mk1 (shut_bool Try.underlying4 _), (trodAll_cons_mk (Below.trod laidOut (by kernel_rfl) (of_decide_eq_true (by kernel_rfl)) k0 bel lt0) (trodAll_cons_mk (Below.trod laidOut (by kernel_rfl) (of_decide_eq_true (by kernel_rfl)) k1 bel lt1) (trodAll_cons_mk (Below.trod laidOut (by kernel_rfl) (of_decide_eq_true (by kernel_rfl)) k2 bel lt2) trodAll_mk0))), rfl, bel.frame _, fun h => by cases h⟩
theorem over : Rows.buchiStepsRow.holds Try.pinned (OpenSpec.ofChange Rows.buchiStepsSpec) :=
  OpenClaim.holds_of_wide 7 Try.f7 rfl rfl rfl rfl rfl rfl rfl ⟨rfl, rfl, rfl, rfl, rfl⟩ rfl rfl rfl rfl rfl (by kernel_rfl) Try.func7 (by kernel_rfl)
    (of_decide_eq_true (by kernel_rfl)) (by unfold Func.isWrapper; first | (rw [if_pos (by decide +kernel)]; kernel_rfl) | (rw [if_neg (by decide +kernel)]; exact ⟨rfl, rfl⟩))
    (fun os started H enc _ => lifted os started H enc)
theorem proved : Rows.BuchiStepsSaid := over
end Go.Proofs.Ytjibhchnhkjgkaa.buchiSteps
namespace Go.Proofs.Ytjibhchnhkjgkaa
theorem buchiSteps_holds : Rows.BuchiStepsSaid := buchiSteps.proved
end Go.Proofs.Ytjibhchnhkjgkaa
