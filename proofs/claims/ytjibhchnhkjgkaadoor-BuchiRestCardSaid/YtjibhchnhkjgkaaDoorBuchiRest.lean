/- BuchiRest: for every start in which the listed variable reads as listed, and all arguments, the law returns true and nothing old turns; the card ties the list to the program's text. No further conditions. -/
import Derived.Test.YtjibhchnhkjgkaaDoorRows
import Derived.Test.YtjibhchnhkjgkaaDoorTie
import Derived.Test.YtjibhchnhkjgkaaDoorCards
import Derived.WalkKit
import Derived.ProofKit
import Derived.OpenShut
import Derived.LaidMore
import Derived.SevenTiedAt
import Derived.ShutString
import Derived.ChangeOld
import Derived.Below
import Derived.SizedLaws
import Derived.Test.YtjibhchnhkjgkaaDoorP0
import Derived.Test.YtjibhchnhkjgkaaDoorG
import Derived.Test.YtjibhchnhkjgkaaDoorP2
import Derived.Test.YtjibhchnhkjgkaaDoorP3
import Derived.Test.YtjibhchnhkjgkaaDoorP4
set_option linter.unusedVariables false
set_option linter.unusedSimpArgs false
set_option linter.unusedSectionVars false
namespace Go.Proofs.YtjibhchnhkjgkaaDoor.buchiRest
open Go.ChangeShapes Go.WideShapes Go.ChangeAt Go.RowKit
open Go.ChangeMaps (open_string shut_string)
set_option linter.unusedVariables false
theorem own : ownKnob Tryd.prog.godebug = none := by kernel_rfl
theorem laidOut : laidOutB Tryd.prog = true := by kernel_rfl
theorem gTab : Tryd.prog.globalNamed "math/bits.deBruijn64tab" = some 0 := by kernel_rfl
theorem tTab : (Tryd.prog.globals[0]?).map (·.type) = some 96 := by kernel_rfl
theorem cTab : Tryd.prog.cellsOf 5 = 1 := by kernel_rfl
theorem door_met (os : Os) (args : Array Value) : laidMetH Tryd.prog Rows.buchiRestRow.laid ((World.doorLaid Tryd.prog 400 os).forCall (fun _ _ => 0) ⟨#[], args, []⟩).memory :=
  laidMetH_of_parts3 (fuel := 8) (laidMet_of_run' 8 (by kernel_rfl) (by kernel_rfl)) (by kernel_rfl) (by kernel_rfl)
theorem datum_at {H : Type} (j v : Nat) (h : Au.deB[j]? = some v) : ∀ ds : List (DataW H), (Rows.laid_math_bits_deBruijn64tab : DataW H) = .agg ds → ds[j]? = some (.lit (.int .u8 (v : Int))) := by
  intro ds hd
  have hds : ds = Au.deB.map fun (v : Nat) => .lit (.int .u8 (v : Int)) := by
    have : (Rows.laid_math_bits_deBruijn64tab : DataW H) = .agg (Au.deB.map fun (v : Nat) => .lit (.int .u8 (v : Int))) := rfl
    rw [this] at hd
    injection hd with hd
    exact hd.symm
  rw [hds, List.getElem?_map, h]
  rfl
theorem of_laid {W : World} (h : laidMetH Tryd.prog Rows.buchiRestRow.laid W) : Au.Tab W := by
  rw [MakeChecks.laidMetH_plain _ _ _ (by kernel_rfl)] at h
  obtain ⟨ps, ⟨g0, t0, cs0, f0, p0, q0, hg0, ht0, hv0, hd0, _, _⟩, _, _⟩ := h
  obtain rfl := Option.some.inj (gTab.symm.trans hg0)
  obtain rfl := Option.some.inj (tTab.symm.trans ht0)
  obtain ⟨xs, m1, rfl, hx1, hlen, hn3, hel⟩ := DataW.trod_array Tryd.underlying96 hd0
  simp only [Prod.mk.injEq] at hx1
  intro j v hj
  have hj64 : j < 64 := (List.getElem?_eq_some_iff.1 hj).1
  have hdat := datum_at j v hj _ hx1.1
  have h1 := hel j hj64
  rw [List.getElem?_map] at hdat
  cases hxj : xs[j]? with
  | none => rw [hxj] at hdat; cases hdat
  | some xj =>
    rw [hxj] at hdat h1
    injection hdat with hdat
    obtain ⟨k, e1, e2, _⟩ := DataW.trod_int Tryd.underlying5 h1
    rw [cTab, Nat.mul_one] at e1
    have hk : k = (v : Int) := by rw [e2] at hdat; simpa using hdat
    subst hk
    have hget : cs0.toList[j]? = some (.int .u8 (v : Int)) := by
      have := congrArg (fun l : List Value => l[0]?) e1
      simp only [List.getElem?_take, List.getElem?_drop] at this
      simpa using this
    intro i u hu
    match i, hu with
    | 0, hu =>
      obtain rfl : Value.int .u8 (v : Int) = u := by simpa using hu
      have hc := World.var?_cell hg0 hv0 j
      rw [Nat.mul_one, Nat.zero_add, Nat.add_zero, hc]
      simpa using hget
    | i + 1, hu => simp at hu
set_option maxRecDepth 100000 in
theorem lifted (os : Os) (started : os.Started) (H : Type) (enc : TypeId × Value → H) :
    ReturnsInHanded {} Tryd.checked os 3 .any (fun w args => (Rows.buchiRestSpec.pre enc Tryd.prog Tryd.f3 [] false w args ∧ laidMetH Tryd.prog Rows.buchiRestRow.laid w) ∧ sizedMet enc Tryd.prog Tryd.f3 (OpenSpec.ofChange Rows.buchiRestSpec) false w args)
      (Rows.buchiRestSpec.post enc Tryd.prog Tryd.f3 false true false false) := by
  refine returnsInHanded_of_change_and (C := Tryd.checked) (X := fun w _ => laidMetH Tryd.prog Rows.buchiRestRow.laid w) (fun _ _ _ hh h => h.of_heap hh) own started (by kernel_rfl) Tryd.func3
    (ChangeSpec.witness_shaped (enc := enc) (C := Tryd.checked) (os := os) (X := fun w _ => laidMetH Tryd.prog Rows.buchiRestRow.laid w) false (World.doorLaid Tryd.prog 400 os) #[.agg #[.slice none 0 0, .int .i64 0, .slice none 0 0, .slice none 0 0, .slice none 0 0], .agg #[.slice none 0 0, .slice none 0 0]] 8 rfl (World.shaped_of_RefB (by kernel_rfl) (by kernel_rfl)) (by kernel_rfl) (by kernel_rfl) (by kernel_rfl) (door_met os _)) ?_
  intro W base args ds gs before hval0 hW hcnd hsz0 hL _
  have hT := of_laid hL
  have hsz : (DataW.weightsEach Tryd.prog (Tryd.f3.params.toList ++ Rows.buchiRestSpec.plain.varTypes Tryd.prog) (ds ++ gs)).all (· ≤ reachBytes) = true := hsz0
  have hval : ∀ (j : Nat) t v, Tryd.f3.params[j]? = some t → args[j]? = some v → Value.okWide Tryd.prog W .any base t v := hval0
  have hW' := hW
  obtain ⟨p, q, hA0, hV, rfl, hfz, hnd⟩ := hW
  have hA : DataW.TrodAll enc Tryd.prog W 0 (fun _ => true) true Tryd.f3.params.toList args.toList ds p := hA0
  rw [Tryd.params3] at hA hval hsz
  obtain ⟨v0, vs0, d0, ds0, p0, q0, hargs, rfl, rfl, h0, r0⟩ := trodAll_cons hA
  obtain ⟨v1, vs1, d1, ds1, p1, q1, rfl, rfl, rfl, h1, r1⟩ := trodAll_cons r0
  obtain ⟨rfl, rfl, rfl⟩ := trodAll_nil r1
  obtain rfl : args = #[v0, v1] := by cases args; simp_all
  obtain ⟨rfl, rfl⟩ := trodVars_none hV
  obtain ⟨cs0, rfl, -⟩ := okWide_struct Tryd.underlying26 (hval 0 26 v0 rfl rfl)
  obtain ⟨cs1, rfl, -⟩ := okWide_struct Tryd.underlying29 (hval 1 29 v1 rfl rfl)
  have k0 := h0
  have k1 := h1
  have lt0 : ∀ x ∈ p0, x.block < W.heap.size := by obtain ⟨m, hm⟩ := k0; exact DataW.trod_lt m _ _ _ hm
  have lt1 : ∀ x ∈ p1, x.block < W.heap.size := by obtain ⟨m, hm⟩ := k1; exact DataW.trod_lt m _ _ _ hm
  obtain ⟨g, pv, iv, ev, sv, hg, hin⟩ := Au.handed (j := 0) (t := 26) h0 hsz rfl rfl Au.opensBuchi
  obtain ⟨x, stv, lov, hx, hst, hlo, hsl, hll⟩ := Au.handed (j := 1) (t := 29) h1 hsz rfl rfl Au.opensWord
  have hcs : cs0 = #[pv, .int .i64 g.states, iv, ev, sv] := by
    have : cs0.toList = [pv, .int .i64 g.states, iv, ev, sv] := hg
    apply Array.toList_inj.1; simpa using this
  subst hcs
  have hcs : cs1 = #[stv, lov] := by
    have : cs1.toList = [stv, lov] := hx
    apply Array.toList_inj.1; simpa using this
  subst hcs
  clear hA0 hval0 hsz0 hsz
  refine (Au.lawRest_c hin ⟨hst, hlo, hsl, hll⟩ hT).mono fun e W' he => ?_
  obtain ⟨bel, rfl⟩ := Au.row_of he
  exact ⟨_, rfl, _, _, _, [], _, [], hW', trodAll_mk1 (shut_bool Tryd.underlying4 _), (trodAll_cons_mk (Below.trod laidOut (by kernel_rfl) (of_decide_eq_true (by kernel_rfl)) k0 bel lt0) (trodAll_cons_mk (Below.trod laidOut (by kernel_rfl) (of_decide_eq_true (by kernel_rfl)) k1 bel lt1) trodAll_mk0)), rfl, bel.frame _, fun h => by cases h⟩
theorem over : Rows.buchiRestRow.holds Tryd.pinned (OpenSpec.ofChange Rows.buchiRestSpec) :=
  OpenClaim.holds_of_wide 3 Tryd.f3 rfl rfl rfl rfl rfl rfl rfl ⟨rfl, rfl, rfl, rfl, rfl⟩ rfl rfl rfl rfl rfl (by kernel_rfl) Tryd.func3 (by kernel_rfl)
    (of_decide_eq_true (by kernel_rfl)) (by unfold Func.isWrapper; first | (rw [if_pos (by decide +kernel)]; kernel_rfl) | (rw [if_neg (by decide +kernel)]; exact ⟨rfl, rfl⟩))
    (fun os started H enc _ => lifted os started H enc)
theorem card : Rows.BuchiRestCardSaid :=
  Claim7.holds_tied_plain_at .later [] [.data] true (true, "0b9ad426d395399e2a1471d8aaa886e28c34fdf4a6e572034dbde0280dea064c") false
    over (fun _ h => by cases h) (by kernel_rfl) (fun _ h => by cases h) buchiRest_row_tie rfl ⟨rfl, rfl⟩ (by kernel_rfl) rfl
    (fun f fn hf hfn => by
      obtain rfl : f = 3 := Option.some.inj ((show Tryd.prog.funcNamed "augur/augurlaw10.BuchiRest" = some 3 by kernel_rfl).symm.trans hf) |>.symm
      obtain rfl : fn = Tryd.f3 := (Option.some.inj (Tryd.func3.symm.trans hfn)).symm
      exact ⟨by kernel_rfl, fun j t ht => by
        rw [Tryd.params3] at ht
        have hm : t ∈ [26, 29] := by simpa using Array.mem_of_getElem? ht
        have hall : ([26, 29].all fun u => !Tryd.prog.wantsStandIn u) = true := by kernel_rfl
        exact (show Tryd.prog.wantsStandIn t = false by simpa using List.all_eq_true.1 hall t hm)⟩)
    (by kernel_rfl)
end Go.Proofs.YtjibhchnhkjgkaaDoor.buchiRest
namespace Go.Proofs.YtjibhchnhkjgkaaDoor
theorem buchiRest_holds : Rows.BuchiRestCardSaid := buchiRest.card
end Go.Proofs.YtjibhchnhkjgkaaDoor
