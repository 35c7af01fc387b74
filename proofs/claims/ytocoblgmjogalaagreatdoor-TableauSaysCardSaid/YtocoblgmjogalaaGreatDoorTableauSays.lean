/- TableauSays: for every start in which the listed variables read as listed, the law returns true and nothing old turns; the card ties the list to the program's text. No further conditions. -/
import Derived.Test.YtocoblgmjogalaaGreatDoorRows
import Derived.Test.YtocoblgmjogalaaGreatDoorTie
import Derived.Test.YtocoblgmjogalaaGreatDoorCards
import Derived.WalkKit
import Derived.ProofKit
import Derived.OpenShut
import Derived.LaidMore
import Derived.SevenTiedAt
import Derived.ShutString
import Derived.ChangeOld
import Derived.Below
import Derived.SizedLaws
import Derived.Test.YtocoblgmjogalaaGreatDoorP0
import Derived.Test.YtocoblgmjogalaaGreatDoorG
import Derived.Test.YtocoblgmjogalaaGreatDoorP2
import Derived.Test.YtocoblgmjogalaaGreatDoorP3
import Derived.Test.YtocoblgmjogalaaGreatDoorP4
import Derived.Test.YtocoblgmjogalaaGreatDoorV64
import Derived.Test.YtocoblgmjogalaaGreatDoorP6
import Derived.Test.YtocoblgmjogalaaGreatDoorP7
import Derived.Test.YtocoblgmjogalaaGreatDoorP8
set_option maxRecDepth 40000
set_option linter.unusedVariables false
set_option linter.unusedSimpArgs false
set_option linter.unusedSectionVars false
namespace Go.Proofs.YtocoblgmjogalaaGreatDoor.tableauSays
open Go.ChangeShapes Go.WideShapes Go.ChangeAt Go.RowKit
open Go.ChangeMaps (open_string shut_string)
set_option linter.unusedVariables false
theorem own : ownKnob Tryz.prog.godebug = none := by kernel_rfl
theorem laidOut : laidOutB Tryz.prog = true := by kernel_rfl
theorem g64 : Tryz.prog.globalNamed "math/bits.deBruijn64tab" = some 0 := by kernel_rfl
theorem t64 : (Tryz.prog.globals[0]?).map (·.type) = some 251 := by kernel_rfl
theorem gKids : Tryz.prog.globalNamed "augur/tree.kids" = some 2 := by kernel_rfl
theorem tKids : (Tryz.prog.globals[2]?).map (·.type) = some 262 := by kernel_rfl
theorem c8 : Tryz.prog.cellsOf 5 = 1 := by kernel_rfl
theorem ci8 : Tryz.prog.cellsOf 261 = 1 := by kernel_rfl
theorem door_met (os : Os) (args : Array Value) : laidMetH Tryz.prog Rows.tableauSaysRow.laid ((World.doorLaid Tryz.prog 400 os).forCall (fun _ _ => 0) ⟨#[], args, []⟩).memory :=
  laidMetH_of_parts3 (fuel := 8) (laidMet_of_run' 8 (by kernel_rfl) (by kernel_rfl)) (by kernel_rfl) (by kernel_rfl)
theorem tab_at {W : World} {nm : String} {g fuel n : Nat} {t te : TypeId} {k : IntKind} {cs : Array Value} {d : DataW Unit} {p : List MemPlace} {vals : List Int} (hg : Tryz.prog.globalNamed nm = some g) (hv : W.var? Tryz.prog nm = some cs) (ht : Tryz.prog.underlying t = some (.array n te)) (he : Tryz.prog.underlying te = some (.int k)) (hc : Tryz.prog.cellsOf te = 1) (hn : vals.length = n)
    (hd : DataW.trod (fun _ => ()) Tryz.prog W 0 (fun _ => true) false fuel t cs.toList = some (d, p)) (hdv : d = .agg (vals.map fun v => .lit (.int k v))) : ∀ (j : Nat) (v : Int), vals[j]? = some v → W.rangeAt g (0 + j * 1) [.int k v] := by
  obtain ⟨xs, m1, rfl, hx1, hlen, hn3, hel⟩ := DataW.trod_array ht hd
  subst hdv
  simp only [Prod.mk.injEq] at hx1
  have hx := hx1.1
  injection hx with hx
  intro j v hj
  have hjn : j < n := by rw [← hn]; exact (List.getElem?_eq_some_iff.1 hj).1
  have h1 := hel j hjn
  have h2 : (xs.map (·.1))[j]? = some (.lit (.int k v)) := by rw [← hx, List.getElem?_map, hj]; rfl
  rw [List.getElem?_map] at h2
  cases hxj : xs[j]? with
  | none => rw [hxj] at h2; cases h2
  | some xj =>
    rw [hxj] at h2 h1
    injection h2 with h2
    obtain ⟨z, e1, e2, _⟩ := DataW.trod_int he h1
    rw [hc, Nat.mul_one] at e1
    have hk : z = v := by rw [e2] at h2; simpa using h2
    subst hk
    have hget : cs.toList[j]? = some (.int k z) := by
      have := congrArg (fun l : List Value => l[0]?) e1
      simp only [List.getElem?_take, List.getElem?_drop] at this
      simpa using this
    intro i u hu
    match i, hu with
    | 0, hu =>
      obtain rfl : Value.int k z = u := by simpa using hu
      have hc := World.var?_cell hg hv j
      rw [Nat.mul_one, Nat.zero_add, Nat.add_zero, hc]
      simpa using hget
    | i + 1, hu => simp at hu
theorem of_laid {W : World} (h : laidMetH Tryz.prog Rows.tableauSaysRow.laid W) : Au.Tab W ∧ Au.KTab W := by
  rw [MakeChecks.laidMetH_plain _ _ _ (by kernel_rfl)] at h
  obtain ⟨ps, ⟨g0, t0, cs0, f0, p0, q0, hg0, ht0, hv0, hd0, ⟨g1, t1, cs1, f1, p1, q1, hg1, ht1, hv1, hd1, ⟨g2, t2, cs2, f2, p2, q2, hg2, ht2, hv2, hd2, ⟨g3, t3, cs3, f3, p3, q3, hg3, ht3, hv3, hd3, _, _⟩, _⟩, _⟩, _⟩, _, _⟩ := h
  obtain rfl := Option.some.inj (g64.symm.trans hg1)
  obtain rfl := Option.some.inj (t64.symm.trans ht1)
  obtain rfl := Option.some.inj (gKids.symm.trans hg3)
  obtain rfl := Option.some.inj (tKids.symm.trans ht3)
  have h64 := tab_at (vals := Au.deB.map fun (n : Nat) => (n : Int)) g64 hv1 Tryz.underlying251 Tryz.underlying5 c8 (by rfl) hd1 rfl
  have hki := tab_at (vals := Au.Fm.kidsTab) gKids hv3 Tryz.underlying262 Tryz.underlying261 ci8 (by rfl) hd3 rfl
  exact ⟨fun j v hj => h64 j v (by rw [List.getElem?_map, hj]; rfl), hki⟩
set_option maxRecDepth 100000 in
theorem lifted (os : Os) (started : os.Started) (H : Type) (enc : TypeId × Value → H) :
    ReturnsInHanded {} Tryz.checked os 7 .any (fun w args => (Rows.tableauSaysSpec.pre enc Tryz.prog Tryz.f7 [] false w args ∧ laidMetH Tryz.prog Rows.tableauSaysRow.laid w) ∧ sizedMet enc Tryz.prog Tryz.f7 (OpenSpec.ofChange Rows.tableauSaysSpec) false w args)
      (Rows.tableauSaysSpec.post enc Tryz.prog Tryz.f7 false true false false) := by
  refine returnsInHanded_of_change_and (C := Tryz.checked) (X := fun w _ => laidMetH Tryz.prog Rows.tableauSaysRow.laid w) (fun _ _ _ hh h => h.of_heap hh) own started (by kernel_rfl) Tryz.func7
    (ChangeSpec.witness_shaped (enc := enc) (C := Tryz.checked) (os := os) (X := fun w _ => laidMetH Tryz.prog Rows.tableauSaysRow.laid w) false (World.doorLaid Tryz.prog 400 os) #[(.agg #[.int .u8 0, .string ⟨#[]⟩, .slice none 0 0]), (.slice none 0 0)] 8 rfl (World.shaped_of_RefB (by kernel_rfl) (by kernel_rfl)) (by kernel_rfl) (by kernel_rfl) (by kernel_rfl) (door_met os _)) ?_
  intro W base args ds gs before hval0 hW hcnd hsz0 hL _
  obtain ⟨hT, hK⟩ := of_laid hL
  have hsz : (DataW.weightsEach Tryz.prog (Tryz.f7.params.toList ++ Rows.tableauSaysSpec.plain.varTypes Tryz.prog) (ds ++ gs)).all (· ≤ reachBytes) = true := hsz0
  have hval : ∀ (j : Nat) t v, Tryz.f7.params[j]? = some t → args[j]? = some v → Value.okWide Tryz.prog W .any base t v := hval0
  have hW' := hW
  obtain ⟨p, q, hA0, hV, rfl, hfz, hnd⟩ := hW
  have hA : DataW.TrodAll enc Tryz.prog W 0 (fun _ => true) true Tryz.f7.params.toList args.toList ds p := hA0
  rw [Tryz.params7] at hA hval hsz
  obtain ⟨v0, vs0, d0, ds0, p0, q0, hargs, rfl, rfl, h0, r0⟩ := trodAll_cons hA
  obtain ⟨v1, vs1, d1, ds1, p1, q1, rfl, rfl, rfl, h1, r1⟩ := trodAll_cons r0
  obtain ⟨rfl, rfl, rfl⟩ := trodAll_nil r1
  obtain rfl : args = #[v0, v1] := by cases args; simp_all
  obtain ⟨rfl, rfl⟩ := trodVars_none hV
  obtain ⟨cs0, rfl, -⟩ := okWide_struct Tryz.underlying26 (hval 0 26 v0 rfl rfl)
  obtain ⟨a1, len1, cap1, rfl⟩ := okWide_slice Tryz.underlying27 (hval 1 27 v1 rfl rfl)
  have k0 := h0
  have k1 := h1
  have lt0 : ∀ x ∈ p0, x.block < W.heap.size := by obtain ⟨m, hm⟩ := k0; exact DataW.trod_lt m _ _ _ hm
  have lt1 : ∀ x ∈ p1, x.block < W.heap.size := by obtain ⟨m, hm⟩ := k1; exact DataW.trod_lt m _ _ _ hm
  have hcs := Au.formula_cells h0 hsz rfl
  obtain ⟨f, u, n, hok, rfl, hk⟩ := hcs
  have htx := Au.texts_cells 1 h1 hsz rfl rfl
  obtain ⟨names, hN, hNl, hNs⟩ := htx
  clear hA0 hval0 hsz0 hsz
  refine (Au.lawSays_c hK hT hk (Nat.le_refl _) hok.kids2 hok.name2 hok.op hN hNl hNs).mono fun e W' he => ?_
  obtain ⟨bel, rfl⟩ := Au.row_of he
  exact ⟨_, rfl, _, _, _, [], _, [], hW', trodAll_mk1 (shut_bool Tryz.underlying4 _), (trodAll_cons_mk (Below.trod laidOut (by kernel_rfl) (of_decide_eq_true (by kernel_rfl)) k0 bel lt0) (trodAll_cons_mk (Below.trod laidOut (by kernel_rfl) (of_decide_eq_true (by kernel_rfl)) k1 bel lt1) trodAll_mk0)), rfl, bel.frame _, fun h => by cases h⟩
theorem over : Rows.tableauSaysRow.holds Tryz.pinned (OpenSpec.ofChange Rows.tableauSaysSpec) :=
  OpenClaim.holds_of_wide 7 Tryz.f7 rfl rfl rfl rfl rfl rfl rfl ⟨rfl, rfl, rfl, rfl, rfl⟩ rfl rfl rfl rfl rfl (by kernel_rfl) Tryz.func7 (by kernel_rfl)
    (of_decide_eq_true (by kernel_rfl)) (by unfold Func.isWrapper; first | (rw [if_pos (by decide +kernel)]; kernel_rfl) | (rw [if_neg (by decide +kernel)]; exact ⟨rfl, rfl⟩))
    (fun os started H enc _ => lifted os started H enc)
theorem card : Rows.TableauSaysCardSaid :=
  Claim7.holds_tied_plain_at .later [] [.data, .data, .data, .data] true (true, "4eca1ae90c1b21fb90a4d28bcabafb832a8e8fff95561105f5e575535c2cdccd") false
    over (fun _ h => by cases h) (by kernel_rfl) (fun _ h => by cases h) tableauSays_row_tie rfl ⟨rfl, rfl⟩ (by kernel_rfl) rfl
    (fun f fn hf hfn => by
      obtain rfl : f = 7 := Option.some.inj ((show Tryz.prog.funcNamed "augur/augurlaw09.TableauSays" = some 7 by kernel_rfl).symm.trans hf) |>.symm
      obtain rfl : fn = Tryz.f7 := (Option.some.inj (Tryz.func7.symm.trans hfn)).symm
      exact ⟨by kernel_rfl, fun j t ht => by
        rw [Tryz.params7] at ht
        have hm : t ∈ [26, 27] := by simpa using Array.mem_of_getElem? ht
        have hall : ([26, 27].all fun u => !Tryz.prog.wantsStandIn u) = true := by kernel_rfl
        exact (show Tryz.prog.wantsStandIn t = false by simpa using List.all_eq_true.1 hall t hm)⟩)
    (by kernel_rfl)
end Go.Proofs.YtocoblgmjogalaaGreatDoor.tableauSays
namespace Go.Proofs.YtocoblgmjogalaaGreatDoor
theorem tableauSays_holds : Rows.TableauSaysCardSaid := tableauSays.card
end Go.Proofs.YtocoblgmjogalaaGreatDoor
