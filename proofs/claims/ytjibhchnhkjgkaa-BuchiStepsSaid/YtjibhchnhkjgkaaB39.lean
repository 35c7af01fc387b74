/- Own text of this workplace: a part of the proofs of this place's statements. -/
import Derived.Test.YtjibhchnhkjgkaaB38
import Derived.Test.YtjibhchnhkjgkaaB31
import Derived.Test.YtjibhchnhkjgkaaB24
set_option linter.unusedVariables false
set_option linter.unusedSimpArgs false
set_option linter.unusedSectionVars false
namespace Go.Au
open Go Go.RowKit

theorem callSet : callable Proofs.Try.prog 31 = true := by kernel_rfl
theorem set_c {w : World} {lo hi : Nat} {v : Value} {l : List Int} (hv : Ints lo hi w v l) (n : Nat) (hn : n ≤ 65536) (hl : l.length < 4611686018427387904) :
    Calls Proofs.Try.prog 31 [.int .i64 n, v].toArray w (Ret fun r w' => Kp w w' ∧ ∃ p q, r = pt p 0 ∧ w.heap.size ≤ p ∧ w.heap.size ≤ q ∧ SetV w' p q n (ofW n l)) := by
  refine call agree Proofs.Try.func31 rfl Proofs.Try.ntmps31 (by kernel_rfl) ?_
  refine cl callOf (of_c hv n hn hl) ?_
  rintro _ w1 ⟨k1, p, q, rfl, h1, h2, h3⟩
  exact ⟨k1, p, q, rfl, h1, h2, h3⟩

/-! ### both steps are one -/
theorem step_eq {n : Nat} {es : List Edge} {S : List Nat} {B : List Bool} {l : Int} (hB : ∀ j, B.getD j false = hasW S j) :
    ∀ (es : List Edge) (A : List Nat) (C : List Bool), (∀ e ∈ es, 0 ≤ e.frm ∧ e.frm < (n : Int) ∧ 0 ≤ e.to ∧ e.to < (n : Int)) → SetP n A → C.length = n → (∀ j, hasW A j = C.getD j false) →
      ∀ j, hasW (es.foldl (fun A e => if stepG S l e = true then putI n A e.to else A) A) j = (es.foldl (fun A e => if (B.getD e.frm.toNat false && goesS e l) = true then A.set e.to.toNat true else A) C).getD j false := by
  intro es
  induction es with
  | nil => intro A C _ _ _ h; exact h
  | cons e es ih =>
    intro A C hes hA hC h
    obtain ⟨h1, h2, h3, h4⟩ := hes e List.mem_cons_self
    simp only [List.foldl_cons]
    have hg : stepG S l e = (B.getD e.frm.toNat false && goesS e l) := by
      unfold stepG hasI
      rw [hB, decide_eq_true h1, Bool.true_and]
    rw [hg]
    split
    · have hp : putI n A e.to = putW A e.to.toNat := by unfold putI; rw [if_pos ⟨h3, h4⟩]
      have hto : e.to.toNat < n := by omega
      refine ih _ _ (fun x hx => hes x (List.mem_cons_of_mem _ hx)) (by rw [hp]; exact hA.put hto) (by rw [List.length_set]; exact hC) fun j => ?_
      rw [hp, hasW_put (hA.idx hto), h]
      rw [List.getD_eq_getElem?_getD, List.getD_eq_getElem?_getD, List.getElem?_set]
      by_cases hj : e.to.toNat = j
      · subst hj; simp [hC, hto]
      · rw [if_neg hj, decide_eq_false (fun h => hj h.symm), Bool.false_or]
    · exact ih _ _ (fun x hx => hes x (List.mem_cons_of_mem _ hx)) hA hC h
theorem step_one {n : Nat} {es : List Edge} {S : List Nat} {B : List Bool} {l : Int} (hB : ∀ j, B.getD j false = hasW S j) (hes : ∀ e ∈ es, 0 ≤ e.frm ∧ e.frm < (n : Int) ∧ 0 ≤ e.to ∧ e.to < (n : Int)) (j : Nat) :
    hasW (stepW n es S l) j = (stepB n es B l).getD j false :=
  step_eq (es := es) hB es _ _ hes (SetP.new n) (by simp) (fun j => by rw [hasW_new]; rw [List.getD_eq_getElem?_getD, List.getElem?_replicate]; split <;> rfl) j

def yesL (n : Nat) (S : List Nat) (i : Nat) : List Bool := (List.range n).map fun j => decide (j < i) && hasW S j
theorem yesL_len (n : Nat) (S : List Nat) (i : Nat) : (yesL n S i).length = n := by simp [yesL]
theorem yesL_zero (n : Nat) (S : List Nat) : yesL n S 0 = List.replicate n false := by
  apply List.ext_getElem
  · simp [yesL]
  · intro i h1 h2; simp [yesL]
theorem yesL_set (n : Nat) (S : List Nat) (i : Nat) (hi : i < n) : (yesL n S i).set i (hasW S i) = yesL n S (i + 1) := by
  apply List.ext_getElem
  · simp [yesL]
  · intro j h1 h2
    rw [List.getElem_set]
    simp only [yesL, List.getElem_map, List.getElem_range]
    split
    · rename_i h; subst h; simp
    · have : decide (j < i) = decide (j < i + 1) := by
        congr 1
        apply propext
        omega
      rw [this]
theorem yesL_done {n : Nat} {S : List Nat} (h : SetP n S) (j : Nat) : (yesL n S n).getD j false = hasW S j := by
  rw [List.getD_eq_getElem?_getD]
  by_cases hj : j < n
  · simp [yesL, hj]
  · rw [List.getElem?_eq_none (by rw [yesL_len]; omega)]
    cases hh : hasW S j with
    | false => rfl
    | true => exact absurd (h.top j hh) hj

set_option maxHeartbeats 8000000 in
theorem lawSteps_c {w : World} {pv iv ev sv fr : Value} {g : Buchi} {fl : List Int} (hv : Bin 0 w.heap.size w pv iv ev sv g) (hf : Ints 0 w.heap.size w fr fl) (hfl : fl.length * 8 ≤ 140737488351232) (l : Int) (hl : Let16 l) :
    Calls Proofs.Try.prog 7 [.agg #[pv, .int .i64 g.states, iv, ev, sv], fr, .int .u16 l].toArray w (Ret fun r w' => r = .bool true ∧ Kp w w') := by
  obtain ⟨pa, pc, rfl, -⟩ := id hv.props
  obtain ⟨ia, ic, rfl, -⟩ := id hv.init
  obtain ⟨ea, ec, rfl, -⟩ := id hv.edges
  obtain ⟨sa, sc, rfl, -⟩ := id hv.final
  obtain ⟨fa, fc, rfl, -⟩ := id hf
  have hbin : ∀ {W}, Kp w W → Bin 0 w.heap.size W (.slice pa g.props.length pc) (.slice ia g.init.length ic) (.slice ea g.edges.length ec) (.slice sa g.final.length sc) g := fun k => hv.chg k fun _ _ _ h => h
  have hint : ∀ {W}, Kp w W → Ints 0 w.heap.size W (.slice fa fl.length fc) fl := fun k => hf.chg k (fun _ _ _ h => h) (fun _ _ h => h)
  refine call agree Proofs.Try.func7 rfl Proofs.Try.ntmps7 (by kernel_rfl) ?_
  refine nd fun b3 w1 e1 s1 k1 m3 => ?_
  have m3 : Own w1 b3 31 [(.slice pa g.props.length pc), .int .i64 g.states, (.slice ia g.init.length ic), (.slice ea g.edges.length ec), (.slice sa g.final.length sc)] := m3
  refine ld agree (v := .agg #[(.slice pa g.props.length pc), .int .i64 g.states, (.slice ia g.init.length ic), (.slice ea g.edges.length ec), (.slice sa g.final.length sc)]) (Own.at_ (xs := [(.slice pa g.props.length pc), .int .i64 g.states, (.slice ia g.init.length ic), (.slice ea g.edges.length ec), (.slice sa g.final.length sc)]) (o := 0) m3 rfl) (by rfl) ?_
  refine cl callRGeneral (rgeneral_c w1 pa ia ea sa g.props.length pc g.init.length ic g.edges.length ec g.final.length sc g.states) ?_
  rintro _ w2 ⟨k2, qg, -, -, -, rfl⟩
  have hcall : Calls Proofs.Try.prog 21 [.agg #[(.slice pa g.props.length pc), .int .i64 g.states, (.slice ia g.init.length ic), (.slice ea g.edges.length ec), .slice (some ⟨qg, 0, none⟩) 1 1], .agg #[.slice none 0 0, .slice none 0 0]].toArray w2 (Ret fun r w' => Kp w2 w' ∧ ∃ b : Bool, r = .bool b ∧ (b = true → Few g.general ⟨[], []⟩)) :=
    few_c w2 (.slice pa g.props.length pc) (.slice ia g.init.length ic) ea (some ⟨qg, 0, none⟩) none none ec 1 0 0 g.general ⟨[], []⟩ (by decide) (by decide)
  refine cl callFew hcall ?_
  rintro _ w3 ⟨k3, fw, rfl, hfw⟩
  have K3 := (k1.trans k2).trans k3
  cases fw with
  | false => exact ⟨rfl, K3⟩
  | true =>
  have hF := hfw rfl
  have hst : g.states ≤ 60 := hF.st
  have hed : g.edges.length ≤ 300 := hF.ed
  refine sp (fun h1 => ?_) (fun h1 => ?_)
  · exact ⟨rfl, K3⟩
  have m3 := (k2.trans k3).own m3 id
  refine ld agree (Own.at_ (xs := [.int .i64 g.states]) (o := 1) m3 rfl) (by rfl) ?_
  refine sp (fun h2 => ?_) (fun h2 => ?_)
  · exact ⟨rfl, K3⟩
  obtain ⟨n, hn⟩ : ∃ n : Nat, g.states = n := ⟨g.states.toNat, by omega⟩
  have hn60 : n ≤ 60 := by omega
  refine cl callKnown (known_c w3) ?_
  rintro _ w4 ⟨rfl, k4⟩
  have K4 := K3.trans k4
  have m3 := k4.own m3 id
  refine ld agree (v := .int .i64 n) (Own.at_ (xs := [.int .i64 n]) (o := 1) m3 (by rw [hn]; rfl)) (by rfl) ?_
  refine cl callSet (set_c (hint K4) n (by omega) (by omega)) ?_
  rintro _ w5 ⟨k5, ps, qs, rfl, hps, hqs, hS⟩
  have K5 := K4.trans k5
  have m3 := k5.own m3 id
  refine ld agree (v := .int .i64 n) (Own.at_ (xs := [.int .i64 n]) (o := 1) m3 (by rw [hn]; rfl)) (by rfl) ?_
  refine aw (by omega) (by omega) ?_
  have hcall := set_c (hint K5) (n + 1) (by omega) (by omega)
  rewrite [show (((n + 1 : Nat) : Int)) = (n : Int) + 1 from rfl] at hcall
  refine cl callSet hcall ?_
  rintro _ w6 ⟨k6, po, qo, rfl, hpo, hqo, hO⟩
  have K6 := K5.trans k6
  have m3 := k6.own m3 id
  have hS := hS.chg k6 id id
  refine ptrNil agree rfl rfl rfl (by kernel_rfl) ?_
  refine ptrNil agree rfl rfl rfl (by kernel_rfl) ?_
  refine ld agree (v := .agg #[(.slice pa g.props.length pc), .int .i64 g.states, (.slice ia g.init.length ic), (.slice ea g.edges.length ec), (.slice sa g.final.length sc)]) (Own.at_ (xs := [(.slice pa g.props.length pc), .int .i64 g.states, (.slice ia g.init.length ic), (.slice ea g.edges.length ec), (.slice sa g.final.length sc)]) (o := 0) m3 rfl) (by rfl) ?_
  have hcall := lentBuchi_c (hbin K6)
  refine cl callLentBuchi hcall ?_
  rintro _ w7 ⟨k7, tp, ti, te, tf, rfl, hB⟩
  have hq := hB.props
  obtain ⟨vp, rfl, -⟩ := hq
  have hq := hB.init
  obtain ⟨vi, rfl, -⟩ := hq
  have hq := hB.edges
  obtain ⟨ve, rfl, ve1, ve2, -⟩ := hq
  have hq := hB.final
  obtain ⟨vf, rfl, -⟩ := hq
  refine nd fun bl w8 e8 s8 k8 ml => ?_
  refine st agree (cs := cellsL ti31.zero) ml rfl (Nat.le_refl 5) rfl ?_
  intro w9 s9 k9 ml
  have ml : Own w9 bl 31 [(.slice (some ⟨vp, 0, none⟩) g.props.length (g.props.length + 2)), .int .i64 g.states, (.slice (some ⟨vi, 0, none⟩) g.init.length (g.init.length + 2)), (.slice (some ⟨ve, 0, none⟩) g.edges.length (g.edges.length + 2)), (.slice (some ⟨vf, 0, none⟩) g.final.length (g.final.length + 2))] := ml
  have k79 : Kp w7 w9 := k8.new e8 k9
  have k69 := k7.trans k79
  have K9 := K6.trans k69
  have hB := hB.chg k79 (fun _ _ _ h => h)
  have m3 := k69.own m3 id
  have hS := hS.chg k69 id id
  have hO := hO.chg k69 id id
  have hBv : ∀ {W}, Kp w9 W → BuchiV w6.heap.size w7.heap.size W (.slice (some ⟨vp, 0, none⟩) g.props.length (g.props.length + 2)) (.slice (some ⟨vi, 0, none⟩) g.init.length (g.init.length + 2)) (.slice (some ⟨ve, 0, none⟩) g.edges.length (g.edges.length + 2)) (.slice (some ⟨vf, 0, none⟩) g.final.length (g.final.length + 2)) g := fun k => ((hB.chg k fun _ _ _ h => h).row (hbin (Chg.refl _ _))).gen
  refine ld agree (v := .agg #[(.slice (some ⟨vp, 0, none⟩) g.props.length (g.props.length + 2)), .int .i64 g.states, (.slice (some ⟨vi, 0, none⟩) g.init.length (g.init.length + 2)), (.slice (some ⟨ve, 0, none⟩) g.edges.length (g.edges.length + 2)), (.slice (some ⟨vf, 0, none⟩) g.final.length (g.final.length + 2))]) (Own.at_ (xs := [(.slice (some ⟨vp, 0, none⟩) g.props.length (g.props.length + 2)), .int .i64 g.states, (.slice (some ⟨vi, 0, none⟩) g.init.length (g.init.length + 2)), (.slice (some ⟨ve, 0, none⟩) g.edges.length (g.edges.length + 2)), (.slice (some ⟨vf, 0, none⟩) g.final.length (g.final.length + 2))]) (o := 0) ml rfl) (by rfl) ?_
  have hcall := step_c (hBv (Chg.refl _ _)) hS l hl
  refine cl callStep hcall ?_
  rintro xv w10 ⟨k10, hx0⟩
  have hx := fun _ : Unit => hx0
  clear hx0
  refine ld agree (v := .agg #[(.slice (some ⟨vp, 0, none⟩) g.props.length (g.props.length + 2)), .int .i64 g.states, (.slice (some ⟨vi, 0, none⟩) g.init.length (g.init.length + 2)), (.slice (some ⟨ve, 0, none⟩) g.edges.length (g.edges.length + 2)), (.slice (some ⟨vf, 0, none⟩) g.final.length (g.final.length + 2))]) (Own.at_ (xs := [(.slice (some ⟨vp, 0, none⟩) g.props.length (g.props.length + 2)), .int .i64 g.states, (.slice (some ⟨vi, 0, none⟩) g.init.length (g.init.length + 2)), (.slice (some ⟨ve, 0, none⟩) g.edges.length (g.edges.length + 2)), (.slice (some ⟨vf, 0, none⟩) g.final.length (g.final.length + 2))]) (o := 0) (k10.own ml id) rfl) (by rfl) ?_
  have hcall := step_c (hBv k10) (hS.chg k10 id id) l hl
  refine cl callStep hcall ?_
  rintro yv w11 ⟨k11, hy0⟩
  have hy := fun _ : Unit => hy0
  clear hy0
  have k911 := k10.trans k11
  refine ld agree (v := .agg #[(.slice (some ⟨vp, 0, none⟩) g.props.length (g.props.length + 2)), .int .i64 g.states, (.slice (some ⟨vi, 0, none⟩) g.init.length (g.init.length + 2)), (.slice (some ⟨ve, 0, none⟩) g.edges.length (g.edges.length + 2)), (.slice (some ⟨vf, 0, none⟩) g.final.length (g.final.length + 2))]) (Own.at_ (xs := [(.slice (some ⟨vp, 0, none⟩) g.props.length (g.props.length + 2)), .int .i64 g.states, (.slice (some ⟨vi, 0, none⟩) g.init.length (g.init.length + 2)), (.slice (some ⟨ve, 0, none⟩) g.edges.length (g.edges.length + 2)), (.slice (some ⟨vf, 0, none⟩) g.final.length (g.final.length + 2))]) (o := 0) (k911.own ml id) rfl) (by rfl) ?_
  have hcall := step_c (hBv k911) (hO.chg k911 id id) l hl
  refine cl callStep hcall ?_
  rintro zv w12 ⟨k12, hz⟩
  have hz0 : zv = .pointer none := by
    rcases hz with ⟨-, h⟩ | ⟨h, -⟩
    · exact h
    · exact absurd (h.2.1.trans hn) (by omega)
  clear hz
  subst hz0
  have k912 := k911.trans k12
  have m3 := k912.own m3 id
  have hS := hS.chg k912 id id
  refine ld agree (v := .agg #[(.slice (some ⟨vp, 0, none⟩) g.props.length (g.props.length + 2)), .int .i64 g.states, (.slice (some ⟨vi, 0, none⟩) g.init.length (g.init.length + 2)), (.slice (some ⟨ve, 0, none⟩) g.edges.length (g.edges.length + 2)), (.slice (some ⟨vf, 0, none⟩) g.final.length (g.final.length + 2))]) (Own.at_ (xs := [(.slice (some ⟨vp, 0, none⟩) g.props.length (g.props.length + 2)), .int .i64 g.states, (.slice (some ⟨vi, 0, none⟩) g.init.length (g.init.length + 2)), (.slice (some ⟨ve, 0, none⟩) g.edges.length (g.edges.length + 2)), (.slice (some ⟨vf, 0, none⟩) g.final.length (g.final.length + 2))]) (o := 0) (k912.own ml id) rfl) (by rfl) ?_
  refine ld agree (v := .agg #[(.slice pa g.props.length pc), .int .i64 g.states, (.slice ia g.init.length ic), (.slice ea g.edges.length ec), (.slice sa g.final.length sc)]) (Own.at_ (xs := [(.slice pa g.props.length pc), .int .i64 g.states, (.slice ia g.init.length ic), (.slice ea g.edges.length ec), (.slice sa g.final.length sc)]) (o := 0) m3 rfl) (by rfl) ?_
  have K12 := K9.trans k912
  have hcall := wholeBuchi_c (hB.chg k912 fun _ _ _ h => h) (hbin K12)
  refine cl callWholeBuchi hcall ?_
  rintro _ w13 ⟨rfl, k13⟩
  have K13 := K12.trans k13
  have m3 := k13.own m3 id
  have hS := hS.chg k13 id id
  refine ld agree (v := .int .i64 n) (Own.at_ (xs := [.int .i64 n]) (o := 1) m3 (by rw [hn]; rfl)) (by rfl) ?_
  refine cl callSet (set_c (hint K13) n (by omega) (by omega)) ?_
  rintro _ w14 ⟨k14, ps2, qs2, rfl, -, -, hS2⟩
  have hS := hS.chg k14 id id
  have hcall := setSame_c hS hS2
  refine cl callSetSame hcall ?_
  rintro _ w15 ⟨rfl, k15⟩
  have K15 := (K13.trans k14).trans k15
  have m3 := (k14.trans k15).own m3 id
  have hS := hS.chg k15 id id
  refine ptrNotNil agree rfl rfl rfl (by kernel_rfl) ?_
  refine ld agree (v := .agg #[(.slice pa g.props.length pc), .int .i64 g.states, (.slice ia g.init.length ic), (.slice ea g.edges.length ec), (.slice sa g.final.length sc)]) (Own.at_ (xs := [(.slice pa g.props.length pc), .int .i64 g.states, (.slice ia g.init.length ic), (.slice ea g.edges.length ec), (.slice sa g.final.length sc)]) (o := 0) m3 rfl) (by rfl) ?_
  have hcall := rcheckB_c (hbin K15).gen
  have hex : ∃ c, checkS g.general = c := ⟨_, rfl⟩
  obtain ⟨ck, hc⟩ := hex
  rewrite [hc] at hcall
  refine cl callRCheck hcall ?_
  rintro _ w16 ⟨rfl, k16⟩
  have K16 := K15.trans k16
  have m3 := k16.own m3 id
  have hS := hS.chg k16 id id
  have hnil : Unit → ¬ stepOk g n l → xv = .pointer none ∧ yv = .pointer none := fun _ hno => by
    refine ⟨?_, ?_⟩
    · rcases hx () with ⟨-, h⟩ | ⟨h, -⟩
      · exact h
      · exact absurd h hno
    · rcases hy () with ⟨-, h⟩ | ⟨h, -⟩
      · exact h
      · exact absurd h hno
  cases ck with
  | false =>
    have hxy := hnil () fun h => Bool.noConfusion (hc.symm.trans h.1)
    obtain ⟨rfl, rfl⟩ := hxy
    refine spT (by decide) ?_
    refine ptrNil agree rfl rfl rfl (by kernel_rfl) ?_
    refine ptrNil agree rfl rfl rfl (by kernel_rfl) ?_
    exact ⟨rfl, K16⟩
  | true =>
  refine spF (by decide) ?_
  have h8 : g.props.length ≤ 8 := check_len hc
  have hl0 := hl
  obtain ⟨hl1, hl2⟩ := hl0
  have hsv := shl_val h8
  obtain ⟨e1', e2', e3'⟩ := hsv
  refine arE (wrap64 (by omega) (by omega)) ?_
  refine ld agree (Own.at_ (xs := [(.slice pa g.props.length pc)]) (o := 0) m3 rfl) (by rfl) ?_
  refine ne (by omega) ?_
  refine arE (show _ = (2 : Int) ^ g.props.length by rw [e1']; exact wrap64 (by omega) (by omega)) ?_
  by_cases hlt : l < 2 ^ g.props.length
  case neg =>
    have hxy := hnil () fun h => hlt h.2.2
    obtain ⟨rfl, rfl⟩ := hxy
    refine spT (by omega) ?_
    refine ptrNil agree rfl rfl rfl (by kernel_rfl) ?_
    refine ptrNil agree rfl rfl rfl (by kernel_rfl) ?_
    exact ⟨rfl, K16⟩
  refine spF (by omega) ?_
  have hok : stepOk g n l := ⟨hc, hn.symm, hlt⟩
  have hex : ∃ px qx, xv = pt px 0 ∧ w9.heap.size ≤ px ∧ w9.heap.size ≤ qx ∧ SetV w10 px qx n (stepW n g.edges (ofW n fl) l) := by
    rcases hx () with ⟨h, -⟩ | ⟨-, h⟩
    · exact absurd hok h
    · exact h
  obtain ⟨px, qx, rfl, hpx, hqx, hX⟩ := hex
  have hey : ∃ px qx, yv = pt px 0 ∧ w10.heap.size ≤ px ∧ w10.heap.size ≤ qx ∧ SetV w11 px qx n (stepW n g.edges (ofW n fl) l) := by
    rcases hy () with ⟨h, -⟩ | ⟨-, h⟩
    · exact absurd hok h
    · exact h
  obtain ⟨py, qy, rfl, hpy, hqy, hY⟩ := hey
  clear hx hy hnil
  have hG := Good.of hc
  have hGe : ∀ e ∈ g.edges, 0 ≤ e.frm ∧ e.frm < (n : Int) ∧ 0 ≤ e.to ∧ e.to < (n : Int) := by rw [← hn]; exact hG.edges
  have hqx2 := hX.row.lt
  have hpx2 := hX.hdr.lt
  have k1216 : Kp w12 w16 := ((k13.trans k14).trans k15).trans k16
  have hX := hX.chg (k11.trans (k12.trans k1216)) id id
  have hY := hY.chg (k12.trans k1216) id id
  have zK9 := K9.size
  have z10 := k10.size
  have z11 := (k12.trans k1216).size
  have z12 := k11.size
  have hexX : ∃ X, stepW n g.edges (ofW n fl) l = X := ⟨_, rfl⟩
  obtain ⟨X, hXX⟩ := hexX
  rewrite [hXX] at hX hY
  have hexS : ∃ S, ofW n fl = S := ⟨_, rfl⟩
  obtain ⟨S, hSS⟩ := hexS
  rewrite [hSS] at hS hXX
  -- what it is in yes and no
  refine ld agree (v := .int .i64 n) (Own.at_ (xs := [.int .i64 n]) (o := 1) m3 (by rw [hn]; rfl)) (by rfl) ?_
  refine ms agree rfl rfl rfl rfl rfl rfl (by omega) (Int.le_refl _) (by show (1 : Int) * _ ≤ _; omega) (by omega) fun yb w17 e17 s17 k17 my => ?_
  have my : Own w17 yb 4 ((yesL n S 0).flatMap fB) := by
    have my : Own w17 yb 4 (rep [.bool false] n) := my
    rwa [repB, ← yesL_zero n S] at my
  refine loop agree (σ := Nat) (fun i => [(2, .int .u16 l), (3, pt b3 0), (8, pt ps 0), (11, pt px 0), (12, pt py 0), (15, .slice (some ⟨yb, 0, none⟩) n n), (16, .int .i64 i)]) (fun i W => Kp w16 W ∧ i ≤ n ∧ Own W yb 4 ((yesL n S i).flatMap fB)) (fun i => n - i) 0
    ⟨rfl, rfl, rfl, rfl, rfl, rfl, rfl, trivial⟩ ⟨k17, by omega, my⟩ ?_
  rintro i e0 wa ⟨ka, hi, mya⟩
  refine ld agree (v := .int .i64 n) (Own.at_ (xs := [.int .i64 n]) (o := 1) (ka.own m3 id) (by rw [hn]; rfl)) (by rfl) ?_
  refine sp (fun hlt => ?_) (fun hge => ?_)
  · have hi' : i < n := by omega
    have hI : hasI S (i : Int) = hasW S i := by unfold hasI; rw [decide_eq_true (by omega), Bool.true_and, Int.toNat_natCast]
    have hcall := has_c (hS.chg ka id id) i
    rewrite [hI] at hcall
    refine cl callHas hcall ?_
    rintro _ wb ⟨rfl, kb⟩
    refine ne ⟨by omega, by omega⟩ ?_
    have hyl := yesL_len n S i
    refine st agree (kb.own mya id) rfl (by rw [Int.toNat_natCast, flat_len (f := fB) (size := 1) (fun _ => rfl), hyl]; show 0 + i * 1 + 1 ≤ _; omega) rfl ?_
    intro wc sc' kc mc
    rewrite [Int.toNat_natCast] at mc
    have mc := setB (yesL n S i) i (hasW S i) (0 + i * 1) (by omega) ▸ mc
    refine aw (by omega) (by omega) ?_
    refine again (i + 1) ⟨rfl, rfl, rfl, rfl, rfl, rfl, rfl, trivial⟩ ⟨(ka.trans kb).newS kc fun j hj => by omega, by omega, ?_⟩ (by omega)
    rw [← yesL_set n S i hi']
    exact mc
  have hin : n = i := by omega
  subst hin
  have Ka := K16.trans ka
  have m3 := ka.own m3 id
  refine ld agree (v := .agg #[(.slice pa g.props.length pc), .int .i64 g.states, (.slice ia g.init.length ic), (.slice ea g.edges.length ec), (.slice sa g.final.length sc)]) (Own.at_ (xs := [(.slice pa g.props.length pc), .int .i64 g.states, (.slice ia g.init.length ic), (.slice ea g.edges.length ec), (.slice sa g.final.length sc)]) (o := 0) m3 rfl) (by rfl) ?_
  have hcall := rstep_c (hbin Ka).gen hG hn mya (yesL_len _ S _) l
  refine cl callRStep hcall ?_
  rintro _ wd ⟨kd, wb, rfl, hwb, mw⟩
  have hW : ∀ j, hasW X j = (stepB n g.edges (yesL n S n) l).getD j false := fun j => by rw [← hXX]; exact step_one (fun j => yesL_done hS.pl j) hGe j
  have hWl := stepB_len n g.edges (yesL n S n) l
  have hexT : ∃ T, stepB n g.edges (yesL n S n) l = T := ⟨_, rfl⟩
  obtain ⟨T, hTT⟩ := hexT
  rewrite [hTT] at mw hWl
  have hW : ∀ j, hasW X j = T.getD j false := fun j => by rw [← hTT]; exact hW j
  have kad := ka.trans kd
  have Kd := K16.trans kad
  have hX := hX.chg kad id id
  have hY := hY.chg kad id id
  have m3 := kd.own m3 id
  have m3lt : b3 < w9.heap.size := by
    have := K9.size
    have h1 := k1.size
    have h2 : w1.heap.size ≤ w9.heap.size := (k2.trans (k3.trans (k4.trans (k5.trans (k6.trans k69))))).size
    omega
  have zad := kad.size
  have zwb : w16.heap.size ≤ wb := by have := ka.size; omega
  have hwd : ∀ V, Kp wd V → Calls Proofs.Try.prog 36 [pt px 0].toArray V (Ret fun r w' => r = .int .i64 n ∧ Kp V w') := fun V hV => width_c (hX.chg hV id id)
  refine drawn0 agree mixed 13 (by kernel_rfl) (fun _ => False) ?_
  conv => whnf
  refine ptrNil agree rfl rfl rfl (by kernel_rfl) ?_
  conv => whnf
  refine ptrNil agree rfl rfl rfl (by kernel_rfl) ?_
  conv => whnf
  refine callk (v := .int .i64 n) rfl rfl rfl callWidth (fun V hV _ => hwd V hV) fun _ => ?_
  conv => whnf
  refine ldk (v := .int .i64 n) agree rfl rfl (fun V hV _ => Own.at_ (xs := [.int .i64 n]) (o := 1) (hV.own m3 id) (by rw [hn]; rfl)) (by rfl) fun _ => ?_
  conv => whnf
  refine spF (fun h => h rfl) ?_
  conv => whnf
  intro we ke _
  have hX := hX.chg ke id id
  have hY := hY.chg ke id id
  have m3 := ke.own m3 id
  have mw := ke.own mw id
  have Ke := Kd.trans ke
  have ze := ke.size
  have hTj : ∀ j (h : j < n), T[j]? = some (hasW X j) := fun j h => by rw [hW j, List.getD_eq_getElem?_getD]; simp [hWl, h]
  have hXI : ∀ (Z : List Nat) (j : Nat), hasI Z (j : Int) = hasW Z j := fun Z j => by unfold hasI; rw [decide_eq_true (by omega), Bool.true_and, Int.toNat_natCast]
  refine loop agree (σ := Nat × List Nat) (fun t => [(3, pt b3 0), (11, pt px 0), (12, pt py 0), (17, .slice (some ⟨wb, 0, none⟩) n n), (18, .int .i64 t.1)]) (fun t W => Chg (fun k => k = qx) we W ∧ t.1 ≤ n ∧ SetV W px qx n t.2 ∧ ∀ j, hasW t.2 j = (decide (t.1 ≤ j) && hasW X j)) (fun t => n - t.1) (0, X)
    ⟨rfl, rfl, rfl, rfl, rfl, trivial⟩ ⟨Chg.refl _ _, by simp, hX, fun j => by simp⟩ ?_
  rintro ⟨i, Z⟩ e0' wf ⟨kf, hi, hZ, hZX⟩
  simp only at hi hZ hZX
  have n3 := kf.own m3 (by omega)
  have nw := kf.own mw (by omega)
  have nY := hY.chg kf (by omega) (by omega)
  refine ld agree (v := .int .i64 n) (Own.at_ (xs := [.int .i64 n]) (o := 1) n3 (by rw [hn]; rfl)) (by rfl) ?_
  refine sp (fun hlt => ?_) (fun hge => ?_)
  · have hi' : i < n := by simp only at hlt; omega
    have hzi : hasW Z i = hasW X i := by rw [hZX i, decide_eq_true (Nat.le_refl _), Bool.true_and]
    have hc1 : ∀ V, Kp wf V → Calls Proofs.Try.prog 34 [pt px 0, .int .i64 i].toArray V (Ret fun r w' => r = .bool (hasW X i) ∧ Kp V w') := fun V hV => by
      have := has_c (hZ.chg hV id id) i
      rwa [hXI, hzi] at this
    have hc2 : ∀ V, Kp wf V → Calls Proofs.Try.prog 34 [pt py 0, .int .i64 i].toArray V (Ret fun r w' => r = .bool (hasW X i) ∧ Kp V w') := fun V hV => by
      have := has_c (nY.chg hV id id) i
      rwa [hXI] at this
    refine drawn0 agree mixed 18 (by kernel_rfl) (fun _ => False) ?_
    conv => whnf
    refine callk (v := .bool (hasW X i)) rfl rfl rfl callHas (fun V hV _ => hc1 V hV) fun _ => ?_
    conv => whnf
    refine ne ⟨by omega, by omega⟩ ?_
    conv => whnf
    refine ldk (v := .bool (hasW X i)) agree rfl rfl (fun V hV _ => by rw [Int.toNat_natCast]; exact flat_range (f := fB) (cs := []) (fun _ => rfl) (hTj i hi') (by rw [List.append_nil]; exact Own.all (hV.own nw id))) (by rfl) fun _ => ?_
    conv => whnf
    refine spF (fun h => h rfl) ?_
    conv => whnf
    refine callk (v := .bool (hasW X i)) rfl rfl rfl callHas (fun V hV _ => hc2 V hV) fun _ => ?_
    conv => whnf
    refine ne ⟨by omega, by omega⟩ ?_
    conv => whnf
    refine ldk (v := .bool (hasW X i)) agree rfl rfl (fun V hV _ => by rw [Int.toNat_natCast]; exact flat_range (f := fB) (cs := []) (fun _ => rfl) (hTj i hi') (by rw [List.append_nil]; exact Own.all (hV.own nw id))) (by rfl) fun _ => ?_
    conv => whnf
    refine spF (fun h => h rfl) ?_
    conv => whnf
    intro wg kg _
    have hcall := scut_c (hZ.chg kg id id) i
    refine cl callSCut hcall ?_
    rintro _ wh ⟨kh, hZ2⟩
    have hcu : cutI n Z (i : Int) = cutW Z i := by unfold cutI; rw [if_pos ⟨by omega, by omega⟩, Int.toNat_natCast]
    rewrite [hcu] at hZ2
    refine aw (by omega) (by omega) ?_
    refine again (i + 1, cutW Z i) ⟨rfl, rfl, rfl, rfl, rfl, trivial⟩ ⟨(kf.trans (kg.mono fun _ h => h.elim)).trans kh, by simp only; omega, hZ2, fun j => ?_⟩ (by simp only; omega)
    simp only
    rw [hasW_cut (n := n) (hZ.pl.idx hi'), hZX j]
    by_cases hj : j = i
    · rw [decide_eq_true hj, decide_eq_false (show ¬ i + 1 ≤ j by omega)]; rfl
    · rw [decide_eq_false hj, Bool.not_false, Bool.true_and]
      congr 1
      have : (i ≤ j) = (i + 1 ≤ j) := by apply propext; omega
      simp only [this]
  have hin : n = i := by simp only at hge; omega
  subst hin
  have hZ0 : ∀ j, hasW Z j = false := fun j => by
    rw [hZX j]
    cases hh : hasW X j with
    | false => simp
    | true => have := hX.pl.top j hh; rw [decide_eq_false (by omega)]; rfl
  have Kf : Kp w wf := Ke.newS kf fun j hj => by omega
  refine loop agree (σ := Nat) (fun t => [(3, pt b3 0), (11, pt px 0), (12, pt py 0), (17, .slice (some ⟨wb, 0, none⟩) n n), (19, .int .i64 t)]) (fun t W => Kp wf W ∧ t ≤ n) (fun t => n - t) 0
    ⟨rfl, rfl, rfl, rfl, rfl, trivial⟩ ⟨Chg.refl _ _, by omega⟩ ?_
  rintro t e0'' wi ⟨ki, ht⟩
  have r3 := ki.own n3 id
  have rw' := ki.own nw id
  refine ld agree (v := .int .i64 n) (Own.at_ (xs := [.int .i64 n]) (o := 1) r3 (by rw [hn]; rfl)) (by rfl) ?_
  refine sp (fun hlt => ?_) (fun hge => ?_)
  · have ht' : t < n := by omega
    have hc2 : ∀ V, Kp wi V → Calls Proofs.Try.prog 34 [pt py 0, .int .i64 t].toArray V (Ret fun r w' => r = .bool (hasW X t) ∧ Kp V w') := fun V hV => by
      have := has_c (nY.chg (ki.trans hV) id id) t
      rwa [hXI] at this
    refine drawn0 agree mixed 8 (by kernel_rfl) (fun _ => False) ?_
    conv => whnf
    refine callk (v := .bool (hasW X t)) rfl rfl rfl callHas (fun V hV _ => hc2 V hV) fun _ => ?_
    conv => whnf
    refine ne ⟨by omega, by omega⟩ ?_
    conv => whnf
    refine ldk (v := .bool (hasW X t)) agree rfl rfl (fun V hV _ => by rw [Int.toNat_natCast]; exact flat_range (f := fB) (cs := []) (fun _ => rfl) (hTj t ht') (by rw [List.append_nil]; exact Own.all (hV.own rw' id))) (by rfl) fun _ => ?_
    conv => whnf
    refine spF (fun h => h rfl) ?_
    conv => whnf
    intro wj kj _
    refine aw (by omega) (by omega) ?_
    exact again (t + 1) ⟨rfl, rfl, rfl, rfl, rfl, trivial⟩ ⟨ki.trans kj, by omega⟩ (by omega)
  have hcall := len0_c (hZ.chg ki id id) hZ0
  refine cl callLen hcall ?_
  rintro _ wk ⟨rfl, kk⟩
  refine spT rfl ?_
  exact ⟨rfl, (Kf.trans ki).trans kk⟩
end Go.Au
