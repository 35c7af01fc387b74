/- Own text of this workplace: a part of the proofs of this place's statements. -/
import Derived.Test.YtocoblgmjogalaaGreatDoorP0
import Derived.Test.YtocoblgmjogalaaGreatDoorG
import Derived.Test.YtocoblgmjogalaaGreatDoorP2
import Derived.Test.YtocoblgmjogalaaGreatDoorP3
import Derived.Test.YtocoblgmjogalaaGreatDoorP4
import Derived.Test.YtocoblgmjogalaaGreatDoorV64
import Derived.Test.YtocoblgmjogalaaGreatDoorP6
import Derived.Test.YtocoblgmjogalaaGreatDoorP7
set_option maxRecDepth 40000
set_option linter.unusedVariables false
set_option linter.unusedSimpArgs false
set_option linter.unusedSectionVars false
namespace Go.Au
open Go Go.RowKit
open Fm (idx)

/-! ### the document's form of a formula (printed by genV9.py) -/
theorem callTwo7 : callable Proofs.Tryz.prog 229 = true := by kernel_rfl
theorem two7_c {n lo hi o : Nat} {w : World} {f g : Fm} {v1 v2 : Value} (h1 : KidsN n lo hi w v1 f.kids) (h2 : KidsN n lo hi w v2 g.kids) (hl : lo ≤ w.heap.size) (hh : hi ≤ w.heap.size) :
    Calls Proofs.Tryz.prog 229 [.int .u8 o, fmA f v1, fmA g v2].toArray w (Ret fun r w' => Kp w w' ∧ ∃ v, r = fmA (.mk o ⟨#[]⟩ [f, g]) v ∧ KidsN (n + 1) lo w'.heap.size w' v [f, g]) := by
  have s1 := h1.slice
  have s2 := h2.slice
  obtain ⟨a1, c1, rfl, -⟩ := s1
  obtain ⟨a2, c2, rfl, -⟩ := s2
  refine call agree Proofs.Tryz.func229 rfl Proofs.Tryz.ntmps229 (by kernel_rfl) ?_
  refine nd fun b4 w1 e1 z1 k1 m1 => ?_
  have m1 : Own w1 b4 26 (fmC f (.slice a1 f.kids.length c1)) := m1
  refine nd fun b5 w2 e2 z2 k2 m2 => ?_
  have m2 : Own w2 b5 26 (fmC g (.slice a2 g.kids.length c2)) := m2
  refine nd fun b6 w3 e3 z3 k3 m3 => ?_
  refine ld agree (Own.all ((k2.trans k3).own m1 id)) (by rfl) ?_
  refine ld agree (Own.all (k3.own m2 id)) (by rfl) ?_
  refine ne (by decide) ?_
  refine nd fun bs w4 e4 z4 k4 m4 => ?_
  have m4 : Own w4 bs 26 (fmC f (.slice a1 f.kids.length c1) ++ fmC g (.slice a2 g.kids.length c2)) := m4
  refine st agree (k4.own m3 id) rfl (Nat.le_refl 3) rfl fun w5 e5 k5 m5 => ?_
  have m5 : Own w5 b6 26 (fmC (.mk o ⟨#[]⟩ [f, g]) (.slice (some ⟨bs, 0, none⟩) 2 2)) := m5
  refine ld agree (Own.all m5) (by rfl) ?_
  have k25 : Kp w2 w5 := (k3.trans k4).newS k5 (fun j hj => by subst hj; omega)
  have k15 : Kp w w5 := (k1.trans k2).trans k25
  refine ⟨k15, _, rfl, ?_⟩
  have m4' := k5.own m4 (by omega)
  have hz5 := k5.size
  exact kidsE_two m4' ⟨by omega, by omega⟩ ((h1.kp k15).mono (Nat.le_refl _) (by omega)) ((h2.kp k15).mono (Nat.le_refl _) (by omega))
theorem callOne7 : callable Proofs.Tryz.prog 228 = true := by kernel_rfl
theorem one7_c {n lo hi o : Nat} {w : World} {f : Fm} {v1 : Value} (h1 : KidsN n lo hi w v1 f.kids) (hl : lo ≤ w.heap.size) (hh : hi ≤ w.heap.size) :
    Calls Proofs.Tryz.prog 228 [.int .u8 o, fmA f v1].toArray w (Ret fun r w' => Kp w w' ∧ ∃ v, r = fmA (.mk o ⟨#[]⟩ [f]) v ∧ KidsN (n + 1) lo w'.heap.size w' v [f]) := by
  have s1 := h1.slice
  obtain ⟨a1, c1, rfl, -⟩ := s1
  refine call agree Proofs.Tryz.func228 rfl Proofs.Tryz.ntmps228 (by kernel_rfl) ?_
  refine nd fun b4 w1 e1 z1 k1 m1 => ?_
  have m1 : Own w1 b4 26 (fmC f (.slice a1 f.kids.length c1)) := m1
  refine nd fun b6 w3 e3 z3 k3 m3 => ?_
  refine ld agree (Own.all (k3.own m1 id)) (by rfl) ?_
  refine ne (by decide) ?_
  refine nd fun bs w4 e4 z4 k4 m4 => ?_
  have m4 : Own w4 bs 26 (fmC f (.slice a1 f.kids.length c1)) := m4
  refine st agree (k4.own m3 id) rfl (Nat.le_refl 3) rfl fun w5 e5 k5 m5 => ?_
  have m5 : Own w5 b6 26 (fmC (.mk o ⟨#[]⟩ [f]) (.slice (some ⟨bs, 0, none⟩) 1 1)) := m5
  refine ld agree (Own.all m5) (by rfl) ?_
  have k15 : Kp w w5 := (k1.trans (k3.trans k4)).newS k5 (fun j hj => by subst hj; omega)
  refine ⟨k15, _, rfl, ?_⟩
  have m4' := k5.own m4 (by omega)
  have hz5 := k5.size
  exact kidsE_one m4' ⟨by omega, by omega⟩ ((h1.kp k15).mono (Nat.le_refl _) (by omega))
def fmT (g : Fm) (y : Option Addr × Nat) : Value := fmA g (.slice y.1 g.kids.length y.2)
/-- a tree none of whose operators is 0 -/
def NZ (g : Fm) : Prop := ∀ x ∈ g.all, x.op ≠ 0
theorem nz_two {o : Nat} {f g : Fm} (ho : o ≠ 0) (hf : NZ f) (hg : NZ g) : NZ (Fm.two o f g) := fun x hx => by
  rcases Fm.mem_all.1 hx with rfl | ⟨y, hy, hxy⟩
  · exact ho
  · have hy : y ∈ [f, g] := hy
    simp only [List.mem_cons, List.not_mem_nil, or_false] at hy
    rcases hy with rfl | rfl
    · exact hf x hxy
    · exact hg x hxy
theorem nz_one {o : Nat} {f : Fm} (ho : o ≠ 0) (hf : NZ f) : NZ (Fm.one o f) := fun x hx => by
  rcases Fm.mem_all.1 hx with rfl | ⟨y, hy, hxy⟩
  · exact ho
  · have hy : y ∈ [f] := hy
    simp only [List.mem_singleton] at hy
    subst hy
    exact hf x hxy
theorem nz_nil {o : Nat} {n : ByteArray} (ho : o ≠ 0) : NZ (.mk o n []) := fun x hx => by
  rcases Fm.mem_all.1 hx with rfl | ⟨y, hy, -⟩
  · exact ho
  · cases hy
theorem form_nz : ∀ {f : Fm}, Fm.formed Fm.future f = true → NZ (Fm.form f).1 ∧ NZ (Fm.form f).2 := by
  intro f
  refine Fm.ind (P := fun f => Fm.formed Fm.future f = true → NZ (Fm.form f).1 ∧ NZ (Fm.form f).2) ?_ f
  intro o n k ih hf
  rcases Fm.formed_cases hf with ⟨h, -, rfl⟩ | ⟨rfl, rfl⟩ | ⟨h, -, x, rfl, hx⟩ | ⟨h, -, x, y, rfl, hx, hy⟩
  · rcases h with rfl | rfl <;> exact ⟨nz_nil (by decide), nz_nil (by decide)⟩
  · exact ⟨nz_nil (by decide), nz_one (by decide) (nz_nil (by decide))⟩
  · obtain ⟨x1, x2⟩ := ih x (by simp) hx
    rcases h with rfl | rfl | rfl | rfl
    · exact ⟨x2, x1⟩
    · exact ⟨nz_one (by decide) x1, nz_one (by decide) x2⟩
    · exact ⟨nz_two (by decide) (nz_nil (by decide)) x1, nz_two (by decide) (nz_nil (by decide)) x2⟩
    · exact ⟨nz_two (by decide) (nz_nil (by decide)) x1, nz_two (by decide) (nz_nil (by decide)) x2⟩
  · obtain ⟨x1, x2⟩ := ih x (by simp) hx
    obtain ⟨y1, y2⟩ := ih y (by simp) hy
    rcases h with rfl | rfl | rfl | rfl | rfl | rfl | rfl | rfl
    · exact ⟨nz_two (by decide) x1 y1, nz_two (by decide) x2 y2⟩
    · exact ⟨nz_two (by decide) x1 y1, nz_two (by decide) x2 y2⟩
    · exact ⟨nz_two (by decide) x2 y1, nz_two (by decide) x1 y2⟩
    · exact ⟨nz_two (by decide) (nz_two (by decide) x1 y1) (nz_two (by decide) x2 y2), nz_two (by decide) (nz_two (by decide) x1 y2) (nz_two (by decide) x2 y1)⟩
    · exact ⟨nz_two (by decide) x1 y1, nz_two (by decide) x2 y2⟩
    · exact ⟨nz_two (by decide) x1 y1, nz_two (by decide) x2 y2⟩
    · exact ⟨nz_two (by decide) y1 (nz_two (by decide) x1 y1), nz_two (by decide) y2 (nz_two (by decide) x2 y2)⟩
    · exact ⟨nz_two (by decide) y1 (nz_two (by decide) x1 y1), nz_two (by decide) y2 (nz_two (by decide) x2 y2)⟩
abbrev zeroF : List Value := fmC (.mk 0 ⟨#[]⟩ []) nilS
/-- a tree does not lie in a box that is still empty -/
theorem KidsN.off {b : Nat} {t : TypeId} {V V' : World} (hb : Own V b t zeroF) (hc : Chg (fun g => g = b) V V') : ∀ {m lo hi : Nat} {v : Value} {k : List Fm}, KidsN m lo hi V v k → (∀ x ∈ Fm.alls k, x.op ≠ 0) → KidsN m lo hi V' v k := by
  intro m
  induction m with
  | zero =>
    intro lo hi v k h _
    obtain ⟨a, c, rfl, hl, hx⟩ := h
    refine ⟨a, c, rfl, hl, fun i x hi => ?_⟩
    obtain ⟨bb, o, -, -, -, cs, -, -, ht⟩ := hx i x hi
    exact ht.elim
  | succ m ih =>
    intro lo hi v k h hz
    obtain ⟨a, c, rfl, hl, hx⟩ := h
    refine ⟨a, c, rfl, hl, fun i x hi => ?_⟩
    obtain ⟨bb, o, e1, e2, e3, cs, e4, hr, u, rfl, hk⟩ := hx i x hi
    have hxm := List.mem_of_getElem? hi
    have hne : bb ≠ b := fun he => by
      subst he
      have h0 := hr 0 (.int .u8 x.op) rfl
      have h2 := hr 2 u rfl
      rw [cell_of_row V bb _ _ t _ hb, List.getElem?_toArray] at h0 h2
      have hj := (List.getElem?_eq_some_iff.1 h2).1
      have hj3 : zeroF.length = 3 := rfl
      rw [show o + i * 3 + 0 = 0 by omega] at h0
      injection h0 with h0
      injection h0 with _ h0
      exact hz x (Fm.mem_alls.2 ⟨x, hxm, Fm.self_all x⟩) (Int.ofNat.inj h0).symm
    refine ⟨bb, o, e1, e2, e3, fmC x u, e4, hc.range hr hne, u, rfl, ih hk fun y hy => hz y (Fm.mem_alls.2 ⟨x, hxm, ?_⟩)⟩
    rw [all_kids]
    exact List.mem_cons_of_mem _ hy
/-- a tree that was made -/
def TreeP (base : Nat) (g : Fm) (y : Option Addr × Nat) (V : World) : Prop := NZ g ∧ ∃ m, KidsN m base V.heap.size V (.slice y.1 g.kids.length y.2) g.kids
theorem TreeP.kp {base : Nat} {g : Fm} {y : Option Addr × Nat} {V V' : World} (h : TreeP base g y V) (k : Kp V V') : TreeP base g y V' := by
  obtain ⟨hz, m, h⟩ := h
  exact ⟨hz, m, (KidsN.kp h k).mono (Nat.le_refl _) k.size⟩
theorem TreeP.off {base b : Nat} {t : TypeId} {g : Fm} {y : Option Addr × Nat} {V V' : World} (h : TreeP base g y V) (hb : Own V b t zeroF) (hc : Chg (fun g => g = b) V V') : TreeP base g y V' := by
  obtain ⟨hz, m, h⟩ := h
  exact ⟨hz, m, (KidsN.off hb hc h fun x hx => hz x (by rw [all_kids]; exact List.mem_cons_of_mem _ hx)).mono (Nat.le_refl _) hc.size⟩
theorem twoT_c {base o : Nat} {w : World} {f g : Fm} {y1 y2 : Option Addr × Nat} (ho : o ≠ 0) (h1 : TreeP base f y1 w) (h2 : TreeP base g y2 w) (hb : base ≤ w.heap.size) :
    Calls Proofs.Tryz.prog 229 [.int .u8 o, fmT f y1, fmT g y2].toArray w (Ret fun r w' => Kp w w' ∧ ∃ y, r = fmT (Fm.two o f g) y ∧ TreeP base (Fm.two o f g) y w') := by
  obtain ⟨z1, m1, h1⟩ := h1
  obtain ⟨z2, m2, h2⟩ := h2
  refine (two7_c (o := o) (h1.le (Nat.le_max_left m1 m2)) (h2.le (Nat.le_max_right m1 m2)) hb (Nat.le_refl _)).mono fun en w' hr => ?_
  cases en with
  | returned r =>
    obtain ⟨hk, v, rfl, hv⟩ := hr
    have hvs := hv.slice
    obtain ⟨va, vc, rfl, -⟩ := hvs
    exact ⟨hk, (va, vc), rfl, nz_two ho z1 z2, _, hv⟩
  | _ => exact hr.elim
theorem oneT_c {base o : Nat} {w : World} {f : Fm} {y1 : Option Addr × Nat} (ho : o ≠ 0) (h1 : TreeP base f y1 w) (hb : base ≤ w.heap.size) :
    Calls Proofs.Tryz.prog 228 [.int .u8 o, fmT f y1].toArray w (Ret fun r w' => Kp w w' ∧ ∃ y, r = fmT (Fm.one o f) y ∧ TreeP base (Fm.one o f) y w') := by
  obtain ⟨z1, m1, h1⟩ := h1
  refine (one7_c (o := o) h1 hb (Nat.le_refl _)).mono fun en w' hr => ?_
  cases en with
  | returned r =>
    obtain ⟨hk, v, rfl, hv⟩ := hr
    have hvs := hv.slice
    obtain ⟨va, vc, rfl, -⟩ := hvs
    exact ⟨hk, (va, vc), rfl, nz_one ho z1, _, hv⟩
  | _ => exact hr.elim
def turnN : Nat → Nat
  | 1 => 2 | 2 => 1 | 5 => 6 | 6 => 5 | 12 => 13 | 13 => 12 | o => o
def selO (nt : Bool) (o : Nat) : Nat := if nt = true then turnN o else o
def selT (nt : Bool) (p : Fm × Fm) : Fm := if nt = true then p.2 else p.1
theorem callTurned : callable Proofs.Tryz.prog 246 = true := by kernel_rfl
theorem turn_eq {o : Nat} {k : Int} {z : Nat} (h : (o : Int) = k) (e : turnN k.toNat = z) : (z : Int) = (turnN o : Nat) := by
  have : o = k.toNat := by omega
  rw [this, e]
theorem turned_c (w : World) (o : Nat) : Calls Proofs.Tryz.prog 246 [.int .u8 o].toArray w (Ret fun r w' => r = .int .u8 (turnN o : Nat) ∧ Kp w w') := by
  refine call agree Proofs.Tryz.func246 rfl Proofs.Tryz.ntmps246 (by kernel_rfl) ?_
  refine sp (fun h => ⟨congrArg (Value.int .u8) (turn_eq (z := 2) h rfl), Chg.refl _ _⟩) (fun h1 => ?_)
  refine sp (fun h => ⟨congrArg (Value.int .u8) (turn_eq (z := 1) h rfl), Chg.refl _ _⟩) (fun h2 => ?_)
  refine sp (fun h => ⟨congrArg (Value.int .u8) (turn_eq (z := 6) h rfl), Chg.refl _ _⟩) (fun h3 => ?_)
  refine sp (fun h => ⟨congrArg (Value.int .u8) (turn_eq (z := 5) h rfl), Chg.refl _ _⟩) (fun h4 => ?_)
  refine sp (fun h => ⟨congrArg (Value.int .u8) (turn_eq (z := 13) h rfl), Chg.refl _ _⟩) (fun h5 => ?_)
  refine sp (fun h => ⟨congrArg (Value.int .u8) (turn_eq (z := 12) h rfl), Chg.refl _ _⟩) (fun h6 => ?_)
  have : turnN o = o := by
    unfold turnN
    split <;> first | rfl | omega
  exact ⟨congrArg (Value.int .u8) (by rw [this]), Chg.refl _ _⟩
theorem callIf1 : callable Proofs.Tryz.prog 227 = true := by kernel_rfl
theorem if1_c (w : World) (o : Nat) (nt : Bool) : Calls Proofs.Tryz.prog 227 [.int .u8 o, .bool nt].toArray w (Ret fun r w' => r = .int .u8 (selO nt o : Nat) ∧ Kp w w') := by
  refine call agree Proofs.Tryz.func227 rfl Proofs.Tryz.ntmps227 (by kernel_rfl) ?_
  cases nt with
  | true =>
    refine cl callTurned (turned_c w o) ?_
    rintro _ w2 ⟨rfl, k2⟩
    exact ⟨rfl, k2⟩
  | false => exact ⟨rfl, Chg.refl _ _⟩
theorem callLeaf : callable Proofs.Tryz.prog 226 = true := by kernel_rfl
theorem leaf_c (w : World) (o : Nat) : Calls Proofs.Tryz.prog 226 [.int .u8 o].toArray w (Ret fun r w' => r = fmT (Fm.lf o) (none, 0) ∧ Kp w w') := by
  refine call agree Proofs.Tryz.func226 rfl Proofs.Tryz.ntmps226 (by kernel_rfl) ?_
  refine nd fun b w1 e1 s1 k1 m1 => ?_
  refine st agree m1 rfl (Nat.le_refl 3) rfl fun w2 e2 k2 m2 => ?_
  have m2 : Own w2 b 26 (fmC (Fm.lf o) nilS) := m2
  refine ld agree (Own.all m2) (by rfl) ?_
  exact ⟨rfl, k1.newS k2 (fun j hj => by subst hj; omega)⟩
theorem leafT (base : Nat) (w : World) {o : Nat} (ho : o ≠ 0) : TreeP base (Fm.lf o) (none, 0) w := ⟨nz_nil ho, 0, none, 0, rfl, Nat.le_refl 0, fun i x hx => by cases hx⟩
theorem form_kids (f : Fm) : Fm.form f = Fm.comb f.op f.name (f.kids.map Fm.form) := by obtain ⟨o, n, k⟩ := f; simp only [Fm.form, Fm.forms_map]; rfl
theorem callForm7 : callable Proofs.Tryz.prog 179 = true := by kernel_rfl
set_option maxHeartbeats 16000000 in
theorem form7_c : ∀ (n lo hi : Nat) (w : World) (v : Value) (f : Fm) (nt : Bool) (base : Nat), KidsN n lo hi w v f.kids → Fm.formed Fm.future f = true → hi ≤ w.heap.size → base ≤ w.heap.size →
    Calls Proofs.Tryz.prog 179 [fmA f v, .bool nt].toArray w (Ret fun r w' => Kp w w' ∧ ∃ y, r = fmT (selT nt (Fm.form f)) y ∧ TreeP base (selT nt (Fm.form f)) y w') := by
  intro n
  induction n using Nat.strongRecOn with
  | ind n ih =>
    intro lo hi w v f nt base h hf hhi hbase
    obtain ⟨a, c, rfl, hc⟩ := h.slice
    have hfk := form_kids f
    refine call agree Proofs.Tryz.func179 rfl Proofs.Tryz.ntmps179 (by kernel_rfl) ?_
    refine nd fun p w1 e1 s1 k1 m1 => ?_
    have m1 : Own w1 p 26 (fmC f (.slice a f.kids.length c)) := m1
    refine nd fun bR w2 e2 s2 k2 mR => ?_
    have mR : Own w2 bR 26 (fmC (.mk 0 ⟨#[]⟩ []) nilS) := mR
    have m1 := k2.own m1 id
    have k02 := k1.trans k2
    have hzR : w.heap.size ≤ bR := by omega
    have hz2 := k02.size
    refine ld agree (Own.at_ (xs := [.int .u8 f.op]) (o := 0) m1 rfl) (by rfl) ?_
    have hcases : ((f.op = 1 ∨ f.op = 2) ∧ f.kids = []) ∨ (f.op = 3 ∧ f.kids = []) ∨ ((f.op = 4 ∨ f.op = 9 ∨ f.op = 10 ∨ f.op = 11) ∧ ∃ x, f.kids = [x] ∧ Fm.formed Fm.future x = true) ∨ ((f.op = 5 ∨ f.op = 6 ∨ f.op = 7 ∨ f.op = 8 ∨ f.op = 12 ∨ f.op = 13 ∨ f.op = 14 ∨ f.op = 15) ∧ ∃ x y, f.kids = [x, y] ∧ Fm.formed Fm.future x = true ∧ Fm.formed Fm.future y = true) := by
      obtain ⟨o, nm, k⟩ := f
      rcases Fm.formed_cases hf with ⟨h, -, h2⟩ | ⟨h, h2⟩ | ⟨h, -, x, h2, h3⟩ | ⟨h, -, x, y, h2, h3, h4⟩
      · exact .inl ⟨h, h2⟩
      · exact .inr (.inl ⟨h, h2⟩)
      · exact .inr (.inr (.inl ⟨h, x, h2, h3⟩))
      · exact .inr (.inr (.inr ⟨h, x, y, h2, h3, h4⟩))
    have fin : ∀ (W : World) (g : Fm) (y : Option Addr × Nat), Kp w2 W → TreeP base g y W → g = selT nt (Fm.form f) → ∀ W', Chg (fun k => k = bR) W W' → Kp w W' ∧ ∃ y', fmT g y = fmT (selT nt (Fm.form f)) y' ∧ TreeP base (selT nt (Fm.form f)) y' W' := fun W g y hk hT hg W' hc => by
      have hW : Kp w W' := (k02.trans hk).newS hc fun g hg => by subst hg; exact hzR
      subst hg
      exact ⟨hW, y, rfl, hT.off (hk.own mR id) hc⟩
    rcases hcases with ⟨ho, hk⟩ | ⟨ho, hk⟩ | ⟨ho, x, hk, hfx⟩ | ⟨ho, x, y, hk, hfx, hfy⟩
    · rcases ho with ho | ho
      · repeat (first | (refine spF (by omega) ?_) | (refine spT (by omega) ?_))
        refine ld agree (Own.at_ (xs := [.int .u8 f.op]) (o := 0) m1 rfl) (by rfl) ?_
        refine cl callIf1 (if1_c w2 f.op nt) ?_
        rintro _ w3 ⟨rfl, k3⟩
        refine cl callLeaf (leaf_c w3 (selO nt f.op)) ?_
        rintro _ w4 ⟨rfl, k4⟩
        refine st agree ((k3.trans k4).own mR id) rfl (Nat.le_refl 3) rfl fun wz ez kz mz => ?_
        have mz : Own wz bR 26 (fmC (Fm.lf (selO nt f.op)) (.slice (((none, 0) : Option Addr × Nat)).1 (Fm.lf (selO nt f.op)).kids.length (((none, 0) : Option Addr × Nat)).2)) := mz
        refine ld agree (Own.all mz) (by rfl) ?_
        exact fin w4 (Fm.lf (selO nt f.op)) ((none, 0) : Option Addr × Nat) (k3.trans k4) (leafT base w4 (by rw [ho]; cases nt <;> decide)) (by rw [hfk, ho, hk]; cases nt <;> rfl) wz kz
      · repeat (first | (refine spF (by omega) ?_) | (refine spT (by omega) ?_))
        refine ld agree (Own.at_ (xs := [.int .u8 f.op]) (o := 0) m1 rfl) (by rfl) ?_
        refine cl callIf1 (if1_c w2 f.op nt) ?_
        rintro _ w3 ⟨rfl, k3⟩
        refine cl callLeaf (leaf_c w3 (selO nt f.op)) ?_
        rintro _ w4 ⟨rfl, k4⟩
        refine st agree ((k3.trans k4).own mR id) rfl (Nat.le_refl 3) rfl fun wz ez kz mz => ?_
        have mz : Own wz bR 26 (fmC (Fm.lf (selO nt f.op)) (.slice (((none, 0) : Option Addr × Nat)).1 (Fm.lf (selO nt f.op)).kids.length (((none, 0) : Option Addr × Nat)).2)) := mz
        refine ld agree (Own.all mz) (by rfl) ?_
        exact fin w4 (Fm.lf (selO nt f.op)) ((none, 0) : Option Addr × Nat) (k3.trans k4) (leafT base w4 (by rw [ho]; cases nt <;> decide)) (by rw [hfk, ho, hk]; cases nt <;> rfl) wz kz
    · repeat (first | (refine spF (by omega) ?_) | (refine spT (by omega) ?_))
      refine ld agree (Own.at_ (xs := [.string f.name]) (o := 1) m1 rfl) (by rfl) ?_
      refine nd fun b5 w3 e3 s3 k3 m5 => ?_
      refine st agree m5 rfl (Nat.le_refl 3) rfl fun w4 e4 k4 m5 => ?_
      have m5 : Own w4 b5 26 (fmC (.mk 3 f.name []) nilS) := m5
      have k24 : Kp w2 w4 := k3.newS k4 (fun j hj => by subst hj; omega)
      have hT4 : TreeP base (.mk 3 f.name []) (none, 0) w4 := ⟨nz_nil (by decide), 0, none, 0, rfl, Nat.le_refl 0, fun i x hx => by cases hx⟩
      rcases nt with _ | _
      · refine ld agree (Own.all m5) (by rfl) ?_
        refine st agree ((k24).own mR id) rfl (Nat.le_refl 3) rfl fun wz ez kz mz => ?_
        have mz : Own wz bR 26 (fmC (Fm.mk 3 f.name []) (.slice (((none, 0) : Option Addr × Nat)).1 (Fm.mk 3 f.name []).kids.length (((none, 0) : Option Addr × Nat)).2)) := mz
        refine ld agree (Own.all mz) (by rfl) ?_
        exact fin w4 (Fm.mk 3 f.name []) ((none, 0) : Option Addr × Nat) (k24) (hT4) (by rw [hfk, ho, hk]; rfl) wz kz
      · refine ld (v := fmT (.mk 3 f.name []) ((none, 0) : Option Addr × Nat)) agree (Own.all m5) (by rfl) ?_
        have hc4 := oneT_c (o := 4) (by decide) hT4 (by have := k24.size; omega)
        refine cl callOne7 hc4 ?_
        rintro _ w5 ⟨k5, y, rfl, hT5⟩
        refine st agree ((k24.trans k5).own mR id) rfl (Nat.le_refl 3) rfl fun wz ez kz mz => ?_
        have mz : Own wz bR 26 (fmC (Fm.one 4 (.mk 3 f.name [])) (.slice (y).1 (Fm.one 4 (.mk 3 f.name [])).kids.length (y).2)) := mz
        refine ld agree (Own.all mz) (by rfl) ?_
        exact fin w5 (Fm.one 4 (.mk 3 f.name [])) y (k24.trans k5) (hT5) (by rw [hfk, ho, hk]; rfl) wz kz
    · have hx0 : f.kids[0]? = some x := by rw [hk]; rfl
      obtain _ | n := n
      · exact (h.kid0 hx0).elim
      obtain ⟨b, o, u, rfl, -, -, hrd, hku⟩ := h.kid hx0
      obtain ⟨ua, uc, rfl, -⟩ := hku.slice
      have hkl : f.kids.length = 1 := by rw [hk]; rfl
      rcases ho with ho | ho | ho | ho
      · repeat (first | (refine spF (by omega) ?_) | (refine spT (by omega) ?_))
        refine ld agree (Own.at_ (xs := [.slice (some ⟨b, o, none⟩) f.kids.length c]) (o := 2) m1 rfl) (by rfl) ?_
        refine ne ⟨by decide, by rw [hkl]; decide⟩ ?_
        refine ld (v := fmA x (.slice ua x.kids.length uc)) agree (k02.range hrd id) (by rfl) ?_
        refine cl callForm7 (ih n (by omega) lo hi w2 _ x (!nt) base (hku.kp k02) hfx (by omega) (by omega)) ?_
        rintro _ w3 ⟨k3, y, rfl, hT3⟩
        refine st agree ((k3).own mR id) rfl (Nat.le_refl 3) rfl fun wz ez kz mz => ?_
        have mz : Own wz bR 26 (fmC (selT (!nt) (Fm.form x)) (.slice (y).1 (selT (!nt) (Fm.form x)).kids.length (y).2)) := mz
        refine ld agree (Own.all mz) (by rfl) ?_
        exact fin w3 (selT (!nt) (Fm.form x)) y (k3) (hT3) (by rw [hfk, ho, hk]; cases nt <;> rfl) wz kz
      · repeat (first | (refine spF (by omega) ?_) | (refine spT (by omega) ?_))
        refine ld agree (Own.at_ (xs := [.slice (some ⟨b, o, none⟩) f.kids.length c]) (o := 2) m1 rfl) (by rfl) ?_
        refine ne ⟨by decide, by rw [hkl]; decide⟩ ?_
        refine ld (v := fmA x (.slice ua x.kids.length uc)) agree (k02.range hrd id) (by rfl) ?_
        refine cl callForm7 (ih n (by omega) lo hi w2 _ x nt base (hku.kp k02) hfx (by omega) (by omega)) ?_
        rintro _ w3 ⟨k3, y, rfl, hT3⟩
        refine cl callOne7 (oneT_c (o := 9) (by decide) hT3 (by have := k3.size; omega)) ?_
        rintro _ w4 ⟨k4, y4, rfl, hT4⟩
        refine st agree ((k3.trans k4).own mR id) rfl (Nat.le_refl 3) rfl fun wz ez kz mz => ?_
        have mz : Own wz bR 26 (fmC (Fm.one 9 (selT nt (Fm.form x))) (.slice (y4).1 (Fm.one 9 (selT nt (Fm.form x))).kids.length (y4).2)) := mz
        refine ld agree (Own.all mz) (by rfl) ?_
        exact fin w4 (Fm.one 9 (selT nt (Fm.form x))) y4 (k3.trans k4) (hT4) (by rw [hfk, ho, hk]; cases nt <;> rfl) wz kz
      · repeat (first | (refine spF (by omega) ?_) | (refine spT (by omega) ?_))
        refine drawn0 agree mixed 12 (by kernel_rfl) (fun _ => False) ?_
        conv => whnf
        refine callk rfl rfl rfl callIf1 (fun V _ _ => if1_c V 12 nt) fun _ => ?_
        conv => whnf
        refine callk rfl rfl rfl callIf1 (fun V _ _ => if1_c V 1 nt) fun _ => ?_
        conv => whnf
        refine callk rfl rfl rfl callLeaf (fun V _ _ => leaf_c V (selO nt 1)) fun _ => ?_
        conv => whnf
        refine ldk agree rfl rfl (fun V hV _ => Own.at_ (xs := [.slice (some ⟨b, o, none⟩) f.kids.length c]) (o := 2) (hV.own m1 id) rfl) (by rfl) fun _ => ?_
        conv => whnf
        refine ne ⟨by decide, by rw [hkl]; decide⟩ ?_
        conv => whnf
        refine ldk (v := fmA x (.slice ua x.kids.length uc)) agree rfl rfl (fun V hV _ => (k02.trans hV).range hrd id) (by rfl) fun _ => ?_
        conv => whnf
        refine callf (τ := Option Addr × Nat) (hne := ⟨(none, 0)⟩) (fun q => fmT (selT nt (Fm.form x)) q) (TreeP base (selT nt (Fm.form x))) rfl rfl rfl (fun q V V' h k => h.kp k) callForm7 (fun V hV _ => ih n (by omega) lo hi V _ x nt base (hku.kp (k02.trans hV)) hfx (by have := hV.size; omega) (by have := hV.size; omega)) fun y10 D10 hD10 => ?_
        conv => whnf
        refine callf (τ := Option Addr × Nat) (hne := ⟨(none, 0)⟩) (fun q => fmT (Fm.two (selO nt 12) (Fm.lf (selO nt 1)) (selT nt (Fm.form x))) q) (TreeP base (Fm.two (selO nt 12) (Fm.lf (selO nt 1)) (selT nt (Fm.form x)))) rfl rfl rfl (fun q V V' h k => h.kp k) callTwo7 (fun V hV hD => twoT_c (o := (selO nt 12)) (by cases nt <;> decide) (leafT base V (by cases nt <;> decide)) (hD10 V (hD 10 (by kernel_rfl))) (by have := hV.size; omega)) fun y11 D11 hD11 => ?_
        conv => whnf
        intro V hV hd
        refine st agree ((hV).own mR id) rfl (Nat.le_refl 3) rfl fun wz ez kz mz => ?_
        have mz : Own wz bR 26 (fmC (Fm.two (selO nt 12) (Fm.lf (selO nt 1)) (selT nt (Fm.form x))) (.slice (y11).1 (Fm.two (selO nt 12) (Fm.lf (selO nt 1)) (selT nt (Fm.form x))).kids.length (y11).2)) := mz
        refine ld agree (Own.all mz) (by rfl) ?_
        exact fin V (Fm.two (selO nt 12) (Fm.lf (selO nt 1)) (selT nt (Fm.form x))) y11 (hV) (hD11 V (hd 11)) (by rw [hfk, ho, hk]; cases nt <;> rfl) wz kz
      · repeat (first | (refine spF (by omega) ?_) | (refine spT (by omega) ?_))
        refine drawn0 agree mixed 12 (by kernel_rfl) (fun _ => False) ?_
        conv => whnf
        refine callk rfl rfl rfl callIf1 (fun V _ _ => if1_c V 13 nt) fun _ => ?_
        conv => whnf
        refine callk rfl rfl rfl callIf1 (fun V _ _ => if1_c V 2 nt) fun _ => ?_
        conv => whnf
        refine callk rfl rfl rfl callLeaf (fun V _ _ => leaf_c V (selO nt 2)) fun _ => ?_
        conv => whnf
        refine ldk agree rfl rfl (fun V hV _ => Own.at_ (xs := [.slice (some ⟨b, o, none⟩) f.kids.length c]) (o := 2) (hV.own m1 id) rfl) (by rfl) fun _ => ?_
        conv => whnf
        refine ne ⟨by decide, by rw [hkl]; decide⟩ ?_
        conv => whnf
        refine ldk (v := fmA x (.slice ua x.kids.length uc)) agree rfl rfl (fun V hV _ => (k02.trans hV).range hrd id) (by rfl) fun _ => ?_
        conv => whnf
        refine callf (τ := Option Addr × Nat) (hne := ⟨(none, 0)⟩) (fun q => fmT (selT nt (Fm.form x)) q) (TreeP base (selT nt (Fm.form x))) rfl rfl rfl (fun q V V' h k => h.kp k) callForm7 (fun V hV _ => ih n (by omega) lo hi V _ x nt base (hku.kp (k02.trans hV)) hfx (by have := hV.size; omega) (by have := hV.size; omega)) fun y10 D10 hD10 => ?_
        conv => whnf
        refine callf (τ := Option Addr × Nat) (hne := ⟨(none, 0)⟩) (fun q => fmT (Fm.two (selO nt 13) (Fm.lf (selO nt 2)) (selT nt (Fm.form x))) q) (TreeP base (Fm.two (selO nt 13) (Fm.lf (selO nt 2)) (selT nt (Fm.form x)))) rfl rfl rfl (fun q V V' h k => h.kp k) callTwo7 (fun V hV hD => twoT_c (o := (selO nt 13)) (by cases nt <;> decide) (leafT base V (by cases nt <;> decide)) (hD10 V (hD 10 (by kernel_rfl))) (by have := hV.size; omega)) fun y11 D11 hD11 => ?_
        conv => whnf
        intro V hV hd
        refine st agree ((hV).own mR id) rfl (Nat.le_refl 3) rfl fun wz ez kz mz => ?_
        have mz : Own wz bR 26 (fmC (Fm.two (selO nt 13) (Fm.lf (selO nt 2)) (selT nt (Fm.form x))) (.slice (y11).1 (Fm.two (selO nt 13) (Fm.lf (selO nt 2)) (selT nt (Fm.form x))).kids.length (y11).2)) := mz
        refine ld agree (Own.all mz) (by rfl) ?_
        exact fin V (Fm.two (selO nt 13) (Fm.lf (selO nt 2)) (selT nt (Fm.form x))) y11 (hV) (hD11 V (hd 11)) (by rw [hfk, ho, hk]; cases nt <;> rfl) wz kz
    · have hx0 : f.kids[0]? = some x := by rw [hk]; rfl
      have hx1 : f.kids[1]? = some y := by rw [hk]; rfl
      obtain _ | n := n
      · exact (h.kid0 hx0).elim
      obtain ⟨b, o, u, rfl, -, -, hrd, hku⟩ := h.kid hx0
      obtain ⟨b', o', v, he, -, -, hrd2, hkv⟩ := h.kid hx1
      injection he with he
      injection he with he1 he2
      subst he1 he2
      obtain ⟨ua, uc, rfl, -⟩ := hku.slice
      obtain ⟨va, vc, rfl, -⟩ := hkv.slice
      have hkl : f.kids.length = 2 := by rw [hk]; rfl
      have hop : 5 ≤ f.op ∧ f.op ≤ 15 ∧ f.op ≠ 9 ∧ f.op ≠ 10 ∧ f.op ≠ 11 := by omega
      iterate 7 refine spF (by omega) ?_
      refine ld agree (Own.at_ (xs := [.slice (some ⟨b, o, none⟩) f.kids.length c]) (o := 2) m1 rfl) (by rfl) ?_
      refine ne ⟨by decide, by rw [hkl]; decide⟩ ?_
      refine ld (v := fmA x (.slice ua x.kids.length uc)) agree (k02.range hrd id) (by rfl) ?_
      refine nd fun bA w3 e3 s3 k3 mA => ?_
      refine st agree mA rfl (Nat.le_refl 3) rfl fun w4 e4 k4 mA => ?_
      have mA : Own w4 bA 26 (fmC x (.slice ua x.kids.length uc)) := mA
      have k24 : Kp w2 w4 := k3.newS k4 (fun j hj => by subst hj; omega)
      have m14 := k24.own m1 id
      refine ld agree (Own.at_ (xs := [.slice (some ⟨b, o, none⟩) f.kids.length c]) (o := 2) m14 rfl) (by rfl) ?_
      refine ne ⟨by decide, by rw [hkl]; decide⟩ ?_
      refine ld (v := fmA y (.slice va y.kids.length vc)) agree ((k02.trans k24).range hrd2 id) (by rfl) ?_
      refine nd fun bB w5 e5 s5 k5 mB => ?_
      refine st agree mB rfl (Nat.le_refl 3) rfl fun w6 e6 k6 mB => ?_
      have mB : Own w6 bB 26 (fmC y (.slice va y.kids.length vc)) := mB
      have k46 : Kp w4 w6 := k5.newS k6 (fun j hj => by subst hj; omega)
      have mA := k46.own mA id
      have k26 := k24.trans k46
      have k06 := k02.trans k26
      have m16 := k26.own m1 id
      have hz6 := k26.size
      have hzAB : bA < w6.heap.size ∧ bB < w6.heap.size := by omega
      refine ld agree (Own.at_ (xs := [.int .u8 f.op]) (o := 0) m16 rfl) (by rfl) ?_
      rcases ho with ho | ho | ho | ho | ho | ho | ho | ho
      · repeat (first | (refine spF (by omega) ?_) | (refine spT (by omega) ?_))
        refine drawn0 agree mixed 11 (by kernel_rfl) (fun _ => False) ?_
        conv => whnf
        refine ldk agree rfl rfl (fun V hV _ => Own.at_ (xs := [.int .u8 f.op]) (o := 0) (hV.own m16 id) rfl) (by rfl) fun _ => ?_
        conv => whnf
        refine callk rfl rfl rfl callIf1 (fun V _ _ => if1_c V f.op nt) fun _ => ?_
        conv => whnf
        refine ldk (v := fmA x (.slice ua x.kids.length uc)) agree rfl rfl (fun V hV _ => Own.all (hV.own mA id)) (by rfl) fun _ => ?_
        conv => whnf
        refine callf (τ := Option Addr × Nat) (hne := ⟨(none, 0)⟩) (fun q => fmT (selT nt (Fm.form x)) q) (TreeP base (selT nt (Fm.form x))) rfl rfl rfl (fun q V V' h k => h.kp k) callForm7 (fun V hV _ => ih n (by omega) lo hi V _ x nt base (hku.kp (k06.trans hV)) hfx (by have := hV.size; omega) (by have := hV.size; omega)) fun y6 D6 hD6 => ?_
        conv => whnf
        refine ldk (v := fmA y (.slice va y.kids.length vc)) agree rfl rfl (fun V hV _ => Own.all (hV.own mB id)) (by rfl) fun _ => ?_
        conv => whnf
        refine callf (τ := Option Addr × Nat) (hne := ⟨(none, 0)⟩) (fun q => fmT (selT nt (Fm.form y)) q) (TreeP base (selT nt (Fm.form y))) rfl rfl rfl (fun q V V' h k => h.kp k) callForm7 (fun V hV _ => ih n (by omega) lo hi V _ y nt base (hkv.kp (k06.trans hV)) hfy (by have := hV.size; omega) (by have := hV.size; omega)) fun y9 D9 hD9 => ?_
        conv => whnf
        refine callf (τ := Option Addr × Nat) (hne := ⟨(none, 0)⟩) (fun q => fmT (Fm.two (selO nt f.op) (selT nt (Fm.form x)) (selT nt (Fm.form y))) q) (TreeP base (Fm.two (selO nt f.op) (selT nt (Fm.form x)) (selT nt (Fm.form y)))) rfl rfl rfl (fun q V V' h k => h.kp k) callTwo7 (fun V hV hD => twoT_c (o := (selO nt f.op)) (by rw [ho]; cases nt <;> decide) (hD6 V (hD 6 (by kernel_rfl))) (hD9 V (hD 9 (by kernel_rfl))) (by have := hV.size; omega)) fun y10 D10 hD10 => ?_
        conv => whnf
        intro V hV hd
        refine st agree ((k26.trans hV).own mR id) rfl (Nat.le_refl 3) rfl fun wz ez kz mz => ?_
        have mz : Own wz bR 26 (fmC (Fm.two (selO nt f.op) (selT nt (Fm.form x)) (selT nt (Fm.form y))) (.slice (y10).1 (Fm.two (selO nt f.op) (selT nt (Fm.form x)) (selT nt (Fm.form y))).kids.length (y10).2)) := mz
        refine ld agree (Own.all mz) (by rfl) ?_
        exact fin V (Fm.two (selO nt f.op) (selT nt (Fm.form x)) (selT nt (Fm.form y))) y10 (k26.trans hV) (hD10 V (hd 10)) (by rw [hfk, ho, hk]; cases nt <;> rfl) wz kz
      · repeat (first | (refine spF (by omega) ?_) | (refine spT (by omega) ?_))
        refine drawn0 agree mixed 11 (by kernel_rfl) (fun _ => False) ?_
        conv => whnf
        refine ldk agree rfl rfl (fun V hV _ => Own.at_ (xs := [.int .u8 f.op]) (o := 0) (hV.own m16 id) rfl) (by rfl) fun _ => ?_
        conv => whnf
        refine callk rfl rfl rfl callIf1 (fun V _ _ => if1_c V f.op nt) fun _ => ?_
        conv => whnf
        refine ldk (v := fmA x (.slice ua x.kids.length uc)) agree rfl rfl (fun V hV _ => Own.all (hV.own mA id)) (by rfl) fun _ => ?_
        conv => whnf
        refine callf (τ := Option Addr × Nat) (hne := ⟨(none, 0)⟩) (fun q => fmT (selT nt (Fm.form x)) q) (TreeP base (selT nt (Fm.form x))) rfl rfl rfl (fun q V V' h k => h.kp k) callForm7 (fun V hV _ => ih n (by omega) lo hi V _ x nt base (hku.kp (k06.trans hV)) hfx (by have := hV.size; omega) (by have := hV.size; omega)) fun y6 D6 hD6 => ?_
        conv => whnf
        refine ldk (v := fmA y (.slice va y.kids.length vc)) agree rfl rfl (fun V hV _ => Own.all (hV.own mB id)) (by rfl) fun _ => ?_
        conv => whnf
        refine callf (τ := Option Addr × Nat) (hne := ⟨(none, 0)⟩) (fun q => fmT (selT nt (Fm.form y)) q) (TreeP base (selT nt (Fm.form y))) rfl rfl rfl (fun q V V' h k => h.kp k) callForm7 (fun V hV _ => ih n (by omega) lo hi V _ y nt base (hkv.kp (k06.trans hV)) hfy (by have := hV.size; omega) (by have := hV.size; omega)) fun y9 D9 hD9 => ?_
        conv => whnf
        refine callf (τ := Option Addr × Nat) (hne := ⟨(none, 0)⟩) (fun q => fmT (Fm.two (selO nt f.op) (selT nt (Fm.form x)) (selT nt (Fm.form y))) q) (TreeP base (Fm.two (selO nt f.op) (selT nt (Fm.form x)) (selT nt (Fm.form y)))) rfl rfl rfl (fun q V V' h k => h.kp k) callTwo7 (fun V hV hD => twoT_c (o := (selO nt f.op)) (by rw [ho]; cases nt <;> decide) (hD6 V (hD 6 (by kernel_rfl))) (hD9 V (hD 9 (by kernel_rfl))) (by have := hV.size; omega)) fun y10 D10 hD10 => ?_
        conv => whnf
        intro V hV hd
        refine st agree ((k26.trans hV).own mR id) rfl (Nat.le_refl 3) rfl fun wz ez kz mz => ?_
        have mz : Own wz bR 26 (fmC (Fm.two (selO nt f.op) (selT nt (Fm.form x)) (selT nt (Fm.form y))) (.slice (y10).1 (Fm.two (selO nt f.op) (selT nt (Fm.form x)) (selT nt (Fm.form y))).kids.length (y10).2)) := mz
        refine ld agree (Own.all mz) (by rfl) ?_
        exact fin V (Fm.two (selO nt f.op) (selT nt (Fm.form x)) (selT nt (Fm.form y))) y10 (k26.trans hV) (hD10 V (hd 10)) (by rw [hfk, ho, hk]; cases nt <;> rfl) wz kz
      · repeat (first | (refine spF (by omega) ?_) | (refine spT (by omega) ?_))
        refine drawn0 agree mixed 10 (by kernel_rfl) (fun _ => False) ?_
        conv => whnf
        refine callk rfl rfl rfl callIf1 (fun V _ _ => if1_c V 6 nt) fun _ => ?_
        conv => whnf
        refine ldk (v := fmA x (.slice ua x.kids.length uc)) agree rfl rfl (fun V hV _ => Own.all (hV.own mA id)) (by rfl) fun _ => ?_
        conv => whnf
        refine callf (τ := Option Addr × Nat) (hne := ⟨(none, 0)⟩) (fun q => fmT (selT (!nt) (Fm.form x)) q) (TreeP base (selT (!nt) (Fm.form x))) rfl rfl rfl (fun q V V' h k => h.kp k) callForm7 (fun V hV _ => ih n (by omega) lo hi V _ x (!nt) base (hku.kp (k06.trans hV)) hfx (by have := hV.size; omega) (by have := hV.size; omega)) fun y5 D5 hD5 => ?_
        conv => whnf
        refine ldk (v := fmA y (.slice va y.kids.length vc)) agree rfl rfl (fun V hV _ => Own.all (hV.own mB id)) (by rfl) fun _ => ?_
        conv => whnf
        refine callf (τ := Option Addr × Nat) (hne := ⟨(none, 0)⟩) (fun q => fmT (selT nt (Fm.form y)) q) (TreeP base (selT nt (Fm.form y))) rfl rfl rfl (fun q V V' h k => h.kp k) callForm7 (fun V hV _ => ih n (by omega) lo hi V _ y nt base (hkv.kp (k06.trans hV)) hfy (by have := hV.size; omega) (by have := hV.size; omega)) fun y8 D8 hD8 => ?_
        conv => whnf
        refine callf (τ := Option Addr × Nat) (hne := ⟨(none, 0)⟩) (fun q => fmT (Fm.two (selO nt 6) (selT (!nt) (Fm.form x)) (selT nt (Fm.form y))) q) (TreeP base (Fm.two (selO nt 6) (selT (!nt) (Fm.form x)) (selT nt (Fm.form y)))) rfl rfl rfl (fun q V V' h k => h.kp k) callTwo7 (fun V hV hD => twoT_c (o := (selO nt 6)) (by cases nt <;> decide) (hD5 V (hD 5 (by kernel_rfl))) (hD8 V (hD 8 (by kernel_rfl))) (by have := hV.size; omega)) fun y9 D9 hD9 => ?_
        conv => whnf
        intro V hV hd
        refine st agree ((k26.trans hV).own mR id) rfl (Nat.le_refl 3) rfl fun wz ez kz mz => ?_
        have mz : Own wz bR 26 (fmC (Fm.two (selO nt 6) (selT (!nt) (Fm.form x)) (selT nt (Fm.form y))) (.slice (y9).1 (Fm.two (selO nt 6) (selT (!nt) (Fm.form x)) (selT nt (Fm.form y))).kids.length (y9).2)) := mz
        refine ld agree (Own.all mz) (by rfl) ?_
        exact fin V (Fm.two (selO nt 6) (selT (!nt) (Fm.form x)) (selT nt (Fm.form y))) y9 (k26.trans hV) (hD9 V (hd 9)) (by rw [hfk, ho, hk]; cases nt <;> rfl) wz kz
      · repeat (first | (refine spF (by omega) ?_) | (refine spT (by omega) ?_))
        refine drawn0 agree mixed 7 (by kernel_rfl) (fun _ => False) ?_
        conv => whnf
        refine ldk (v := fmA x (.slice ua x.kids.length uc)) agree rfl rfl (fun V hV _ => Own.all (hV.own mA id)) (by rfl) fun _ => ?_
        conv => whnf
        refine callf (τ := Option Addr × Nat) (hne := ⟨(none, 0)⟩) (fun q => fmT (selT false (Fm.form x)) q) (TreeP base (selT false (Fm.form x))) rfl rfl rfl (fun q V V' h k => h.kp k) callForm7 (fun V hV _ => ih n (by omega) lo hi V _ x false base (hku.kp (k06.trans hV)) hfx (by have := hV.size; omega) (by have := hV.size; omega)) fun y1 D1 hD1 => ?_
        conv => whnf
        refine ldk (v := fmA y (.slice va y.kids.length vc)) agree rfl rfl (fun V hV _ => Own.all (hV.own mB id)) (by rfl) fun _ => ?_
        conv => whnf
        refine callf (τ := Option Addr × Nat) (hne := ⟨(none, 0)⟩) (fun q => fmT (selT nt (Fm.form y)) q) (TreeP base (selT nt (Fm.form y))) rfl rfl rfl (fun q V V' h k => h.kp k) callForm7 (fun V hV _ => ih n (by omega) lo hi V _ y nt base (hkv.kp (k06.trans hV)) hfy (by have := hV.size; omega) (by have := hV.size; omega)) fun y4 D4 hD4 => ?_
        conv => whnf
        refine callf (τ := Option Addr × Nat) (hne := ⟨(none, 0)⟩) (fun q => fmT (Fm.two 5 (selT false (Fm.form x)) (selT nt (Fm.form y))) q) (TreeP base (Fm.two 5 (selT false (Fm.form x)) (selT nt (Fm.form y)))) rfl rfl rfl (fun q V V' h k => h.kp k) callTwo7 (fun V hV hD => twoT_c (o := 5) (by decide) (hD1 V (hD 1 (by kernel_rfl))) (hD4 V (hD 4 (by kernel_rfl))) (by have := hV.size; omega)) fun y5 D5 hD5 => ?_
        conv => whnf
        refine alk rfl rfl fun b6 D6 hD6 => ?_
        conv => whnf
        intro V hV hd
        have hT8 := hD5 V (hd 5)
        obtain ⟨m8, hb8⟩ := hD6 V (hd 6)
        refine st agree m8 rfl (Nat.le_refl 3) rfl fun w7 e7 k7 mT => ?_
        have mT : Own w7 b6 26 (fmC (Fm.two 5 (selT false (Fm.form x)) (selT nt (Fm.form y))) (.slice y5.1 (Fm.two 5 (selT false (Fm.form x)) (selT nt (Fm.form y))).kids.length y5.2)) := mT
        have hT8 := hT8.off m8 k7
        have k67 : Kp w6 w7 := hV.newS k7 fun g hg => by subst hg; exact hb8
        have mA := k67.own mA id
        have mB := k67.own mB id
        have k07 := k06.trans k67
        have hz7 := k67.size
        have hb6 := lt_of_heap mT
        clear hD1 hD4 hD5 hD6 hd
        refine drawn0 agree mixed 8 (by kernel_rfl) (fun _ => False) ?_
        conv => whnf
        refine ldk (v := fmA x (.slice ua x.kids.length uc)) agree rfl rfl (fun V hV _ => Own.all (hV.own mA id)) (by rfl) fun _ => ?_
        conv => whnf
        refine callf (τ := Option Addr × Nat) (hne := ⟨(none, 0)⟩) (fun q => fmT (selT true (Fm.form x)) q) (TreeP base (selT true (Fm.form x))) rfl rfl rfl (fun q V V' h k => h.kp k) callForm7 (fun V hV _ => ih n (by omega) lo hi V _ x true base (hku.kp (k07.trans hV)) hfx (by have := hV.size; omega) (by have := hV.size; omega)) fun y1 D1 hD1 => ?_
        conv => whnf
        refine ldk (v := fmA y (.slice va y.kids.length vc)) agree rfl rfl (fun V hV _ => Own.all (hV.own mB id)) (by rfl) fun _ => ?_
        conv => whnf
        refine callf (τ := Option Addr × Nat) (hne := ⟨(none, 0)⟩) (fun q => fmT (selT (!nt) (Fm.form y)) q) (TreeP base (selT (!nt) (Fm.form y))) rfl rfl rfl (fun q V V' h k => h.kp k) callForm7 (fun V hV _ => ih n (by omega) lo hi V _ y (!nt) base (hkv.kp (k07.trans hV)) hfy (by have := hV.size; omega) (by have := hV.size; omega)) fun y25 D25 hD25 => ?_
        conv => whnf
        refine callf (τ := Option Addr × Nat) (hne := ⟨(none, 0)⟩) (fun q => fmT (Fm.two 5 (selT true (Fm.form x)) (selT (!nt) (Fm.form y))) q) (TreeP base (Fm.two 5 (selT true (Fm.form x)) (selT (!nt) (Fm.form y)))) rfl rfl rfl (fun q V V' h k => h.kp k) callTwo7 (fun V hV hD => twoT_c (o := 5) (by decide) (hD1 V (hD 1 (by kernel_rfl))) (hD25 V (hD 5 (by kernel_rfl))) (by have := hV.size; omega)) fun y16 D16 hD16 => ?_
        conv => whnf
        refine alk rfl rfl fun b7 D7 hD7 => ?_
        conv => whnf
        intro V2 hV2 hd2
        have hT9 := hD16 V2 (hd2 6)
        obtain ⟨m9, hb9⟩ := hD7 V2 (hd2 7)
        refine st agree m9 rfl (Nat.le_refl 3) rfl fun w8 e8 k8 mU => ?_
        have mU : Own w8 b7 26 (fmC (Fm.two 5 (selT true (Fm.form x)) (selT (!nt) (Fm.form y))) (.slice y16.1 (Fm.two 5 (selT true (Fm.form x)) (selT (!nt) (Fm.form y))).kids.length y16.2)) := mU
        have hT9 := hT9.off m9 k8
        have hT8 := (hT8.kp hV2).off m9 k8
        have k78 : Kp w7 w8 := hV2.newS k8 fun g hg => by subst hg; exact hb9
        have mT := k78.own mT id
        refine ld (v := fmT (Fm.two 5 (selT false (Fm.form x)) (selT nt (Fm.form y))) y5) agree (Own.all mT) (by rfl) ?_
        refine ld (v := fmT (Fm.two 5 (selT true (Fm.form x)) (selT (!nt) (Fm.form y))) y16) agree (Own.all mU) (by rfl) ?_
        refine cl callTwo7 (twoT_c (o := 6) (by decide) hT8 hT9 (by have := k78.size; omega)) ?_
        rintro _ w9 ⟨k9, y9, rfl, hT10⟩
        refine st agree ((((k26.trans k67).trans k78).trans k9).own mR id) rfl (Nat.le_refl 3) rfl fun wz ez kz mz => ?_
        have mz : Own wz bR 26 (fmC (Fm.two 6 (Fm.two 5 (selT false (Fm.form x)) (selT nt (Fm.form y))) (Fm.two 5 (selT true (Fm.form x)) (selT (!nt) (Fm.form y)))) (.slice (y9).1 (Fm.two 6 (Fm.two 5 (selT false (Fm.form x)) (selT nt (Fm.form y))) (Fm.two 5 (selT true (Fm.form x)) (selT (!nt) (Fm.form y)))).kids.length (y9).2)) := mz
        refine ld agree (Own.all mz) (by rfl) ?_
        exact fin w9 (Fm.two 6 (Fm.two 5 (selT false (Fm.form x)) (selT nt (Fm.form y))) (Fm.two 5 (selT true (Fm.form x)) (selT (!nt) (Fm.form y)))) y9 (((k26.trans k67).trans k78).trans k9) (hT10) (by rw [hfk, ho, hk]; cases nt <;> rfl) wz kz
      · repeat (first | (refine spF (by omega) ?_) | (refine spT (by omega) ?_))
        refine drawn0 agree mixed 11 (by kernel_rfl) (fun _ => False) ?_
        conv => whnf
        refine ldk agree rfl rfl (fun V hV _ => Own.at_ (xs := [.int .u8 f.op]) (o := 0) (hV.own m16 id) rfl) (by rfl) fun _ => ?_
        conv => whnf
        refine callk rfl rfl rfl callIf1 (fun V _ _ => if1_c V f.op nt) fun _ => ?_
        conv => whnf
        refine ldk (v := fmA x (.slice ua x.kids.length uc)) agree rfl rfl (fun V hV _ => Own.all (hV.own mA id)) (by rfl) fun _ => ?_
        conv => whnf
        refine callf (τ := Option Addr × Nat) (hne := ⟨(none, 0)⟩) (fun q => fmT (selT nt (Fm.form x)) q) (TreeP base (selT nt (Fm.form x))) rfl rfl rfl (fun q V V' h k => h.kp k) callForm7 (fun V hV _ => ih n (by omega) lo hi V _ x nt base (hku.kp (k06.trans hV)) hfx (by have := hV.size; omega) (by have := hV.size; omega)) fun y6 D6 hD6 => ?_
        conv => whnf
        refine ldk (v := fmA y (.slice va y.kids.length vc)) agree rfl rfl (fun V hV _ => Own.all (hV.own mB id)) (by rfl) fun _ => ?_
        conv => whnf
        refine callf (τ := Option Addr × Nat) (hne := ⟨(none, 0)⟩) (fun q => fmT (selT nt (Fm.form y)) q) (TreeP base (selT nt (Fm.form y))) rfl rfl rfl (fun q V V' h k => h.kp k) callForm7 (fun V hV _ => ih n (by omega) lo hi V _ y nt base (hkv.kp (k06.trans hV)) hfy (by have := hV.size; omega) (by have := hV.size; omega)) fun y9 D9 hD9 => ?_
        conv => whnf
        refine callf (τ := Option Addr × Nat) (hne := ⟨(none, 0)⟩) (fun q => fmT (Fm.two (selO nt f.op) (selT nt (Fm.form x)) (selT nt (Fm.form y))) q) (TreeP base (Fm.two (selO nt f.op) (selT nt (Fm.form x)) (selT nt (Fm.form y)))) rfl rfl rfl (fun q V V' h k => h.kp k) callTwo7 (fun V hV hD => twoT_c (o := (selO nt f.op)) (by rw [ho]; cases nt <;> decide) (hD6 V (hD 6 (by kernel_rfl))) (hD9 V (hD 9 (by kernel_rfl))) (by have := hV.size; omega)) fun y10 D10 hD10 => ?_
        conv => whnf
        intro V hV hd
        refine st agree ((k26.trans hV).own mR id) rfl (Nat.le_refl 3) rfl fun wz ez kz mz => ?_
        have mz : Own wz bR 26 (fmC (Fm.two (selO nt f.op) (selT nt (Fm.form x)) (selT nt (Fm.form y))) (.slice (y10).1 (Fm.two (selO nt f.op) (selT nt (Fm.form x)) (selT nt (Fm.form y))).kids.length (y10).2)) := mz
        refine ld agree (Own.all mz) (by rfl) ?_
        exact fin V (Fm.two (selO nt f.op) (selT nt (Fm.form x)) (selT nt (Fm.form y))) y10 (k26.trans hV) (hD10 V (hd 10)) (by rw [hfk, ho, hk]; cases nt <;> rfl) wz kz
      · repeat (first | (refine spF (by omega) ?_) | (refine spT (by omega) ?_))
        refine drawn0 agree mixed 11 (by kernel_rfl) (fun _ => False) ?_
        conv => whnf
        refine ldk agree rfl rfl (fun V hV _ => Own.at_ (xs := [.int .u8 f.op]) (o := 0) (hV.own m16 id) rfl) (by rfl) fun _ => ?_
        conv => whnf
        refine callk rfl rfl rfl callIf1 (fun V _ _ => if1_c V f.op nt) fun _ => ?_
        conv => whnf
        refine ldk (v := fmA x (.slice ua x.kids.length uc)) agree rfl rfl (fun V hV _ => Own.all (hV.own mA id)) (by rfl) fun _ => ?_
        conv => whnf
        refine callf (τ := Option Addr × Nat) (hne := ⟨(none, 0)⟩) (fun q => fmT (selT nt (Fm.form x)) q) (TreeP base (selT nt (Fm.form x))) rfl rfl rfl (fun q V V' h k => h.kp k) callForm7 (fun V hV _ => ih n (by omega) lo hi V _ x nt base (hku.kp (k06.trans hV)) hfx (by have := hV.size; omega) (by have := hV.size; omega)) fun y6 D6 hD6 => ?_
        conv => whnf
        refine ldk (v := fmA y (.slice va y.kids.length vc)) agree rfl rfl (fun V hV _ => Own.all (hV.own mB id)) (by rfl) fun _ => ?_
        conv => whnf
        refine callf (τ := Option Addr × Nat) (hne := ⟨(none, 0)⟩) (fun q => fmT (selT nt (Fm.form y)) q) (TreeP base (selT nt (Fm.form y))) rfl rfl rfl (fun q V V' h k => h.kp k) callForm7 (fun V hV _ => ih n (by omega) lo hi V _ y nt base (hkv.kp (k06.trans hV)) hfy (by have := hV.size; omega) (by have := hV.size; omega)) fun y9 D9 hD9 => ?_
        conv => whnf
        refine callf (τ := Option Addr × Nat) (hne := ⟨(none, 0)⟩) (fun q => fmT (Fm.two (selO nt f.op) (selT nt (Fm.form x)) (selT nt (Fm.form y))) q) (TreeP base (Fm.two (selO nt f.op) (selT nt (Fm.form x)) (selT nt (Fm.form y)))) rfl rfl rfl (fun q V V' h k => h.kp k) callTwo7 (fun V hV hD => twoT_c (o := (selO nt f.op)) (by rw [ho]; cases nt <;> decide) (hD6 V (hD 6 (by kernel_rfl))) (hD9 V (hD 9 (by kernel_rfl))) (by have := hV.size; omega)) fun y10 D10 hD10 => ?_
        conv => whnf
        intro V hV hd
        refine st agree ((k26.trans hV).own mR id) rfl (Nat.le_refl 3) rfl fun wz ez kz mz => ?_
        have mz : Own wz bR 26 (fmC (Fm.two (selO nt f.op) (selT nt (Fm.form x)) (selT nt (Fm.form y))) (.slice (y10).1 (Fm.two (selO nt f.op) (selT nt (Fm.form x)) (selT nt (Fm.form y))).kids.length (y10).2)) := mz
        refine ld agree (Own.all mz) (by rfl) ?_
        exact fin V (Fm.two (selO nt f.op) (selT nt (Fm.form x)) (selT nt (Fm.form y))) y10 (k26.trans hV) (hD10 V (hd 10)) (by rw [hfk, ho, hk]; cases nt <;> rfl) wz kz
      · repeat (first | (refine spF (by omega) ?_) | (refine spT (by omega) ?_))
        refine drawn0 agree mixed 10 (by kernel_rfl) (fun _ => False) ?_
        conv => whnf
        refine callk rfl rfl rfl callIf1 (fun V _ _ => if1_c V 6 nt) fun _ => ?_
        conv => whnf
        refine ldk (v := fmA x (.slice ua x.kids.length uc)) agree rfl rfl (fun V hV _ => Own.all (hV.own mA id)) (by rfl) fun _ => ?_
        conv => whnf
        refine callf (τ := Option Addr × Nat) (hne := ⟨(none, 0)⟩) (fun q => fmT (selT nt (Fm.form x)) q) (TreeP base (selT nt (Fm.form x))) rfl rfl rfl (fun q V V' h k => h.kp k) callForm7 (fun V hV _ => ih n (by omega) lo hi V _ x nt base (hku.kp (k06.trans hV)) hfx (by have := hV.size; omega) (by have := hV.size; omega)) fun y4 D4 hD4 => ?_
        conv => whnf
        refine ldk (v := fmA y (.slice va y.kids.length vc)) agree rfl rfl (fun V hV _ => Own.all (hV.own mB id)) (by rfl) fun _ => ?_
        conv => whnf
        refine callf (τ := Option Addr × Nat) (hne := ⟨(none, 0)⟩) (fun q => fmT (selT nt (Fm.form y)) q) (TreeP base (selT nt (Fm.form y))) rfl rfl rfl (fun q V V' h k => h.kp k) callForm7 (fun V hV _ => ih n (by omega) lo hi V _ y nt base (hkv.kp (k06.trans hV)) hfy (by have := hV.size; omega) (by have := hV.size; omega)) fun y7 D7 hD7 => ?_
        conv => whnf
        refine callf (τ := Option Addr × Nat) (hne := ⟨(none, 0)⟩) (fun q => fmT (Fm.two (selO nt 6) (selT nt (Fm.form x)) (selT nt (Fm.form y))) q) (TreeP base (Fm.two (selO nt 6) (selT nt (Fm.form x)) (selT nt (Fm.form y)))) rfl rfl rfl (fun q V V' h k => h.kp k) callTwo7 (fun V hV hD => twoT_c (o := (selO nt 6)) (by cases nt <;> decide) (hD4 V (hD 4 (by kernel_rfl))) (hD7 V (hD 7 (by kernel_rfl))) (by have := hV.size; omega)) fun y8 D8 hD8 => ?_
        conv => whnf
        refine alk rfl rfl fun b9 D9 hD9 => ?_
        conv => whnf
        intro V hV hd
        have hT8 := hD8 V (hd 8)
        obtain ⟨m9, hb9⟩ := hD9 V (hd 9)
        refine st agree m9 rfl (Nat.le_refl 3) rfl fun w7 e7 k7 mT => ?_
        have mT : Own w7 b9 26 (fmC (Fm.two (selO nt 6) (selT nt (Fm.form x)) (selT nt (Fm.form y))) (.slice y8.1 (Fm.two (selO nt 6) (selT nt (Fm.form x)) (selT nt (Fm.form y))).kids.length y8.2)) := mT
        have hT8 := hT8.off m9 k7
        have k67 : Kp w6 w7 := hV.newS k7 fun g hg => by subst hg; exact hb9
        have mA := k67.own mA id
        have mB := k67.own mB id
        have k07 := k06.trans k67
        have hz7 := k67.size
        refine drawn0 agree mixed 7 (by kernel_rfl) (fun _ => False) ?_
        conv => whnf
        refine callk rfl rfl rfl callIf1 (fun V _ _ => if1_c V 13 nt) fun _ => ?_
        conv => whnf
        refine ldk (v := fmA y (.slice va y.kids.length vc)) agree rfl rfl (fun V hV _ => Own.all (hV.own mB id)) (by rfl) fun _ => ?_
        conv => whnf
        refine callf (τ := Option Addr × Nat) (hne := ⟨(none, 0)⟩) (fun q => fmT (selT nt (Fm.form y)) q) (TreeP base (selT nt (Fm.form y))) rfl rfl rfl (fun q V V' h k => h.kp k) callForm7 (fun V hV _ => ih n (by omega) lo hi V _ y nt base (hkv.kp (k07.trans hV)) hfy (by have := hV.size; omega) (by have := hV.size; omega)) fun y4 D4 hD4 => ?_
        conv => whnf
        refine ldk (v := fmT (Fm.two (selO nt 6) (selT nt (Fm.form x)) (selT nt (Fm.form y))) y8) agree rfl rfl (fun V hV _ => Own.all (hV.own mT id)) (by rfl) fun _ => ?_
        conv => whnf
        refine callf (τ := Option Addr × Nat) (hne := ⟨(none, 0)⟩) (fun q => fmT (Fm.two (selO nt 13) (selT nt (Fm.form y)) (Fm.two (selO nt 6) (selT nt (Fm.form x)) (selT nt (Fm.form y)))) q) (TreeP base (Fm.two (selO nt 13) (selT nt (Fm.form y)) (Fm.two (selO nt 6) (selT nt (Fm.form x)) (selT nt (Fm.form y))))) rfl rfl rfl (fun q V V' h k => h.kp k) callTwo7 (fun V hV hD => twoT_c (o := (selO nt 13)) (by cases nt <;> decide) (hD4 V (hD 4 (by kernel_rfl))) (hT8.kp hV) (by have := hV.size; omega)) fun y6 D6 hD6 => ?_
        conv => whnf
        intro V2 hV2 hd2
        refine st agree (((k26.trans k67).trans hV2).own mR id) rfl (Nat.le_refl 3) rfl fun wz ez kz mz => ?_
        have mz : Own wz bR 26 (fmC (Fm.two (selO nt 13) (selT nt (Fm.form y)) (Fm.two (selO nt 6) (selT nt (Fm.form x)) (selT nt (Fm.form y)))) (.slice (y6).1 (Fm.two (selO nt 13) (selT nt (Fm.form y)) (Fm.two (selO nt 6) (selT nt (Fm.form x)) (selT nt (Fm.form y)))).kids.length (y6).2)) := mz
        refine ld agree (Own.all mz) (by rfl) ?_
        exact fin V2 (Fm.two (selO nt 13) (selT nt (Fm.form y)) (Fm.two (selO nt 6) (selT nt (Fm.form x)) (selT nt (Fm.form y)))) y6 ((k26.trans k67).trans hV2) (hD6 V2 (hd2 6)) (by rw [hfk, ho, hk]; cases nt <;> rfl) wz kz
      · repeat (first | (refine spF (by omega) ?_) | (refine spT (by omega) ?_))
        refine drawn0 agree mixed 10 (by kernel_rfl) (fun _ => False) ?_
        conv => whnf
        refine callk rfl rfl rfl callIf1 (fun V _ _ => if1_c V 5 nt) fun _ => ?_
        conv => whnf
        refine ldk (v := fmA x (.slice ua x.kids.length uc)) agree rfl rfl (fun V hV _ => Own.all (hV.own mA id)) (by rfl) fun _ => ?_
        conv => whnf
        refine callf (τ := Option Addr × Nat) (hne := ⟨(none, 0)⟩) (fun q => fmT (selT nt (Fm.form x)) q) (TreeP base (selT nt (Fm.form x))) rfl rfl rfl (fun q V V' h k => h.kp k) callForm7 (fun V hV _ => ih n (by omega) lo hi V _ x nt base (hku.kp (k06.trans hV)) hfx (by have := hV.size; omega) (by have := hV.size; omega)) fun y4 D4 hD4 => ?_
        conv => whnf
        refine ldk (v := fmA y (.slice va y.kids.length vc)) agree rfl rfl (fun V hV _ => Own.all (hV.own mB id)) (by rfl) fun _ => ?_
        conv => whnf
        refine callf (τ := Option Addr × Nat) (hne := ⟨(none, 0)⟩) (fun q => fmT (selT nt (Fm.form y)) q) (TreeP base (selT nt (Fm.form y))) rfl rfl rfl (fun q V V' h k => h.kp k) callForm7 (fun V hV _ => ih n (by omega) lo hi V _ y nt base (hkv.kp (k06.trans hV)) hfy (by have := hV.size; omega) (by have := hV.size; omega)) fun y7 D7 hD7 => ?_
        conv => whnf
        refine callf (τ := Option Addr × Nat) (hne := ⟨(none, 0)⟩) (fun q => fmT (Fm.two (selO nt 5) (selT nt (Fm.form x)) (selT nt (Fm.form y))) q) (TreeP base (Fm.two (selO nt 5) (selT nt (Fm.form x)) (selT nt (Fm.form y)))) rfl rfl rfl (fun q V V' h k => h.kp k) callTwo7 (fun V hV hD => twoT_c (o := (selO nt 5)) (by cases nt <;> decide) (hD4 V (hD 4 (by kernel_rfl))) (hD7 V (hD 7 (by kernel_rfl))) (by have := hV.size; omega)) fun y8 D8 hD8 => ?_
        conv => whnf
        refine alk rfl rfl fun b9 D9 hD9 => ?_
        conv => whnf
        intro V hV hd
        have hT8 := hD8 V (hd 8)
        obtain ⟨m9, hb9⟩ := hD9 V (hd 9)
        refine st agree m9 rfl (Nat.le_refl 3) rfl fun w7 e7 k7 mT => ?_
        have mT : Own w7 b9 26 (fmC (Fm.two (selO nt 5) (selT nt (Fm.form x)) (selT nt (Fm.form y))) (.slice y8.1 (Fm.two (selO nt 5) (selT nt (Fm.form x)) (selT nt (Fm.form y))).kids.length y8.2)) := mT
        have hT8 := hT8.off m9 k7
        have k67 : Kp w6 w7 := hV.newS k7 fun g hg => by subst hg; exact hb9
        have mA := k67.own mA id
        have mB := k67.own mB id
        have k07 := k06.trans k67
        have hz7 := k67.size
        refine drawn0 agree mixed 7 (by kernel_rfl) (fun _ => False) ?_
        conv => whnf
        refine callk rfl rfl rfl callIf1 (fun V _ _ => if1_c V 12 nt) fun _ => ?_
        conv => whnf
        refine ldk (v := fmA y (.slice va y.kids.length vc)) agree rfl rfl (fun V hV _ => Own.all (hV.own mB id)) (by rfl) fun _ => ?_
        conv => whnf
        refine callf (τ := Option Addr × Nat) (hne := ⟨(none, 0)⟩) (fun q => fmT (selT nt (Fm.form y)) q) (TreeP base (selT nt (Fm.form y))) rfl rfl rfl (fun q V V' h k => h.kp k) callForm7 (fun V hV _ => ih n (by omega) lo hi V _ y nt base (hkv.kp (k07.trans hV)) hfy (by have := hV.size; omega) (by have := hV.size; omega)) fun y4 D4 hD4 => ?_
        conv => whnf
        refine ldk (v := fmT (Fm.two (selO nt 5) (selT nt (Fm.form x)) (selT nt (Fm.form y))) y8) agree rfl rfl (fun V hV _ => Own.all (hV.own mT id)) (by rfl) fun _ => ?_
        conv => whnf
        refine callf (τ := Option Addr × Nat) (hne := ⟨(none, 0)⟩) (fun q => fmT (Fm.two (selO nt 12) (selT nt (Fm.form y)) (Fm.two (selO nt 5) (selT nt (Fm.form x)) (selT nt (Fm.form y)))) q) (TreeP base (Fm.two (selO nt 12) (selT nt (Fm.form y)) (Fm.two (selO nt 5) (selT nt (Fm.form x)) (selT nt (Fm.form y))))) rfl rfl rfl (fun q V V' h k => h.kp k) callTwo7 (fun V hV hD => twoT_c (o := (selO nt 12)) (by cases nt <;> decide) (hD4 V (hD 4 (by kernel_rfl))) (hT8.kp hV) (by have := hV.size; omega)) fun y6 D6 hD6 => ?_
        conv => whnf
        intro V2 hV2 hd2
        refine st agree (((k26.trans k67).trans hV2).own mR id) rfl (Nat.le_refl 3) rfl fun wz ez kz mz => ?_
        have mz : Own wz bR 26 (fmC (Fm.two (selO nt 12) (selT nt (Fm.form y)) (Fm.two (selO nt 5) (selT nt (Fm.form x)) (selT nt (Fm.form y)))) (.slice (y6).1 (Fm.two (selO nt 12) (selT nt (Fm.form y)) (Fm.two (selO nt 5) (selT nt (Fm.form x)) (selT nt (Fm.form y)))).kids.length (y6).2)) := mz
        refine ld agree (Own.all mz) (by rfl) ?_
        exact fin V2 (Fm.two (selO nt 12) (selT nt (Fm.form y)) (Fm.two (selO nt 5) (selT nt (Fm.form x)) (selT nt (Fm.form y)))) y6 ((k26.trans k67).trans hV2) (hD6 V2 (hd2 6)) (by rw [hfk, ho, hk]; cases nt <;> rfl) wz kz
end Go.Au

namespace Go.Au
open Go Go.RowKit
open Fm (idx)

/-! ### the document's Is -/
def goodB (f : Fm) : Bool := decide ((Fm.cnt f).n ≤ 1000) && decide ((Fm.cnt f).dn ≤ 100)
def NormV (f : Fm) (base : Nat) (r : Value) (w' : World) : Prop :=
  (goodB f = true ∧ ∃ y, r = .tuple #[fmT (Fm.form f).1 y, .int .i64 0] ∧ TreeP base (Fm.form f).1 y w') ∨ (goodB f = false ∧ r = .tuple #[fmA (.mk 0 ⟨#[]⟩ []) nilS, .int .i64 31])
theorem callNormal1 : callable Proofs.Tryz.prog 146 = true := by kernel_rfl
set_option maxHeartbeats 2000000 in
theorem normal1_c {n lo hi : Nat} {w : World} {v : Value} {f : Fm} (h : KidsN n lo hi w v f.kids) (hr : f.right = true) (hh : hi ≤ w.heap.size) :
    Calls Proofs.Tryz.prog 146 [fmA f v, .bool false].toArray w (Ret fun r w' => Kp w w' ∧ NormV f w.heap.size r w') := by
  obtain ⟨a, c, rfl, hc⟩ := h.slice
  have hfo := right_formed hr
  have hri := rightI_ok.2 hr
  refine call agree Proofs.Tryz.func146 rfl Proofs.Tryz.ntmps146 (by kernel_rfl) ?_
  refine nd fun p w1 e1 s1 k1 m1 => ?_
  have m1 : Own w1 p 26 (fmC f (.slice a f.kids.length c)) := m1
  refine nd fun bR w2 e2 s2 k2 mR => ?_
  have mR : Own w2 bR 26 zeroF := mR
  have m1 := k2.own m1 id
  have k02 := k1.trans k2
  refine ld agree (Own.all m1) (by rfl) ?_
  have hc1 := rright_c (h.kp k02) (by omega)
  rewrite [hri] at hc1
  refine cl callRightA3 hc1 ?_
  rintro _ w3 ⟨rfl, k3⟩
  refine spF (fun hh => hh rfl) ?_
  have m3 := k3.own m1 id
  have k03 := k02.trans k3
  refine ld agree (Own.all m3) (by rfl) ?_
  refine cl callCount7 (count_c n lo hi w3 _ f (h.kp k03) hfo.1) ?_
  rintro _ w4 ⟨rfl, k4⟩
  refine nd fun bC w5 e5 s5 k5 mC => ?_
  refine st agree mC rfl (Nat.le_refl 4) rfl fun w6 e6 k6 mC => ?_
  have mC : Own w6 bC 248 (cntC (Fm.cnt f)) := mC
  have k46 : Kp w4 w6 := k5.newS k6 (fun j hj => by subst hj; omega)
  have k36 := k4.trans k46
  have k06 := k03.trans k36
  have mR6 := (k3.trans k36).own mR id
  have hzR : w.heap.size ≤ bR := by omega
  have hz06 := k06.size
  refine ld agree (Own.at_ (xs := [.int .i64 ((Fm.cnt f).n : Nat)]) (o := 0) mC rfl) (by rfl) ?_
  refine ld agree (Own.at_ (xs := [.int .i64 ((Fm.cnt f).dn : Nat)]) (o := 2) mC rfl) (by rfl) ?_
  have bad : goodB f = false → ∀ W', Chg (fun k => k = bR) w6 W' → Kp w W' ∧ NormV f w.heap.size (.tuple #[fmA (.mk 0 ⟨#[]⟩ []) nilS, .int .i64 31]) W' := fun hb W' hc => ⟨k06.newS hc fun g hg => by subst hg; exact hzR, .inr ⟨hb, rfl⟩⟩
  refine sp (fun h1 => ?_) (fun h1 => ?_)
  · have hb : goodB f = false := by unfold goodB; rw [decide_eq_false (by omega)]; rfl
    refine st agree mR6 rfl (Nat.le_refl 3) rfl fun wz ez kz mz => ?_
    have mz : Own wz bR 26 zeroF := mz
    refine ld agree (Own.all mz) (by rfl) ?_
    exact bad hb wz kz
  refine sp (fun h2 => ?_) (fun h2 => ?_)
  · have hb : goodB f = false := by unfold goodB; rw [decide_eq_false (p := (Fm.cnt f).dn ≤ 100) (by omega), Bool.and_false]
    refine st agree mR6 rfl (Nat.le_refl 3) rfl fun wz ez kz mz => ?_
    have mz : Own wz bR 26 zeroF := mz
    refine ld agree (Own.all mz) (by rfl) ?_
    exact bad hb wz kz
  have hb : goodB f = true := by unfold goodB; rw [decide_eq_true (by omega), decide_eq_true (by omega)]; rfl
  refine ld agree (Own.all (k36.own m3 id)) (by rfl) ?_
  refine cl callForm7 (form7_c n lo hi w6 _ f false w.heap.size (h.kp k06) hfo.1 (by omega) (by omega)) ?_
  rintro _ w7 ⟨k7, y, rfl, hT⟩
  have hT : TreeP w.heap.size (Fm.form f).1 y w7 := hT
  have mR7 := k7.own mR6 id
  refine st agree mR7 rfl (Nat.le_refl 3) rfl fun wz ez kz mz => ?_
  have mz : Own wz bR 26 (fmC (Fm.form f).1 (.slice y.1 (Fm.form f).1.kids.length y.2)) := mz
  refine ld agree (Own.all mz) (by rfl) ?_
  exact ⟨(k06.trans k7).newS kz fun g hg => by subst hg; exact hzR, .inl ⟨hb, y, rfl, hT.off mR7 kz⟩⟩
theorem callNormalA : callable Proofs.Tryz.prog 68 = true := by kernel_rfl
theorem normalA_c {n lo hi : Nat} {w : World} {v : Value} {f : Fm} (h : KidsN n lo hi w v f.kids) (hr : f.right = true) (hh : hi ≤ w.heap.size) :
    Calls Proofs.Tryz.prog 68 [fmA f v].toArray w (Ret fun r w' => Kp w w' ∧ NormV f w.heap.size r w') := by
  obtain ⟨a, c, rfl, hc⟩ := h.slice
  refine call agree Proofs.Tryz.func68 rfl Proofs.Tryz.ntmps68 (by kernel_rfl) ?_
  refine nd fun p w1 e1 s1 k1 m1 => ?_
  have m1 : Own w1 p 26 (fmC f (.slice a f.kids.length c)) := m1
  refine nd fun bR w2 e2 s2 k2 mR => ?_
  have mR : Own w2 bR 26 zeroF := mR
  have m1 := k2.own m1 id
  have k02 := k1.trans k2
  have hzR : w.heap.size ≤ bR := by omega
  have hz2 := k02.size
  refine ld agree (Own.all m1) (by rfl) ?_
  refine cl callNormal1 (normal1_c (h.kp k02) hr (by omega)) ?_
  rintro r w3 ⟨k3, hN⟩
  have mR3 := k3.own mR id
  have k03 := k02.trans k3
  rcases hN with ⟨hb, y, rfl, hT⟩ | ⟨hb, rfl⟩
  · refine st agree mR3 rfl (Nat.le_refl 3) rfl fun wz ez kz mz => ?_
    have mz : Own wz bR 26 (fmC (Fm.form f).1 (.slice y.1 (Fm.form f).1.kids.length y.2)) := mz
    refine ld agree (Own.all mz) (by rfl) ?_
    have hT2 := hT.off mR3 kz
    obtain ⟨hz, m, hT2⟩ := hT2
    exact ⟨k03.newS kz fun g hg => by subst hg; exact hzR, .inl ⟨hb, y, rfl, hz, m, hT2.mono hz2 (Nat.le_refl _)⟩⟩
  · refine st agree mR3 rfl (Nat.le_refl 3) rfl fun wz ez kz mz => ?_
    have mz : Own wz bR 26 zeroF := mz
    refine ld agree (Own.all mz) (by rfl) ?_
    exact ⟨k03.newS kz fun g hg => by subst hg; exact hzR, .inr ⟨hb, rfl⟩⟩
theorem callIs7 : callable Proofs.Tryz.prog 18 = true := by kernel_rfl
theorem is7_c {n lo hi : Nat} {w : World} {v : Value} {f : Fm} (h : KidsN n lo hi w v f.kids) (hs : f.size < 4611686018427387904) (hh : hi ≤ w.heap.size) :
    Calls Proofs.Tryz.prog 18 [fmA f v].toArray w (Ret fun r w' => r = .bool (f.right && f.isN) ∧ Kp w w') := by
  rw [← Fm.isRef_eq]
  obtain ⟨a, c, rfl, hc⟩ := h.slice
  refine call agree Proofs.Tryz.func18 rfl Proofs.Tryz.ntmps18 (by kernel_rfl) ?_
  refine nd fun p w1 e1 s1 k1 m1 => ?_
  have m1 : Own w1 p 26 (fmC f (.slice a f.kids.length c)) := m1
  refine ld agree (Own.all m1) (by rfl) ?_
  refine cl callRightA3 (rright_c (h.kp k1) hs) ?_
  rintro _ w2 ⟨rfl, k2⟩
  have k02 := k1.trans k2
  have m2 := k2.own m1 id
  have hz2 := k02.size
  refine sp (fun h1 => ?_) (fun h1 => ?_)
  · have hnr : f.right = false := by
      cases hr : f.right with
      | true => exact absurd (rightI_ok.2 hr) h1
      | false => rfl
    have hres : Fm.isRef f = false := by unfold Fm.isRef; rw [hnr]; rfl
    exact ⟨congrArg Value.bool hres.symm, k02⟩
  have hr : f.right = true := rightI_ok.1 (Classical.byContradiction h1)
  refine ld agree (Own.all m2) (by rfl) ?_
  refine cl callNormalA (normalA_c (h.kp k02) hr (by omega)) ?_
  rintro r w3 ⟨k3, hN⟩
  have k03 := k02.trans k3
  rcases hN with ⟨hb, y, rfl, hT⟩ | ⟨hb, rfl⟩
  · refine nd fun b3 w4 e4 s4 k4 m4 => ?_
    refine st agree m4 rfl (Nat.le_refl 3) rfl fun w5 e5 k5 m5 => ?_
    have m5 : Own w5 b3 26 (fmC (Fm.form f).1 (.slice y.1 (Fm.form f).1.kids.length y.2)) := m5
    have k35 : Kp w3 w5 := k4.newS k5 (fun j hj => by subst hj; omega)
    have k05 := k03.trans k35
    refine spT rfl ?_
    refine ld (v := fmT (Fm.form f).1 y) agree (Own.all m5) (by rfl) ?_
    refine ld agree (Own.all ((k3.trans k35).own m2 id)) (by rfl) ?_
    obtain ⟨-, m, hT⟩ := hT
    have hc1 := rcmp_c (max m n) _ _ lo hi w5 _ _ (Fm.form f).1 f ((hT.kp k35).le (Nat.le_max_left m n)) ((h.kp k05).le (Nat.le_max_right m n)) (.inr hs)
    refine cl callCmp3 hc1 ?_
    rintro _ w6 ⟨rfl, k6⟩
    have hres : Fm.isRef f = decide (Fm.cmp (Fm.form f).1 f = 0) := by
      have hb2 : (decide ((Fm.cnt f).n ≤ 1000) && decide ((Fm.cnt f).dn ≤ 100)) = true := hb
      unfold Fm.isRef; rw [hr, hb2]; rfl
    refine sp (fun h2 => ?_) (fun h2 => ?_)
    · exact ⟨congrArg Value.bool (by rw [hres, decide_eq_true h2]), k05.trans k6⟩
    · exact ⟨congrArg Value.bool (by rw [hres, decide_eq_false h2]), k05.trans k6⟩
  · refine nd fun b3 w4 e4 s4 k4 m4 => ?_
    refine st agree m4 rfl (Nat.le_refl 3) rfl fun w5 e5 k5 m5 => ?_
    have k35 : Kp w3 w5 := k4.newS k5 (fun j hj => by subst hj; omega)
    refine spF (by decide) ?_
    have hres : Fm.isRef f = false := by
      have hb2 : (decide ((Fm.cnt f).n ≤ 1000) && decide ((Fm.cnt f).dn ≤ 100)) = false := hb
      unfold Fm.isRef; rw [hb2]; simp
    exact ⟨congrArg Value.bool hres.symm, k03.trans k35⟩
end Go.Au

namespace Go.Au
open Go Go.RowKit
open Fm (idx)

/-! ### the law TableauNormal -/
theorem foldN_nodup : ∀ (fs : List Fm) (l : List ByteArray), l.Nodup → (fs.foldl Fm.addN l).Nodup
  | [], _, h => h
  | f :: fs, l, h => foldN_nodup fs _ (Fm.addN_nodup h f)
theorem names_ok {f : Fm} (hf : Fm.formed Fm.future f = true) (hl : (Fm.names f).length ≤ 8) : (Tb.nameOk (Fm.names f) && Tb.overNames f (Fm.names f)) = true := by
  have h1 : Tb.nameOk (Fm.names f) = true := by
    unfold Tb.nameOk
    rw [decide_eq_true hl, decide_eq_true (show (Fm.names f).Nodup from foldN_nodup _ _ List.nodup_nil)]
    simp only [Bool.true_and, List.all_eq_true]
    intro s hs
    obtain ⟨x, hx, h3, rfl⟩ := Fm.names_mem.1 hs
    exact formed_name (Fm.formed_all hf hx) h3
  have h2 : Tb.overNames f (Fm.names f) = true := by
    unfold Tb.overNames
    rw [List.all_eq_true]
    intro s hs
    obtain ⟨i, hi, -⟩ := Fm.idx_mem hs
    exact decide_eq_true (by rw [hi]; omega)
  rw [h1, h2]; rfl
theorem err_form {f : Fm} {names : List ByteArray} {most : Int} (h : (f.right && f.isN) = false) : Tb.errOf f names most = 90 := by unfold Tb.errOf; rw [if_pos h]
theorem err_prop {f : Fm} {names : List ByteArray} {most : Int} (h : (f.right && f.isN) = true) (h2 : Tb.nameOk names = false) : Tb.errOf f names most = 91 := by unfold Tb.errOf; rw [if_neg (by rw [h]; decide), if_pos (by rw [h2]; rfl)]
theorem err_rest {f : Fm} {names : List ByteArray} {most : Int} (h : (f.right && f.isN) = true) (h2 : (Tb.nameOk names && Tb.overNames f names) = true) : Tb.errOf f names most = 0 ∨ Tb.errOf f names most = 92 := by
  unfold Tb.errOf
  rw [if_neg (by rw [h]; decide), if_neg (by rw [h2]; decide)]
  split
  · exact .inr rfl
  · exact .inl rfl
theorem callLawNormal : callable Proofs.Tryz.prog 5 = true := by kernel_rfl
set_option maxHeartbeats 4000000 in
theorem lawNormal_c {n lo hi : Nat} {w : World} {v : Value} {f : Fm} (hK : KTab w) (hT : Tab w) (h : KidsN n lo hi w v f.kids) (hh : hi ≤ w.heap.size) (hkl : ∀ x ∈ f.all, x.kids.length < 4611686018427387904) (hnm : ∀ x ∈ f.all, x.name.size ≤ 1152921504606846976) (hop : ∀ x ∈ f.all, x.op < 256) :
    Calls Proofs.Tryz.prog 5 [fmA f v].toArray w (Ret fun r w' => r = .bool true ∧ Kp w w') := by
  obtain ⟨a, c, rfl, hc⟩ := h.slice
  refine call agree Proofs.Tryz.func5 rfl Proofs.Tryz.ntmps5 (by kernel_rfl) ?_
  refine nd fun p w1 e1 s1 k1 m1 => ?_
  have m1 : Own w1 p 26 (fmC f (.slice a f.kids.length c)) := m1
  refine cl callAwake (awake_c (hK.kp k1) (hT.kp k1)) ?_
  rintro _ w2 ⟨rfl, k2⟩
  have k02 := k1.trans k2
  have m2 := k2.own m1 id
  have hz2 := k02.size
  refine ld agree (Own.all m2) (by rfl) ?_
  have hfar := far_c (lo' := 0) (hi' := 0) (nv := nilS) (names := []) (h.kp k02) (by omega) hkl hnm ⟨none, 0, rfl, Nat.le_refl 0, fun i x hx => by cases hx⟩ (by decide) (fun x hx => by cases hx)
  refine cl callFar hfar ?_
  rintro _ w3 ⟨⟨hb, rfl, hbf⟩, k3⟩
  have k03 := k02.trans k3
  have m3 := k3.own m2 id
  have hz3 := k03.size
  cases hb with
  | true => exact ⟨rfl, k03⟩
  | false =>
  obtain ⟨hfs, -, -⟩ := hbf rfl
  have hs : f.size < 4611686018427387904 := by omega
  refine ld agree (Own.all m3) (by rfl) ?_
  refine cl callNamesA3 (rnames_c (h.kp k03) (by omega) (by omega)) ?_
  rintro nv w4 ⟨k4, hnv⟩
  have k04 := k03.trans k4
  have m4 := k4.own m3 id
  have hz4 := k04.size
  have hnl := names_bound f
  have hnvs := row_slice hnv
  obtain ⟨na, nc, rfl, -, -⟩ := hnvs
  have hN4 := strs_own hnv
  refine ld agree (Own.all m4) (by rfl) ?_
  refine cl callRightA3 (rright_c (h.kp k04) hs) ?_
  rintro _ w5 ⟨rfl, k5⟩
  have k05 := k04.trans k5
  have m5 := k5.own m4 id
  have hz5 := k05.size
  obtain ⟨rb, hrb⟩ : ∃ rb, rb = (f.right && f.isN) := ⟨_, rfl⟩
  -- what Of answers
  have ofE : ∀ (W : World) (e : Int), Kp w4 W → Tb.errOf f (Fm.names f) 2000 = e → e ≠ 0 → Calls Proofs.Tryz.prog 12 [fmA f (.slice a f.kids.length c), .slice na (Fm.names f).length nc, iV 2000].toArray W (Ret fun r w' => r = .tuple #[.pointer none, .int .i64 e] ∧ Kp W w') := fun W e hk he h0 =>
    ofErr_c (hK.kp (k04.trans hk)) (h.kp (k04.trans hk)) (by have := hk.size; omega) hs hop (RowE.chg hN4 hk (fun _ _ _ => id) fun _ _ h => h) (by omega) (fun _ _ _ _ => bnd_small (by decide)) he h0
  have ofK : ∀ (W : World), Kp w4 W → Tb.errOf f (Fm.names f) 2000 = 0 → Calls Proofs.Tryz.prog 12 [fmA f (.slice a f.kids.length c), .slice na (Fm.names f).length nc, iV 2000].toArray W (Ret fun r w' => Kp W w' ∧ ∃ n tb sv rv nmv ndv iv xv T, r = .tuple #[pt tb 0, .int .i64 0] ∧ MadeT f (Fm.names f) 2000 n W.heap.size w' tb sv rv nmv ndv iv xv T) := fun W hk he =>
    ofOk_c (hK.kp (k04.trans hk)) (h.kp (k04.trans hk)) (by have := hk.size; omega) hs hop (RowE.chg hN4 hk (fun _ _ _ => id) fun _ _ h => h) (by omega) (fun _ _ _ _ => bnd_small (by decide)) he
  refine sp (fun h1 => ?_) (fun h1 => ?_)
  · have hr : f.right = true := rightI_ok.1 h1
    refine ld agree (Own.all m5) (by rfl) ?_
    have hc7 := is7_c (h.kp k05) hs (by omega)
    rewrite [← hrb] at hc7
    refine cl callIs7 hc7 ?_
    rintro _ w6 ⟨rfl, k6⟩
    have m6 := k6.own m5 id
    have k46 := k5.trans k6
    refine ld agree (Own.all m6) (by rfl) ?_
    cases rb with
    | false =>
      refine cl callOf (ofE w6 90 k46 (err_form hrb.symm) (by decide)) ?_
      rintro _ w7 ⟨rfl, k7⟩
      refine ptrNil agree rfl rfl rfl (by kernel_rfl) ?_
      refine spT rfl ?_
      exact ⟨rfl, (k04.trans k46).trans k7⟩
    | true =>
      by_cases h8 : (Fm.names f).length ≤ 8
      · have hok := names_ok (right_formed hr).1 h8
        rcases err_rest (most := 2000) hrb.symm hok with he | he
        · refine cl callOf (ofK w6 k46 he) ?_
          rintro _ w7 ⟨k7, n2, tb, sv, rv, nmv, ndv, iv, xv, T, rfl, -⟩
          refine spF (by omega) ?_
          refine spT rfl ?_
          refine ptrNotNil agree rfl rfl rfl (by kernel_rfl) ?_
          refine spT rfl ?_
          refine spT rfl ?_
          exact ⟨rfl, (k04.trans k46).trans k7⟩
        · refine cl callOf (ofE w6 92 k46 he (by decide)) ?_
          rintro _ w7 ⟨rfl, k7⟩
          refine spF (by omega) ?_
          refine spF (by decide) ?_
          refine spT rfl ?_
          refine ptrNotNil agree rfl rfl rfl (by kernel_rfl) ?_
          refine spF (by decide) ?_
          refine spT rfl ?_
          exact ⟨rfl, (k04.trans k46).trans k7⟩
      · have hno : Tb.nameOk (Fm.names f) = false := by unfold Tb.nameOk; rw [decide_eq_false h8]; rfl
        refine cl callOf (ofE w6 91 k46 (err_prop hrb.symm hno) (by decide)) ?_
        rintro _ w7 ⟨rfl, k7⟩
        refine spT (by omega) ?_
        refine ptrNil agree rfl rfl rfl (by kernel_rfl) ?_
        refine spT rfl ?_
        exact ⟨rfl, (k04.trans k46).trans k7⟩
  · have hr : f.right = false := by
      cases hr : f.right with
      | true => exact absurd (rightI_ok.2 hr) h1
      | false => rfl
    refine ld agree (Own.all m5) (by rfl) ?_
    refine cl callOf (ofE w5 90 k5 (err_form (by rw [hr]; rfl)) (by decide)) ?_
    rintro _ w7 ⟨rfl, k7⟩
    refine ptrNil agree rfl rfl rfl (by kernel_rfl) ?_
    refine spT rfl ?_
    exact ⟨rfl, k05.trans k7⟩
end Go.Au

namespace Go.Au
open Go Go.RowKit
section
variable {P : Program} {w : World} {α : Type}
/-- a slice whose elements are told by the data they are -/
theorem opens_sliceD {t e : TypeId} {size B : Nat} {E : List Value → α → Prop} (ht : P.underlying t = some (.slice e)) (hc : P.cellsOf e = size) (hpos : 0 < size) (hb : P.bytesOf e = B) (hB : 0 < B) {H : Type} {enc : TypeId × Value → H} {f b : Nat} {sp : Nat → Bool} {hd : Bool} {cs : List Value} {d : DataW H} {ps : List MemPlace}
    (h : DataW.trod enc P w b sp hd f t cs = some (d, ps)) (hw : (d.weights P t).all (· ≤ reachBytes) = true) (hE : ∀ (n : Nat) (cs' : List Value) (d' : DataW H) (ps' : List MemPlace), SizeOf.sizeOf d' < SizeOf.sizeOf d → DataW.trod enc P w b sp hd n e cs' = some (d', ps') → (d'.weights P e).all (· ≤ reachBytes) = true → ∃ x, E cs' x) :
    ∃ (xs : List α) (v : Value), cs = [v] ∧ RowE (fun _ => E) size 0 w.heap.size w v xs ∧ xs.length * B ≤ reachBytes := by
  rcases Deep.open_slice ht h with ⟨rfl, -⟩ | ⟨a, len, cap, m, n, D, Pl, rfl, hba, hl, hcm, hm, hx, hel⟩
  · exact ⟨[], _, rfl, ⟨none, 0, rfl, Nat.le_refl _, fun i x hx => by simp at hx⟩, by simp⟩
  · simp only [Prod.mk.injEq] at hx
    obtain ⟨rfl, -⟩ := hx
    have hlm : len ≤ m := by rw [hm]; split <;> omega
    simp only [DataW.weights, ht, List.all_cons, List.all_append, Bool.and_eq_true, decide_eq_true_eq, hb] at hw
    obtain ⟨hw1, hw2, -⟩ := hw
    have hw1 : len * B ≤ reachBytes := by
      refine Nat.le_trans (Nat.mul_le_mul_right _ ?_) hw1
      simp
    have hex : ∀ i, i < len → ∃ x, ∃ cs', cs'.length = size ∧ (∀ j v, cs'[j]? = some v → w.cell? ((a.add (i * size)).add j) = some v) ∧ E cs' x := by
      intro i hi
      obtain ⟨cs', h1, h2⟩ := hel i (by omega)
      rw [hc] at h1
      obtain ⟨-, hlen, hcell⟩ := World.cells?_some h1
      obtain ⟨x, hx⟩ := hE n cs' (D i) (Pl i) (by
        have h3 : D i ∈ (List.range len).map D := List.mem_map.2 ⟨i, by simpa using hi, rfl⟩
        have h4 := List.sizeOf_lt_of_mem h3
        simp only [DataW.slice.sizeOf_spec]
        omega) h2 (by
        rw [List.all_eq_true] at hw2 ⊢
        exact fun q hq => hw2 q (weightsAll_mem (List.mem_map.2 ⟨i, by simpa using hi, rfl⟩) q hq))
      exact ⟨x, cs', hlen, fun j v hv => by
        have := (List.getElem?_eq_some_iff.1 hv).1
        rw [hcell j (by omega), hv], hx⟩
    obtain ⟨xs, hxl, hxs⟩ := choose_list hex
    subst hxl
    refine ⟨xs, _, rfl, ⟨some a, cap, rfl, hl, fun i x hx => ?_⟩, hw1⟩
    have hi := (List.getElem?_eq_some_iff.1 hx).1
    obtain ⟨cs0, hl0, hc0, -⟩ := hxs 0 xs[0] (by rw [List.getElem?_eq_getElem (by omega)])
    have hspot : a.spot = none := by
      cases cs0 with
      | nil => simp at hl0; omega
      | cons v r =>
        have := hc0 0 v rfl
        rw [Nat.zero_mul] at this
        simp only [Addr.add, if_true] at this
        unfold World.cell? at this
        split at this
        · split at this
          · cases this
          · rename_i hn; simpa using hn
        · cases this
    obtain ⟨cs', hlen, hcell, he⟩ := hxs i x hx
    obtain ⟨bk, of, sp'⟩ := a
    simp only at hspot
    subst hspot
    have hadd : ∀ j, (Addr.add (Addr.add ⟨bk, of, none⟩ (i * size)) j) = ⟨bk, of + i * size + j, none⟩ := by
      intro j
      rw [Deep.add_add]
      simp only [Addr.add]
      split
      · rename_i h0; rw [show of + i * size + j = of by omega]
      · rw [Nat.add_assoc]
    have hrd : w.rangeAt bk (of + i * size) cs' := fun j v hv => by
      have := hcell j v hv
      rw [hadd] at this
      exact this
    refine ⟨bk, of, rfl, Nat.zero_le _, ?_, cs', hlen, hrd, he⟩
    cases cs' with
    | nil => simp at hlen; omega
    | cons v r => exact World.block_lt_of_cell? w _ (hrd 0 v rfl)

/-- a struct's fields, with the data they are -/
theorem field_ofD {H : Type} {enc : TypeId × Value → H} {fuel base : Nat} {sp : Nat → Bool} {hd : Bool} {t : TypeId} {fs : Array Field} {cs : List Value} {d : DataW H} {ps : List MemPlace} (ht : P.underlying t = some (.struct fs)) (h : DataW.trod enc P w base sp hd fuel t cs = some (d, ps)) (hw : (d.weights P t).all (· ≤ reachBytes) = true) :
    cs.length = P.cellsOf t ∧ ∀ (j : Nat) (f : Field), fs[j]? = some f → ∃ (n : Nat) (d' : DataW H) (ps' : List MemPlace), SizeOf.sizeOf d' < SizeOf.sizeOf d ∧ DataW.trod enc P w base sp hd n f.type ((cs.drop f.offset).take (P.cellsOf f.type)) = some (d', ps') ∧ (d'.weights P f.type).all (· ≤ reachBytes) = true := by
  obtain ⟨xs, n, -, hx, hlen, hxl, hf⟩ := DataW.trod_struct ht h
  simp only [Prod.mk.injEq] at hx
  obtain ⟨rfl, -⟩ := hx
  refine ⟨hlen, fun j f hj => ?_⟩
  have hfj := hf j f hj
  have hjl : j < xs.length := by rw [hxl]; exact (Array.getElem?_eq_some_iff.1 hj).1
  rw [List.getElem?_eq_getElem hjl] at hfj
  refine ⟨n, xs[j].1, xs[j].2, ?_, hfj, ?_⟩
  · have h3 : xs[j].1 ∈ xs.map (·.1) := List.mem_map.2 ⟨xs[j], List.getElem_mem hjl, rfl⟩
    have h4 := List.sizeOf_lt_of_mem h3
    simp only [DataW.agg.sizeOf_spec]
    omega
  · rw [List.all_eq_true] at hw ⊢
    intro q hq
    refine hw q ?_
    simp only [DataW.weights, ht]
    exact DataW.weights_mem_each (j := j) (t := f.type) (by simp [hj]) (by simp [List.getElem?_eq_getElem hjl]) q hq
end
end Go.Au

namespace Go.Au
open Go Go.RowKit
open Fm (idx)

/-! ### a formula that is handed in -/
structure FmOk (f : Fm) : Prop where
  op : ∀ x ∈ f.all, x.op < 256
  name : ∀ x ∈ f.all, x.name.size ≤ 140737488351232
  kids : ∀ x ∈ f.all, x.kids.length * 48 ≤ 140737488351232
def FormE (w : World) (cs : List Value) (f : Fm) : Prop := FmOk f ∧ ∃ n, TreeN n 0 w.heap.size w cs f
theorem le_sum {n : Nat} : ∀ {l : List Nat}, n ∈ l → n ≤ l.sum
  | a :: l, h => by
    rw [List.sum_cons]
    rcases List.mem_cons.1 h with rfl | h
    · omega
    · have := le_sum h
      omega
theorem kids_join {w : World} {hi : Nat} {v : Value} {k : List Fm} (h : RowE (fun W cs f => ∃ n, TreeN n 0 hi W cs f) 3 0 hi w v k) : ∃ m, KidsN m 0 hi w v k := by
  obtain ⟨a, c, rfl, hc, hx⟩ := h
  have hex : ∀ i, i < k.length → ∃ n : Nat, ∀ x, k[i]? = some x → ∃ b o, a = some ⟨b, o, none⟩ ∧ 0 ≤ b ∧ b < hi ∧ ∃ cs : List Value, cs.length = 3 ∧ w.rangeAt b (o + i * 3) cs ∧ TreeN n 0 hi w cs x := fun i hi => by
    obtain ⟨b, o, e1, e2, e3, cs, e4, e5, n, e6⟩ := hx i k[i] (List.getElem?_eq_getElem hi)
    exact ⟨n, fun x hxi => by
      rw [List.getElem?_eq_getElem hi] at hxi
      injection hxi with hxi
      subst hxi
      exact ⟨b, o, e1, e2, e3, cs, e4, e5, e6⟩⟩
  obtain ⟨ns, hl, hns⟩ := choose_list hex
  have hm : ∀ n ∈ ns, n ≤ ns.sum := fun n hn => le_sum hn
  refine ⟨ns.sum, a, c, rfl, hc, fun i x hxi => ?_⟩
  have hi := (List.getElem?_eq_some_iff.1 hxi).1
  have hni : ns[i]? = some ns[i] := List.getElem?_eq_getElem (by omega)
  obtain ⟨b, o, e1, e2, e3, cs, e4, e5, e6⟩ := hns i _ hni x hxi
  exact ⟨b, o, e1, e2, e3, cs, e4, e5, e6.le (hm _ (List.getElem_mem _))⟩
theorem three {cs : List Value} (h : cs.length = 3) : ∃ a b c, cs = [a, b, c] := by
  match cs, h with
  | [a, b, c], _ => exact ⟨a, b, c, rfl⟩
theorem cOp : Proofs.Tryz.prog.cellsOf 23 = 1 := by kernel_rfl
theorem cStr : Proofs.Tryz.prog.cellsOf 9 = 1 := by kernel_rfl
theorem cForms : Proofs.Tryz.prog.cellsOf 24 = 1 := by kernel_rfl
theorem opensFormula {W : World} : Opens Proofs.Tryz.prog W 26 (FormE W) := by
  have main : ∀ (N : Nat) (H : Type) (enc : TypeId × Value → H) (fuel base : Nat) (sp : Nat → Bool) (hd : Bool) (cs : List Value) (d : DataW H) (ps : List MemPlace), SizeOf.sizeOf d < N → DataW.trod enc Proofs.Tryz.prog W base sp hd fuel 26 cs = some (d, ps) → (d.weights Proofs.Tryz.prog 26).all (· ≤ reachBytes) = true → ∃ f, FormE W cs f := by
    intro N
    induction N with
    | zero => intro H enc fuel base sp hd cs d ps h; omega
    | succ N ih =>
      intro H enc fuel base sp hd cs d ps hN h hw
      obtain ⟨hl, hf⟩ := field_ofD Proofs.Tryz.underlying26 h hw
      have hl : cs.length = 3 := hl.trans (by kernel_rfl)
      obtain ⟨a, b, c, rfl⟩ := three hl
      obtain ⟨n0, d0, p0, z0, t0, w0⟩ := hf 0 _ rfl
      obtain ⟨n1, d1, p1, z1, t1, w1⟩ := hf 1 _ rfl
      obtain ⟨n2, d2, p2, z2, t2, w2⟩ := hf 2 _ rfl
      obtain ⟨o, ho, ho1, ho2⟩ := opens_int Proofs.Tryz.underlying23 H enc n0 base sp hd _ d0 p0 t0 w0
      obtain ⟨s, hs, hs1⟩ := opens_string Proofs.Tryz.underlying9 H enc n1 base sp hd _ d1 p1 t1 w1
      obtain ⟨k, v, hk, hk1, hk2⟩ := opens_sliceD (size := 3) (B := 48) (E := FormE W) Proofs.Tryz.underlying24 (by kernel_rfl) (by decide) (by kernel_rfl) (by decide) t2 w2 (fun n cs' d' ps' hz ht hw' => ih H enc n base sp hd cs' d' ps' (by omega) ht hw')
      have ha : a = .int .u8 o := by simpa [cOp] using ho
      have hb : b = .string s := by simpa [cStr] using hs
      have hc : c = v := by simpa [cForms] using hk
      subst ha hb hc
      have ho3 : 0 ≤ o := ho1
      have ho4 : o ≤ 255 := ho2
      have hall : ∀ x ∈ k, FmOk x := fun x hx => by
        obtain ⟨i, hi⟩ := List.getElem?_of_mem hx
        obtain ⟨a', c', -, -, hh⟩ := hk1
        obtain ⟨b', o', -, -, -, cs', -, -, he⟩ := hh i x hi
        exact he.1
      obtain ⟨m, hm⟩ := kids_join (RowE.mono hk1 (fun _ _ h => h.2) (Nat.le_refl _) (Nat.le_refl _))
      refine ⟨.mk o.toNat s k, ⟨fun x hx => ?_, fun x hx => ?_, fun x hx => ?_⟩, m + 1, c, ?_, hm⟩
      · rcases Fm.mem_all.1 hx with rfl | ⟨y, hy, hxy⟩
        · show o.toNat < 256; omega
        · exact (hall y hy).op x hxy
      · rcases Fm.mem_all.1 hx with rfl | ⟨y, hy, hxy⟩
        · exact hs1
        · exact (hall y hy).name x hxy
      · rcases Fm.mem_all.1 hx with rfl | ⟨y, hy, hxy⟩
        · exact hk2
        · exact (hall y hy).kids x hxy
      · show _ = [Value.int .u8 ((o.toNat : Nat) : Int), .string s, c]
        rw [Int.toNat_of_nonneg ho3]
  intro H enc fuel base sp hd cs d ps h hw
  exact main (SizeOf.sizeOf d + 1) H enc fuel base sp hd cs d ps (Nat.lt_succ_self _) h hw
end Go.Au

namespace Go.Au
open Go Go.RowKit

theorem FmOk.kids2 {f : Fm} (h : FmOk f) : ∀ x ∈ f.all, x.kids.length < 4611686018427387904 := fun x hx => by have := h.kids x hx; omega
theorem FmOk.name2 {f : Fm} (h : FmOk f) : ∀ x ∈ f.all, x.name.size ≤ 1152921504606846976 := fun x hx => by have := h.name x hx; omega
/-- an argument that is a formula -/
theorem formula_cells {H : Type} {enc : TypeId × Value → H} {W : World} {base : Nat} {sp : Nat → Bool} {hd : Bool} {cs : Array Value} {d : DataW H} {ps : List MemPlace} {ts : List TypeId} {ds : List (DataW H)} (h : DataW.Trod enc Proofs.Tryz.prog W base sp hd 26 (.agg cs) d ps) (hsz : (DataW.weightsEach Proofs.Tryz.prog (26 :: ts) (d :: ds)).all (· ≤ reachBytes) = true) (_ : True = True) :
    ∃ f u n, FmOk f ∧ cs = (fmC f u).toArray ∧ KidsN n 0 W.heap.size W u f.kids := by
  obtain ⟨f, hok, n, ht⟩ := handed (j := 0) (t := 26) h hsz rfl rfl opensFormula
  cases n with
  | zero => exact ht.elim
  | succ n =>
    obtain ⟨u, hu, hk⟩ := ht
    refine ⟨f, u, n, hok, ?_, hk⟩
    have : cs.toList = fmC f u := hu
    apply Array.toList_inj.1
    simpa using this
end Go.Au
