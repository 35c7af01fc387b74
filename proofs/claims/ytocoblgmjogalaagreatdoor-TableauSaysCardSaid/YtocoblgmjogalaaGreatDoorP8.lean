/- Own text of this workplace: a part of the proofs of this place's statements. -/
import Derived.Test.YtocoblgmjogalaaGreatDoorP0
import Derived.Test.YtocoblgmjogalaaGreatDoorG
import Derived.Test.YtocoblgmjogalaaGreatDoorP2
import Derived.Test.YtocoblgmjogalaaGreatDoorP3
import Derived.Test.YtocoblgmjogalaaGreatDoorP4
import Derived.Test.YtocoblgmjogalaaGreatDoorV64
import Derived.Test.YtocoblgmjogalaaGreatDoorP6
import Derived.Test.YtocoblgmjogalaaGreatDoorP7
set_option maxRecDepth 40000
set_option linter.unusedVariables false
set_option linter.unusedSimpArgs false
set_option linter.unusedSectionVars false
namespace Go.Au
open Go Go.RowKit
open Fm (idx)

/-! ### the document's form of a formula (printed by genV9.py) -/
theorem callTwo7 : callable Proofs.Tryz.prog 229 = true := by kernel_rfl
theorem two7_c {n lo hi o : Nat} {w : World} {f g : Fm} {v1 v2 : Value} (h1 : KidsN n lo hi w v1 f.kids) (h2 : KidsN n lo hi w v2 g.kids) (hl : lo ≤ w.heap.size) (hh : hi ≤ w.heap.size) :
    Calls Proofs.Tryz.prog 229 [.int .u8 o, fmA f v1, fmA g v2].toArray w (Ret fun r w' => Kp w w' ∧ ∃ v, r = fmA (.mk o ⟨#[]⟩ [f, g]) v ∧ KidsN (n + 1) lo w'.heap.size w' v [f, g]) := by
  have s1 := h1.slice
  have s2 := h2.slice
  obtain ⟨a1, c1, rfl, -⟩ := s1
  obtain ⟨a2, c2, rfl, -⟩ := s2
  refine call agree Proofs.Tryz.func229 rfl Proofs.Tryz.ntmps229 (by kernel_rfl) ?_
  refine nd fun b4 w1 e1 z1 k1 m1 => ?_
  have m1 : Own w1 b4 26 (fmC f (.slice a1 f.kids.length c1)) := m1
  refine nd fun b5 w2 e2 z2 k2 m2 => ?_
  have m2 : Own w2 b5 26 (fmC g (.slice a2 g.kids.length c2)) := m2
  refine nd fun b6 w3 e3 z3 k3 m3 => ?_
  refine ld agree (Own.all ((k2.trans k3).own m1 id)) (by rfl) ?_
  refine ld agree (Own.all (k3.own m2 id)) (by rfl) ?_
  refine ne (by decide) ?_
  refine nd fun bs w4 e4 z4 k4 m4 => ?_
  have m4 : Own w4 bs 26 (fmC f (.slice a1 f.kids.length c1) ++ fmC g (.slice a2 g.kids.length c2)) := m4
  refine st agree (k4.own m3 id) rfl (Nat.le_refl 3) rfl fun w5 e5 k5 m5 => ?_
  have m5 : Own w5 b6 26 (fmC (.mk o ⟨#[]⟩ [f, g]) (.slice (some ⟨bs, 0, none⟩) 2 2)) := m5
  refine ld agree (Own.all m5) (by rfl) ?_
  have k25 : Kp w2 w5 := (k3.trans k4).newS k5 (fun j hj => by subst hj; omega)
  have k15 : Kp w w5 := (k1.trans k2).trans k25
  refine ⟨k15, _, rfl, ?_⟩
  have m4' := k5.own m4 (by omega)
  have hz5 := k5.size
  exact kidsE_two m4' ⟨by omega, by omega⟩ ((h1.kp k15).mono (Nat.le_refl _) (by omega)) ((h2.kp k15).mono (Nat.le_refl _) (by omega))
theorem callOne7 : callable Proofs.Tryz.prog 228 = true := by kernel_rfl
theorem one7_c {n lo hi o : Nat} {w : World} {f : Fm} {v1 : Value} (h1 : KidsN n lo hi w v1 f.kids) (hl : lo ≤ w.heap.size) (hh : hi ≤ w.heap.size) :
    Calls Proofs.Tryz.prog 228 [.int .u8 o, fmA f v1].toArray w (Ret fun r w' => Kp w w' ∧ ∃ v, r = fmA (.mk o ⟨#[]⟩ [f]) v ∧ KidsN (n + 1) lo w'.heap.size w' v [f]) := by
  have s1 := h1.slice
  obtain ⟨a1, c1, rfl, -⟩ := s1
  refine call agree Proofs.Tryz.func228 rfl Proofs.Tryz.ntmps228 (by kernel_rfl) ?_
  refine nd fun b4 w1 e1 z1 k1 m1 => ?_
  have m1 : Own w1 b4 26 (fmC f (.slice a1 f.kids.length c1)) := m1
  refine nd fun b6 w3 e3 z3 k3 m3 => ?_
  refine ld agree (Own.all (k3.own m1 id)) (by rfl) ?_
  refine ne (by decide) ?_
  refine nd fun bs w4 e4 z4 k4 m4 => ?_
  have m4 : Own w4 bs 26 (fmC f (.slice a1 f.kids.length c1)) := m4
  refine st agree (k4.own m3 id) rfl (Nat.le_refl 3) rfl fun w5 e5 k5 m5 => ?_
  have m5 : Own w5 b6 26 (fmC (.mk o ⟨#[]⟩ [f]) (.slice (some ⟨bs, 0, none⟩) 1 1)) := m5
  refine ld agree (Own.all m5) (by rfl) ?_
  have k15 : Kp w w5 := (k1.trans (k3.trans k4)).newS k5 (fun j hj => by subst hj; omega)
  refine ⟨k15, _, rfl, ?_⟩
  have m4' := k5.own m4 (by omega)
  have hz5 := k5.size
  exact kidsE_one m4' ⟨by omega, by omega⟩ ((h1.kp k15).mono (Nat.le_refl _) (by omega))
def fmT (g : Fm) (y : Option Addr × Nat) : Value := fmA g (.slice y.1 g.kids.length y.2)
/-- a tree none of whose operators is 0 -/
def NZ (g : Fm) : Prop := ∀ x ∈ g.all, x.op ≠ 0
theorem nz_two {o : Nat} {f g : Fm} (ho : o ≠ 0) (hf : NZ f) (hg : NZ g) : NZ (Fm.two o f g) := fun x hx => by
  rcases Fm.mem_all.1 hx with rfl | ⟨y, hy, hxy⟩
  · exact ho
  · have hy : y ∈ [f, g] := hy
    simp only [List.mem_cons, List.not_mem_nil, or_false] at hy
    rcases hy with rfl | rfl
    · exact hf x hxy
    · exact hg x hxy
theorem nz_one {o : Nat} {f : Fm} (ho : o ≠ 0) (hf : NZ f) : NZ (Fm.one o f) := fun x hx => by
  rcases Fm.mem_all.1 hx with rfl | ⟨y, hy, hxy⟩
  · exact ho
  · have hy : y ∈ [f] := hy
    simp only [List.mem_singleton] at hy
    subst hy
    exact hf x hxy
theorem nz_nil {o : Nat} {n : ByteArray} (ho : o ≠ 0) : NZ (.mk o n []) := fun x hx => by
  rcases Fm.mem_all.1 hx with rfl | ⟨y, hy, -⟩
  · exact ho
  · cases hy
theorem form_nz : ∀ {f : Fm}, Fm.formed Fm.future f = true → NZ (Fm.form f).1 ∧ NZ (Fm.form f).2 := by
  intro f
  refine Fm.ind (P := fun f => Fm.formed Fm.future f = true → NZ (Fm.form f).1 ∧ NZ (Fm.form f).2) ?_ f
  intro o n k ih hf
  rcases Fm.formed_cases hf with ⟨h, -, rfl⟩ | ⟨rfl, rfl⟩ | ⟨h, -, x, rfl, hx⟩ | ⟨h, -, x, y, rfl, hx, hy⟩
  · rcases h with rfl | rfl <;> exact ⟨nz_nil (by decide), nz_nil (by decide)⟩
  · exact ⟨nz_nil (by decide), nz_one (by decide) (nz_nil (by decide))⟩
  · obtain ⟨x1, x2⟩ := ih x (by simp) hx
    rcases h with rfl | rfl | rfl | rfl
    · exact ⟨x2, x1⟩
    · exact ⟨nz_one (by decide) x1, nz_one (by decide) x2⟩
    · exact ⟨nz_two (by decide) (nz_nil (by decide)) x1, nz_two (by decide) (nz_nil (by decide)) x2⟩
    · exact ⟨nz_two (by decide) (nz_nil (by decide)) x1, nz_two (by decide) (nz_nil (by decide)) x2⟩
  · obtain ⟨x1, x2⟩ := ih x (by simp) hx
    obtain ⟨y1, y2⟩ := ih y (by simp) hy
    rcases h with rfl | rfl | rfl | rfl | rfl | rfl | rfl | rfl
    · exact ⟨nz_two (by decide) x1 y1, nz_two (by decide) x2 y2⟩
    · exact ⟨nz_two (by decide) x1 y1, nz_two (by decide) x2 y2⟩
    · exact ⟨nz_two (by decide) x2 y1, nz_two (by decide) x1 y2⟩
    · exact ⟨nz_two (by decide) (nz_two (by decide) x1 y1) (nz_two (by decide) x2 y2), nz_two (by decide) (nz_two (by decide) x1 y2) (nz_two (by decide) x2 y1)⟩
    · exact ⟨nz_two (by decide) x1 y1, nz_two (by decide) x2 y2⟩
    · exact ⟨nz_two (by decide) x1 y1, nz_two (by decide) x2 y2⟩
    · exact ⟨nz_two (by decide) y1 (nz_two (by decide) x1 y1), nz_two (by decide) y2 (nz_two (by decide) x2 y2)⟩
    · exact ⟨nz_two (by decide) y1 (nz_two (by decide) x1 y1), nz_two (by decide) y2 (nz_two (by decide) x2 y2)⟩
abbrev zeroF : List Value := fmC (.mk 0 ⟨#[]⟩ []) nilS
/-- a tree does not lie in a box that is still empty -/
theorem KidsN.off {b : Nat} {t : TypeId} {V V' : World} (hb : Own V b t zeroF) (hc : Chg (fun g => g = b) V V') : ∀ {m lo hi : Nat} {v : Value} {k : List Fm}, KidsN m lo hi V v k → (∀ x ∈ Fm.alls k, x.op ≠ 0) → KidsN m lo hi V' v k := by
  intro m
  induction m with
  | zero =>
    intro lo hi v k h _
    obtain ⟨a, c, rfl, hl, hx⟩ := h
    refine ⟨a, c, rfl, hl, fun i x hi => ?_⟩
    obtain ⟨bb, o, -, -, -, cs, -, -, ht⟩ := hx i x hi
    exact ht.elim
  | succ m ih =>
    intro lo hi v k h hz
    obtain ⟨a, c, rfl, hl, hx⟩ := h
    refine ⟨a, c, rfl, hl, fun i x hi => ?_⟩
    obtain ⟨bb, o, e1, e2, e3, cs, e4, hr, u, rfl, hk⟩ := hx i x hi
    have hxm := List.mem_of_getElem? hi
    have hne : bb ≠ b := fun he => by
      subst he
      have h0 := hr 0 (.int .u8 x.op) rfl
      have h2 := hr 2 u rfl
      rw [cell_of_row V bb _ _ t _ hb, List.getElem?_toArray] at h0 h2
      have hj := (List.getElem?_eq_some_iff.1 h2).1
      have hj3 : zeroF.length = 3 := rfl
      rw [show o + i * 3 + 0 = 0 by omega] at h0
      injection h0 with h0
      injection h0 with _ h0
      exact hz x (Fm.mem_alls.2 ⟨x, hxm, Fm.self_all x⟩) (Int.ofNat.inj h0).symm
    refine ⟨bb, o, e1, e2, e3, fmC x u, e4, hc.range hr hne, u, rfl, ih hk fun y hy => hz y (Fm.mem_alls.2 ⟨x, hxm, ?_⟩)⟩
    rw [all_kids]
    exact List.mem_cons_of_mem _ hy
/-- a tree that was made -/
def TreeP (base : Nat) (g : Fm) (y : Option Addr × Nat) (V : World) : Prop := NZ g ∧ ∃ m, KidsN m base V.heap.size V (.slice y.1 g.kids.length y.2) g.kids
theorem TreeP.kp {base : Nat} {g : Fm} {y : Option Addr × Nat} {V V' : World} (h : TreeP base g y V) (k : Kp V V') : TreeP base g y V' := by
  obtain ⟨hz, m, h⟩ := h
  exact ⟨hz, m, (KidsN.kp h k).mono (Nat.le_refl _) k.size⟩
theorem TreeP.off {base b : Nat} {t : TypeId} {g : Fm} {y : Option Addr × Nat} {V V' : World} (h : TreeP base g y V) (hb : Own V b t zeroF) (hc : Chg (fun g => g = b) V V') : TreeP base g y V' := by
  obtain ⟨hz, m, h⟩ := h
  exact ⟨hz, m, (KidsN.off hb hc h fun x hx => hz x (by rw [all_kids]; exact List.mem_cons_of_mem _ hx)).mono (Nat.le_refl _) hc.size⟩
theorem twoT_c {base o : Nat} {w : World} {f g : Fm} {y1 y2 : Option Addr × Nat} (ho : o ≠ 0) (h1 : TreeP base f y1 w) (h2 : TreeP base g y2 w) (hb : base ≤ w.heap.size) :
    Calls Proofs.Tryz.prog 229 [.int .u8 o, fmT f y1, fmT g y2].toArray w (Ret fun r w' => Kp w w' ∧ ∃ y, r = fmT (Fm.two o f g) y ∧ TreeP base (Fm.two o f g) y w') := by
  obtain ⟨z1, m1, h1⟩ := h1
  obtain ⟨z2, m2, h2⟩ := h2
  refine (two7_c (o := o) (h1.le (Nat.le_max_left m1 m2)) (h2.le (Nat.le_max_right m1 m2)) hb (Nat.le_refl _)).mono fun en w' hr => ?_
  cases en with
  | returned r =>
    obtain ⟨hk, v, rfl, hv⟩ := hr
    have hvs := hv.slice
    obtain ⟨va, vc, rfl, -⟩ := hvs
    exact ⟨hk, (va, vc), rfl, nz_two ho z1 z2, _, hv⟩
  | _ => exact hr.elim
theorem oneT_c {base o : Nat} {w : World} {f : Fm} {y1 : Option Addr × Nat} (ho : o ≠ 0) (h1 : TreeP base f y1 w) (hb : base ≤ w.heap.size) :
    Calls Proofs.Tryz.prog 228 [.int .u8 o, fmT f y1].toArray w (Ret fun r w' => Kp w w' ∧ ∃ y, r = fmT (Fm.one o f) y ∧ TreeP base (Fm.one o f) y w') := by
  obtain ⟨z1, m1, h1⟩ := h1
  refine (one7_c (o := o) h1 hb (Nat.le_refl _)).mono fun en w' hr => ?_
  cases en with
  | returned r =>
    obtain ⟨hk, v, rfl, hv⟩ := hr
    have hvs := hv.slice
    obtain ⟨va, vc, rfl, -⟩ := hvs
    exact ⟨hk, (va, vc), rfl, nz_one ho z1, _, hv⟩
  | _ => exact hr.elim
def turnN : Nat → Nat
  | 1 => 2 | 2 => 1 | 5 => 6 | 6 => 5 | 12 => 13 | 13 => 12 | o => o
def selO (nt : Bool) (o : Nat) : Nat := if nt = true then turnN o else o
def selT (nt : Bool) (p : Fm × Fm) : Fm := if nt = true then p.2 else p.1
theorem callTurned : callable Proofs.Tryz.prog 246 = true := by kernel_rfl
theorem turn_eq {o : Nat} {k : Int} {z : Nat} (h : (o : Int) = k) (e : turnN k.toNat = z) : (z : Int) = (turnN o : Nat) := by
  have : o = k.toNat := by omega
  rw [this, e]
theorem turned_c (w : World) (o : Nat) : Calls Proofs.Tryz.prog 246 [.int .u8 o].toArray w (Ret fun r w' => r = .int .u8 (turnN o : Nat) ∧ Kp w w') := by
  refine call agree Proofs.Tryz.func246 rfl Proofs.Tryz.ntmps246 (by kernel_rfl) ?_
  refine sp (fun h => ⟨congrArg (Value.int .u8) (turn_eq (z := 2) h rfl), Chg.refl _ _⟩) (fun h1 => ?_)
  refine sp (fun h => ⟨congrArg (Value.int .u8) (turn_eq (z := 1) h rfl), Chg.refl _ _⟩) (fun h2 => ?_)
  refine sp (fun h => ⟨congrArg (Value.int .u8) (turn_eq (z := 6) h rfl), Chg.refl _ _⟩) (fun h3 => ?_)
  refine sp (fun h => ⟨congrArg (Value.int .u8) (turn_eq (z := 5) h rfl), Chg.refl _ _⟩) (fun h4 => ?_)
  refine sp (fun h => ⟨congrArg (Value.int .u8) (turn_eq (z := 13) h rfl), Chg.refl _ _⟩) (fun h5 => ?_)
  refine sp (fun h => ⟨congrArg (Value.int .u8) (turn_eq (z := 12) h rfl), Chg.refl _ _⟩) (fun h6 => ?_)
  have : turnN o = o := by
    unfold turnN
    split <;> first | rfl | omega
  exact ⟨congrArg (Value.int .u8) (by rw [this]), Chg.refl _ _⟩
theorem callIf1 : callable Proofs.Tryz.prog 227 = true := by kernel_rfl
theorem if1_c (w : World) (o : Nat) (nt : Bool) : Calls Proofs.Tryz.prog 227 [.int .u8 o, .bool nt].toArray w (Ret fun r w' => r = .int .u8 (selO nt o : Nat) ∧ Kp w w') := by
  refine call agree Proofs.Tryz.func227 rfl Proofs.Tryz.ntmps227 (by kernel_rfl) ?_
  cases nt with
  | true =>
    refine cl callTurned (turned_c w o) ?_
    rintro _ w2 ⟨rfl, k2⟩
    exact ⟨rfl, k2⟩
  | false => exact ⟨rfl, Chg.refl _ _⟩
theorem callLeaf : callable Proofs.Tryz.prog 226 = true := by kernel_rfl
theorem leaf_c (w : World) (o : Nat) : Calls Proofs.Tryz.prog 226 [.int .u8 o].toArray w (Ret fun r w' => r = fmT (Fm.lf o) (none, 0) ∧ Kp w w') := by
  refine call agree Proofs.Tryz.func226 rfl Proofs.Tryz.ntmps226 (by kernel_rfl) ?_
  refine nd fun b w1 e1 s1 k1 m1 => ?_
  refine st agree m1 rfl (Nat.le_refl 3) rfl fun w2 e2 k2 m2 => ?_
  have m2 : Own w2 b 26 (fmC (Fm.lf o) nilS) := m2
  refine ld agree (Own.all m2) (by rfl) ?_
  exact ⟨rfl, k1.newS k2 (fun j hj => by subst hj; omega)⟩
theorem leafT (base : Nat) (w : World) {o : Nat} (ho : o ≠ 0) : TreeP base (Fm.lf o) (none, 0) w := ⟨nz_nil ho, 0, none, 0, rfl, Nat.le_refl 0, fun i x hx => by cases hx⟩
theorem form_kids (f : Fm) : Fm.form f = Fm.comb f.op f.name (f.kids.map Fm.form) := by obtain ⟨o, n, k⟩ := f; simp only [Fm.form, Fm.forms_map]; rfl
theorem callForm7 : callable Proofs.Tryz.prog 179 = true := by kernel_rfl
set_option maxHeartbeats 16000000 in
theorem form7_c : ∀ (n lo hi : Nat) (w : World) (v : Value) (f : Fm) (nt : Bool) (base : Nat), KidsN n lo hi w v f.kids → Fm.formed Fm.future f = true → hi ≤ w.heap.size → base ≤ w.heap.size →
    Calls Proofs.Tryz.prog 179 [fmA f v, .bool nt].toArray w (Ret fun r w' => Kp w w' ∧ ∃ y, r = fmT (selT nt (Fm.form f)) y ∧ TreeP base (selT nt (Fm.form f)) y w') := by
  intro n
  induction n using Nat.strongRecOn with
  | ind n ih =>
    intro lo hi w v f nt base h hf hhi hbase
    obtain ⟨a, c, rfl, hc⟩ := h.slice
    have hfk := form_kids f
    refine call agree Proofs.Tryz.func179 rfl Proofs.Tryz.ntmps179 (by kernel_rfl) ?_
    refine nd fun p w1 e1 s1 k1 m1 => ?_
    have m1 : Own w1 p 26 (fmC f (.slice a f.kids.length c)) := m1
    refine nd fun bR w2 e2 s2 k2 mR => ?_
    have mR : Own w2 bR 26 (fmC (.mk 0 ⟨#[]⟩ []) nilS) := mR
    have m1 := k2.own m1 id
    have k02 := k1.trans k2
    have hzR : w.heap.size ≤ bR := by omega
    have hz2 := k02.size
    refine ld agree (Own.at_ (xs := [.int .u8 f.op]) (o := 0) m1 rfl) (by rfl) ?_
    have hcases : ((f.op = 1 ∨ f.op = 2) ∧ f.kids = []) ∨ (f.op = 3 ∧ f.kids = []) ∨ ((f.op = 4 ∨ f.op = 9 ∨ f.op = 10 ∨ f.op = 11) ∧ ∃ x, f.kids = [x] ∧ Fm.formed Fm.future x = true) ∨ ((f.op = 5 ∨ f.op = 6 ∨ f.op = 7 ∨ f.op = 8 ∨ f.op = 12 ∨ f.op = 13 ∨ f.op = 14 ∨ f.op = 15) ∧ ∃ x y, f.kids = [x, y] ∧ Fm.formed Fm.future x = true ∧ Fm.formed Fm.future y = true) := by
      obtain ⟨o, nm, k⟩ := f
      rcases Fm.formed_cases hf with ⟨h, -, h2⟩ | ⟨h, h2⟩ | ⟨h, -, x, h2, h3⟩ | ⟨h, -, x, y, h2, h3, h4⟩
      · exact .inl ⟨h, h2⟩
      · exact .inr (.inl ⟨h, h2⟩)
      · exact .inr (.inr (.inl ⟨h, x, h2, h3⟩))
      · exact .inr (.inr (.inr ⟨h, x, y, h2, h3, h4⟩))
    have fin : ∀ (W : World) (g : Fm) (y : Option Addr × Nat), Kp w2 W → TreeP base g y W → g = selT nt (Fm.form f) → ∀ W', Chg (fun k => k = bR) W W' → Kp w W' ∧ ∃ y', fmT g y = fmT (selT nt (Fm.form f)) y' ∧ TreeP base (selT nt (Fm.form f)) y' W' := fun W g y hk hT hg W' hc => by
      have hW : Kp w W' := (k02.trans hk).newS hc fun g hg => by subst hg; exact hzR
      subst hg
      exact ⟨hW, y, rfl, hT.off (hk.own mR id) hc⟩
    rcases hcases with ⟨ho, hk⟩ | ⟨ho, hk⟩ | ⟨ho, x, hk, hfx⟩ | ⟨ho, x, y, hk, hfx, hfy⟩
    · rcases ho with ho | ho
      · repeat (first | (refine spF (by omega) ?_) | (refine spT (by omega) ?_))
        refine ld agree (Own.at_ (xs := [.int .u8 f.op]) (o := 0) m1 rfl) (by rfl) ?_
        refine cl callIf1 (if1_c w2 f.op nt) ?_
        rintro _ w3 ⟨rfl, k3⟩
        refine cl callLeaf (leaf_c w3 (selO nt f.op)) ?_
        rintro _ w4 ⟨rfl, k4⟩
        refine st agree ((k3.trans k4).own mR id) rfl (Nat.le_refl 3) rfl fun wz ez kz mz => ?_
        have mz : Own wz bR 26 (fmC (Fm.lf (selO nt f.op)) (.slice (((none, 0) : Option Addr × Nat)).1 (Fm.lf (selO nt f.op)).kids.length (((none, 0) : Option Addr × Nat)).2)) := mz
        refine ld agree (Own.all mz) (by rfl) ?_
        exact fin w4 (Fm.lf (selO nt f.op)) ((none, 0) : Option Addr × Nat) (k3.trans k4) (leafT base w4 (by rw [ho]; cases nt <;> decide)) (by rw [hfk, ho, hk]; cases nt <;> rfl) wz kz
      · repeat (first | (refine spF (by omega) ?_) | (refine spT (by omega) ?_))
        refine ld agree (Own.at_ (xs := [.int .u8 f.op]) (o := 0) m1 rfl) (by rfl) ?_
        refine cl callIf1 (if1_c w2 f.op nt) ?_
        rintro _ w3 ⟨rfl, k3⟩
        refine cl callLeaf (leaf_c w3 (selO nt f.op)) ?_
        rintro _ w4 ⟨rfl, k4⟩
        refine st agree ((k3.trans k4).own mR id) rfl (Nat.le_refl 3) rfl fun wz ez kz mz => ?_
        have mz : Own wz bR 26 (fmC (Fm.lf (selO nt f.op)) (.slice (((none, 0) : Option Addr × Nat)).1 (Fm.lf (selO nt f.op)).kids.length (((none, 0) : Option Addr × Nat)).2)) := mz
        refine ld agree (Own.all mz) (by rfl) ?_
        exact fin w4 (Fm.lf (selO nt f.op)) ((none, 0) : Option Addr × Nat) (k3.trans k4) (leafT base w4 (by rw [ho]; cases nt <;> decide)) (by rw [hfk, ho, hk]; cases nt <;> rfl) wz kz
    · repeat (first | (refine spF (by omega) ?_) | (refine spT (by omega) ?_))
      refine ld agree (Own.at_ (xs := [.string f.name]) (o := 1) m1 rfl) (by rfl) ?_
      refine nd fun b5 w3 e3 s3 k3 m5 => ?_
      refine st agree m5 rfl (Nat.le_refl 3) rfl fun w4 e4 k4 m5 => ?_
      have m5 : Own w4 b5 26 (fmC (.mk 3 f.name []) nilS) := m5
      have k24 : Kp w2 w4 := k3.newS k4 (fun j hj => by subst hj; omega)
      have hT4 : TreeP base (.mk 3 f.name []) (none, 0) w4 := ⟨nz_nil (by decide), 0, none, 0, rfl, Nat.le_refl 0, fun i x hx => by cases hx⟩
      rcases nt with _ | _
      · refine ld agree (Own.all m5) (by rfl) ?_
        refine st agree ((k24).own mR id) rfl (Nat.le_refl 3) rfl fun wz ez kz mz => ?_
        have mz : Own wz bR 26 (fmC (Fm.mk 3 f.name []) (.slice (((none, 0) : Option Addr × Nat)).1 (Fm.mk 3 f.name []).kids.length (((none, 0) : Option Addr × Nat)).2)) := mz
        refine ld agree (Own.all mz) (by rfl) ?_
        exact fin w4 (Fm.mk 3 f.name []) ((none, 0) : Option Addr × Nat) (k24) (hT4) (by rw [hfk, ho, hk]; rfl) wz kz
      · refine ld (v := fmT (.mk 3 f.name []) ((none, 0) : Option Addr × Nat)) agree (Own.all m5) (by rfl) ?_
        have hc4 := oneT_c (o := 4) (by decide) hT4 (by have := k24.size; omega)
        refine cl callOne7 hc4 ?_
        rintro _ w5 ⟨k5, y, rfl, hT5⟩
        refine st agree ((k24.trans k5).own mR id) rfl (Nat.le_refl 3) rfl fun wz ez kz mz => ?_
        have mz : Own wz bR 26 (fmC (Fm.one 4 (.mk 3 f.name [])) (.slice (y).1 (Fm.one 4 (.mk 3 f.name [])).kids.length (y).2)) := mz
        refine ld agree (Own.all mz) (by rfl) ?_
        exact fin w5 (Fm.one 4 (.mk 3 f.name [])) y (k24.trans k5) (hT5) (by rw [hfk, ho, hk]; rfl) wz kz
    · have hx0 : f.kids[0]? = some x := by rw [hk]; rfl
      obtain _ | n := n
      · exact (h.kid0 hx0).elim
      obtain ⟨b, o, u, rfl, -, -, hrd, hku⟩ := h.kid hx0
      obtain ⟨ua, uc, rfl, -⟩ := hku.slice
      have hkl : f.kids.length = 1 := by rw [hk]; rfl
      rcases ho with ho | ho | ho | ho
      · repeat (first | (refine spF (by omega) ?_) | (refine spT (by omega) ?_))
        refine ld agree (Own.at_ (xs := [.slice (some ⟨b, o, none⟩) f.kids.length c]) (o := 2) m1 rfl) (by rfl) ?_
        refine ne ⟨by decide, by rw [hkl]; decide⟩ ?_
        refine ld (v := fmA x (.slice ua x.kids.length uc)) agree (k02.range hrd id) (by rfl) ?_
        refine cl callForm7 (ih n (by omega) lo hi w2 _ x (!nt) base (hku.kp k02) hfx (by omega) (by omega)) ?_
        rintro _ w3 ⟨k3, y, rfl, hT3⟩
        refine st agree ((k3).own mR id) rfl (Nat.le_refl 3) rfl fun wz ez kz mz => ?_
        have mz : Own wz bR 26 (fmC (selT (!nt) (Fm.form x)) (.slice (y).1 (selT (!nt) (Fm.form x)).kids.length (y).2)) := mz
        refine ld agree (Own.all mz) (by rfl) ?_
        exact fin w3 (selT (!nt) (Fm.form x)) y (k3) (hT3) (by rw [hfk, ho, hk]; cases nt <;> rfl) wz kz
      · repeat (first | (refine spF (by omega) ?_) | (refine spT (by omega) ?_))
        refine ld agree (Own.at_ (xs := [.slice (some ⟨b, o, none⟩) f.kids.length c]) (o := 2) m1 rfl) (by rfl) ?_
        refine ne ⟨by decide, by rw [hkl]; decide⟩ ?_
        refine ld (v := fmA x (.slice ua x.kids.length uc)) agree (k02.range hrd id) (by rfl) ?_
        refine cl callForm7 (ih n (by omega) lo hi w2 _ x nt base (hku.kp k02) hfx (by omega) (by omega)) ?_
        rintro _ w3 ⟨k3, y, rfl, hT3⟩
        refine cl callOne7 (oneT_c (o := 9) (by decide) hT3 (by have := k3.size; omega)) ?_
        rintro _ w4 ⟨k4, y4, rfl, hT4⟩
        refine st agree ((k3.trans k4).own mR id) rfl (Nat.le_refl 3) rfl fun wz ez kz mz => ?_
        have mz : Own wz bR 26 (fmC (Fm.one 9 (selT nt (Fm.form x))) (.slice (y4).1 (Fm.one 9 (selT nt (Fm.form x))).kids.length (y4).2)) := mz
        refine ld agree (Own.all mz) (by rfl) ?_
        exact fin w4 (Fm.one 9 (selT nt (Fm.form x))) y4 (k3.trans k4) (hT4) (by rw [hfk, ho, hk]; cases nt <;> rfl) wz kz
      · repeat (first | (refine spF (by omega) ?_) | (refine spT (by omega) ?_))
        refine drawn0 agree mixed 12 (by kernel_rfl) (fun _ => False) ?_
        conv => whnf
        refine callk rfl rfl rfl callIf1 (fun V _ _ => if1_c V 12 nt) fun _ => ?_
        conv => whnf
        refine callk rfl rfl rfl callIf1 (fun V _ _ => if1_c V 1 nt) fun _ => ?_
        conv => whnf
        refine callk rfl rfl rfl callLeaf (fun V _ _ => leaf_c V (selO nt 1)) fun _ => ?_
        conv => whnf
        refine ldk agree rfl rfl (fun V hV _ => Own.at_ (xs := [.slice (some ⟨b, o, none⟩) f.kids.length c]) (o := 2) (hV.own m1 id) rfl) (by rfl) fun _ => ?_
        conv => whnf
        refine ne ⟨by decide, by rw [hkl]; decide⟩ ?_
        conv => whnf
        refine ldk (v := fmA x (.slice ua x.kids.length uc)) agree rfl rfl (fun V hV _ => (k02.trans hV).range hrd id) (by rfl) fun _ => ?_
        conv => whnf
        refine callf (τ := Option Addr × Nat) (hne := ⟨(none, 0)⟩) (fun q => fmT (selT nt (Fm.form x)) q) (TreeP base (selT nt (Fm.form x))) rfl rfl rfl (fun q V V' h k => h.kp k) callForm7 (fun V hV _ => ih n (by omega) lo hi V _ x nt base (hku.kp (k02.trans hV)) hfx (by have := hV.size; omega) (by have := hV.size; omega)) fun y10 D10 hD10 => ?_
        conv => whnf
        refine callf (τ := Option Addr × Nat) (hne := ⟨(none, 0)⟩) (fun q => fmT (Fm.two (selO nt 12) (Fm.lf (selO nt 1)) (selT nt (Fm.form x))) q) (TreeP base (Fm.two (selO nt 12) (Fm.lf (selO nt 1)) (selT nt (Fm.form x)))) rfl rfl rfl (fun q V V' h k => h.kp k) callTwo7 (fun V hV hD => twoT_c (o := (selO nt 12)) (by cases nt <;> decide) (leafT base V (by cases nt <;> decide)) (hD10 V (hD 10 (by kernel_rfl))) (by have := hV.size; omega)) fun y11 D11 hD11 => ?_
        conv => whnf
        intro V hV hd
        refine st agree ((hV).own mR id) rfl (Nat.le_refl 3) rfl fun wz ez kz mz => ?_
        have mz : Own wz bR 26 (fmC (Fm.two (selO nt 12) (Fm.lf (selO nt 1)) (selT nt (Fm.form x))) (.slice (y11).1 (Fm.two (selO nt 12) (Fm.lf (selO nt 1)) (selT nt (Fm.form x))).kids.length (y11).2)) := mz
        refine ld agree (Own.all mz) (by rfl) ?_
        exact fin V (Fm.two (selO nt 12) (Fm.lf (selO nt 1)) (selT nt (Fm.form x))) y11 (hV) (hD11 V (hd 11)) (by rw [hfk, ho, hk]; cases nt <;> rfl) wz kz
      · repeat (first | (refine spF (by omega) ?_) | (refine spT (by omega) ?_))
        refine drawn0 agree mixed 12 (by kernel_rfl) (fun _ => False) ?_
        conv => whnf
        refine callk rfl rfl rfl callIf1 (fun V _ _ => if1_c V 13 nt) fun _ => ?_
        conv => whnf
        refine callk rfl rfl rfl callIf1 (fun V _ _ => if1_c V 2 nt) fun _ => ?_
        conv => whnf
        refine callk rfl rfl rfl callLeaf (fun V _ _ => leaf_c V (selO nt 2)) fun _ => ?_
        conv => whnf
        refine ldk agree rfl rfl (fun V hV _ => Own.at_ (xs := [.slice (some ⟨b, o, none⟩) f.kids.length c]) (o := 2) (hV.own m1 id) rfl) (by rfl) fun _ => ?_
        conv => whnf
        refine ne ⟨by decide, by rw [hkl]; decide⟩ ?_
        conv => whnf
        refine ldk (v := fmA x (.slice ua x.kids.length uc)) agree rfl rfl (fun V hV _ => (k02.trans hV).range hrd id) (by rfl) fun _ => ?_
        conv => whnf
        refine callf (τ := Option Addr × Nat) (hne := ⟨(none, 0)⟩) (fun q => fmT (selT nt (Fm.form x)) q) (TreeP base (selT nt (Fm.form x))) rfl rfl rfl (fun q V V' h k => h.kp k) callForm7 (fun V hV _ => ih n (by omega) lo hi V _ x nt base (hku.kp (k02.trans hV)) hfx (by have := hV.size; omega) (by have := hV.size; omega)) fun y10 D10 hD10 => ?_
        conv => whnf
        refine callf (τ := Option Addr × Nat) (hne := ⟨(none, 0)⟩) (fun q => fmT (Fm.two (selO nt 13) (Fm.lf (selO nt 2)) (selT nt (Fm.form x))) q) (TreeP base (Fm.two (selO nt 13) (Fm.lf (selO nt 2)) (selT nt (Fm.form x)))) rfl rfl rfl (fun q V V' h k => h.kp k) callTwo7 (fun V hV hD => twoT_c (o := (selO nt 13)) (by cases nt <;> decide) (leafT base V (by cases nt <;> decide)) (hD10 V (hD 10 (by kernel_rfl))) (by have := hV.size; omega)) fun y11 D11 hD11 => ?_
        conv => whnf
        intro V hV hd
        refine st agree ((hV).own mR id) rfl (Nat.le_refl 3) rfl fun wz ez kz mz => ?_
        have mz : Own wz bR 26 (fmC (Fm.two (selO nt 13) (Fm.lf (selO nt 2)) (selT nt (Fm.form x))) (.slice (y11).1 (Fm.two (selO nt 13) (Fm.lf (selO nt 2)) (selT nt (Fm.form x))).kids.length (y11).2)) := mz
        refine ld agree (Own.all mz) (by rfl) ?_
        exact fin V (Fm.two (selO nt 13) (Fm.lf (selO nt 2)) (selT nt (Fm.form x))) y11 (hV) (hD11 V (hd 11)) (by rw [hfk, ho, hk]; cases nt <;> rfl) wz kz
    · have hx0 : f.kids[0]? = some x := by rw [hk]; rfl
      have hx1 : f.kids[1]? = some y := by rw [hk]; rfl
      obtain _ | n := n
      · exact (h.kid0 hx0).elim
      obtain ⟨b, o, u, rfl, -, -, hrd, hku⟩ := h.kid hx0
      obtain ⟨b', o', v, he, -, -, hrd2, hkv⟩ := h.kid hx1
      injection he with he
      injection he with he1 he2
      subst he1 he2
      obtain ⟨ua, uc, rfl, -⟩ := hku.slice
      obtain ⟨va, vc, rfl, -⟩ := hkv.slice
      have hkl : f.kids.length = 2 := by rw [hk]; rfl
      have hop : 5 ≤ f.op ∧ f.op ≤ 15 ∧ f.op ≠ 9 ∧ f.op ≠ 10 ∧ f.op ≠ 11 := by omega
      iterate 7 refine spF (by omega) ?_
      refine ld agree (Own.at_ (xs := [.slice (some ⟨b, o, none⟩) f.kids.length c]) (o := 2) m1 rfl) (by rfl) ?_
      refine ne ⟨by decide, by rw [hkl]; decide⟩ ?_
      refine ld (v := fmA x (.slice ua x.kids.length uc)) agree (k02.range hrd id) (by rfl) ?_
      refine nd fun bA w3 e3 s3 k3 mA => ?_
      refine st agree mA rfl (Nat.le_refl 3) rfl fun w4 e4 k4 mA => ?_
      have mA : Own w4 bA 26 (fmC x (.slice ua x.kids.length uc)) := mA
      have k24 : Kp w2 w4 := k3.newS k4 (fun j hj => by subst hj; omega)
      have m14 := k24.own m1 id
      refine ld agree (Own.at_ (xs := [.slice (some ⟨b, o, none⟩) f.kids.length c]) (o := 2) m14 rfl) (by rfl) ?_
      refine ne ⟨by decide, by rw [hkl]; decide⟩ ?_
      refine ld (v := fmA y (.slice va y.kids.length vc)) agree ((k02.trans k24).range hrd2 id) (by rfl) ?_
      refine nd fun bB w5 e5 s5 k5 mB => ?_
      refine st agree mB rfl (Nat.le_refl 3) rfl fun w6 e6 k6 mB => ?_
      have mB : Own w6 bB 26 (fmC y (.slice va y.kids.length vc)) := mB
      have k46 : Kp w4 w6 := k5.newS k6 (fun j hj => by subst hj; omega)
      have mA := k46.own mA id
      have k26 := k24.trans k46
      have k06 := k02.trans k26
      have m16 := k26.own m1 id
      have hz6 := k26.size
      have hzAB : bA < w6.heap.size ∧ bB < w6.heap.size := by omega
      refine ld agree (Own.at_ (xs := [.int .u8 f.op]) (o := 0) m16 rfl) (by rfl) ?_
      rcases ho with ho | ho | ho | ho | ho | ho | ho | ho
      · repeat (first | (refine spF (by omega) ?_) | (refine spT (by omega) ?_))
        refine drawn0 agree mixed 11 (by kernel_rfl) (fun _ => False) ?_
        conv => whnf
        refine ldk agree rfl rfl (fun V hV _ => Own.at_ (xs := [.int .u8 f.op]) (o := 0) (hV.own m16 id) rfl) (by rfl) fun _ => ?_
        conv => whnf
        refine callk rfl rfl rfl callIf1 (fun V _ _ => if1_c V f.op nt) fun _ => ?_
        conv => whnf
        refine ldk (v := fmA x (.slice ua x.kids.length uc)) agree rfl rfl (fun V hV _ => Own.all (hV.own mA id)) (by rfl) fun _ => ?_
        conv => whnf
        refine callf (τ := Option Addr × Nat) (hne := ⟨(none, 0)⟩) (fun q => fmT (selT nt (Fm.form x)) q) (TreeP base (selT nt (Fm.form x))) rfl rfl rfl (fun q V V' h k => h.kp k) callForm7 (fun V hV _ => ih n (by omega) lo hi V _ x nt base (hku.kp (k06.trans hV)) hfx (by have := hV.size; omega) (by have := hV.size; omega)) fun y6 D6 hD6 => ?_
        conv => whnf
        refine ldk (v := fmA y (.slice va y.kids.length vc)) agree rfl rfl (fun V hV _ => Own.all (hV.own mB id)) (by rfl) fun _ => ?_
        conv => whnf
        refine callf (τ := Option Addr × Nat) (hne := ⟨(none, 0)⟩) (fun q => fmT (selT nt (Fm.form y)) q) (TreeP base (selT nt (Fm.form y))) rfl rfl rfl (fun q V V' h k => h.kp k) callForm7 (fun V hV _ => ih n (by omega) lo hi V _ y nt base (hkv.kp (k06.trans hV)) hfy (by have := hV.size; omega) (by have := hV.size; omega)) fun y9 D9 hD9 => ?_
        conv => whnf
        refine callf (τ := Option Addr × Nat) (hne := ⟨(none, 0)⟩) (fun q => fmT (Fm.two (selO nt f.op) (selT nt (Fm.form x)) (selT nt (Fm.form y))) q) (TreeP base (Fm.two (selO nt f.op) (selT nt (Fm.form x)) (selT nt (Fm.form y)))) rfl rfl rfl (fun q V V' h k => h.kp k) callTwo7 (fun V hV hD => twoT_c (o := (selO nt f.op)) (by rw [ho]; cases nt <;> decide) (hD6 V (hD 6 (by kernel_rfl))) (hD9 V (hD 9 (by kernel_rfl))) (by have := hV.size; omega)) fun y10 D10 hD10 => ?_
        conv => whnf
        intro V hV hd
        refine st agree ((k26.trans hV).own mR id) rfl (Nat.le_refl 3) rfl fun wz ez kz mz => ?_
        have mz : Own wz bR 26 (fmC (Fm.two (selO nt f.op) (selT nt (Fm.form x)) (selT nt (Fm.form y))) (.slice (y10).1 (Fm.two (selO nt f.op) (selT nt (Fm.form x)) (selT nt (Fm.form y))).kids.length (y10).2)) := mz
        refine ld agree (Own.all mz) (by rfl) ?_
        exact fin V (Fm.two (selO nt f.op) (selT nt (Fm.form x)) (selT nt (Fm.form y))) y10 (k26.trans hV) (hD10 V (hd 10)) (by rw [hfk, ho, hk]; cases nt <;> rfl) wz kz
      · repeat (first | (refine spF (by omega) ?_) | (refine spT (by omega) ?_))
        refine drawn0 agree mixed 11 (by kernel_rfl) (fun _ => False) ?_
        conv => whnf
        refine ldk agree rfl rfl (fun V hV _ => Own.at_ (xs := [.int .u8 f.op]) (o := 0) (hV.own m16 id) rfl) (by rfl) fun _ => ?_
        conv => whnf
        refine callk rfl rfl rfl callIf1 (fun V _ _ => if1_c V f.op nt) fun _ => ?_
        conv => whnf
        refine ldk (v := fmA x (.slice ua x.kids.length uc)) agree rfl rfl (fun V hV _ => Own.all (hV.own mA id)) (by rfl) fun _ => ?_
        conv => whnf
        refine callf (τ := Option Addr × Nat) (hne := ⟨(none, 0)⟩) (fun q => fmT (selT nt (Fm.form x)) q) (TreeP base (selT nt (Fm.form x))) rfl rfl rfl (fun q V V' h k => h.kp k) callForm7 (fun V hV _ => ih n (by omega) lo hi V _ x nt base (hku.kp (k06.trans hV)) hfx (by have := hV.size; omega) (by have := hV.size; omega)) fun y6 D6 hD6 => ?_
        conv => whnf
        refine ldk (v := fmA y (.slice va y.kids.length vc)) agree rfl rfl (fun V hV _ => Own.all (hV.own mB id)) (by rfl) fun _ => ?_
        conv => whnf
        refine callf (τ := Option Addr × Nat) (hne := ⟨(none, 0)⟩) (fun q => fmT (selT nt (Fm.form y)) q) (TreeP base (selT nt (Fm.form y))) rfl rfl rfl (fun q V V' h k => h.kp k) callForm7 (fun V hV _ => ih n (by omega) lo hi V _ y nt base (hkv.kp (k06.trans hV)) hfy (by have := hV.size; omega) (by have := hV.size; omega)) fun y9 D9 hD9 => ?_
        conv => whnf
        refine callf (τ := Option Addr × Nat) (hne := ⟨(none, 0)⟩) (fun q => fmT (Fm.two (selO nt f.op) (selT nt (Fm.form x)) (selT nt (Fm.form y))) q) (TreeP base (Fm.two (selO nt f.op) (selT nt (Fm.form x)) (selT nt (Fm.form y)))) rfl rfl rfl (fun q V V' h k => h.kp k) callTwo7 (fun V hV hD => twoT_c (o := (selO nt f.op)) (by rw [ho]; cases nt <;> decide) (hD6 V (hD 6 (by kernel_rfl))) (hD9 V (hD 9 (by kernel_rfl))) (by have := hV.size; omega)) fun y10 D10 hD10 => ?_
        conv => whnf
        intro V hV hd
        refine st agree ((k26.trans hV).own mR id) rfl (Nat.le_refl 3) rfl fun wz ez kz mz => ?_
        have mz : Own wz bR 26 (fmC (Fm.two (selO nt f.op) (selT nt (Fm.form x)) (selT nt (Fm.form y))) (.slice (y10).1 (Fm.two (selO nt f.op) (selT nt (Fm.form x)) (selT nt (Fm.form y))).kids.length (y10).2)) := mz
        refine ld agree (Own.all mz) (by rfl) ?_
        exact fin V (Fm.two (selO nt f.op) (selT nt (Fm.form x)) (selT nt (Fm.form y))) y10 (k26.trans hV) (hD10 V (hd 10)) (by rw [hfk, ho, hk]; cases nt <;> rfl) wz kz
      · repeat (first | (refine spF (by omega) ?_) | (refine spT (by omega) ?_))
        refine drawn0 agree mixed 10 (by kernel_rfl) (fun _ => False) ?_
        conv => whnf
        refine callk rfl rfl rfl callIf1 (fun V _ _ => if1_c V 6 nt) fun _ => ?_
        conv => whnf
        refine ldk (v := fmA x (.slice ua x.kids.length uc)) agree rfl rfl (fun V hV _ => Own.all (hV.own mA id)) (by rfl) fun _ => ?_
        conv => whnf
        refine callf (τ := Option Addr × Nat) (hne := ⟨(none, 0)⟩) (fun q => fmT (selT (!nt) (Fm.form x)) q) (TreeP base (selT (!nt) (Fm.form x))) rfl rfl rfl (fun q V V' h k => h.kp k) callForm7 (fun V hV _ => ih n (by omega) lo hi V _ x (!nt) base (hku.kp (k06.trans hV)) hfx (by have := hV.size; omega) (by have := hV.size; omega)) fun y5 D5 hD5 => ?_
        conv => whnf
        refine ldk (v := fmA y (.slice va y.kids.length vc)) agree rfl rfl (fun V hV _ => Own.all (hV.own mB id)) (by rfl) fun _ => ?_
        conv => whnf
        refine callf (τ := Option Addr × Nat) (hne := ⟨(none, 0)⟩) (fun q => fmT (selT nt (Fm.form y)) q) (TreeP base (selT nt (Fm.form y))) rfl rfl rfl (fun q V V' h k => h.kp k) callForm7 (fun V hV _ => ih n (by omega) lo hi V _ y nt base (hkv.kp (k06.trans hV)) hfy (by have := hV.size; omega) (by have := hV.size; omega)) fun y8 D8 hD8 => ?_
        conv => whnf
        refine callf (τ := Option Addr × Nat) (hne := ⟨(none, 0)⟩) (fun q => fmT (Fm.two (selO nt 6) (selT (!nt) (Fm.form x)) (selT nt (Fm.form y))) q) (TreeP base (Fm.two (selO nt 6) (selT (!nt) (Fm.form x)) (selT nt (Fm.form y)))) rfl rfl rfl (fun q V V' h k => h.kp k) callTwo7 (fun V hV hD => twoT_c (o := (selO nt 6)) (by cases nt <;> decide) (hD5 V (hD 5 (by kernel_rfl))) (hD8 V (hD 8 (by kernel_rfl))) (by have := hV.size; omega)) fun y9 D9 hD9 => ?_
        conv => whnf
        intro V hV hd
        refine st agree ((k26.trans hV).own mR id) rfl (Nat.le_refl 3) rfl fun wz ez kz mz => ?_
        have mz : Own wz bR 26 (fmC (Fm.two (selO nt 6) (selT (!nt) (Fm.form x)) (selT nt (Fm.form y))) (.slice (y9).1 (Fm.two (selO nt 6) (selT (!nt) (Fm.form x)) (selT nt (Fm.form y))).kids.length (y9).2)) := mz
        refine ld agree (Own.all mz) (by rfl) ?_
        exact fin V (Fm.two (selO nt 6) (selT (!nt) (Fm.form x)) (selT nt (Fm.form y))) y9 (k26.trans hV) (hD9 V (hd 9)) (by rw [hfk, ho, hk]; cases nt <;> rfl) wz kz
      · repeat (first | (refine spF (by omega) ?_) | (refine spT (by omega) ?_))
        refine drawn0 agree mixed 7 (by kernel_rfl) (fun _ => False) ?_
        conv => whnf
        refine ldk (v := fmA x (.slice ua x.kids.length uc)) agree rfl rfl (fun V hV _ => Own.all (hV.own mA id)) (by rfl) fun _ => ?_
        conv => whnf
        refine callf (τ := Option Addr × Nat) (hne := ⟨(none, 0)⟩) (fun q => fmT (selT false (Fm.form x)) q) (TreeP base (selT false (Fm.form x))) rfl rfl rfl (fun q V V' h k => h.kp k) callForm7 (fun V hV _ => ih n (by omega) lo hi V _ x false base (hku.kp (k06.trans hV)) hfx (by have := hV.size; omega) (by have := hV.size; omega)) fun y1 D1 hD1 => ?_
        conv => whnf
        refine ldk (v := fmA y (.slice va y.kids.length vc)) agree rfl rfl (fun V hV _ => Own.all (hV.own mB id)) (by rfl) fun _ => ?_
        conv => whnf
        refine callf (τ := Option Addr × Nat) (hne := ⟨(none, 0)⟩) (fun q => fmT (selT nt (Fm.form y)) q) (TreeP base (selT nt (Fm.form y))) rfl rfl rfl (fun q V V' h k => h.kp k) callForm7 (fun V hV _ => ih n (by omega) lo hi V _ y nt base (hkv.kp (k06.trans hV)) hfy (by have := hV.size; omega) (by have := hV.size; omega)) fun y4 D4 hD4 => ?_
        conv => whnf
        refine callf (τ := Option Addr × Nat) (hne := ⟨(none, 0)⟩) (fun q => fmT (Fm.two 5 (selT false (Fm.form x)) (selT nt (Fm.form y))) q) (TreeP base (Fm.two 5 (selT false (Fm.form x)) (selT nt (Fm.form y)))) rfl rfl rfl (fun q V V' h k => h.kp k) callTwo7 (fun V hV hD => twoT_c (o := 5) (by decide) (hD1 V (hD 1 (by kernel_rfl))) (hD4 V (hD 4 (by kernel_rfl))) (by have := hV.size; omega)) fun y5 D5 hD5 => ?_
        conv => whnf
        refine alk rfl rfl fun b6 D6 hD6 => ?_
        conv => whnf
        intro V hV hd
        have hT8 := hD5 V (hd 5)
        obtain ⟨m8, hb8⟩ := hD6 V (hd 6)
        refine st agree m8 rfl (Nat.le_refl 3) rfl fun w7 e7 k7 mT => ?_
        have mT : Own w7 b6 26 (fmC (Fm.two 5 (selT false (Fm.form x)) (selT nt (Fm.form y))) (.slice y5.1 (Fm.two 5 (selT false (Fm.form x)) (selT nt (Fm.form y))).kids.length y5.2)) := mT
        have hT8 := hT8.off m8 k7
        have k67 : Kp w6 w7 := hV.newS k7 fun g hg => by subst hg; exact hb8
        have mA := k67.own mA id
        have mB := k67.own mB id
        have k07 := k06.trans k67
        have hz7 := k67.size
        have hb6 := lt_of_heap mT
        clear hD1 hD4 hD5 hD6 hd
        refine drawn0 agree mixed 8 (by kernel_rfl) (fun _ => False) ?_
        conv => whnf
        refine ldk (v := fmA x (.slice ua x.kids.length uc)) agree rfl rfl (fun V hV _ => Own.all (hV.own mA id)) (by rfl) fun _ => ?_
        conv => whnf
        refine callf (τ := Option Addr × Nat) (hne := ⟨(none, 0)⟩) (fun q => fmT (selT true (Fm.form x)) q) (TreeP base (selT true (Fm.form x))) rfl rfl rfl (fun q V V' h k => h.kp k) callForm7 (fun V hV _ => ih n (by omega) lo hi V _ x true base (hku.kp (k07.trans hV)) hfx (by have := hV.size; omega) (by have := hV.size; omega)) fun y1 D1 hD1 => ?_
        conv => whnf
        refine ldk (v := fmA y (.slice va y.kids.length vc)) agree rfl rfl (fun V hV _ => Own.all (hV.own mB id)) (by rfl) fun _ => ?_
        conv => whnf
        refine callf (τ := Option Addr × Nat) (hne := ⟨(none, 0)⟩) (fun q => fmT (selT (!nt) (Fm.form y)) q) (TreeP base (selT (!nt) (Fm.form y))) rfl rfl rfl (fun q V V' h k => h.kp k) callForm7 (fun V hV _ => ih n (by omega) lo hi V _ y (!nt) base (hkv.kp (k07.trans hV)) hfy (by have := hV.size; omega) (by have := hV.size; omega)) fun y25 D25 hD25 => ?_
        conv => whnf
        refine callf (τ := Option Addr × Nat) (hne := ⟨(none, 0)⟩) (fun q => fmT (Fm.two 5 (selT true (Fm.form x)) (selT (!nt) (Fm.form y))) q) (TreeP base (Fm.two 5 (selT true (Fm.form x)) (selT (!nt) (Fm.form y)))) rfl rfl rfl (fun q V V' h k => h.kp k) callTwo7 (fun V hV hD => twoT_c (o := 5) (by decide) (hD1 V (hD 1 (by kernel_rfl))) (hD25 V (hD 5 (by kernel_rfl))) (by have := hV.size; omega)) fun y16 D16 hD16 => ?_
        conv => whnf
        refine alk rfl rfl fun b7 D7 hD7 => ?_
        conv => whnf
        intro V2 hV2 hd2
        have hT9 := hD16 V2 (hd2 6)
        obtain ⟨m9, hb9⟩ := hD7 V2 (hd2 7)
        refine st agree m9 rfl (Nat.le_refl 3) rfl fun w8 e8 k8 mU => ?_
        have mU : Own w8 b7 26 (fmC (Fm.two 5 (selT true (Fm.form x)) (selT (!nt) (Fm.form y))) (.slice y16.1 (Fm.two 5 (selT true (Fm.form x)) (selT (!nt) (Fm.form y))).kids.length y16.2)) := mU
        have hT9 := hT9.off m9 k8
        have hT8 := (hT8.kp hV2).off m9 k8
        have k78 : Kp w7 w8 := hV2.newS k8 fun g hg => by subst hg; exact hb9
        have mT := k78.own mT id
        refine ld (v := fmT (Fm.two 5 (selT false (Fm.form x)) (selT nt (Fm.form y))) y5) agree (Own.all mT) (by rfl) ?_
        refine ld (v := fmT (Fm.two 5 (selT true (Fm.form x)) (selT (!nt) (Fm.form y))) y16) agree (Own.all mU) (by rfl) ?_
        refine cl callTwo7 (twoT_c (o := 6) (by decide) hT8 hT9 (by have := k78.size; omega)) ?_
        rintro _ w9 ⟨k9, y9, rfl, hT10⟩
        refine st agree ((((k26.trans k67).trans k78).trans k9).own mR id) rfl (Nat.le_refl 3) rfl fun wz ez kz mz => ?_
        have mz : Own wz bR 26 (fmC (Fm.two 6 (Fm.two 5 (selT false (Fm.form x)) (selT nt (Fm.form y))) (Fm.two 5 (selT true (Fm.form x)) (selT (!nt) (Fm.form y)))) (.slice (y9).1 (Fm.two 6 (Fm.two 5 (selT false (Fm.form x)) (selT nt (Fm.form y))) (Fm.two 5 (selT true (Fm.form x)) (selT (!nt) (Fm.form y)))).kids.length (y9).2)) := mz
        refine ld agree (Own.all mz) (by rfl) ?_
        exact fin w9 (Fm.two 6 (Fm.two 5 (selT false (Fm.form x)) (selT nt (Fm.form y))) (Fm.two 5 (selT true (Fm.form x)) (selT (!nt) (Fm.form y)))) y9 (((k26.trans k67).trans k78).trans k9) (hT10) (by rw [hfk, ho, hk]; cases nt <;> rfl) wz kz
      · repeat (first | (refine spF (by omega) ?_) | (refine spT (by omega) ?_))
        refine drawn0 agree mixed 11 (by kernel_rfl) (fun _ => False) ?_
        conv => whnf
        refine ldk agree rfl rfl (fun V hV _ => Own.at_ (xs := [.int .u8 f.op]) (o := 0) (hV.own m16 id) rfl) (by rfl) fun _ => ?_
        conv => whnf
        refine callk rfl rfl rfl callIf1 (fun V _ _ => if1_c V f.op nt) fun _ => ?_
        conv => whnf
        refine ldk (v := fmA x (.slice ua x.kids.length uc)) agree rfl rfl (fun V hV _ => Own.all (hV.own mA id)) (by rfl) fun _ => ?_
        conv => whnf
        refine callf (τ := Option Addr × Nat) (hne := ⟨(none, 0)⟩) (fun q => fmT (selT nt (Fm.form x)) q) (TreeP base (selT nt (Fm.form x))) rfl rfl rfl (fun q V V' h k => h.kp k) callForm7 (fun V hV _ => ih n (by omega) lo hi V _ x nt base (hku.kp (k06.trans hV)) hfx (by have := hV.size; omega) (by have := hV.size; omega)) fun y6 D6 hD6 => ?_
        conv => whnf
        refine ldk (v := fmA y (.slice va y.kids.length vc)) agree rfl rfl (fun V hV _ => Own.all (hV.own mB id)) (by rfl) fun _ => ?_
        conv => whnf
        refine callf (τ := Option Addr × Nat) (hne := ⟨(none, 0)⟩) (fun q => fmT (selT nt (Fm.form y)) q) (TreeP base (selT nt (Fm.form y))) rfl rfl rfl (fun q V V' h k => h.kp k) callForm7 (fun V hV _ => ih n (by omega) lo hi V _ y nt base (hkv.kp (k06.trans hV)) hfy (by have := hV.size; omega) (by have := hV.size; omega)) fun y9 D9 hD9 => ?_
        conv => whnf
        refine callf (τ := Option Addr × Nat) (hne := ⟨(none, 0)⟩) (fun q => fmT (Fm.two (selO nt f.op) (selT nt (Fm.form x)) (selT nt (Fm.form y))) q) (TreeP base (Fm.two (selO nt f.op) (selT nt (Fm.form x)) (selT nt (Fm.form y)))) rfl rfl rfl (fun q V V' h k => h.kp k) callTwo7 (fun V hV hD => twoT_c (o := (selO nt f.op)) (by rw [ho]; cases nt <;> decide) (hD6 V (hD 6 (by kernel_rfl))) (hD9 V (hD 9 (by kernel_rfl))) (by have := hV.size; omega)) fun y10 D10 hD10 => ?_
        conv => whnf
        intro V hV hd
        refine st agree ((k26.trans hV).own mR id) rfl (Nat.le_refl 3) rfl fun wz ez kz mz => ?_
        have mz : Own wz bR 26 (fmC (Fm.two (selO nt f.op) (selT nt (Fm.form x)) (selT nt (Fm.form y))) (.slice (y10).1 (Fm.two (selO nt f.op) (selT nt (Fm.form x)) (selT nt (Fm.form y))).kids.length (y10).2)) := mz
        refine ld agree (Own.all mz) (by rfl) ?_
        exact fin V (Fm.two (selO nt f.op) (selT nt (Fm.form x)) (selT nt (Fm.form y))) y10 (k26.trans hV) (hD10 V (hd 10)) (by rw [hfk, ho, hk]; cases nt <;> rfl) wz kz
      · repeat (first | (refine spF (by omega) ?_) | (refine spT (by omega) ?_))
        refine drawn0 agree mixed 11 (by kernel_rfl) (fun _ => False) ?_
        conv => whnf
        refine ldk agree rfl rfl (fun V hV _ => Own.at_ (xs := [.int .u8 f.op]) (o := 0) (hV.own m16 id) rfl) (by rfl) fun _ => ?_
        conv => whnf
        refine callk rfl rfl rfl callIf1 (fun V _ _ => if1_c V f.op nt) fun _ => ?_
        conv => whnf
        refine ldk (v := fmA x (.slice ua x.kids.length uc)) agree rfl rfl (fun V hV _ => Own.all (hV.own mA id)) (by rfl) fun _ => ?_
        conv => whnf
        refine callf (τ := Option Addr × Nat) (hne := ⟨(none, 0)⟩) (fun q => fmT (selT nt (Fm.form x)) q) (TreeP base (selT nt (Fm.form x))) rfl rfl rfl (fun q V V' h k => h.kp k) callForm7 (fun V hV _ => ih n (by omega) lo hi V _ x nt base (hku.kp (k06.trans hV)) hfx (by have := hV.size; omega) (by have := hV.size; omega)) fun y6 D6 hD6 => ?_
        conv => whnf
        refine ldk (v := fmA y (.slice va y.kids.length vc)) agree rfl rfl (fun V hV _ => Own.all (hV.own mB id)) (by rfl) fun _ => ?_
        conv => whnf
        refine callf (τ := Option Addr × Nat) (hne := ⟨(none, 0)⟩) (fun q => fmT (selT nt (Fm.form y)) q) (TreeP base (selT nt (Fm.form y))) rfl rfl rfl (fun q V V' h k => h.kp k) callForm7 (fun V hV _ => ih n (by omega) lo hi V _ y nt base (hkv.kp (k06.trans hV)) hfy (by have := hV.size; omega) (by have := hV.size; omega)) fun y9 D9 hD9 => ?_
        conv => whnf
        refine callf (τ := Option Addr × Nat) (hne := ⟨(none, 0)⟩) (fun q => fmT (Fm.two (selO nt f.op) (selT nt (Fm.form x)) (selT nt (Fm.form y))) q) (TreeP base (Fm.two (selO nt f.op) (selT nt (Fm.form x)) (selT nt (Fm.form y)))) rfl rfl rfl (fun q V V' h k => h.kp k) callTwo7 (fun V hV hD => twoT_c (o := (selO nt f.op)) (by rw [ho]; cases nt <;> decide) (hD6 V (hD 6 (by kernel_rfl))) (hD9 V (hD 9 (by kernel_rfl))) (by have := hV.size; omega)) fun y10 D10 hD10 => ?_
        conv => whnf
        intro V hV hd
        refine st agree ((k26.trans hV).own mR id) rfl (Nat.le_refl 3) rfl fun wz ez kz mz => ?_
        have mz : Own wz bR 26 (fmC (Fm.two (selO nt f.op) (selT nt (Fm.form x)) (selT nt (Fm.form y))) (.slice (y10).1 (Fm.two (selO nt f.op) (selT nt (Fm.form x)) (selT nt (Fm.form y))).kids.length (y10).2)) := mz
        refine ld agree (Own.all mz) (by rfl) ?_
        exact fin V (Fm.two (selO nt f.op) (selT nt (Fm.form x)) (selT nt (Fm.form y))) y10 (k26.trans hV) (hD10 V (hd 10)) (by rw [hfk, ho, hk]; cases nt <;> rfl) wz kz
      · repeat (first | (refine spF (by omega) ?_) | (refine spT (by omega) ?_))
        refine drawn0 agree mixed 10 (by kernel_rfl) (fun _ => False) ?_
        conv => whnf
        refine callk rfl rfl rfl callIf1 (fun V _ _ => if1_c V 6 nt) fun _ => ?_
        conv => whnf
        refine ldk (v := fmA x (.slice ua x.kids.length uc)) agree rfl rfl (fun V hV _ => Own.all (hV.own mA id)) (by rfl) fun _ => ?_
        conv => whnf
        refine callf (τ := Option Addr × Nat) (hne := ⟨(none, 0)⟩) (fun q => fmT (selT nt (Fm.form x)) q) (TreeP base (selT nt (Fm.form x))) rfl rfl rfl (fun q V V' h k => h.kp k) callForm7 (fun V hV _ => ih n (by omega) lo hi V _ x nt base (hku.kp (k06.trans hV)) hfx (by have := hV.size; omega) (by have := hV.size; omega)) fun y4 D4 hD4 => ?_
        conv => whnf
        refine ldk (v := fmA y (.slice va y.kids.length vc)) agree rfl rfl (fun V hV _ => Own.all (hV.own mB id)) (by rfl) fun _ => ?_
        conv => whnf
        refine callf (τ := Option Addr × Nat) (hne := ⟨(none, 0)⟩) (fun q => fmT (selT nt (Fm.form y)) q) (TreeP base (selT nt (Fm.form y))) rfl rfl rfl (fun q V V' h k => h.kp k) callForm7 (fun V hV _ => ih n (by omega) lo hi V _ y nt base (hkv.kp (k06.trans hV)) hfy (by have := hV.size; omega) (by have := hV.size; omega)) fun y7 D7 hD7 => ?_
        conv => whnf
        refine callf (τ := Option Addr × Nat) (hne := ⟨(none, 0)⟩) (fun q => fmT (Fm.two (selO nt 6) (selT nt (Fm.form x)) (selT nt (Fm.form y))) q) (TreeP base (Fm.two (selO nt 6) (selT nt (Fm.form x)) (selT nt (Fm.form y)))) rfl rfl rfl (fun q V V' h k => h.kp k) callTwo7 (fun V hV hD => twoT_c (o := (selO nt 6)) (by cases nt <;> decide) (hD4 V (hD 4 (by kernel_rfl))) (hD7 V (hD 7 (by kernel_rfl))) (by have := hV.size; omega)) fun y8 D8 hD8 => ?_
        conv => whnf
        refine alk rfl rfl fun b9 D9 hD9 => ?_
        conv => whnf
        intro V hV hd
        have hT8 := hD8 V (hd 8)
        obtain ⟨m9, hb9⟩ := hD9 V (hd 9)
        refine st agree m9 rfl (Nat.le_refl 3) rfl fun w7 e7 k7 mT => ?_
        have mT : Own w7 b9 26 (fmC (Fm.two (selO nt 6) (selT nt (Fm.form x)) (selT nt (Fm.form y))) (.slice y8.1 (Fm.two (selO nt 6) (selT nt (Fm.form x)) (selT nt (Fm.form y))).kids.length y8.2)) := mT
        have hT8 := hT8.off m9 k7
        have k67 : Kp w6 w7 := hV.newS k7 fun g hg => by subst hg; exact hb9
        have mA := k67.own mA id
        have mB := k67.own mB id
        have k07 := k06.trans k67
        have hz7 := k67.size
        refine drawn0 agree mixed 7 (by kernel_rfl) (fun _ => False) ?_
        conv => whnf
        refine callk rfl rfl rfl callIf1 (fun V _ _ => if1_c V 13 nt) fun _ => ?_
        conv => whnf
        refine ldk (v := fmA y (.slice va y.kids.length vc)) agree rfl rfl (fun V hV _ => Own.all (hV.own mB id)) (by rfl) fun _ => ?_
        conv => whnf
        refine callf (τ := Option Addr × Nat) (hne := ⟨(none, 0)⟩) (fun q => fmT (selT nt (Fm.form y)) q) (TreeP base (selT nt (Fm.form y))) rfl rfl rfl (fun q V V' h k => h.kp k) callForm7 (fun V hV _ => ih n (by omega) lo hi V _ y nt base (hkv.kp (k07.trans hV)) hfy (by have := hV.size; omega) (by have := hV.size; omega)) fun y4 D4 hD4 => ?_
        conv => whnf
        refine ldk (v := fmT (Fm.two (selO nt 6) (selT nt (Fm.form x)) (selT nt (Fm.form y))) y8) agree rfl rfl (fun V hV _ => Own.all (hV.own mT id)) (by rfl) fun _ => ?_
        conv => whnf
        refine callf (τ := Option Addr × Nat) (hne := ⟨(none, 0)⟩) (fun q => fmT (Fm.two (selO nt 13) (selT nt (Fm.form y)) (Fm.two (selO nt 6) (selT nt (Fm.form x)) (selT nt (Fm.form y)))) q) (TreeP base (Fm.two (selO nt 13) (selT nt (Fm.form y)) (Fm.two (selO nt 6) (selT nt (Fm.form x)) (selT nt (Fm.form y))))) rfl rfl rfl (fun q V V' h k => h.kp k) callTwo7 (fun V hV hD => twoT_c (o := (selO nt 13)) (by cases nt <;> decide) (hD4 V (hD 4 (by kernel_rfl))) (hT8.kp hV) (by have := hV.size; omega)) fun y6 D6 hD6 => ?_
        conv => whnf
        intro V2 hV2 hd2
        refine st agree (((k26.trans k67).trans hV2).own mR id) rfl (Nat.le_refl 3) rfl fun wz ez kz mz => ?_
        have mz : Own wz bR 26 (fmC (Fm.two (selO nt 13) (selT nt (Fm.form y)) (Fm.two (selO nt 6) (selT nt (Fm.form x)) (selT nt (Fm.form y)))) (.slice (y6).1 (Fm.two (selO nt 13) (selT nt (Fm.form y)) (Fm.two (selO nt 6) (selT nt (Fm.form x)) (selT nt (Fm.form y)))).kids.length (y6).2)) := mz
        refine ld agree (Own.all mz) (by rfl) ?_
        exact fin V2 (Fm.two (selO nt 13) (selT nt (Fm.form y)) (Fm.two (selO nt 6) (selT nt (Fm.form x)) (selT nt (Fm.form y)))) y6 ((k26.trans k67).trans hV2) (hD6 V2 (hd2 6)) (by rw [hfk, ho, hk]; cases nt <;> rfl) wz kz
      · repeat (first | (refine spF (by omega) ?_) | (refine spT (by omega) ?_))
        refine drawn0 agree mixed 10 (by kernel_rfl) (fun _ => False) ?_
        conv => whnf
        refine callk rfl rfl rfl callIf1 (fun V _ _ => if1_c V 5 nt) fun _ => ?_
        conv => whnf
        refine ldk (v := fmA x (.slice ua x.kids.length uc)) agree rfl rfl (fun V hV _ => Own.all (hV.own mA id)) (by rfl) fun _ => ?_
        conv => whnf
        refine callf (τ := Option Addr × Nat) (hne := ⟨(none, 0)⟩) (fun q => fmT (selT nt (Fm.form x)) q) (TreeP base (selT nt (Fm.form x))) rfl rfl rfl (fun q V V' h k => h.kp k) callForm7 (fun V hV _ => ih n (by omega) lo hi V _ x nt base (hku.kp (k06.trans hV)) hfx (by have := hV.size; omega) (by have := hV.size; omega)) fun y4 D4 hD4 => ?_
        conv => whnf
        refine ldk (v := fmA y (.slice va y.kids.length vc)) agree rfl rfl (fun V hV _ => Own.all (hV.own mB id)) (by rfl) fun _ => ?_
        conv => whnf
        refine callf (τ := Option Addr × Nat) (hne := ⟨(none, 0)⟩) (fun q => fmT (selT nt (Fm.form y)) q) (TreeP base (selT nt (Fm.form y))) rfl rfl rfl (fun q V V' h k => h.kp k) callForm7 (fun V hV _ => ih n (by omega) lo hi V _ y nt base (hkv.kp (k06.trans hV)) hfy (by have := hV.size; omega) (by have := hV.size; omega)) fun y7 D7 hD7 => ?_
        conv => whnf
        refine callf (τ := Option Addr × Nat) (hne := ⟨(none, 0)⟩) (fun q => fmT (Fm.two (selO nt 5) (selT nt (Fm.form x)) (selT nt (Fm.form y))) q) (TreeP base (Fm.two (selO nt 5) (selT nt (Fm.form x)) (selT nt (Fm.form y)))) rfl rfl rfl (fun q V V' h k => h.kp k) callTwo7 (fun V hV hD => twoT_c (o := (selO nt 5)) (by cases nt <;> decide) (hD4 V (hD 4 (by kernel_rfl))) (hD7 V (hD 7 (by kernel_rfl))) (by have := hV.size; omega)) fun y8 D8 hD8 => ?_
        conv => whnf
        refine alk rfl rfl fun b9 D9 hD9 => ?_
        conv => whnf
        intro V hV hd
        have hT8 := hD8 V (hd 8)
        obtain ⟨m9, hb9⟩ := hD9 V (hd 9)
        refine st agree m9 rfl (Nat.le_refl 3) rfl fun w7 e7 k7 mT => ?_
        have mT : Own w7 b9 26 (fmC (Fm.two (selO nt 5) (selT nt (Fm.form x)) (selT nt (Fm.form y))) (.slice y8.1 (Fm.two (selO nt 5) (selT nt (Fm.form x)) (selT nt (Fm.form y))).kids.length y8.2)) := mT
        have hT8 := hT8.off m9 k7
        have k67 : Kp w6 w7 := hV.newS k7 fun g hg => by subst hg; exact hb9
        have mA := k67.own mA id
        have mB := k67.own mB id
        have k07 := k06.trans k67
        have hz7 := k67.size
        refine drawn0 agree mixed 7 (by kernel_rfl) (fun _ => False) ?_
        conv => whnf
        refine callk rfl rfl rfl callIf1 (fun V _ _ => if1_c V 12 nt) fun _ => ?_
        conv => whnf
        refine ldk (v := fmA y (.slice va y.kids.length vc)) agree rfl rfl (fun V hV _ => Own.all (hV.own mB id)) (by rfl) fun _ => ?_
        conv => whnf
        refine callf (τ := Option Addr × Nat) (hne := ⟨(none, 0)⟩) (fun q => fmT (selT nt (Fm.form y)) q) (TreeP base (selT nt (Fm.form y))) rfl rfl rfl (fun q V V' h k => h.kp k) callForm7 (fun V hV _ => ih n (by omega) lo hi V _ y nt base (hkv.kp (k07.trans hV)) hfy (by have := hV.size; omega) (by have := hV.size; omega)) fun y4 D4 hD4 => ?_
        conv => whnf
        refine ldk (v := fmT (Fm.two (selO nt 5) (selT nt (Fm.form x)) (selT nt (Fm.form y))) y8) agree rfl rfl (fun V hV _ => Own.all (hV.own mT id)) (by rfl) fun _ => ?_
        conv => whnf
        refine callf (τ := Option Addr × Nat) (hne := ⟨(none, 0)⟩) (fun q => fmT (Fm.two (selO nt 12) (selT nt (Fm.form y)) (Fm.two (selO nt 5) (selT nt (Fm.form x)) (selT nt (Fm.form y)))) q) (TreeP base (Fm.two (selO nt 12) (selT nt (Fm.form y)) (Fm.two (selO nt 5) (selT nt (Fm.form x)) (selT nt (Fm.form y))))) rfl rfl rfl (fun q V V' h k => h.kp k) callTwo7 (fun V hV hD => twoT_c (o := (selO nt 12)) (by cases nt <;> decide) (hD4 V (hD 4 (by kernel_rfl))) (hT8.kp hV) (by have := hV.size; omega)) fun y6 D6 hD6 => ?_
        conv => whnf
        intro V2 hV2 hd2
        refine st agree (((k26.trans k67).trans hV2).own mR id) rfl (Nat.le_refl 3) rfl fun wz ez kz mz => ?_
        have mz : Own wz bR 26 (fmC (Fm.two (selO nt 12) (selT nt (Fm.form y)) (Fm.two (selO nt 5) (selT nt (Fm.form x)) (selT nt (Fm.form y)))) (.slice (y6).1 (Fm.two (selO nt 12) (selT nt (Fm.form y)) (Fm.two (selO nt 5) (selT nt (Fm.form x)) (selT nt (Fm.form y)))).kids.length (y6).2)) := mz
        refine ld agree (Own.all mz) (by rfl) ?_
        exact fin V2 (Fm.two (selO nt 12) (selT nt (Fm.form y)) (Fm.two (selO nt 5) (selT nt (Fm.form x)) (selT nt (Fm.form y)))) y6 ((k26.trans k67).trans hV2) (hD6 V2 (hd2 6)) (by rw [hfk, ho, hk]; cases nt <;> rfl) wz kz
end Go.Au

namespace Go.Au
open Go Go.RowKit
open Fm (idx)

/-! ### the document's Is -/
def goodB (f : Fm) : Bool := decide ((Fm.cnt f).n ≤ 1000) && decide ((Fm.cnt f).dn ≤ 100)
def NormV (f : Fm) (base : Nat) (r : Value) (w' : World) : Prop :=
  (goodB f = true ∧ ∃ y, r = .tuple #[fmT (Fm.form f).1 y, .int .i64 0] ∧ TreeP base (Fm.form f).1 y w') ∨ (goodB f = false ∧ r = .tuple #[fmA (.mk 0 ⟨#[]⟩ []) nilS, .int .i64 31])
theorem callNormal1 : callable Proofs.Tryz.prog 146 = true := by kernel_rfl
set_option maxHeartbeats 2000000 in
theorem normal1_c {n lo hi : Nat} {w : World} {v : Value} {f : Fm} (h : KidsN n lo hi w v f.kids) (hr : f.right = true) (hh : hi ≤ w.heap.size) :
    Calls Proofs.Tryz.prog 146 [fmA f v, .bool false].toArray w (Ret fun r w' => Kp w w' ∧ NormV f w.heap.size r w') := by
  obtain ⟨a, c, rfl, hc⟩ := h.slice
  have hfo := right_formed hr
  have hri := rightI_ok.2 hr
  refine call agree Proofs.Tryz.func146 rfl Proofs.Tryz.ntmps146 (by kernel_rfl) ?_
  refine nd fun p w1 e1 s1 k1 m1 => ?_
  have m1 : Own w1 p 26 (fmC f (.slice a f.kids.length c)) := m1
  refine nd fun bR w2 e2 s2 k2 mR => ?_
  have mR : Own w2 bR 26 zeroF := mR
  have m1 := k2.own m1 id
  have k02 := k1.trans k2
  refine ld agree (Own.all m1) (by rfl) ?_
  have hc1 := rright_c (h.kp k02) (by omega)
  rewrite [hri] at hc1
  refine cl callRightA3 hc1 ?_
  rintro _ w3 ⟨rfl, k3⟩
  refine spF (fun hh => hh rfl) ?_
  have m3 := k3.own m1 id
  have k03 := k02.trans k3
  refine ld agree (Own.all m3) (by rfl) ?_
  refine cl callCount7 (count_c n lo hi w3 _ f (h.kp k03) hfo.1) ?_
  rintro _ w4 ⟨rfl, k4⟩
  refine nd fun bC w5 e5 s5 k5 mC => ?_
  refine st agree mC rfl (Nat.le_refl 4) rfl fun w6 e6 k6 mC => ?_
  have mC : Own w6 bC 248 (cntC (Fm.cnt f)) := mC
  have k46 : Kp w4 w6 := k5.newS k6 (fun j hj => by subst hj; omega)
  have k36 := k4.trans k46
  have k06 := k03.trans k36
  have mR6 := (k3.trans k36).own mR id
  have hzR : w.heap.size ≤ bR := by omega
  have hz06 := k06.size
  refine ld agree (Own.at_ (xs := [.int .i64 ((Fm.cnt f).n : Nat)]) (o := 0) mC rfl) (by rfl) ?_
  refine ld agree (Own.at_ (xs := [.int .i64 ((Fm.cnt f).dn : Nat)]) (o := 2) mC rfl) (by rfl) ?_
  have bad : goodB f = false → ∀ W', Chg (fun k => k = bR) w6 W' → Kp w W' ∧ NormV f w.heap.size (.tuple #[fmA (.mk 0 ⟨#[]⟩ []) nilS, .int .i64 31]) W' := fun hb W' hc => ⟨k06.newS hc fun g hg => by subst hg; exact hzR, .inr ⟨hb, rfl⟩⟩
  refine sp (fun h1 => ?_) (fun h1 => ?_)
  · have hb : goodB f = false := by unfold goodB; rw [decide_eq_false (by omega)]; rfl
    refine st agree mR6 rfl (Nat.le_refl 3) rfl fun wz ez kz mz => ?_
    have mz : Own wz bR 26 zeroF := mz
    refine ld agree (Own.all mz) (by rfl) ?_
    exact bad hb wz kz
  refine sp (fun h2 => ?_) (fun h2 => ?_)
  · have hb : goodB f = false := by unfold goodB; rw [decide_eq_false (p := (Fm.cnt f).dn ≤ 100) (by omega), Bool.and_false]
    refine st agree mR6 rfl (Nat.le_refl 3) rfl fun wz ez kz mz => ?_
    have mz : Own wz bR 26 zeroF := mz
    refine ld agree (Own.all mz) (by rfl) ?_
    exact bad hb wz kz
  have hb : goodB f = true := by unfold goodB; rw [decide_eq_true (by omega), decide_eq_true (by omega)]; rfl
  refine ld agree (Own.all (k36.own m3 id)) (by rfl) ?_
  refine cl callForm7 (form7_c n lo hi w6 _ f false w.heap.size (h.kp k06) hfo.1 (by omega) (by omega)) ?_
  rintro _ w7 ⟨k7, y, rfl, hT⟩
  have hT : TreeP w.heap.size (Fm.form f).1 y w7 := hT
  have mR7 := k7.own mR6 id
  refine st agree mR7 rfl (Nat.le_refl 3) rfl fun wz ez kz mz => ?_
  have mz : Own wz bR 26 (fmC (Fm.form f).1 (.slice y.1 (Fm.form f).1.kids.length y.2)) := mz
  refine ld agree (Own.all mz) (by rfl) ?_
  exact ⟨(k06.trans k7).newS kz fun g hg => by subst hg; exact hzR, .inl ⟨hb, y, rfl, hT.off mR7 kz⟩⟩
theorem callNormalA : callable Proofs.Tryz.prog 68 = true := by kernel_rfl
theorem normalA_c {n lo hi : Nat} {w : World} {v : Value} {f : Fm} (h : KidsN n lo hi w v f.kids) (hr : f.right = true) (hh : hi ≤ w.heap.size) :
    Calls Proofs.Tryz.prog 68 [fmA f v].toArray w (Ret fun r w' => Kp w w' ∧ NormV f w.heap.size r w') := by
  obtain ⟨a, c, rfl, hc⟩ := h.slice
  refine call agree Proofs.Tryz.func68 rfl Proofs.Tryz.ntmps68 (by kernel_rfl) ?_
  refine nd fun p w1 e1 s1 k1 m1 => ?_
  have m1 : Own w1 p 26 (fmC f (.slice a f.kids.length c)) := m1
  refine nd fun bR w2 e2 s2 k2 mR => ?_
  have mR : Own w2 bR 26 zeroF := mR
  have m1 := k2.own m1 id
  have k02 := k1.trans k2
  have hzR : w.heap.size ≤ bR := by omega
  have hz2 := k02.size
  refine ld agree (Own.all m1) (by rfl) ?_
  refine cl callNormal1 (normal1_c (h.kp k02) hr (by omega)) ?_
  rintro r w3 ⟨k3, hN⟩
  have mR3 := k3.own mR id
  have k03 := k02.trans k3
  rcases hN with ⟨hb, y, rfl, hT⟩ | ⟨hb, rfl⟩
  · refine st agree mR3 rfl (Nat.le_refl 3) rfl fun wz ez kz mz => ?_
    have mz : Own wz bR 26 (fmC (Fm.form f).1 (.slice y.1 (Fm.form f).1.kids.length y.2)) := mz
    refine ld agree (Own.all mz) (by rfl) ?_
    have hT2 := hT.off mR3 kz
    obtain ⟨hz, m, hT2⟩ := hT2
    exact ⟨k03.newS kz fun g hg => by subst hg; exact hzR, .inl ⟨hb, y, rfl, hz, m, hT2.mono hz2 (Nat.le_refl _)⟩⟩
  · refine st agree mR3 rfl (Nat.le_refl 3) rfl fun wz ez kz mz => ?_
    have mz : Own wz bR 26 zeroF := mz
    refine ld agree (Own.all mz) (by rfl) ?_
    exact ⟨k03.newS kz fun g hg => by subst hg; exact hzR, .inr ⟨hb, rfl⟩⟩
theorem callIs7 : callable Proofs.Tryz.prog 18 = true := by kernel_rfl
theorem is7_c {n lo hi : Nat} {w : World} {v : Value} {f : Fm} (h : KidsN n lo hi w v f.kids) (hs : f.size < 4611686018427387904) (hh : hi ≤ w.heap.size) :
    Calls Proofs.Tryz.prog 18 [fmA f v].toArray w (Ret fun r w' => r = .bool (f.right && f.isN) ∧ Kp w w') := by
  rw [← Fm.isRef_eq]
  obtain ⟨a, c, rfl, hc⟩ := h.slice
  refine call agree Proofs.Tryz.func18 rfl Proofs.Tryz.ntmps18 (by kernel_rfl) ?_
  refine nd fun p w1 e1 s1 k1 m1 => ?_
  have m1 : Own w1 p 26 (fmC f (.slice a f.kids.length c)) := m1
  refine ld agree (Own.all m1) (by rfl) ?_
  refine cl callRightA3 (rright_c (h.kp k1) hs) ?_
  rintro _ w2 ⟨rfl, k2⟩
  have k02 := k1.trans k2
  have m2 := k2.own m1 id
  have hz2 := k02.size
  refine sp (fun h1 => ?_) (fun h1 => ?_)
  · have hnr : f.right = false := by
      cases hr : f.right with
      | true => exact absurd (rightI_ok.2 hr) h1
      | false => rfl
    have hres : Fm.isRef f = false := by unfold Fm.isRef; rw [hnr]; rfl
    exact ⟨congrArg Value.bool hres.symm, k02⟩
  have hr : f.right = true := rightI_ok.1 (Classical.byContradiction h1)
  refine ld agree (Own.all m2) (by rfl) ?_
  refine cl callNormalA (normalA_c (h.kp k02) hr (by omega)) ?_
  rintro r w3 ⟨k3, hN⟩
  have k03 := k02.trans k3
  rcases hN with ⟨hb, y, rfl, hT⟩ | ⟨hb, rfl⟩
  · refine nd fun b3 w4 e4 s4 k4 m4 => ?_
    refine st agree m4 rfl (Nat.le_refl 3) rfl fun w5 e5 k5 m5 => ?_
    have m5 : Own w5 b3 26 (fmC (Fm.form f).1 (.slice y.1 (Fm.form f).1.kids.length y.2)) := m5
    have k35 : Kp w3 w5 := k4.newS k5 (fun j hj => by subst hj; omega)
    have k05 := k03.trans k35
    refine spT rfl ?_
    refine ld (v := fmT (Fm.form f).1 y) agree (Own.all m5) (by rfl) ?_
    refine ld agree (Own.all ((k3.trans k35).own m2 id)) (by rfl) ?_
    obtain ⟨-, m, hT⟩ := hT
    have hc1 := rcmp_c (max m n) _ _ lo hi w5 _ _ (Fm.form f).1 f ((hT.kp k35).le (Nat.le_max_left m n)) ((h.kp k05).le (Nat.le_max_right m n)) (.inr hs)
    refine cl callCmp3 hc1 ?_
    rintro _ w6 ⟨rfl, k6⟩
    have hres : Fm.isRef f = decide (Fm.cmp (Fm.form f).1 f = 0) := by
      have hb2 : (decide ((Fm.cnt f).n ≤ 1000) && decide ((Fm.cnt f).dn ≤ 100)) = true := hb
      unfold Fm.isRef; rw [hr, hb2]; rfl
    refine sp (fun h2 => ?_) (fun h2 => ?_)
    · exact ⟨congrArg Value.bool (by rw [hres, decide_eq_true h2]), k05.trans k6⟩
    · exact ⟨congrArg Value.bool (by rw [hres, decide_eq_false h2]), k05.trans k6⟩
  · refine nd fun b3 w4 e4 s4 k4 m4 => ?_
    refine st agree m4 rfl (Nat.le_refl 3) rfl fun w5 e5 k5 m5 => ?_
    have k35 : Kp w3 w5 := k4.newS k5 (fun j hj => by subst hj; omega)
    refine spF (by decide) ?_
    have hres : Fm.isRef f = false := by
      have hb2 : (decide ((Fm.cnt f).n ≤ 1000) && decide ((Fm.cnt f).dn ≤ 100)) = false := hb
      unfold Fm.isRef; rw [hb2]; simp
    exact ⟨congrArg Value.bool hres.symm, k03.trans k35⟩
end Go.Au

namespace Go.Au
open Go Go.RowKit
open Fm (idx)

/-! ### the law TableauNormal -/
theorem foldN_nodup : ∀ (fs : List Fm) (l : List ByteArray), l.Nodup → (fs.foldl Fm.addN l).Nodup
  | [], _, h => h
  | f :: fs, l, h => foldN_nodup fs _ (Fm.addN_nodup h f)
theorem names_ok {f : Fm} (hf : Fm.formed Fm.future f = true) (hl : (Fm.names f).length ≤ 8) : (Tb.nameOk (Fm.names f) && Tb.overNames f (Fm.names f)) = true := by
  have h1 : Tb.nameOk (Fm.names f) = true := by
    unfold Tb.nameOk
    rw [decide_eq_true hl, decide_eq_true (show (Fm.names f).Nodup from foldN_nodup _ _ List.nodup_nil)]
    simp only [Bool.true_and, List.all_eq_true]
    intro s hs
    obtain ⟨x, hx, h3, rfl⟩ := Fm.names_mem.1 hs
    exact formed_name (Fm.formed_all hf hx) h3
  have h2 : Tb.overNames f (Fm.names f) = true := by
    unfold Tb.overNames
    rw [List.all_eq_true]
    intro s hs
    obtain ⟨i, hi, -⟩ := Fm.idx_mem hs
    exact decide_eq_true (by rw [hi]; omega)
  rw [h1, h2]; rfl
theorem err_form {f : Fm} {names : List ByteArray} {most : Int} (h : (f.right && f.isN) = false) : Tb.errOf f names most = 90 := by unfold Tb.errOf; rw [if_pos h]
theorem err_prop {f : Fm} {names : List ByteArray} {most : Int} (h : (f.right && f.isN) = true) (h2 : Tb.nameOk names = false) : Tb.errOf f names most = 91 := by unfold Tb.errOf; rw [if_neg (by rw [h]; decide), if_pos (by rw [h2]; rfl)]
theorem err_rest {f : Fm} {names : List ByteArray} {most : Int} (h : (f.right && f.isN) = true) (h2 : (Tb.nameOk names && Tb.overNames f names) = true) : Tb.errOf f names most = 0 ∨ Tb.errOf f names most = 92 := by
  unfold Tb.errOf
  rw [if_neg (by rw [h]; decide), if_neg (by rw [h2]; decide)]
  split
  · exact .inr rfl
  · exact .inl rfl
theorem callLawNormal : callable Proofs.Tryz.prog 5 = true := by kernel_rfl
set_option maxHeartbeats 4000000 in
theorem lawNormal_c {n lo hi : Nat} {w : World} {v : Value} {f : Fm} (hK : KTab w) (hT : Tab w) (h : KidsN n lo hi w v f.kids) (hh : hi ≤ w.heap.size) (hkl : ∀ x ∈ f.all, x.kids.length < 4611686018427387904) (hnm : ∀ x ∈ f.all, x.name.size ≤ 1152921504606846976) (hop : ∀ x ∈ f.all, x.op < 256) :
    Calls Proofs.Tryz.prog 5 [fmA f v].toArray w (Ret fun r w' => r = .bool true ∧ Kp w w') := by
  obtain ⟨a, c, rfl, hc⟩ := h.slice
  refine call agree Proofs.Tryz.func5 rfl Proofs.Tryz.ntmps5 (by kernel_rfl) ?_
  refine nd fun p w1 e1 s1 k1 m1 => ?_
  have m1 : Own w1 p 26 (fmC f (.slice a f.kids.length c)) := m1
  refine cl callAwake (awake_c (hK.kp k1) (hT.kp k1)) ?_
  rintro _ w2 ⟨rfl, k2⟩
  have k02 := k1.trans k2
  have m2 := k2.own m1 id
  have hz2 := k02.size
  refine ld agree (Own.all m2) (by rfl) ?_
  have hfar := far_c (lo' := 0) (hi' := 0) (nv := nilS) (names := []) (h.kp k02) (by omega) hkl hnm ⟨none, 0, rfl, Nat.le_refl 0, fun i x hx => by cases hx⟩ (by decide) (fun x hx => by cases hx)
  refine cl callFar hfar ?_
  rintro _ w3 ⟨⟨hb, rfl, hbf⟩, k3⟩
  have k03 := k02.trans k3
  have m3 := k3.own m2 id
  have hz3 := k03.size
  cases hb with
  | true => exact ⟨rfl, k03⟩
  | false =>
  obtain ⟨hfs, -, -⟩ := hbf rfl
  have hs : f.size < 4611686018427387904 := by omega
  refine ld agree (Own.all m3) (by rfl) ?_
  refine cl callNamesA3 (rnames_c (h.kp k03) (by omega) (by omega)) ?_
  rintro nv w4 ⟨k4, hnv⟩
  have k04 := k03.trans k4
  have m4 := k4.own m3 id
  have hz4 := k04.size
  have hnl := names_bound f
  have hnvs := row_slice hnv
  obtain ⟨na, nc, rfl, -, -⟩ := hnvs
  have hN4 := strs_own hnv
  refine ld agree (Own.all m4) (by rfl) ?_
  refine cl callRightA3 (rright_c (h.kp k04) hs) ?_
  rintro _ w5 ⟨rfl, k5⟩
  have k05 := k04.trans k5
  have m5 := k5.own m4 id
  have hz5 := k05.size
  obtain ⟨rb, hrb⟩ : ∃ rb, rb = (f.right && f.isN) := ⟨_, rfl⟩
  -- what Of answers
  have ofE : ∀ (W : World) (e : Int), Kp w4 W → Tb.errOf f (Fm.names f) 2000 = e → e ≠ 0 → Calls Proofs.Tryz.prog 12 [fmA f (.slice a f.kids.length c), .slice na (Fm.names f).length nc, iV 2000].toArray W (Ret fun r w' => r = .tuple #[.pointer none, .int .i64 e] ∧ Kp W w') := fun W e hk he h0 =>
    ofErr_c (hK.kp (k04.trans hk)) (h.kp (k04.trans hk)) (by have := hk.size; omega) hs hop (RowE.chg hN4 hk (fun _ _ _ => id) fun _ _ h => h) (by omega) (fun _ _ _ _ => bnd_small (by decide)) he h0
  have ofK : ∀ (W : World), Kp w4 W → Tb.errOf f (Fm.names f) 2000 = 0 → Calls Proofs.Tryz.prog 12 [fmA f (.slice a f.kids.length c), .slice na (Fm.names f).length nc, iV 2000].toArray W (Ret fun r w' => Kp W w' ∧ ∃ n tb sv rv nmv ndv iv xv T, r = .tuple #[pt tb 0, .int .i64 0] ∧ MadeT f (Fm.names f) 2000 n W.heap.size w' tb sv rv nmv ndv iv xv T) := fun W hk he =>
    ofOk_c (hK.kp (k04.trans hk)) (h.kp (k04.trans hk)) (by have := hk.size; omega) hs hop (RowE.chg hN4 hk (fun _ _ _ => id) fun _ _ h => h) (by omega) (fun _ _ _ _ => bnd_small (by decide)) he
  refine sp (fun h1 => ?_) (fun h1 => ?_)
  · have hr : f.right = true := rightI_ok.1 h1
    refine ld agree (Own.all m5) (by rfl) ?_
    have hc7 := is7_c (h.kp k05) hs (by omega)
    rewrite [← hrb] at hc7
    refine cl callIs7 hc7 ?_
    rintro _ w6 ⟨rfl, k6⟩
    have m6 := k6.own m5 id
    have k46 := k5.trans k6
    refine ld agree (Own.all m6) (by rfl) ?_
    cases rb with
    | false =>
      refine cl callOf (ofE w6 90 k46 (err_form hrb.symm) (by decide)) ?_
      rintro _ w7 ⟨rfl, k7⟩
      refine ptrNil agree rfl rfl rfl (by kernel_rfl) ?_
      refine spT rfl ?_
      exact ⟨rfl, (k04.trans k46).trans k7⟩
    | true =>
      by_cases h8 : (Fm.names f).length ≤ 8
      · have hok := names_ok (right_formed hr).1 h8
        rcases err_rest (most := 2000) hrb.symm hok with he | he
        · refine cl callOf (ofK w6 k46 he) ?_
          rintro _ w7 ⟨k7, n2, tb, sv, rv, nmv, ndv, iv, xv, T, rfl, -⟩
          refine spF (by omega) ?_
          refine spT rfl ?_
          refine ptrNotNil agree rfl rfl rfl (by kernel_rfl) ?_
          refine spT rfl ?_
          refine spT rfl ?_
          exact ⟨rfl, (k04.trans k46).trans k7⟩
        · refine cl callOf (ofE w6 92 k46 he (by decide)) ?_
          rintro _ w7 ⟨rfl, k7⟩
          refine spF (by omega) ?_
          refine spF (by decide) ?_
          refine spT rfl ?_
          refine ptrNotNil agree rfl rfl rfl (by kernel_rfl) ?_
          refine spF (by decide) ?_
          refine spT rfl ?_
          exact ⟨rfl, (k04.trans k46).trans k7⟩
      · have hno : Tb.nameOk (Fm.names f) = false := by unfold Tb.nameOk; rw [decide_eq_false h8]; rfl
        refine cl callOf (ofE w6 91 k46 (err_prop hrb.symm hno) (by decide)) ?_
        rintro _ w7 ⟨rfl, k7⟩
        refine spT (by omega) ?_
        refine ptrNil agree rfl rfl rfl (by kernel_rfl) ?_
        refine spT rfl ?_
        exact ⟨rfl, (k04.trans k46).trans k7⟩
  · have hr : f.right = false := by
      cases hr : f.right with
      | true => exact absurd (rightI_ok.2 hr) h1
      | false => rfl
    refine ld agree (Own.all m5) (by rfl) ?_
    refine cl callOf (ofE w5 90 k5 (err_form (by rw [hr]; rfl)) (by decide)) ?_
    rintro _ w7 ⟨rfl, k7⟩
    refine ptrNil agree rfl rfl rfl (by kernel_rfl) ?_
    refine spT rfl ?_
    exact ⟨rfl, k05.trans k7⟩
end Go.Au

namespace Go.Au
open Go Go.RowKit
section
variable {P : Program} {w : World} {α : Type}
/-- a slice whose elements are told by the data they are -/
theorem opens_sliceD {t e : TypeId} {size B : Nat} {E : List Value → α → Prop} (ht : P.underlying t = some (.slice e)) (hc : P.cellsOf e = size) (hpos : 0 < size) (hb : P.bytesOf e = B) (hB : 0 < B) {H : Type} {enc : TypeId × Value → H} {f b : Nat} {sp : Nat → Bool} {hd : Bool} {cs : List Value} {d : DataW H} {ps : List MemPlace}
    (h : DataW.trod enc P w b sp hd f t cs = some (d, ps)) (hw : (d.weights P t).all (· ≤ reachBytes) = true) (hE : ∀ (n : Nat) (cs' : List Value) (d' : DataW H) (ps' : List MemPlace), SizeOf.sizeOf d' < SizeOf.sizeOf d → DataW.trod enc P w b sp hd n e cs' = some (d', ps') → (d'.weights P e).all (· ≤ reachBytes) = true → ∃ x, E cs' x) :
    ∃ (xs : List α) (v : Value), cs = [v] ∧ RowE (fun _ => E) size 0 w.heap.size w v xs ∧ xs.length * B ≤ reachBytes := by
  rcases Deep.open_slice ht h with ⟨rfl, -⟩ | ⟨a, len, cap, m, n, D, Pl, rfl, hba, hl, hcm, hm, hx, hel⟩
  · exact ⟨[], _, rfl, ⟨none, 0, rfl, Nat.le_refl _, fun i x hx => by simp at hx⟩, by simp⟩
  · simp only [Prod.mk.injEq] at hx
    obtain ⟨rfl, -⟩ := hx
    have hlm : len ≤ m := by rw [hm]; split <;> omega
    simp only [DataW.weights, ht, List.all_cons, List.all_append, Bool.and_eq_true, decide_eq_true_eq, hb] at hw
    obtain ⟨hw1, hw2, -⟩ := hw
    have hw1 : len * B ≤ reachBytes := by
      refine Nat.le_trans (Nat.mul_le_mul_right _ ?_) hw1
      simp
    have hex : ∀ i, i < len → ∃ x, ∃ cs', cs'.length = size ∧ (∀ j v, cs'[j]? = some v → w.cell? ((a.add (i * size)).add j) = some v) ∧ E cs' x := by
      intro i hi
      obtain ⟨cs', h1, h2⟩ := hel i (by omega)
      rw [hc] at h1
      obtain ⟨-, hlen, hcell⟩ := World.cells?_some h1
      obtain ⟨x, hx⟩ := hE n cs' (D i) (Pl i) (by
        have h3 : D i ∈ (List.range len).map D := List.mem_map.2 ⟨i, by simpa using hi, rfl⟩
        have h4 := List.sizeOf_lt_of_mem h3
        simp only [DataW.slice.sizeOf_spec]
        omega) h2 (by
        rw [List.all_eq_true] at hw2 ⊢
        exact fun q hq => hw2 q (weightsAll_mem (List.mem_map.2 ⟨i, by simpa using hi, rfl⟩) q hq))
      exact ⟨x, cs', hlen, fun j v hv => by
        have := (List.getElem?_eq_some_iff.1 hv).1
        rw [hcell j (by omega), hv], hx⟩
    obtain ⟨xs, hxl, hxs⟩ := choose_list hex
    subst hxl
    refine ⟨xs, _, rfl, ⟨some a, cap, rfl, hl, fun i x hx => ?_⟩, hw1⟩
    have hi := (List.getElem?_eq_some_iff.1 hx).1
    obtain ⟨cs0, hl0, hc0, -⟩ := hxs 0 xs[0] (by rw [List.getElem?_eq_getElem (by omega)])
    have hspot : a.spot = none := by
      cases cs0 with
      | nil => simp at hl0; omega
      | cons v r =>
        have := hc0 0 v rfl
        rw [Nat.zero_mul] at this
        simp only [Addr.add, if_true] at this
        unfold World.cell? at this
        split at this
        · split at this
          · cases this
          · rename_i hn; simpa using hn
        · cases this
    obtain ⟨cs', hlen, hcell, he⟩ := hxs i x hx
    obtain ⟨bk, of, sp'⟩ := a
    simp only at hspot
    subst hspot
    have hadd : ∀ j, (Addr.add (Addr.add ⟨bk, of, none⟩ (i * size)) j) = ⟨bk, of + i * size + j, none⟩ := by
      intro j
      rw [Deep.add_add]
      simp only [Addr.add]
      split
      · rename_i h0; rw [show of + i * size + j = of by omega]
      · rw [Nat.add_assoc]
    have hrd : w.rangeAt bk (of + i * size) cs' := fun j v hv => by
      have := hcell j v hv
      rw [hadd] at this
      exact this
    refine ⟨bk, of, rfl, Nat.zero_le _, ?_, cs', hlen, hrd, he⟩
    cases cs' with
    | nil => simp at hlen; omega
    | cons v r => exact World.block_lt_of_cell? w _ (hrd 0 v rfl)

/-- a struct's fields, with the data they are -/
theorem field_ofD {H : Type} {enc : TypeId × Value → H} {fuel base : Nat} {sp : Nat → Bool} {hd : Bool} {t : TypeId} {fs : Array Field} {cs : List Value} {d : DataW H} {ps : List MemPlace} (ht : P.underlying t = some (.struct fs)) (h : DataW.trod enc P w base sp hd fuel t cs = some (d, ps)) (hw : (d.weights P t).all (· ≤ reachBytes) = true) :
    cs.length = P.cellsOf t ∧ ∀ (j : Nat) (f : Field), fs[j]? = some f → ∃ (n : Nat) (d' : DataW H) (ps' : List MemPlace), SizeOf.sizeOf d' < SizeOf.sizeOf d ∧ DataW.trod enc P w base sp hd n f.type ((cs.drop f.offset).take (P.cellsOf f.type)) = some (d', ps') ∧ (d'.weights P f.type).all (· ≤ reachBytes) = true := by
  obtain ⟨xs, n, -, hx, hlen, hxl, hf⟩ := DataW.trod_struct ht h
  simp only [Prod.mk.injEq] at hx
  obtain ⟨rfl, -⟩ := hx
  refine ⟨hlen, fun j f hj => ?_⟩
  have hfj := hf j f hj
  have hjl : j < xs.length := by rw [hxl]; exact (Array.getElem?_eq_some_iff.1 hj).1
  rw [List.getElem?_eq_getElem hjl] at hfj
  refine ⟨n, xs[j].1, xs[j].2, ?_, hfj, ?_⟩
  · have h3 : xs[j].1 ∈ xs.map (·.1) := List.mem_map.2 ⟨xs[j], List.getElem_mem hjl, rfl⟩
    have h4 := List.sizeOf_lt_of_mem h3
    simp only [DataW.agg.sizeOf_spec]
    omega
  · rw [List.all_eq_true] at hw ⊢
    intro q hq
    refine hw q ?_
    simp only [DataW.weights, ht]
    exact DataW.weights_mem_each (j := j) (t := f.type) (by simp [hj]) (by simp [List.getElem?_eq_getElem hjl]) q hq
end
end Go.Au

namespace Go.Au
open Go Go.RowKit
open Fm (idx)

/-! ### a formula that is handed in -/
structure FmOk (f : Fm) : Prop where
  op : ∀ x ∈ f.all, x.op < 256
  name : ∀ x ∈ f.all, x.name.size ≤ 140737488351232
  kids : ∀ x ∈ f.all, x.kids.length * 48 ≤ 140737488351232
def FormE (w : World) (cs : List Value) (f : Fm) : Prop := FmOk f ∧ ∃ n, TreeN n 0 w.heap.size w cs f
theorem le_sum {n : Nat} : ∀ {l : List Nat}, n ∈ l → n ≤ l.sum
  | a :: l, h => by
    rw [List.sum_cons]
    rcases List.mem_cons.1 h with rfl | h
    · omega
    · have := le_sum h
      omega
theorem kids_join {w : World} {hi : Nat} {v : Value} {k : List Fm} (h : RowE (fun W cs f => ∃ n, TreeN n 0 hi W cs f) 3 0 hi w v k) : ∃ m, KidsN m 0 hi w v k := by
  obtain ⟨a, c, rfl, hc, hx⟩ := h
  have hex : ∀ i, i < k.length → ∃ n : Nat, ∀ x, k[i]? = some x → ∃ b o, a = some ⟨b, o, none⟩ ∧ 0 ≤ b ∧ b < hi ∧ ∃ cs : List Value, cs.length = 3 ∧ w.rangeAt b (o + i * 3) cs ∧ TreeN n 0 hi w cs x := fun i hi => by
    obtain ⟨b, o, e1, e2, e3, cs, e4, e5, n, e6⟩ := hx i k[i] (List.getElem?_eq_getElem hi)
    exact ⟨n, fun x hxi => by
      rw [List.getElem?_eq_getElem hi] at hxi
      injection hxi with hxi
      subst hxi
      exact ⟨b, o, e1, e2, e3, cs, e4, e5, e6⟩⟩
  obtain ⟨ns, hl, hns⟩ := choose_list hex
  have hm : ∀ n ∈ ns, n ≤ ns.sum := fun n hn => le_sum hn
  refine ⟨ns.sum, a, c, rfl, hc, fun i x hxi => ?_⟩
  have hi := (List.getElem?_eq_some_iff.1 hxi).1
  have hni : ns[i]? = some ns[i] := List.getElem?_eq_getElem (by omega)
  obtain ⟨b, o, e1, e2, e3, cs, e4, e5, e6⟩ := hns i _ hni x hxi
  exact ⟨b, o, e1, e2, e3, cs, e4, e5, e6.le (hm _ (List.getElem_mem _))⟩
theorem three {cs : List Value} (h : cs.length = 3) : ∃ a b c, cs = [a, b, c] := by
  match cs, h with
  | [a, b, c], _ => exact ⟨a, b, c, rfl⟩
theorem cOp : Proofs.Tryz.prog.cellsOf 23 = 1 := by kernel_rfl
theorem cStr : Proofs.Tryz.prog.cellsOf 9 = 1 := by kernel_rfl
theorem cForms : Proofs.Tryz.prog.cellsOf 24 = 1 := by kernel_rfl
theorem opensFormula {W : World} : Opens Proofs.Tryz.prog W 26 (FormE W) := by
  have main : ∀ (N : Nat) (H : Type) (enc : TypeId × Value → H) (fuel base : Nat) (sp : Nat → Bool) (hd : Bool) (cs : List Value) (d : DataW H) (ps : List MemPlace), SizeOf.sizeOf d < N → DataW.trod enc Proofs.Tryz.prog W base sp hd fuel 26 cs = some (d, ps) → (d.weights Proofs.Tryz.prog 26).all (· ≤ reachBytes) = true → ∃ f, FormE W cs f := by
    intro N
    induction N with
    | zero => intro H enc fuel base sp hd cs d ps h; omega
    | succ N ih =>
      intro H enc fuel base sp hd cs d ps hN h hw
      obtain ⟨hl, hf⟩ := field_ofD Proofs.Tryz.underlying26 h hw
      have hl : cs.length = 3 := hl.trans (by kernel_rfl)
      obtain ⟨a, b, c, rfl⟩ := three hl
      obtain ⟨n0, d0, p0, z0, t0, w0⟩ := hf 0 _ rfl
      obtain ⟨n1, d1, p1, z1, t1, w1⟩ := hf 1 _ rfl
      obtain ⟨n2, d2, p2, z2, t2, w2⟩ := hf 2 _ rfl
      obtain ⟨o, ho, ho1, ho2⟩ := opens_int Proofs.Tryz.underlying23 H enc n0 base sp hd _ d0 p0 t0 w0
      obtain ⟨s, hs, hs1⟩ := opens_string Proofs.Tryz.underlying9 H enc n1 base sp hd _ d1 p1 t1 w1
      obtain ⟨k, v, hk, hk1, hk2⟩ := opens_sliceD (size := 3) (B := 48) (E := FormE W) Proofs.Tryz.underlying24 (by kernel_rfl) (by decide) (by kernel_rfl) (by decide) t2 w2 (fun n cs' d' ps' hz ht hw' => ih H enc n base sp hd cs' d' ps' (by omega) ht hw')
      have ha : a = .int .u8 o := by simpa [cOp] using ho
      have hb : b = .string s := by simpa [cStr] using hs
      have hc : c = v := by simpa [cForms] using hk
      subst ha hb hc
      have ho3 : 0 ≤ o := ho1
      have ho4 : o ≤ 255 := ho2
      have hall : ∀ x ∈ k, FmOk x := fun x hx => by
        obtain ⟨i, hi⟩ := List.getElem?_of_mem hx
        obtain ⟨a', c', -, -, hh⟩ := hk1
        obtain ⟨b', o', -, -, -, cs', -, -, he⟩ := hh i x hi
        exact he.1
      obtain ⟨m, hm⟩ := kids_join (RowE.mono hk1 (fun _ _ h => h.2) (Nat.le_refl _) (Nat.le_refl _))
      refine ⟨.mk o.toNat s k, ⟨fun x hx => ?_, fun x hx => ?_, fun x hx => ?_⟩, m + 1, c, ?_, hm⟩
      · rcases Fm.mem_all.1 hx with rfl | ⟨y, hy, hxy⟩
        · show o.toNat < 256; omega
        · exact (hall y hy).op x hxy
      · rcases Fm.mem_all.1 hx with rfl | ⟨y, hy, hxy⟩
        · exact hs1
        · exact (hall y hy).name x hxy
      · rcases Fm.mem_all.1 hx with rfl | ⟨y, hy, hxy⟩
        · exact hk2
        · exact (hall y hy).kids x hxy
      · show _ = [Value.int .u8 ((o.toNat : Nat) : Int), .string s, c]
        rw [Int.toNat_of_nonneg ho3]
  intro H enc fuel base sp hd cs d ps h hw
  exact main (SizeOf.sizeOf d + 1) H enc fuel base sp hd cs d ps (Nat.lt_succ_self _) h hw
end Go.Au

namespace Go.Au
open Go Go.RowKit

theorem FmOk.kids2 {f : Fm} (h : FmOk f) : ∀ x ∈ f.all, x.kids.length < 4611686018427387904 := fun x hx => by have := h.kids x hx; omega
theorem FmOk.name2 {f : Fm} (h : FmOk f) : ∀ x ∈ f.all, x.name.size ≤ 1152921504606846976 := fun x hx => by have := h.name x hx; omega
/-- an argument that is a formula -/
theorem formula_cells {H : Type} {enc : TypeId × Value → H} {W : World} {base : Nat} {sp : Nat → Bool} {hd : Bool} {cs : Array Value} {d : DataW H} {ps : List MemPlace} {ts : List TypeId} {ds : List (DataW H)} (h : DataW.Trod enc Proofs.Tryz.prog W base sp hd 26 (.agg cs) d ps) (hsz : (DataW.weightsEach Proofs.Tryz.prog (26 :: ts) (d :: ds)).all (· ≤ reachBytes) = true) (_ : True = True) :
    ∃ f u n, FmOk f ∧ cs = (fmC f u).toArray ∧ KidsN n 0 W.heap.size W u f.kids := by
  obtain ⟨f, hok, n, ht⟩ := handed (j := 0) (t := 26) h hsz rfl rfl opensFormula
  cases n with
  | zero => exact ht.elim
  | succ n =>
    obtain ⟨u, hu, hk⟩ := ht
    refine ⟨f, u, n, hok, ?_, hk⟩
    have : cs.toList = fmC f u := hu
    apply Array.toList_inj.1
    simpa using this
end Go.Au

namespace Go.Au
open Go
namespace Tb
open Fm (idx)
/-! ### what a node says is so -/
def says (o d i : Nat) (r : TRow) : Prop :=
  r.op ≠ 2 ∧ ((r.op = 3 ∨ r.op = 4) → 0 ≤ r.neg → i < r.neg.toNat → o.testBit r.neg.toNat = false) ∧ (r.op = 5 → o.testBit r.a.toNat = true ∧ o.testBit r.b.toNat = true) ∧ (r.op = 6 → o.testBit r.a.toNat = true ∨ o.testBit r.b.toNat = true) ∧ (r.op = 9 → d.testBit r.a.toNat = true) ∧
    (r.op = 12 → o.testBit r.b.toNat = true ∨ (o.testBit r.a.toNat = true ∧ d.testBit i = true)) ∧ (r.op = 13 → o.testBit r.b.toNat = true ∧ (o.testBit r.a.toNat = true ∨ d.testBit i = true))
def saysQ (P q : Part) (i : Nat) (r : TRow) : Prop :=
  r.op ≠ 2 ∧ ((r.op = 3 ∨ r.op = 4) → 0 ≤ r.neg → P.old.testBit r.neg.toNat = false) ∧ (r.op = 5 → q.todo.testBit r.a.toNat = true ∧ q.todo.testBit r.b.toNat = true) ∧ (r.op = 6 → q.todo.testBit r.a.toNat = true ∨ q.todo.testBit r.b.toNat = true) ∧ (r.op = 9 → q.due.testBit r.a.toNat = true) ∧
    (r.op = 12 → q.todo.testBit r.b.toNat = true ∨ (q.todo.testBit r.a.toNat = true ∧ q.due.testBit i = true)) ∧ (r.op = 13 → q.todo.testBit r.b.toNat = true ∧ (q.todo.testBit r.a.toNat = true ∨ q.due.testBit i = true))
def Sub (s t : Nat) : Prop := ∀ j, s.testBit j = true → t.testBit j = true
theorem sub_put (s i : Nat) : Sub s (putS s i) := fun j h => by rw [putS_bit, h]; rfl
theorem sub_refl (s : Nat) : Sub s s := fun _ h => h
theorem Sub.trans {s t u : Nat} (h : Sub s t) (k : Sub t u) : Sub s u := fun j hj => k j (h j hj)
theorem put_bit (s i : Nat) : (putS s i).testBit i = true := by rw [putS_bit]; simp
theorem sides_says {r : TRow} {i : Nat} {P q : Part} (hq : q ∈ sides r i P) : q.old = P.old ∧ Sub P.due q.due ∧ Sub P.todo q.todo ∧ saysQ P q i r := by
  have no : ∀ o, r.op = o → o ≠ 2 → o ≠ 3 → o ≠ 4 → o ≠ 5 → o ≠ 6 → o ≠ 9 → o ≠ 12 → o ≠ 13 → saysQ P q i r := fun o h h1 h2 h3 h4 h5 h6 h7 h8 => by
    subst h
    exact ⟨h1, fun h => by omega, fun h => absurd h h4, fun h => absurd h h5, fun h => absurd h h6, fun h => absurd h h7, fun h => absurd h h8⟩
  unfold sides at hq
  split at hq
  · cases hq
  · rename_i h
    split at hq
    · cases hq
    · rename_i hn
      simp only [List.mem_singleton] at hq
      subst hq
      refine ⟨rfl, sub_refl _, sub_refl _, by omega, fun _ h0 => ?_, fun h => by omega, fun h => by omega, fun h => by omega, fun h => by omega, fun h => by omega⟩
      cases hb : q.old.testBit r.neg.toNat with
      | false => rfl
      | true => exact absurd ⟨h0, hb⟩ hn
  · rename_i h
    split at hq
    · cases hq
    · rename_i hn
      simp only [List.mem_singleton] at hq
      subst hq
      refine ⟨rfl, sub_refl _, sub_refl _, by omega, fun _ h0 => ?_, fun h => by omega, fun h => by omega, fun h => by omega, fun h => by omega, fun h => by omega⟩
      cases hb : q.old.testBit r.neg.toNat with
      | false => rfl
      | true => exact absurd ⟨h0, hb⟩ hn
  · rename_i h
    simp only [List.mem_singleton] at hq
    subst hq
    exact ⟨rfl, sub_refl _, (sub_put _ _).trans (sub_put _ _), by omega, fun h => by omega, fun _ => ⟨sub_put _ _ _ (put_bit _ _), put_bit _ _⟩, fun h => by omega, fun h => by omega, fun h => by omega, fun h => by omega⟩
  · rename_i h
    simp only [List.mem_cons, List.not_mem_nil, or_false] at hq
    rcases hq with rfl | rfl
    · exact ⟨rfl, sub_refl _, sub_put _ _, by omega, fun h => by omega, fun h => by omega, fun _ => .inl (put_bit _ _), fun h => by omega, fun h => by omega, fun h => by omega⟩
    · exact ⟨rfl, sub_refl _, sub_put _ _, by omega, fun h => by omega, fun h => by omega, fun _ => .inr (put_bit _ _), fun h => by omega, fun h => by omega, fun h => by omega⟩
  · rename_i h
    simp only [List.mem_singleton] at hq
    subst hq
    exact ⟨rfl, sub_put _ _, sub_refl _, by omega, fun h => by omega, fun h => by omega, fun h => by omega, fun _ => put_bit _ _, fun h => by omega, fun h => by omega⟩
  · rename_i h
    simp only [List.mem_cons, List.not_mem_nil, or_false] at hq
    rcases hq with rfl | rfl
    · exact ⟨rfl, sub_refl _, sub_put _ _, by omega, fun h => by omega, fun h => by omega, fun h => by omega, fun h => by omega, fun _ => .inl (put_bit _ _), fun h => by omega⟩
    · exact ⟨rfl, sub_put _ _, sub_put _ _, by omega, fun h => by omega, fun h => by omega, fun h => by omega, fun h => by omega, fun _ => .inr ⟨put_bit _ _, put_bit _ _⟩, fun h => by omega⟩
  · rename_i h
    simp only [List.mem_cons, List.not_mem_nil, or_false] at hq
    rcases hq with rfl | rfl
    · exact ⟨rfl, sub_refl _, (sub_put _ _).trans (sub_put _ _), by omega, fun h => by omega, fun h => by omega, fun h => by omega, fun h => by omega, fun h => by omega, fun _ => ⟨put_bit _ _, .inl (sub_put _ _ _ (put_bit _ _))⟩⟩
    · exact ⟨rfl, sub_put _ _, sub_put _ _, by omega, fun h => by omega, fun h => by omega, fun h => by omega, fun h => by omega, fun h => by omega, fun _ => ⟨put_bit _ _, .inr (put_bit _ _)⟩⟩
  · rename_i h1 h2 h3 h4 h5 h6 h7 h8
    simp only [List.mem_singleton] at hq
    subst hq
    exact ⟨rfl, sub_refl _, sub_refl _, no _ rfl h1 h2 h3 h4 h5 h6 h7 h8⟩
theorem run_says {rs : List TRow} (hw : WfR rs) : ∀ (k : Nat) {p : Part}, k ≤ rs.length → PartOk rs.length k p → (∀ j, j < k → p.old.testBit j = false) → ∀ x ∈ run rs k p,
    Sub p.old x.1 ∧ Sub p.due x.2 ∧ Sub p.todo x.1 ∧ (∀ j, k ≤ j → x.1.testBit j = p.old.testBit j) ∧ ∀ i r, i < k → x.1.testBit i = true → rs[i]? = some r → says x.1 x.2 i r
  | 0, p, _, hp, _, x, hx => by
    simp only [run, List.mem_singleton] at hx
    subst hx
    have h0 : p.todo = 0 := by have := hp.todo; simpa using this
    exact ⟨sub_refl _, sub_refl _, (fun j hj => by rw [h0, Nat.zero_testBit] at hj; exact absurd hj (by decide)), fun _ _ => rfl, fun i r hi => absurd hi (Nat.not_lt_zero _)⟩
  | k + 1, p, hk, hp, ho, x, hx => by
    simp only [run] at hx
    split at hx
    · rename_i ht
      obtain ⟨q, hq, hxq⟩ := List.mem_flatMap.1 hx
      have hqo := step_ok hw (i := k) (n := rs.length) (by omega) (Nat.le_refl _) hp q hq
      unfold step at hq
      rw [if_neg (by rw [ho k (by omega)]; decide)] at hq
      obtain ⟨r, hr⟩ : ∃ r, rs[k]? = some r := ⟨_, List.getElem?_eq_getElem (by omega)⟩
      rw [hr] at hq
      obtain ⟨e1, e2, e3, e4⟩ := sides_says hq
      simp only at e1 e2 e3 e4
      have hqold : ∀ j, q.old.testBit j = (p.old.testBit j || decide (k = j)) := fun j => by rw [e1, putS_bit]
      obtain ⟨i1, i2, i3, i4, i5⟩ := run_says hw k (by omega) hqo (fun j hj => by rw [hqold, ho j (by omega), decide_eq_false (by omega)]; rfl) x hxq
      have hxk : x.1.testBit k = true := by rw [i4 k (Nat.le_refl _), hqold, decide_eq_true rfl, Bool.or_true]
      refine ⟨fun j hj => i1 j (by rw [hqold, hj]; rfl), e2.trans i2, fun j hj => ?_, fun j hj => ?_, fun i r' hi hxi hr' => ?_⟩
      · by_cases hjk : k = j
        · subst hjk; exact hxk
        · exact i3 j (e3 j (by rw [cutS_bit, hj, decide_eq_false hjk]; rfl))
      · rw [i4 j (by omega), hqold, decide_eq_false (by omega), Bool.or_false]
      · rcases Nat.lt_or_ge i k with h1 | h1
        · exact i5 i r' h1 hxi hr'
        · have : i = k := by omega
          subst this
          rw [hr] at hr'
          injection hr' with hr'
          subst hr'
          obtain ⟨s1, s2, s3, s4, s5, s6, s7⟩ := e4
          refine ⟨s1, fun h h0 hlt => ?_, fun h => ⟨i3 _ (s3 h).1, i3 _ (s3 h).2⟩, fun h => (s4 h).imp (i3 _) (i3 _), fun h => i2 _ (s5 h), fun h => (s6 h).imp (i3 _) fun hh => ⟨i3 _ hh.1, i2 _ hh.2⟩, fun h => ⟨i3 _ (s7 h).1, (s7 h).2.imp (i3 _) (i2 _)⟩⟩
          rw [i4 _ (by omega), e1]
          exact s2 h h0
    · rename_i ht
      have hb : p.todo.testBit k = false := Bool.eq_false_iff.2 ht
      have htd : p.todo < 2 ^ k := lt_of_bits fun j hj => by
        by_cases hjk : j = k
        · subst hjk; exact hb
        · exact Nat.testBit_lt_two_pow (Nat.lt_of_lt_of_le hp.todo (Nat.pow_le_pow_right (by decide) (by omega)))
      obtain ⟨i1, i2, i3, i4, i5⟩ := run_says hw k (by omega) ⟨hp.old, hp.due, htd⟩ (fun j hj => ho j (by omega)) x hx
      refine ⟨i1, i2, i3, fun j hj => i4 j (by omega), fun i r hi hxi hr => ?_⟩
      rcases Nat.lt_or_ge i k with h1 | h1
      · exact i5 i r h1 hxi hr
      · have : i = k := by omega
        subst this
        rw [i4 i (Nat.le_refl _), ho i (by omega)] at hxi
        cases hxi
theorem fits_says {rs : List TRow} (hw : WfR rs) {s : Nat} (hs : s < 2 ^ rs.length) {x : Node} (hx : x ∈ fits rs s) : Sub s x.1 ∧ ∀ i r, x.1.testBit i = true → rs[i]? = some r → says x.1 x.2 i r := by
  rw [mem_fits] at hx
  obtain ⟨-, -, h3, -, h5⟩ := run_says hw rs.length (p := ⟨0, 0, s⟩) (Nat.le_refl _) ⟨Nat.two_pow_pos _, Nat.two_pow_pos _, hs⟩ (fun j _ => Nat.zero_testBit j) x hx
  exact ⟨h3, fun i r hi hr => h5 i r (List.getElem?_eq_some_iff.1 hr).1 hi hr⟩
end Tb
end Go.Au

namespace Go.Au
open Go Go.RowKit
open Fm (idx)

/-! ### negations' places; where nodes come from; plain -/
namespace Tb
theorem setNeg_ne {rs : List TRow} {i j : Nat} {v : Int} (h : i ≠ j) : (setNeg rs i v)[j]? = rs[j]? := by
  unfold setNeg
  split
  · rw [List.getElem?_set_ne h]
  · rfl
theorem setNeg_eq {rs : List TRow} {i : Nat} {v : Int} {r : TRow} (h : rs[i]? = some r) : (setNeg rs i v)[i]? = some { r with neg := v } := by
  unfold setNeg
  rw [h]
  simp only
  rw [List.getElem?_set_self (List.getElem?_eq_some_iff.1 h).1]
theorem kidP_zero {subs k : List Fm} {y : Fm} (h : k = [y]) : kidP subs k 0 = idx subs y := by rw [h]; rfl
theorem neg_kid {f x : Fm} (hf : Fm.formed Fm.future f = true) (hN : Fm.isN f = true) {i : Nat} (hx : f.subs[i]? = some x) (h4 : x.op = 4) :
    ∃ (j : Nat) (y : Fm) (r' : TRow), x.kids = [y] ∧ y.op = 3 ∧ f.subs[j]? = some y ∧ j < i ∧ (rows f.subs)[j]? = some r' ∧ r'.op = 3 ∧ r'.neg = i := by
  have hxm := Fm.subs_at_mem hx
  obtain ⟨y, hy, hy3⟩ := isN_all hf hN hxm h4
  obtain ⟨j, hj1, hj2, hj3⟩ := Fm.place_kid hx (c := y) (by rw [hy]; simp)
  have hnd := (Fm.subs_sorted f).nodup
  have hrow : ∀ (k : Nat) (z : Fm), f.subs[k]? = some z → ∀ (m : Nat), ∃ r, (negs m (f.subs.map (row0 f.subs)))[k]? = some r ∧ r.op = z.op ∧ r.a = kidP f.subs z.kids 0 := fun k z hz m => by
    have hk : k < (negs m (f.subs.map (row0 f.subs))).length := by
      rw [negs_len, List.length_map]
      exact (List.getElem?_eq_some_iff.1 hz).1
    obtain ⟨s, h1, h2⟩ := negs_at (List.getElem?_eq_getElem hk)
    rw [List.getElem?_map, hz] at h1
    injection h1 with h1
    subst h1
    exact ⟨_, List.getElem?_eq_getElem hk, h2.1, h2.2.1⟩
  have main : ∀ m, i < m → m ≤ f.subs.length → ∃ r', (negs m (f.subs.map (row0 f.subs)))[j]? = some r' ∧ r'.neg = i := by
    intro m
    induction m with
    | zero => intro h; omega
    | succ m ih =>
      intro him hm
      simp only [negs]
      obtain ⟨z, hz⟩ : ∃ z, f.subs[m]? = some z := ⟨_, List.getElem?_eq_getElem (by omega)⟩
      obtain ⟨r, hr, hro, hra⟩ := hrow m z hz m
      unfold negStep
      rw [hr]
      simp only
      by_cases hz4 : z.op = 4
      · rw [if_pos (by rw [hro]; exact hz4)]
        obtain ⟨y', hy', hy3'⟩ := isN_all hf hN (Fm.subs_at_mem hz) hz4
        obtain ⟨j', hj1', hj2', -⟩ := Fm.place_kid hz (c := y') (by rw [hy']; simp)
        have hra' : r.a = (j' : Int) := by rw [hra, kidP_zero hy', hj1']
        rw [hra', Int.toNat_natCast]
        have hjm : m ≠ j := fun h => by
          subst h
          rw [hz] at hj2
          injection hj2 with hj2
          rw [hj2] at hz4
          omega
        by_cases him2 : i = m
        · subst him2
          rw [hx] at hz
          injection hz with hz
          subst hz
          rw [hy] at hy'
          injection hy' with hy'
          subst hy'
          have : j' = j := by omega
          subst this
          obtain ⟨r2, hr2, -, -⟩ := hrow j' y hj2 i
          exact ⟨_, setNeg_eq (by rw [setNeg_ne hjm]; exact hr2), rfl⟩
        · have hne : j' ≠ j := fun h => by
            subst h
            rw [hj2] at hj2'
            injection hj2' with hj2'
            subst hj2'
            have hfx := Fm.formed_all hf hxm
            have hfz := Fm.formed_all hf (Fm.subs_at_mem hz)
            have hxe : x = .mk 4 ⟨#[]⟩ [y] := by
              obtain ⟨o, nm, k⟩ := x
              rcases Fm.formed_cases hfx with ⟨h, -⟩ | ⟨h, -⟩ | ⟨-, h, -⟩ | ⟨-, h, -⟩
              · simp only [Fm.op] at h4; omega
              · simp only [Fm.op] at h4; omega
              · simp only [Fm.op, Fm.kids] at h4 hy; rw [h4, h, hy]
              · simp only [Fm.op, Fm.kids] at h4 hy; rw [h4, h, hy]
            have hze : z = .mk 4 ⟨#[]⟩ [y] := by
              obtain ⟨o, nm, k⟩ := z
              rcases Fm.formed_cases hfz with ⟨h, -⟩ | ⟨h, -⟩ | ⟨-, h, -⟩ | ⟨-, h, -⟩
              · simp only [Fm.op] at hz4; omega
              · simp only [Fm.op] at hz4; omega
              · simp only [Fm.op, Fm.kids] at hz4 hy'; rw [hz4, h, hy']
              · simp only [Fm.op, Fm.kids] at hz4 hy'; rw [hz4, h, hy']
            have hil := (List.getElem?_eq_some_iff.1 hx).1
            have hml := (List.getElem?_eq_some_iff.1 hz).1
            exact him2 ((List.getElem_inj hnd).1 (by
              rw [(List.getElem?_eq_some_iff.1 hx).2, (List.getElem?_eq_some_iff.1 hz).2, hxe, hze]))
          rw [setNeg_ne hne, setNeg_ne hjm]
          exact ih (by omega) (by omega)
      · rw [if_neg (by rw [hro]; exact hz4)]
        have him2 : i ≠ m := fun h => by
          subst h
          rw [hx] at hz
          injection hz with hz
          rw [hz] at h4
          exact hz4 h4
        exact ih (by omega) (by omega)
  obtain ⟨r', hr', hn'⟩ := main f.subs.length (List.getElem?_eq_some_iff.1 hx).1 (Nat.le_refl _)
  obtain ⟨r2, hr2, hro2, -⟩ := hrow j y hj2 f.subs.length
  rw [hr'] at hr2
  injection hr2 with hr2
  subst hr2
  exact ⟨j, y, r', hy, hy3, hj2, hj3, hr', by rw [hro2, hy3], hn'⟩
/-- each node fits some set -/
def FromFits (rs : List TRow) (l : List Node) : Prop := ∀ p ∈ l, ∃ s, s < 2 ^ rs.length ∧ p ∈ fits rs s
theorem from_start {rs : List TRow} {s : Nat} (hs : s < 2 ^ rs.length) : FromFits rs (start rs s).nodes := fun p hp => by
  have h := (addF_spec (fits rs s) ([], []) List.nodup_nil).2.2.1 p
  have hp : p ∈ ((fits rs s).foldl add1 ([], [])).1 := hp
  rw [h] at hp
  exact ⟨s, hs, hp.elim (fun h => by cases h) id⟩
theorem from_giter {rs : List TRow} (hw : WfR rs) : ∀ (k : Nat) (s : GS), s.nodes.Nodup → FromFits rs s.nodes → FromFits rs (giter rs k s).nodes
  | 0, _, _, h => h
  | k + 1, s, hn, h => by
    have hstep : (gstep rs s).nodes.Nodup ∧ FromFits rs (gstep rs s).nodes := by
      unfold gstep
      split
      · exact ⟨hn, h⟩
      · rename_i p hp
        obtain ⟨t, ht, hpt⟩ := h p (List.mem_of_getElem? hp)
        have hs := addF_spec (fits rs p.2) (s.nodes, []) hn
        refine ⟨hs.1, fun q hq => ?_⟩
        have hq : q ∈ ((fits rs p.2).foldl add1 (s.nodes, [])).1 := hq
        rw [hs.2.2.1 q] at hq
        rcases hq with hq | hq
        · exact h q hq
        · exact ⟨p.2, (fits_lt hw ht p hpt).2, hq⟩
    exact from_giter hw k (gstep rs s) hstep.1 hstep.2
theorem whole_lt {f : Fm} : whole f.subs < 2 ^ (rows f.subs).length := by
  have hpos : 0 < f.subs.length := List.length_pos_iff.2 (Fm.subs_ne f)
  rw [rows_len]
  exact putS_lt (Nat.two_pow_pos _) (by omega)
theorem ofT_from {f : Fm} {names : List ByteArray} {most : Int} {T : Tab} (hr : f.right = true) (h : ofT f names most = some T) : FromFits T.rows T.nodes := by
  obtain ⟨gs, hg, rfl, -⟩ := ofT_at h
  obtain ⟨-, -, j, h3⟩ := gloop_some (Nat.zero_le _) hg
  have hw := wf_rows (right_formed hr).1
  show FromFits (rows f.subs) gs.nodes
  rw [h3]
  exact from_giter hw j _ (addF_spec (fits (rows f.subs) (whole f.subs)) ([], []) List.nodup_nil).1 (from_start whole_lt)
end Tb
end Go.Au

namespace Go.Au
open Go Go.RowKit
open Fm (idx)

/-! ### Subs of a tableau; places as a row -/
section
variable {n lo hi tb : Nat} {w : World} {sv rv nmv ndv iv xv : Value} {T : Tb.Tab}
theorem callSubsT : callable Proofs.Tryz.prog 29 = true := by kernel_rfl
theorem subsT_c (h : TabS n lo hi w tb sv rv nmv ndv iv xv T) (hs : ∀ x ∈ T.subs, x.size < 1000000000000) (hl : T.subs.length ≤ 1000) :
    Calls Proofs.Tryz.prog 29 [pt tb 0].toArray w (Ret fun r w' => Kp w w' ∧ ∃ L : List (Fm × Value), L.map (·.1) = T.subs ∧ OwnK n w.heap.size 26 w' r L) := by
  have hsb := h.subs.slice
  obtain ⟨sa, sc, rfl, hsc⟩ := hsb
  refine call agree Proofs.Tryz.func29 rfl Proofs.Tryz.ntmps29 (by kernel_rfl) ?_
  refine ld agree (Own.at_ (xs := [.slice sa T.subs.length sc]) (o := 0) h.box rfl) (by rfl) ?_
  refine loop agree (σ := Nat × Value × List (Fm × Value)) (fun s => [(3, s.2.1), (9, .slice sa T.subs.length sc), (10, .int .i64 (T.subs.length : Nat)), (11, .int .i64 (s.1 : Nat))]) (fun s W => s.1 ≤ T.subs.length ∧ Kp w W ∧ s.2.2.map (·.1) = T.subs.take s.1 ∧ OwnK n w.heap.size 26 W s.2.1 s.2.2) (fun s => T.subs.length - s.1) (0, nilS, []) ⟨rfl, rfl, rfl, rfl, trivial⟩ ⟨Nat.zero_le _, Chg.refl _ _, rfl, OwnK.nil⟩ ?_
  rintro ⟨i, ov, O⟩ e0 W ⟨hiT, hkW, hO, hown⟩
  simp only at hiT hO hown
  have hOl : O.length = i := by
    have := congrArg List.length hO
    rw [List.length_map, List.length_take] at this
    omega
  refine sp (fun h1 => ?_) (fun h1 => ?_)
  · have hlt : i < T.subs.length := by omega
    obtain ⟨x, hx⟩ : ∃ x, T.subs[i]? = some x := ⟨_, List.getElem?_eq_getElem hlt⟩
    have hkid := ((h.subs.kp hkW).le (Nat.le_succ n)).kid hx
    obtain ⟨b, o, u, rfl, -, -, hrd, hku⟩ := hkid
    have hus := hku.slice
    obtain ⟨ua, uc, rfl, -⟩ := hus
    refine ne ⟨by omega, h1⟩ ?_
    refine ld (v := fmA x (.slice ua x.kids.length uc)) agree hrd (by rfl) ?_
    refine nd fun b5 w3 e3 s3 k3 m5 => ?_
    refine st agree m5 rfl (Nat.le_refl 3) rfl fun w4 e4 k4 m5 => ?_
    have m5 : Own w4 b5 26 (fmC x (.slice ua x.kids.length uc)) := m5
    have kW4 : Kp W w4 := k3.newS k4 (fun j hj => by subst hj; omega)
    refine ld agree (Own.all m5) (by rfl) ?_
    refine cl callCopy (copy_c n lo hi w4 _ x (hku.kp kW4) (hs x (List.mem_of_getElem? hx))) ?_
    rintro _ w5 ⟨k5, cu, rfl, hcu⟩
    have hcs := hcu.slice
    obtain ⟨ca, cc, rfl, -⟩ := hcs
    refine ne (by decide) ?_
    refine nd fun bo w6 e6 s6 k6 mo => ?_
    have mo : Own w6 bo 26 (fmC x (.slice ca x.kids.length cc)) := mo
    have kW6 := (kW4.trans k5).trans k6
    have hown6 := hown.kp kW6
    have hrg := row_slice hown6.row
    obtain ⟨oa, oc, rfl, -, -⟩ := hrg
    have hz4 := kW4.size
    have hz5 := k5.size
    have hz6 := k6.size
    have hob : ∀ g, (Value.slice oa O.length oc).ownBlock = some g → g < W.heap.size := fun g hg => (hown.row.lt g hg).2
    refine apP (m := 1) (size := 3) (news := fmC x (.slice ca x.kids.length cc)) agree rfl rfl rfl rfl rfl rfl rfl (by decide) hown6.row rfl (Own.all mo) rfl (by simp only [maxLen]; omega) (by show (_ + 1) * 48 ≤ _; omega) (by have := hkW.size; omega) fun v' w7 hr7 hc7 hn7 _ => ?_
    have hpush := hown6.push (p := (x, .slice ca x.kids.length cc)) (l := w4.heap.size) (hh := w5.heap.size) (hcu.kp k6) (by have := hkW.size; omega) hz6 (fun g hg => .inl (by have := hob g hg; omega)) hc7 hr7 hn7
    refine aw (by simp only; omega) (by simp only; omega) ?_
    exact again (i + 1, v', O ++ [(x, .slice ca x.kids.length cc)]) ⟨rfl, rfl, rfl, rfl, trivial⟩ ⟨by simp only; omega, (hkW.trans kW6).newS hc7 fun g hg => ownsRow_base hown6.row hg.symm, map_fst_snoc hO hx, hpush⟩ (by simp only; omega)
  · have hil : i = T.subs.length := by omega
    subst hil
    rewrite [List.take_length] at hO
    exact ⟨hkW, O, hO, hown⟩
end
/-! ### places as a row -/
def boolC (n : Nat) (L : List Nat) : List Value := (List.range n).map fun i => .bool (decide (i ∈ L))
theorem boolC_len (n : Nat) (L : List Nat) : (boolC n L).length = n := by simp [boolC]
theorem boolC_at {n i : Nat} (L : List Nat) (h : i < n) : (boolC n L)[i]? = some (.bool (decide (i ∈ L))) := by
  unfold boolC
  rw [List.getElem?_map, List.getElem?_range h]; rfl
theorem boolC_set {n j : Nat} (L : List Nat) (hj : j < n) : (boolC n L).set j (.bool true) = boolC n (L ++ [j]) := by
  refine List.ext_getElem? fun i => ?_
  rw [List.getElem?_set]
  by_cases hij : j = i
  · subst hij
    rw [if_pos rfl, if_pos (by rw [boolC_len]; exact hj), boolC_at _ hj, decide_eq_true (by simp)]
  · rw [if_neg hij]
    rcases Nat.lt_or_ge i n with h1 | h1
    · rw [boolC_at _ h1, boolC_at _ h1]
      have : (i ∈ L ++ [j]) ↔ i ∈ L := by simp [Ne.symm hij]
      rw [decide_eq_decide.2 this]
    · rw [List.getElem?_eq_none (by rw [boolC_len]; exact h1), List.getElem?_eq_none (by rw [boolC_len]; exact h1)]
theorem rep_oneB (x : Value) : ∀ n, rep [x] n = List.replicate n x
  | 0 => rfl
  | n + 1 => by
    show [x] ++ rep [x] n = _
    rw [rep_oneB x n, List.replicate_succ]
    rfl
theorem rep_bool (n : Nat) : rep [Value.bool false] n = boolC n [] := by
  rw [rep_oneB]
  refine List.ext_getElem? fun i => ?_
  rcases Nat.lt_or_ge i n with h | h
  · rw [boolC_at _ h, List.getElem?_replicate, if_pos h]; rfl
  · rw [List.getElem?_eq_none (by rw [List.length_replicate]; exact h), List.getElem?_eq_none (by rw [boolC_len]; exact h)]
theorem callSetL : callable Proofs.Tryz.prog 30 = true := by kernel_rfl
theorem setL_c {lo hi n : Nat} {w : World} {v : Value} {L : List Nat} (h : Ints lo hi w v (Tb.natI L)) (hn : n ≤ 100000) (hL : ∀ i ∈ L, i < n) (hl : L.length ≤ 100000) :
    Calls Proofs.Tryz.prog 30 [.int .i64 n, v].toArray w (Ret fun r w' => Kp w w' ∧ ∃ b, r = .slice (some ⟨b, 0, none⟩) n n ∧ w.heap.size ≤ b ∧ Own w' b 4 (boolC n L)) := by
  have hv := h
  obtain ⟨a, c, rfl, -, hx⟩ := hv
  have hlm : (Tb.natI L).length = L.length := List.length_map _
  rewrite [hlm]
  refine call agree Proofs.Tryz.func30 rfl Proofs.Tryz.ntmps30 (by kernel_rfl) ?_
  refine ms agree rfl rfl rfl rfl rfl rfl (by omega) (by omega) (by show (1 : Int) * _ ≤ _; omega) (by omega) fun b w1 e1 s1 k1 m1 => ?_
  have m1 : Own w1 b 4 (rep [.bool false] n) := m1
  rewrite [rep_bool] at m1
  refine loop agree (σ := Nat) (fun i => [(1, .slice a L.length c), (5, .slice (some ⟨b, 0, none⟩) n n), (6, .int .i64 (i : Nat))]) (fun i W => i ≤ L.length ∧ Kp w W ∧ Own W b 4 (boolC n (L.take i))) (fun i => L.length - i) 0 ⟨rfl, rfl, rfl, trivial⟩ ⟨Nat.zero_le _, k1, m1⟩ ?_
  rintro i e0 W ⟨hi, hkW, mW⟩
  refine sp (fun h1 => ?_) (fun h1 => ?_)
  · have hlt : i < L.length := by omega
    have hli := hL L[i] (List.getElem_mem hlt)
    obtain ⟨b2, o2, rfl, -, -, cs, -, hrd, rfl⟩ := hx i ((L[i] : Nat) : Int) (by rw [List.getElem?_map, List.getElem?_eq_getElem hlt]; rfl)
    refine ne ⟨by omega, h1⟩ ?_
    refine ld agree (hkW.range hrd id) (by rfl) ?_
    refine ne ⟨by omega, by omega⟩ ?_
    refine st agree mW rfl (by rw [boolC_len]; show 0 + L[i] * 1 + 1 ≤ n; omega) rfl fun w2 e2 k2 m2 => ?_
    have m2 : Own w2 b 4 ((boolC n (L.take i)).set (0 + L[i] * 1) (.bool true)) := m2
    rewrite [show 0 + L[i] * 1 = L[i] by omega, boolC_set _ hli, ← List.take_succ_eq_append_getElem hlt] at m2
    refine aw (by omega) (by omega) ?_
    exact again (i + 1) ⟨rfl, rfl, rfl, trivial⟩ ⟨by omega, hkW.newS k2 fun g hg => by subst hg; omega, m2⟩ (by omega)
  · have hil : i = L.length := by omega
    subst hil
    rewrite [List.take_length] at mW
    exact ⟨hkW, b, rfl, by omega, mW⟩
end Go.Au

namespace Go.Au
open Go Go.RowKit
open Fm (idx)

/-! ### is what a formula asks there? -/
/-- what the law's said wants, at the place at, of places o now and d next -/
structure SaidOk (subs : List Fm) (x : Fm) (at_ : Nat) (o d : List Nat) (mu no : Nat) (names : List ByteArray) : Prop where
  ops : x.op = 1 ∨ x.op = 3 ∨ x.op = 4 ∨ x.op = 5 ∨ x.op = 6 ∨ x.op = 9 ∨ x.op = 12 ∨ x.op = 13
  prop : x.op = 3 → 0 ≤ idx names x.name ∧ mu.testBit (idx names x.name).toNat = true ∧ mu &&& no = 0
  neg : x.op = 4 → 0 ≤ idx names (Tb.kid0 x) ∧ no.testBit (idx names (Tb.kid0 x)).toNat = true ∧ mu &&& no = 0
  and_ : ∀ y z, x.op = 5 → x.kids = [y, z] → (idx subs y).toNat ∈ o ∧ (idx subs z).toNat ∈ o
  or_ : ∀ y z, x.op = 6 → x.kids = [y, z] → (idx subs y).toNat ∈ o ∨ (idx subs z).toNat ∈ o
  next : ∀ y, x.op = 9 → x.kids = [y] → (idx subs y).toNat ∈ d
  until_ : ∀ y z, x.op = 12 → x.kids = [y, z] → (idx subs z).toNat ∈ o ∨ ((idx subs y).toNat ∈ o ∧ at_ ∈ d)
  rel : ∀ y z, x.op = 13 → x.kids = [y, z] → (idx subs z).toNat ∈ o ∧ ((idx subs y).toNat ∈ o ∨ at_ ∈ d)
theorem shr16 {a r : Nat} (h : r ≤ 16) : ((a : Int)).fdiv (2 ^ (min ((r : Int)).toNat (IntKind.bits .u16))) = ((a / 2 ^ r : Nat) : Int) := by
  rw [Int.toNat_natCast, Nat.min_eq_left (by show r ≤ 16; omega), show ((2 : Int) ^ r) = ((2 ^ r : Nat) : Int) from (Int.natCast_pow 2 _).symm, Int.fdiv_eq_ediv_of_nonneg _ (Int.natCast_nonneg _)]
  rfl
theorem bitsAnd16 {a b : Nat} (ha : a < 65536) (hb : b < 65536) : bits .and .u16 a b = ((a &&& b : Nat) : Int) := by
  have h : bits .and .u16 a b = IntKind.u16.wrap (((BitVec.ofInt (IntKind.bits .u16) (a : Int) &&& BitVec.ofInt (IntKind.bits .u16) (b : Int)).toNat : Nat) : Int) := rfl
  have hlt : a &&& b < 65536 := Nat.lt_of_le_of_lt Nat.and_le_left ha
  rw [h, BitVec.toNat_and, ofInt16 ha, ofInt16 hb]
  generalize a &&& b = c at hlt
  show (if (false && decide ((c : Int) % 65536 ≥ 32768)) = true then (c : Int) % 65536 - 65536 else (c : Int) % 65536) = _
  rw [if_neg (by simp)]; omega
theorem rd_bool {w : World} {b n i : Nat} {L : List Nat} {t : Bool} (h : Own w b 4 (boolC n L)) (hi : i < n) (ht : decide (i ∈ L) = t) : w.rangeAt b (0 + i * 1) [.bool t] := h.one (i := i) (by rw [boolC_at _ hi, ht]) (by omega)
theorem callSaid : callable Proofs.Tryz.prog 33 = true := by kernel_rfl
set_option maxHeartbeats 8000000 in
theorem said_c {m lo hi lo' hi' bo bd nS at_ mu no : Nat} {w : World} {sv v nv : Value} {subs : List Fm} {x : Fm} {o d : List Nat} {names : List ByteArray} (hs : KidsN (m + 1) lo hi w sv subs) (hx : KidsN m lo hi w v x.kids) (hxf : Fm.formed Fm.future x = true) (hsub : ∀ y ∈ x.kids, 0 ≤ idx subs y) (hsz : ∀ y ∈ subs, y.size < 1000000000000) (hnS : subs.length = nS) (hnl : nS ≤ 100000) (hat : at_ < nS)
    (ho : Own w bo 4 (boolC nS o)) (hd : Own w bd 4 (boolC nS d)) (hN : Strs lo' hi' w nv names) (hNl : names.length ≤ 8) (hmu : mu < 65536) (hno : no < 65536) (hok : SaidOk subs x at_ o d mu no names) :
    Calls Proofs.Tryz.prog 33 [sv, fmA x v, .int .i64 at_, .slice (some ⟨bo, 0, none⟩) nS nS, .slice (some ⟨bd, 0, none⟩) nS nS, .int .u16 mu, .int .u16 no, nv].toArray w (Ret fun r w' => r = .bool true ∧ Kp w w') := by
  obtain ⟨sa, sc, rfl, -⟩ := hs.slice
  obtain ⟨va, vc, rfl, -⟩ := hx.slice
  refine call agree Proofs.Tryz.func33 rfl Proofs.Tryz.ntmps33 (by kernel_rfl) ?_
  refine nd fun p w1 e1 s1 k1 m1 => ?_
  have m1 : Own w1 p 26 (fmC x (.slice va x.kids.length vc)) := m1
  refine ld agree (Own.at_ (xs := [.slice va x.kids.length vc]) (o := 2) m1 rfl) (by rfl) ?_
  have hcases : (x.op = 1 ∧ x.kids = []) ∨ (x.op = 3 ∧ x.kids = []) ∨ ((x.op = 4 ∨ x.op = 9) ∧ ∃ y, x.kids = [y]) ∨ ((x.op = 5 ∨ x.op = 6 ∨ x.op = 12 ∨ x.op = 13) ∧ ∃ y z, x.kids = [y, z]) := by
    have hop := hok.ops
    obtain ⟨o, nm, k⟩ := x
    rcases Fm.formed_cases hxf with ⟨h, -, h2⟩ | ⟨h, h2⟩ | ⟨h, -, y, h2, -⟩ | ⟨h, -, y, z, h2, -⟩
    · simp only [Fm.op] at hop ⊢
      exact .inl ⟨by omega, h2⟩
    · exact .inr (.inl ⟨h, h2⟩)
    · simp only [Fm.op] at hop ⊢
      exact .inr (.inr (.inl ⟨by omega, y, h2⟩))
    · simp only [Fm.op] at hop ⊢
      exact .inr (.inr (.inr ⟨by omega, y, z, h2⟩))
  rcases hcases with ⟨hop, hk⟩ | ⟨hop, hk⟩ | ⟨hop, y, hk⟩ | ⟨hop, y, z, hk⟩
  · have hkl : x.kids.length = 0 := by rw [hk]; rfl
    refine spF (by rw [hkl]; decide) ?_
    refine ld agree (Own.at_ (xs := [.slice va x.kids.length vc]) (o := 2) m1 rfl) (by rfl) ?_
    refine spF (by rw [hkl]; decide) ?_
    refine ld agree (Own.at_ (xs := [.int .u8 x.op]) (o := 0) m1 rfl) (by rfl) ?_
    refine spT (by omega) ?_
    exact ⟨rfl, k1⟩
  · have hkl : x.kids.length = 0 := by rw [hk]; rfl
    obtain ⟨hp0, hp1, hp2⟩ := hok.prop hop
    obtain ⟨r, hr⟩ : ∃ r : Nat, idx names x.name = r := ⟨_, (Int.toNat_of_nonneg hp0).symm⟩
    have hrl := Fm.idx_lt names x.name
    rewrite [hr] at hp1 hrl
    rewrite [Int.toNat_natCast] at hp1
    refine spF (by rw [hkl]; decide) ?_
    refine ld agree (Own.at_ (xs := [.slice va x.kids.length vc]) (o := 2) m1 rfl) (by rfl) ?_
    refine spF (by rw [hkl]; decide) ?_
    refine ld agree (Own.at_ (xs := [.int .u8 x.op]) (o := 0) m1 rfl) (by rfl) ?_
    refine spF (by omega) ?_
    refine spT (by omega) ?_
    refine ld agree (Own.at_ (xs := [.string x.name]) (o := 1) m1 rfl) (by rfl) ?_
    have hpc := place3_c (RowE.chg hN k1 (fun _ _ _ => id) fun _ _ h => h) (by omega) x.name
    rewrite [hr] at hpc
    refine cl callPlace3 hpc ?_
    rintro _ w2 ⟨rfl, k2⟩
    refine arE (wrapN (a := r) (by omega)) ?_
    refine ne (by omega) ?_
    refine arE (shr16 (by omega)) ?_
    refine ne (by decide) ?_
    refine arE (z' := ((mu / 2 ^ r % 2 : Nat) : Int)) (by rw [Int.tmod_eq_emod_of_nonneg (Int.natCast_nonneg _)]; rfl) ?_
    have hbit : mu / 2 ^ r % 2 = 1 := by
      rw [Nat.testBit_eq_decide_div_mod_eq, decide_eq_true_eq] at hp1
      exact hp1
    refine spT (by rw [hbit]; rfl) ?_
    refine arE ((bitsAnd16 hmu hno).trans (by rw [hp2])) ?_
    refine spT rfl ?_
    exact ⟨rfl, k1.trans k2⟩
  · have hx0 : x.kids[0]? = some y := by rw [hk]; rfl
    obtain _ | m := m
    · exact (hx.kid0 hx0).elim
    obtain ⟨b, q, u, rfl, -, -, hrd0, hky⟩ := hx.kid hx0
    obtain ⟨ua, uc, rfl, -⟩ := hky.slice
    have hkl : x.kids.length = 1 := by rw [hk]; rfl
    have hym := hsub y (by rw [hk]; simp)
    obtain ⟨g, hg0⟩ : ∃ g : Nat, idx subs y = g := ⟨_, (Int.toNat_of_nonneg hym).symm⟩
    have hgl := Fm.idx_lt subs y
    rewrite [hg0] at hgl
    refine spT (by rw [hkl]; decide) ?_
    refine ld agree (Own.at_ (xs := [.slice (some ⟨b, q, none⟩) x.kids.length vc]) (o := 2) m1 rfl) (by rfl) ?_
    refine ne ⟨by decide, by rw [hkl]; decide⟩ ?_
    refine ld (v := fmA y (.slice ua y.kids.length uc)) agree (k1.range hrd0 id) (by rfl) ?_
    have hfc0 := find3_c (hs.kp k1) ((hky.kp k1).le (Nat.le_succ m)) (fun z hz => by have := hsz z hz; omega) (by omega) (f := y)
    rewrite [hg0] at hfc0
    refine cl callFind3 hfc0 ?_
    rintro _ w2 ⟨rfl, k2⟩
    have m2 := k2.own m1 id
    have k12 := k1.trans k2
    refine ld agree (Own.at_ (xs := [.slice (some ⟨b, q, none⟩) x.kids.length vc]) (o := 2) m2 rfl) (by rfl) ?_
    refine spF (by rw [hkl]; decide) ?_
    refine ld agree (Own.at_ (xs := [.int .u8 x.op]) (o := 0) m2 rfl) (by rfl) ?_
    rcases hop with hop | hop
    · repeat (first | (refine spF (by omega) ?_) | (refine spT (by omega) ?_))
      obtain ⟨hp0, hp1, hp2⟩ := hok.neg hop
      have hk0 : Tb.kid0 x = y.name := by unfold Tb.kid0; rw [hk]
      rewrite [hk0] at hp0 hp1
      obtain ⟨r, hr⟩ : ∃ r : Nat, idx names y.name = r := ⟨_, (Int.toNat_of_nonneg hp0).symm⟩
      have hrl := Fm.idx_lt names y.name
      rewrite [hr] at hp1 hrl
      rewrite [Int.toNat_natCast] at hp1
      refine ld agree (Own.at_ (xs := [.slice (some ⟨b, q, none⟩) x.kids.length vc]) (o := 2) m2 rfl) (by rfl) ?_
      refine ne ⟨by decide, by rw [hkl]; decide⟩ ?_
      refine ld (cs := [.string y.name]) agree (rng_sub (j := 1) (ys := [.string y.name]) (k12.range hrd0 id) rfl) (by rfl) ?_
      have hpc := place3_c (RowE.chg hN k12 (fun _ _ _ => id) fun _ _ h => h) (by omega) y.name
      rewrite [hr] at hpc
      refine cl callPlace3 hpc ?_
      rintro _ w3 ⟨rfl, k3⟩
      refine arE (wrapN (a := r) (by omega)) ?_
      refine ne (by omega) ?_
      refine arE (shr16 (by omega)) ?_
      refine ne (by decide) ?_
      refine arE (z' := ((no / 2 ^ r % 2 : Nat) : Int)) (by rw [Int.tmod_eq_emod_of_nonneg (Int.natCast_nonneg _)]; rfl) ?_
      have hbit : no / 2 ^ r % 2 = 1 := by
        rw [Nat.testBit_eq_decide_div_mod_eq, decide_eq_true_eq] at hp1
        exact hp1
      refine spT (by rw [hbit]; rfl) ?_
      refine arE ((bitsAnd16 hmu hno).trans (by rw [hp2])) ?_
      refine spT rfl ?_
      exact ⟨rfl, k12.trans k3⟩
    · repeat (first | (refine spF (by omega) ?_) | (refine spT (by omega) ?_))
      have hnx := hok.next y hop hk
      rewrite [hg0] at hnx
      refine ne ⟨by omega, by omega⟩ ?_
      refine ld (cs := [.bool true]) agree (rd_bool (k12.own hd id) (i := g) (by omega) (decide_eq_true hnx)) (by rfl) ?_
      exact ⟨rfl, k12⟩
  · have hx0 : x.kids[0]? = some y := by rw [hk]; rfl
    have hx1 : x.kids[1]? = some z := by rw [hk]; rfl
    obtain _ | m := m
    · exact (hx.kid0 hx0).elim
    obtain ⟨b, q, u, rfl, -, -, hrd0, hky⟩ := hx.kid hx0
    obtain ⟨b', q', u', he, -, -, hrd1, hkz⟩ := hx.kid hx1
    injection he with he
    injection he with he1 he2
    subst he1 he2
    obtain ⟨ua, uc, rfl, -⟩ := hky.slice
    obtain ⟨ta, tc, rfl, -⟩ := hkz.slice
    have hkl : x.kids.length = 2 := by rw [hk]; rfl
    have hym := hsub y (by rw [hk]; simp)
    have hzm := hsub z (by rw [hk]; simp)
    obtain ⟨g, hg0⟩ : ∃ g : Nat, idx subs y = g := ⟨_, (Int.toNat_of_nonneg hym).symm⟩
    obtain ⟨e, hg1⟩ : ∃ e : Nat, idx subs z = e := ⟨_, (Int.toNat_of_nonneg hzm).symm⟩
    have hgl := Fm.idx_lt subs y
    have hel := Fm.idx_lt subs z
    rewrite [hg0] at hgl
    rewrite [hg1] at hel
    refine spT (by rw [hkl]; decide) ?_
    refine ld agree (Own.at_ (xs := [.slice (some ⟨b, q, none⟩) x.kids.length vc]) (o := 2) m1 rfl) (by rfl) ?_
    refine ne ⟨by decide, by rw [hkl]; decide⟩ ?_
    refine ld (v := fmA y (.slice ua y.kids.length uc)) agree (k1.range hrd0 id) (by rfl) ?_
    have hfc0 := find3_c (hs.kp k1) ((hky.kp k1).le (Nat.le_succ m)) (fun z hz => by have := hsz z hz; omega) (by omega) (f := y)
    rewrite [hg0] at hfc0
    refine cl callFind3 hfc0 ?_
    rintro _ w2 ⟨rfl, k2⟩
    have m2 := k2.own m1 id
    have k12 := k1.trans k2
    refine ld agree (Own.at_ (xs := [.slice (some ⟨b, q, none⟩) x.kids.length vc]) (o := 2) m2 rfl) (by rfl) ?_
    refine spT (by rw [hkl]; decide) ?_
    refine ld agree (Own.at_ (xs := [.slice (some ⟨b, q, none⟩) x.kids.length vc]) (o := 2) m2 rfl) (by rfl) ?_
    refine ne ⟨by decide, by rw [hkl]; decide⟩ ?_
    refine ld (v := fmA z (.slice ta z.kids.length tc)) agree (k12.range hrd1 id) (by rfl) ?_
    have hfc1 := find3_c (hs.kp k12) ((hkz.kp k12).le (Nat.le_succ m)) (fun z hz => by have := hsz z hz; omega) (by omega) (f := z)
    rewrite [hg1] at hfc1
    refine cl callFind3 hfc1 ?_
    rintro _ w3 ⟨rfl, k3⟩
    have m3 := k3.own m2 id
    have k13 := k12.trans k3
    have ho3 := k13.own ho id
    have hd3 := k13.own hd id
    refine ld agree (Own.at_ (xs := [.int .u8 x.op]) (o := 0) m3 rfl) (by rfl) ?_
    rcases hop with hop | hop | hop | hop
    · repeat (first | (refine spF (by omega) ?_) | (refine spT (by omega) ?_))
      obtain ⟨a1, a2⟩ := hok.and_ y z hop hk
      rewrite [hg0] at a1
      rewrite [hg1] at a2
      refine ne ⟨by omega, by omega⟩ ?_
      refine ld (cs := [.bool true]) agree (rd_bool ho3 (i := g) (by omega) (decide_eq_true a1)) (by rfl) ?_
      refine ne ⟨by omega, by omega⟩ ?_
      refine ld (cs := [.bool true]) agree (rd_bool ho3 (i := e) (by omega) (decide_eq_true a2)) (by rfl) ?_
      exact ⟨rfl, k13⟩
    · repeat (first | (refine spF (by omega) ?_) | (refine spT (by omega) ?_))
      have a1 := hok.or_ y z hop hk
      rewrite [hg0, hg1] at a1
      refine ne ⟨by omega, by omega⟩ ?_
      by_cases a2 : g ∈ o
      · refine ld (cs := [.bool true]) agree (rd_bool ho3 (i := g) (by omega) (decide_eq_true a2)) (by rfl) ?_
        exact ⟨rfl, k13⟩
      · refine ld (cs := [.bool false]) agree (rd_bool ho3 (i := g) (by omega) (decide_eq_false a2)) (by rfl) ?_
        refine ne ⟨by omega, by omega⟩ ?_
        refine ld (cs := [.bool true]) agree (rd_bool ho3 (i := e) (by omega) (decide_eq_true (a1.resolve_left a2))) (by rfl) ?_
        exact ⟨rfl, k13⟩
    · repeat (first | (refine spF (by omega) ?_) | (refine spT (by omega) ?_))
      have a1 := hok.until_ y z hop hk
      rewrite [hg0, hg1] at a1
      refine ne ⟨by omega, by omega⟩ ?_
      by_cases a2 : e ∈ o
      · refine ld (cs := [.bool true]) agree (rd_bool ho3 (i := e) (by omega) (decide_eq_true a2)) (by rfl) ?_
        exact ⟨rfl, k13⟩
      · obtain ⟨a3, a4⟩ := a1.resolve_left a2
        refine ld (cs := [.bool false]) agree (rd_bool ho3 (i := e) (by omega) (decide_eq_false a2)) (by rfl) ?_
        refine ne ⟨by omega, by omega⟩ ?_
        refine ld (cs := [.bool true]) agree (rd_bool ho3 (i := g) (by omega) (decide_eq_true a3)) (by rfl) ?_
        refine ne ⟨by omega, by omega⟩ ?_
        refine ld (cs := [.bool true]) agree (rd_bool hd3 (i := at_) (by omega) (decide_eq_true a4)) (by rfl) ?_
        exact ⟨rfl, k13⟩
    · repeat (first | (refine spF (by omega) ?_) | (refine spT (by omega) ?_))
      obtain ⟨a1, a2⟩ := hok.rel y z hop hk
      rewrite [hg1] at a1
      rewrite [hg0] at a2
      refine ne ⟨by omega, by omega⟩ ?_
      refine ld (cs := [.bool true]) agree (rd_bool ho3 (i := e) (by omega) (decide_eq_true a1)) (by rfl) ?_
      refine ne ⟨by omega, by omega⟩ ?_
      by_cases a3 : g ∈ o
      · refine ld (cs := [.bool true]) agree (rd_bool ho3 (i := g) (by omega) (decide_eq_true a3)) (by rfl) ?_
        exact ⟨rfl, k13⟩
      · refine ld (cs := [.bool false]) agree (rd_bool ho3 (i := g) (by omega) (decide_eq_false a3)) (by rfl) ?_
        refine ne ⟨by omega, by omega⟩ ?_
        refine ld (cs := [.bool true]) agree (rd_bool hd3 (i := at_) (by omega) (decide_eq_true (a2.resolve_left a3))) (by rfl) ?_
        exact ⟨rfl, k13⟩
end Go.Au

namespace Go.Au
open Go Go.RowKit
open Fm (idx)

/-! ### what a node says is so: plain -/
namespace Tb
theorem letO_bit (T : Tab) (sel : Fm → ByteArray × Bool) (b : Nat) : ∀ (l : List Nat) (acc : Nat), (l.foldl (letS T sel) acc).testBit b = true ↔ acc.testBit b = true ∨ ∃ i ∈ l, ∃ x, T.subs[i]? = some x ∧ (sel x).2 = true ∧ (idx T.names (sel x).1).toNat = b
  | [], acc => by simp
  | i :: l, acc => by
    rw [List.foldl_cons, letO_bit T sel b l]
    unfold letS
    constructor
    · rintro (h | ⟨j, hj, hx⟩)
      · split at h
        · rename_i x hx
          split at h
          · rename_i hs
            rw [Nat.testBit_or, Bool.or_eq_true, Nat.testBit_two_pow, decide_eq_true_eq] at h
            rcases h with h | h
            · exact .inl h
            · exact .inr ⟨i, by simp, x, hx, hs, h⟩
          · exact .inl h
        · exact .inl h
      · exact .inr ⟨j, by simp [hj], hx⟩
    · rintro (h | ⟨j, hj, x, hx, hs, hb⟩)
      · left
        split
        · split
          · rw [Nat.testBit_or, h]; rfl
          · exact h
        · exact h
      · rcases List.mem_cons.1 hj with rfl | hj
        · left
          rw [hx]
          simp only
          rw [if_pos hs, Nat.testBit_or, Nat.testBit_two_pow, decide_eq_true hb, Bool.or_true]
        · exact .inr ⟨j, hj, x, hx, hs, hb⟩
theorem letO_lt {T : Tab} {sel : Fm → ByteArray × Bool} (hn : T.names.length ≤ 8) : ∀ (l : List Nat) (acc : Nat), acc < 256 → l.foldl (letS T sel) acc < 256
  | [], acc, h => h
  | i :: l, acc, h => letO_lt hn l _ (letS_lt h hn)
theorem idx_same {names : List ByteArray} {s t : ByteArray} (h0 : 0 ≤ idx names s) (h : idx names s = idx names t) : s = t := by
  rcases Fm.idx_range (x := s) names with ⟨h1, -⟩ | ⟨i, h1, h2, -⟩
  · omega
  · rcases Fm.idx_range (x := t) names with ⟨h3, -⟩ | ⟨j, h3, h4, -⟩
    · omega
    · have : i = j := by omega
      subst this
      rw [h2] at h4
      injection h4
theorem prop_eq {x y : Fm} (hx : Fm.formed Fm.future x = true) (hy : Fm.formed Fm.future y = true) (h3 : x.op = 3) (h3' : y.op = 3) (hn : x.name = y.name) : x = y := by
  have hk : ∀ z : Fm, Fm.formed Fm.future z = true → z.op = 3 → z.kids = [] := fun z hz h => by
    obtain ⟨o, n, k⟩ := z
    rcases Fm.formed_cases hz with ⟨h', -⟩ | ⟨-, h'⟩ | ⟨h', -⟩ | ⟨h', -⟩
    · simp only [Fm.op] at h; omega
    · exact h'
    · simp only [Fm.op] at h; omega
    · simp only [Fm.op] at h; omega
  have h1 := hk x hx h3
  have h2 := hk y hy h3'
  obtain ⟨o, n, k⟩ := x
  obtain ⟨o', n', k'⟩ := y
  simp only [Fm.op, Fm.name, Fm.kids] at *
  rw [h3, h3', hn, h1, h2]
theorem said_ok {f : Fm} {names : List ByteArray} {most : Int} {T : Tab} (hr : f.right = true) (hN : f.isN = true) (h : ofT f names most = some T) (hg : Good T) {k : Int} {p : Node} (hp : nodeAt T k = some p) {i : Nat} {x : Fm} (hi : i ∈ oldOf T k) (hx : T.subs[i]? = some x) :
    SaidOk T.subs x i (oldOf T k) (dueOf T k) (mustOf T k) (notOf T k) T.names := by
  have hfrom := ofT_from hr h
  have hpm := List.mem_of_getElem? (nodeAt_lt hp).2.2
  obtain ⟨s, hs, hps⟩ := hfrom p hpm
  have hfo := (right_formed hr).1
  obtain ⟨gs, -, hTe, -⟩ := ofT_at h
  have hsubs : T.subs = f.subs := by rw [hTe]
  have hrows : T.rows = rows f.subs := by rw [hTe]
  have hw : WfR T.rows := by rw [hrows]; exact wf_rows hfo
  have hsay := (fits_says hw hs hps).2
  have hold : oldOf T k = bitsL 1024 p.1 := by unfold oldOf; rw [hp]
  have hdue : dueOf T k = bitsL 1024 p.2 := by unfold dueOf; rw [hp]
  have hmo : ∀ j, j < T.subs.length → (j ∈ oldOf T k ↔ p.1.testBit j = true) := fun j hj => by
    rw [hold, mem_bitsL]
    have := hg.sl
    exact ⟨fun h => h.2, fun h => ⟨by omega, h⟩⟩
  have hmd : ∀ j, j < T.subs.length → (j ∈ dueOf T k ↔ p.2.testBit j = true) := fun j hj => by
    rw [hdue, mem_bitsL]
    have := hg.sl
    exact ⟨fun h => h.2, fun h => ⟨by omega, h⟩⟩
  have hil := (List.getElem?_eq_some_iff.1 hx).1
  have hxs : f.subs[i]? = some x := by rw [← hsubs]; exact hx
  have hxm := Fm.subs_at_mem hxs
  have hfx := Fm.formed_all hfo hxm
  have hNx := Fm.isN_all hfo hN hxm
  obtain ⟨r, hri⟩ : ∃ r, T.rows[i]? = some r := ⟨_, List.getElem?_eq_getElem (by rw [hg.rl]; exact hil)⟩
  obtain ⟨x', hx', hro, hra, hrb⟩ := rows_at (subs := f.subs) (by rw [← hrows]; exact hri)
  rw [hxs] at hx'
  injection hx' with hx'
  subst hx'
  obtain ⟨s1, s2, s3, s4, s5, s6, s7⟩ := hsay i r ((hmo i hil).1 hi) hri
  have kid : ∀ (m : Nat) (y : Fm), x.kids[m]? = some y → ∃ j : Nat, kidP f.subs x.kids m = j ∧ idx T.subs y = j ∧ j < T.subs.length := fun m y hy => by
    obtain ⟨j, hj1, hj2, -⟩ := Fm.place_kid hxs (List.mem_of_getElem? hy)
    refine ⟨j, by unfold kidP; rw [hy]; exact hj1, by rw [hsubs]; exact hj1, by rw [hsubs]; exact (List.getElem?_eq_some_iff.1 hj2).1⟩
  -- no name is both
  have hzero : mustOf T k &&& notOf T k = 0 := by
    refine Nat.eq_of_testBit_eq fun b => ?_
    rw [Nat.testBit_and, Nat.zero_testBit]
    cases hb1 : (mustOf T k).testBit b with
    | false => rfl
    | true =>
      cases hb2 : (notOf T k).testBit b with
      | false => rfl
      | true =>
        exfalso
        rcases (letO_bit T selM b (oldOf T k) 0).1 hb1 with h0 | ⟨i1, hi1, y, hy, hy1, hy2⟩
        · rw [Nat.zero_testBit] at h0; cases h0
        rcases (letO_bit T selN b (oldOf T k) 0).1 hb2 with h0 | ⟨i2, hi2, z, hz, hz1, hz2⟩
        · rw [Nat.zero_testBit] at h0; cases h0
        have hy3 : y.op = 3 := of_decide_eq_true hy1
        have hz4 : z.op = 4 := by
          unfold selN at hz1
          split at hz1
          · assumption
          · cases hz1
        have hzn : (selN z).1 = kid0 z := by unfold selN; rw [if_pos hz4]
        rw [hzn] at hz2
        have hym := List.mem_of_getElem? hy
        have hzm := List.mem_of_getElem? hz
        have h0y := hg.isM y hym hy3
        have h0z := (hg.isN z hzm hz4).2
        have hy2 : (idx T.names y.name).toNat = b := hy2
        have hnm : y.name = kid0 z := idx_same h0y (by omega)
        have hys : f.subs[i1]? = some y := by rw [← hsubs]; exact hy
        have hzs : f.subs[i2]? = some z := by rw [← hsubs]; exact hz
        obtain ⟨j, c, r', hc, hc3, hcs, hji, hrj, hr3, hrn⟩ := neg_kid hfo hN hzs hz4
        have hcn : kid0 z = c.name := by unfold kid0; rw [hc]
        have hyc : y = c := prop_eq (Fm.formed_all hfo (Fm.subs_at_mem hys)) (Fm.formed_all hfo (Fm.subs_at_mem hcs)) hy3 hc3 (hnm.trans hcn)
        subst hyc
        have hij : i1 = j := by
          have hnd := (Fm.subs_sorted f).nodup
          have h1 := List.getElem?_eq_some_iff.1 hys
          have h2 := List.getElem?_eq_some_iff.1 hcs
          exact (List.getElem_inj hnd).1 (by rw [h1.2, h2.2])
        subst hij
        have hi1l := (List.getElem?_eq_some_iff.1 hy).1
        have hi2l := (List.getElem?_eq_some_iff.1 hz).1
        obtain ⟨-, t2, -⟩ := hsay i1 r' ((hmo i1 hi1l).1 hi1) (by rw [hrows]; exact hrj)
        have := t2 (.inl hr3) (by omega) (by rw [hrn, Int.toNat_natCast]; exact hji)
        rw [hrn, Int.toNat_natCast, (hmo i2 hi2l).1 hi2] at this
        cases this
  refine ⟨?_, fun h3 => ?_, fun h4 => ?_, fun y z h5 hk => ?_, fun y z h6 hk => ?_, fun y h9 hk => ?_, fun y z h12 hk => ?_, fun y z h13 hk => ?_⟩
  · obtain ⟨o, nm, kk⟩ := x
    have hop : o ≠ 2 := fun h => s1 (by rw [hro]; exact h)
    have hno : ¬ (o = 7 ∨ o = 8 ∨ o = 10 ∨ o = 11 ∨ o = 14 ∨ o = 15) := fun h => by
      have := isN_no (.mk o nm kk) h
      rw [this] at hNx; cases hNx
    rcases Fm.formed_cases hfx with ⟨h', -⟩ | ⟨h', -⟩ | ⟨h', -⟩ | ⟨h', -⟩ <;> simp only [Fm.op] <;> omega
  · refine ⟨hg.isM x (List.mem_of_getElem? hx) h3, ?_, hzero⟩
    exact (letO_bit T selM _ (oldOf T k) 0).2 (.inr ⟨i, hi, x, hx, decide_eq_true h3, rfl⟩)
  · refine ⟨(hg.isN x (List.mem_of_getElem? hx) h4).2, ?_, hzero⟩
    refine (letO_bit T selN _ (oldOf T k) 0).2 (.inr ⟨i, hi, x, hx, ?_, ?_⟩)
    · unfold selN; rw [if_pos h4]
    · unfold selN; rw [if_pos h4]
  · obtain ⟨j, a1, a2, a3⟩ := kid 0 y (by rw [hk]; rfl)
    obtain ⟨l, b1, b2, b3⟩ := kid 1 z (by rw [hk]; rfl)
    have hh := s3 (by rw [hro]; exact h5)
    rw [hra, hrb, a1, b1, Int.toNat_natCast, Int.toNat_natCast] at hh
    rw [a2, b2, Int.toNat_natCast, Int.toNat_natCast, hmo j a3, hmo l b3]
    exact hh
  · obtain ⟨j, a1, a2, a3⟩ := kid 0 y (by rw [hk]; rfl)
    obtain ⟨l, b1, b2, b3⟩ := kid 1 z (by rw [hk]; rfl)
    have hh := s4 (by rw [hro]; exact h6)
    rw [hra, hrb, a1, b1, Int.toNat_natCast, Int.toNat_natCast] at hh
    rw [a2, b2, Int.toNat_natCast, Int.toNat_natCast, hmo j a3, hmo l b3]
    exact hh
  · obtain ⟨j, a1, a2, a3⟩ := kid 0 y (by rw [hk]; rfl)
    have hh := s5 (by rw [hro]; exact h9)
    rw [hra, a1, Int.toNat_natCast] at hh
    rw [a2, Int.toNat_natCast, hmd j a3]
    exact hh
  · obtain ⟨j, a1, a2, a3⟩ := kid 0 y (by rw [hk]; rfl)
    obtain ⟨l, b1, b2, b3⟩ := kid 1 z (by rw [hk]; rfl)
    have hh := s6 (by rw [hro]; exact h12)
    rw [hra, hrb, a1, b1, Int.toNat_natCast, Int.toNat_natCast] at hh
    rw [a2, b2, Int.toNat_natCast, Int.toNat_natCast, hmo j a3, hmo l b3, hmd i hil]
    exact hh
  · obtain ⟨j, a1, a2, a3⟩ := kid 0 y (by rw [hk]; rfl)
    obtain ⟨l, b1, b2, b3⟩ := kid 1 z (by rw [hk]; rfl)
    have hh := s7 (by rw [hro]; exact h13)
    rw [hra, hrb, a1, b1, Int.toNat_natCast, Int.toNat_natCast] at hh
    rw [a2, b2, Int.toNat_natCast, Int.toNat_natCast, hmo j a3, hmo l b3, hmd i hil]
    exact hh
/-! ### the nodes that it begins with -/
theorem addN_fresh : ∀ (l : List Node) (n0 : List Node) (o0 : List Nat), (n0 ++ l).Nodup → (l.foldl add1 (n0, o0)).2 = o0 ++ List.range' n0.length l.length
  | [], n0, o0, _ => by simp
  | p :: l, n0, o0, h => by
    have hp : p ∉ n0 := fun hm => by
      rw [List.nodup_append] at h
      exact h.2.2 p hm p (by simp) rfl
    have hst : add1 (n0, o0) p = (n0 ++ [p], o0 ++ [n0.length]) := by
      unfold add1
      rw [if_pos (Fm.idx_neg.2 hp)]
    rw [List.foldl_cons, hst, addN_fresh l (n0 ++ [p]) (o0 ++ [n0.length]) (by simpa using h)]
    rw [List.length_append, List.append_assoc]
    simp [List.range'_succ]
theorem isort_id : ∀ {l : List Nat}, l.Pairwise (· ≤ ·) → isort l = l
  | [], _ => rfl
  | x :: l, h => by
    have h2 := List.pairwise_cons.1 h
    show insI x (isort l) = x :: l
    rw [isort_id h2.2]
    cases l with
    | nil => rfl
    | cons y r =>
      simp only [insI]
      rw [if_pos (h2.1 y (by simp))]
theorem init_at {f : Fm} {names : List ByteArray} {most : Int} {T : Tab} (h : ofT f names most = some T) : T.init = List.range T.init.length := by
  obtain ⟨gs, -, rfl, -⟩ := ofT_at h
  have hnd : (fits (rows f.subs) (whole f.subs)).Nodup := sortedN_nodup (fits_sorted _ _)
  have h1 : (addN [] (fits (rows f.subs) (whole f.subs))).2 = List.range (fits (rows f.subs) (whole f.subs)).length := by
    unfold addN
    rw [addN_fresh _ [] [] (by simpa using hnd), List.nil_append, List.range_eq_range']
    rfl
  show inits _ _ = List.range (inits _ _).length
  unfold inits
  rw [h1, isort_id, List.length_range]
  exact List.pairwise_le_range
end Tb
end Go.Au

namespace Go.Au
open Go Go.RowKit
open Fm (idx)

/-! ### the law TableauSays -/
namespace Tb
theorem old_lt {T : Tab} (hg : Good T) {k : Int} : ∀ i ∈ oldOf T k, i < T.subs.length := fun i hi => by
  unfold oldOf at hi
  split at hi
  · rename_i p hp
    have hb := (mem_bitsL.1 hi).2
    have hpn := (hg.nd.2 p (List.mem_of_getElem? (nodeAt_lt hp).2.2)).1
    rw [← hg.rl]
    rcases Nat.lt_or_ge i T.rows.length with h1 | h1
    · exact h1
    · rw [Nat.testBit_lt_two_pow (Nat.lt_of_lt_of_le hpn (Nat.pow_le_pow_right (by decide) h1))] at hb
      cases hb
  · cases hi
theorem due_lt {T : Tab} (hg : Good T) {k : Int} : ∀ i ∈ dueOf T k, i < T.subs.length := fun i hi => by
  unfold dueOf at hi
  split at hi
  · rename_i p hp
    have hb := (mem_bitsL.1 hi).2
    have hpn := (hg.nd.2 p (List.mem_of_getElem? (nodeAt_lt hp).2.2)).2
    rw [← hg.rl]
    rcases Nat.lt_or_ge i T.rows.length with h1 | h1
    · exact h1
    · rw [Nat.testBit_lt_two_pow (Nat.lt_of_lt_of_le hpn (Nat.pow_le_pow_right (by decide) h1))] at hb
      cases hb
  · cases hi
theorem old_len (T : Tab) (k : Int) : (oldOf T k).length ≤ 1024 := by
  unfold oldOf
  split
  · exact bitsL_len _ _
  · simp
theorem due_len (T : Tab) (k : Int) : (dueOf T k).length ≤ 1024 := by
  unfold dueOf
  split
  · exact bitsL_len _ _
  · simp
end Tb
namespace Tb
theorem init_len {f : Fm} {names : List ByteArray} {most : Int} {T : Tab} (h : ofT f names most = some T) : T.init.length ≤ T.nodes.length := by
  obtain ⟨gs, hg, rfl, -⟩ := ofT_at h
  obtain ⟨-, -, j, h3⟩ := gloop_some (Nat.zero_le _) hg
  have hnd : (fits (rows f.subs) (whole f.subs)).Nodup := sortedN_nodup (fits_sorted _ _)
  show (inits _ _).length ≤ gs.nodes.length
  have h1 : (inits (rows f.subs) (whole f.subs)).length = (fits (rows f.subs) (whole f.subs)).length := by
    unfold inits
    rw [isort_len, (addN_len [] _).2]
  have h2 : ∀ (k : Nat) (s : GS), s.nodes.length ≤ (giter (rows f.subs) k s).nodes.length := by
    intro k
    induction k with
    | zero => intro s; exact Nat.le_refl _
    | succ k ih =>
      intro s
      refine Nat.le_trans ?_ (ih (gstep _ s))
      unfold gstep
      split
      · exact Nat.le_refl _
      · exact (addN_len _ _).1
  have h4 : (fits (rows f.subs) (whole f.subs)).length ≤ (start (rows f.subs) (whole f.subs)).nodes.length := by
    have hs := addF_spec (fits (rows f.subs) (whole f.subs)) ([], []) List.nodup_nil
    have hsub : ∀ x ∈ fits (rows f.subs) (whole f.subs), x ∈ (start (rows f.subs) (whole f.subs)).nodes := fun x hx => (hs.2.2.1 x).2 (.inr hx)
    exact nodup_sub hnd hsub
  rw [h1, h3]
  exact Nat.le_trans h4 (h2 j _)
end Tb
theorem callLawSays : callable Proofs.Tryz.prog 7 = true := by kernel_rfl
set_option maxHeartbeats 8000000 in
theorem lawSays_c {n lo hi lo' hi' : Nat} {w : World} {v nv : Value} {f : Fm} {names : List ByteArray} (hK : KTab w) (hT : Tab w) (h : KidsN n lo hi w v f.kids) (hh : hi ≤ w.heap.size) (hkl : ∀ x ∈ f.all, x.kids.length < 4611686018427387904) (hnm : ∀ x ∈ f.all, x.name.size ≤ 1152921504606846976) (hop : ∀ x ∈ f.all, x.op < 256)
    (hN : Strs lo' hi' w nv names) (hNl : names.length < 1000000000000000) (hNs : ∀ x ∈ names, x.size ≤ 1152921504606846976) :
    Calls Proofs.Tryz.prog 7 [fmA f v, nv].toArray w (Ret fun r w' => r = .bool true ∧ Kp w w') := by
  obtain ⟨a, c, rfl, hc⟩ := h.slice
  refine call agree Proofs.Tryz.func7 rfl Proofs.Tryz.ntmps7 (by kernel_rfl) ?_
  refine nd fun p w1 e1 s1 k1 m1 => ?_
  have m1 : Own w1 p 26 (fmC f (.slice a f.kids.length c)) := m1
  refine cl callAwake (awake_c (hK.kp k1) (hT.kp k1)) ?_
  rintro _ w2 ⟨rfl, k2⟩
  have k02 := k1.trans k2
  have m2 := k2.own m1 id
  have hz2 := k02.size
  refine ld agree (Own.all m2) (by rfl) ?_
  have hfar := far_c (h.kp k02) (by omega) hkl hnm (RowE.chg hN k02 (fun _ _ _ => id) fun _ _ h => h) (by omega) hNs
  refine cl callFar hfar ?_
  rintro _ w3 ⟨⟨hb, rfl, hbf⟩, k3⟩
  have k03 := k02.trans k3
  have m3 := k3.own m2 id
  have hz3 := k03.size
  cases hb with
  | true => exact ⟨rfl, k03⟩
  | false =>
  obtain ⟨hfs, hnl, -⟩ := hbf rfl
  have hs : f.size < 4611686018427387904 := by omega
  refine ld agree (Own.all m3) (by rfl) ?_
  have hN3 := RowE.chg hN k03 (fun _ _ _ => id) fun _ _ h => h
  obtain ⟨e, he⟩ : ∃ e, Tb.errOf f names 3000 = e := ⟨_, rfl⟩
  by_cases h0 : e = 0
  case neg =>
    have hof := ofErr_c (most := 3000) (hK.kp k03) (h.kp k03) (by omega) hs hop hN3 (by omega) (fun _ _ _ _ => bnd_small (by decide)) he h0
    refine cl callOf hof ?_
    rintro _ w4 ⟨rfl, k4⟩
    refine spT h0 ?_
    refine ptrNil agree rfl rfl rfl (by kernel_rfl) ?_
    exact ⟨rfl, k03.trans k4⟩
  subst h0
  have hof := ofOk_c (most := 3000) (hK.kp k03) (h.kp k03) (by omega) hs hop hN3 (by omega) (fun _ _ _ _ => bnd_small (by decide)) he
  refine cl callOf hof ?_
  rintro _ w4 ⟨k4, nt, tb, sv, rv, nmv, ndv, iv, xv, T, rfl, hmade⟩
  have k04 := k03.trans k4
  have m4 := k4.own m3 id
  have hg := hmade.good
  obtain ⟨hrN, hTn, hTs⟩ : (f.right = true ∧ f.isN = true) ∧ T.names = names ∧ T.subs = f.subs := by
    obtain ⟨gs, -, hTe, -⟩ := Tb.ofT_at hmade.of
    refine ⟨?_, by rw [hTe], by rw [hTe]⟩
    rw [← Bool.and_eq_true_iff]
    cases hrn : (f.right && f.isN) with
    | true => rfl
    | false => rw [err_form hrn] at he; cases he
  obtain ⟨hr, hNf⟩ := hrN
  have hfo := right_formed hr
  have hsz : ∀ x ∈ T.subs, x.size < 1000000000000 := fun x hx => by
    rw [hTs] at hx
    rcases Fm.all_size (Fm.mem_subs.1 hx) with h | h
    · rw [h]; omega
    · omega
  have hsl := hg.sl
  have hnl8 := hg.nm
  refine spF (by decide) ?_
  refine ptrNil agree rfl rfl rfl (by kernel_rfl) ?_
  refine cl callSubsT (subsT_c hmade.tab hsz hsl) ?_
  rintro sbv w5 ⟨k5, L, hL, hown⟩
  have k05 := k04.trans k5
  have m5 := k5.own m4 id
  have ht5 := hmade.tab.kp k5
  have hLl : L.length = T.subs.length := by rw [← hL, List.length_map]
  have hkids := hown.len
  rewrite [hL] at hkids
  have hsbs := row_slice hown.row
  obtain ⟨sa, sc, rfl, -, -⟩ := hsbs
  have hnlt := hg.nl
  have final : ∀ (W : World), Kp w5 W → True := fun _ _ => trivial
  refine loop agree (σ := Nat) (fun k => [(1, nv), (2, pt p 0), (5, .bool true), (7, pt tb 0), (9, .slice sa L.length sc), (10, .int .i64 (k : Nat))]) (fun k W => k ≤ T.nodes.length ∧ Kp w5 W) (fun k => T.nodes.length - k) 0 ⟨rfl, rfl, rfl, rfl, rfl, rfl, trivial⟩ ⟨Nat.zero_le _, Chg.refl _ _⟩ ?_
  rintro k e0 W ⟨hk, hkW⟩
  have htW := ht5.kp hkW
  refine cl callLenT (lenT_c htW) ?_
  rintro _ W1 ⟨rfl, q1⟩
  have hkW1 := hkW.trans q1
  refine sp (fun h1 => ?_) (fun h1 => ?_)
  · have hklt : k < T.nodes.length := by omega
    obtain ⟨pn, hpn⟩ := Tb.nodeAt_some (T := T) (k := (k : Int)) ⟨by omega, by omega⟩
    have hTab := fun (U : World) (hU : Kp w5 U) => hT.kp (k05.trans hU)
    refine cl callOldT (oldT_c (ht5.kp hkW1) hg (hTab _ hkW1) k) ?_
    rintro ov W2 ⟨q2, hov⟩
    have hkW2 := hkW1.trans q2
    have hcs := setL_c (n := L.length) hov.ints (by omega) (fun i hi => by rw [hLl]; exact Tb.old_lt hg i hi) (by have := Tb.old_len T k; omega)
    obtain ⟨⟨oa, oc, rfl⟩, -⟩ := hov
    refine cl callSetL hcs ?_
    rintro _ W3 ⟨q3, bo, rfl, hbo, mo⟩
    have hkW3 := hkW2.trans q3
    refine cl callDueT (dueT_c (ht5.kp hkW3) hg (hTab _ hkW3) k) ?_
    rintro dv W4 ⟨q4, hdv⟩
    have hkW4 := hkW3.trans q4
    have hcd := setL_c (n := L.length) hdv.ints (by omega) (fun i hi => by rw [hLl]; exact Tb.due_lt hg i hi) (by have := Tb.due_len T k; omega)
    obtain ⟨⟨da, dc, rfl⟩, -⟩ := hdv
    refine cl callSetL hcd ?_
    rintro _ W5 ⟨q5, bd, rfl, hbd, md⟩
    have hkW5 := hkW4.trans q5
    have mo5 := (q4.trans q5).own mo id
    refine loop agree (σ := Nat) (fun i => [(1, nv), (2, pt p 0), (5, .bool true), (7, pt tb 0), (9, .slice sa L.length sc), (10, .int .i64 (k : Nat)), (11, .slice (some ⟨bo, 0, none⟩) L.length L.length), (12, .slice (some ⟨bd, 0, none⟩) L.length L.length), (13, .int .i64 (i : Nat))]) (fun i V => i ≤ L.length ∧ Kp W5 V) (fun i => L.length - i) 0 ⟨rfl, rfl, rfl, rfl, rfl, rfl, rfl, rfl, rfl, trivial⟩ ⟨Nat.zero_le _, Chg.refl _ _⟩ ?_
    rintro i e2 V ⟨hiL, hkV⟩
    refine sp (fun h2 => ?_) (fun h2 => ?_)
    · have hilt : i < L.length := by omega
      obtain ⟨x, hx⟩ : ∃ x, T.subs[i]? = some x := ⟨_, List.getElem?_eq_getElem (by omega)⟩
      have hk5V := hkW5.trans hkV
      by_cases hio : i ∈ Tb.oldOf T k
      · have hkV2 := hkids.kp hk5V
        rewrite [hLl] at hkV2
        have hkid := hkV2.kid hx
        obtain ⟨b, o, u, rfl, -, -, hrd, hku⟩ := hkid
        have hus := hku.slice
        obtain ⟨ua, uc, rfl, -⟩ := hus
        have hxm := List.mem_of_getElem? hx
        have hok := Tb.said_ok hr hNf hmade.of hg hpn hio hx
        have hxs : f.subs[i]? = some x := by rw [← hTs]; exact hx
        have hxf := Fm.formed_all hfo.1 (Fm.subs_at_mem hxs)
        have hmu : Tb.mustOf T k < 65536 := Nat.lt_of_lt_of_le (Tb.letO_lt hnl8 _ 0 (by decide)) (by decide)
        have hno : Tb.notOf T k < 65536 := Nat.lt_of_lt_of_le (Tb.letO_lt hnl8 _ 0 (by decide)) (by decide)
        rewrite [hTn] at hok
        refine drawnK agree mixed 23 [0, 1, 2, 3, 4, 13, 14, 15, 16, 17, 18, 5, 6, 7, 8, 9, 10, 11, 12, 19, 20, 21, 22] (by kernel_rfl) ?_
        conv => whnf
        refine ne ⟨by omega, by omega⟩ ?_
        conv => whnf
        refine ldk (cs := [.bool true]) agree rfl rfl (fun U hU _ => rd_bool ((hkV.trans hU).own mo5 id) (i := i) hilt (decide_eq_true hio)) (by rfl) fun _ => ?_
        conv => whnf
        refine callk rfl rfl rfl callMustT (fun U hU _ => mustT_c (ht5.kp (hk5V.trans hU)) hg (hTab _ (hk5V.trans hU)) k) fun _ => ?_
        conv => whnf
        refine callk rfl rfl rfl callNotT (fun U hU _ => notT_c (ht5.kp (hk5V.trans hU)) hg (hTab _ (hk5V.trans hU)) k) fun _ => ?_
        conv => whnf
        refine ne ⟨by omega, by omega⟩ ?_
        conv => whnf
        refine ldk (v := fmA x (.slice ua x.kids.length uc)) agree rfl rfl (fun U hU _ => hU.range hrd id) (by rfl) fun _ => ?_
        conv => whnf
        refine callk rfl rfl rfl callSaid (fun U hU _ => said_c (nS := L.length) (by have := hkids.kp (hk5V.trans hU); exact this) (hku.kp hU) hxf (fun y hy => by
          obtain ⟨j, hj, -, -⟩ := Fm.place_kid hxs hy
          rw [hTs, hj]; omega) hsz hLl.symm (by omega) hilt ((hkV.trans hU).own mo5 id) ((hkV.trans hU).own md id) (RowE.chg hN ((k05.trans hk5V).trans hU) (fun _ _ _ => id) fun _ _ h => h) (by rw [← hTn]; exact hnl8) hmu hno hok) fun _ => ?_
        conv => whnf
        intro U hU _
        refine aw (by omega) (by omega) ?_
        exact again (i + 1) ⟨rfl, rfl, rfl, rfl, rfl, rfl, rfl, rfl, rfl, trivial⟩ ⟨by omega, hkV.trans hU⟩ (by omega)
      · refine drawnK agree mixed 23 [0, 1, 2, 3, 4, 13, 14, 15, 16, 17, 18, 5, 6, 7, 8, 9, 10, 11, 12, 19, 20, 21, 22] (by kernel_rfl) ?_
        conv => whnf
        refine ne ⟨by omega, by omega⟩ ?_
        conv => whnf
        refine ldk (cs := [.bool false]) agree rfl rfl (fun U hU _ => rd_bool ((hkV.trans hU).own mo5 id) (i := i) hilt (decide_eq_false hio)) (by rfl) fun _ => ?_
        conv => whnf
        intro U hU _
        refine aw (by omega) (by omega) ?_
        exact again (i + 1) ⟨rfl, rfl, rfl, rfl, rfl, rfl, rfl, rfl, rfl, trivial⟩ ⟨by omega, hkV.trans hU⟩ (by omega)
    · refine aw (by omega) (by omega) ?_
      exact again (k + 1) ⟨rfl, rfl, rfl, rfl, rfl, rfl, trivial⟩ ⟨by omega, hkW5.trans hkV⟩ (by omega)
  · refine cl callInitT (initT_c (ht5.kp hkW1) (by
      have := Tb.init_len hmade.of
      omega)) ?_
    rintro iv2 W2 ⟨q2, hiv⟩
    have hkW2 := hkW1.trans q2
    have hI := hiv.ints
    obtain ⟨⟨ia, ic, rfl⟩, -⟩ := hiv
    have hin := Tb.init_at hmade.of
    have hil2 := Tb.init_len hmade.of
    refine loop agree (σ := Nat) (fun i => [(2, pt p 0), (5, .bool true), (9, .slice sa L.length sc), (15, .slice ia T.init.length ic), (16, .int .i64 (i : Nat))]) (fun i V => i ≤ T.init.length ∧ Kp W2 V) (fun i => T.init.length - i) 0 ⟨rfl, rfl, rfl, rfl, rfl, trivial⟩ ⟨Nat.zero_le _, Chg.refl _ _⟩ ?_
    rintro i e2 V ⟨hii, hkV⟩
    refine sp (fun h2 => ?_) (fun h2 => ?_)
    · have hit : i < T.init.length := by omega
      have hxi : (Tb.natI T.init)[i]? = some ((i : Nat) : Int) := by
        rw [List.getElem?_map, hin, List.getElem?_range hit]; rfl
      obtain ⟨b, o, rfl, hrd⟩ := ints_at hI hxi
      refine ne ⟨by omega, h2⟩ ?_
      refine ld agree (hkV.range hrd id) (by rfl) ?_
      refine spF (fun hh => hh rfl) ?_
      refine aw (by omega) (by omega) ?_
      exact again (i + 1) ⟨rfl, rfl, rfl, rfl, rfl, trivial⟩ ⟨by omega, hkV⟩ (by omega)
    · have hk5V := hkW2.trans hkV
      have hlast := Fm.subs_last f
      have hpos : 0 < f.subs.length := List.length_pos_iff.2 (Fm.subs_ne f)
      rewrite [← hTs] at hlast hpos
      have hkV2 := hkids.kp hk5V
      rewrite [hLl] at hkV2
      have hkid := hkV2.kid hlast
      obtain ⟨b, o, u, rfl, -, -, hrd, hku⟩ := hkid
      have hus := hku.slice
      obtain ⟨ua, uc, rfl, -⟩ := hus
      refine drawn0 agree mixed 12 (by kernel_rfl) (fun _ => False) ?_
      conv => whnf
      refine arE (z' := ((T.subs.length - 1 : Nat) : Int)) (by rw [wrap64 (by omega) (by omega)]; omega) ?_
      conv => whnf
      refine ne ⟨by omega, by omega⟩ ?_
      conv => whnf
      refine ldk (v := fmA f (.slice ua f.kids.length uc)) agree rfl rfl (fun U hU _ => hU.range hrd id) (by rfl) fun _ => ?_
      conv => whnf
      refine ldk (v := fmA f (.slice a f.kids.length c)) agree rfl rfl (fun U hU _ => Own.all ((hk5V.trans hU).own m5 id)) (by rfl) fun _ => ?_
      conv => whnf
      refine callk rfl rfl rfl callCmp (fun U hU _ => cmp_c (max nt n) _ _ lo hi U _ _ f f ((hku.kp hU).le (Nat.le_max_left nt n)) ((h.kp ((k05.trans hk5V).trans hU)).le (Nat.le_max_right nt n)) hs) fun _ => ?_
      conv => whnf
      refine spT (Fm.cmp_self f) ?_
      conv => whnf
      intro U hU _
      exact ⟨rfl, (k05.trans hk5V).trans hU⟩
end Go.Au

namespace Go.Au
open Go Go.RowKit

/-! ### names that are handed in -/
def TextsE (W : World) (cs : List Value) (xs : List ByteArray) : Prop := ∃ v, cs = [v] ∧ Strs 0 W.heap.size W v xs ∧ xs.length * 16 ≤ 140737488351232 ∧ ∀ x ∈ xs, x.size ≤ 140737488351232
theorem opensTexts {W : World} : Opens Proofs.Tryz.prog W 27 (TextsE W) :=
  (opens_slice (size := 1) (B := 16) Proofs.Tryz.underlying27 (by kernel_rfl) (by decide) (by kernel_rfl) (by decide) (opens_string Proofs.Tryz.underlying9)).mono fun cs xs ⟨v, h1, h2, h3⟩ => ⟨v, h1, h2.mono (fun _ _ h => h.1) (Nat.le_refl _) (Nat.le_refl _), h3, fun x hx => by
    obtain ⟨i, hi⟩ := List.getElem?_of_mem hx
    obtain ⟨a, c, -, -, hh⟩ := h2
    obtain ⟨b, o, -, -, -, cs', -, -, -, hz⟩ := hh i x hi
    exact hz⟩
theorem texts_cells {H : Type} {enc : TypeId × Value → H} {W : World} {base n c : Nat} {sp : Nat → Bool} {hd : Bool} {a : Option Addr} {d : DataW H} {ps : List MemPlace} {ts : List TypeId} {ds : List (DataW H)} (j : Nat) (h : DataW.Trod enc Proofs.Tryz.prog W base sp hd 27 (.slice a n c) d ps) (hsz : (DataW.weightsEach Proofs.Tryz.prog ts ds).all (· ≤ reachBytes) = true) (ht : ts[j]? = some 27) (hdj : ds[j]? = some d) :
    ∃ xs, Strs 0 W.heap.size W (.slice a n c) xs ∧ xs.length < 1000000000000000 ∧ ∀ x ∈ xs, x.size ≤ 1152921504606846976 := by
  obtain ⟨xs, u, hu, h1, h2, h3⟩ := handed j h hsz ht hdj opensTexts
  have hu : [Value.slice a n c] = [u] := hu
  injection hu with hu _
  subst hu
  exact ⟨xs, h1, by omega, fun x hx => by have := h3 x hx; omega⟩
end Go.Au
