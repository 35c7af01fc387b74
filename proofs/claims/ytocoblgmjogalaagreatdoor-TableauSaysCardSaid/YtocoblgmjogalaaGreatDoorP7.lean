/- Own text of this workplace: a part of the proofs of this place's statements. -/
import Derived.Test.YtocoblgmjogalaaGreatDoorP0
import Derived.Test.YtocoblgmjogalaaGreatDoorG
import Derived.Test.YtocoblgmjogalaaGreatDoorP2
import Derived.Test.YtocoblgmjogalaaGreatDoorP3
import Derived.Test.YtocoblgmjogalaaGreatDoorP4
import Derived.Test.YtocoblgmjogalaaGreatDoorV64
import Derived.Test.YtocoblgmjogalaaGreatDoorP6
set_option maxRecDepth 40000
set_option linter.unusedVariables false
set_option linter.unusedSimpArgs false
set_option linter.unusedSectionVars false
namespace Go.Au
open Go Go.RowKit
open Fm (idx)

/-! ### what a tableau tells, plain -/
namespace Tb
def nodeAt (T : Tab) (k : Int) : Option Node := if 0 ≤ k then T.nodes[k.toNat]? else none
def nextOf (T : Tab) (k : Int) : List Nat := if 0 ≤ k then (T.next[k.toNat]?).getD [] else []
def oldOf (T : Tab) (k : Int) : List Nat := match nodeAt T k with | some p => bitsL 1024 p.1 | none => []
def dueOf (T : Tab) (k : Int) : List Nat := match nodeAt T k with | some p => bitsL 1024 p.2 | none => []
def selM (f : Fm) : ByteArray × Bool := (f.name, decide (f.op = 3))
def kid0 (f : Fm) : ByteArray := match f.kids with | k :: _ => k.name | [] => ⟨#[]⟩
def selN (f : Fm) : ByteArray × Bool := if f.op = 4 then (kid0 f, true) else (⟨#[]⟩, false)
def letS (T : Tab) (sel : Fm → ByteArray × Bool) (acc : Nat) (i : Nat) : Nat := match T.subs[i]? with
  | some f => if (sel f).2 = true then acc ||| 2 ^ (idx T.names (sel f).1).toNat else acc
  | none => acc
def letO (T : Tab) (sel : Fm → ByteArray × Bool) (l : List Nat) : Nat := l.foldl (letS T sel) 0
def mustOf (T : Tab) (k : Int) : Nat := letO T selM (oldOf T k)
def notOf (T : Tab) (k : Int) : Nat := letO T selN (oldOf T k)
/-- what every tableau that is made keeps -/
structure Good (T : Tab) : Prop where
  nd : NodesOk T.rows.length T.nodes
  rl : T.rows.length = T.subs.length
  sl : T.subs.length ≤ 1000
  nx : T.next.length = T.nodes.length
  nl : T.nodes.length < 137438953472
  nm : T.names.length ≤ 8
  isM : ∀ x ∈ T.subs, x.op = 3 → 0 ≤ idx T.names x.name
  isN : ∀ x ∈ T.subs, x.op = 4 → x.kids ≠ [] ∧ 0 ≤ idx T.names (kid0 x)
theorem nodeAt_lt {T : Tab} {k : Int} {p : Node} (h : nodeAt T k = some p) : 0 ≤ k ∧ k < T.nodes.length ∧ T.nodes[k.toNat]? = some p := by
  unfold nodeAt at h
  split at h
  · have := (List.getElem?_eq_some_iff.1 h).1
    exact ⟨‹_›, by omega, h⟩
  · cases h
theorem nodeAt_none {T : Tab} {k : Int} (h : ¬ (0 ≤ k ∧ k < T.nodes.length)) : nodeAt T k = none := by
  unfold nodeAt
  split
  · exact List.getElem?_eq_none (by omega)
  · rfl
theorem nodeAt_some {T : Tab} {k : Int} (h : 0 ≤ k ∧ k < T.nodes.length) : ∃ p, nodeAt T k = some p := by
  unfold nodeAt
  rw [if_pos h.1]
  exact ⟨_, List.getElem?_eq_getElem (by omega)⟩
end Tb
/-- asked of a node: is there one? -/
def hasB (T : Tb.Tab) (k : Int) : Bool := decide (0 ≤ k) && decide (k < T.nodes.length)
theorem hasB_iff {T : Tb.Tab} {k : Int} : hasB T k = true ↔ (0 ≤ k ∧ k < T.nodes.length) := by
  unfold hasB; rw [Bool.and_eq_true, decide_eq_true_eq, decide_eq_true_eq]
section
variable {n lo hi tb : Nat} {w : World} {sv rv nmv ndv iv xv : Value} {T : Tb.Tab}
theorem callHasN : callable Proofs.Tryz.prog 95 = true := by kernel_rfl
theorem hasN_c (h : TabS n lo hi w tb sv rv nmv ndv iv xv T) (k : Int) :
    Calls Proofs.Tryz.prog 95 [pt tb 0, iV k].toArray w (Ret fun r w' => r = .bool (hasB T k) ∧ Kp w w') := by
  have hb := h.box
  have hn := h.nodes
  obtain ⟨na, nc, rfl, -, -⟩ := hn
  refine call agree Proofs.Tryz.func95 rfl Proofs.Tryz.ntmps95 (by kernel_rfl) ?_
  refine sp (fun h1 => ?_) (fun h1 => ?_)
  · refine ld agree (Own.at_ (xs := [.slice na T.nodes.length nc]) (o := 3) hb rfl) (by rfl) ?_
    refine sp (fun h2 => ?_) (fun h2 => ?_)
    · have : hasB T k = true := hasB_iff.2 ⟨h1, h2⟩
      exact ⟨congrArg Value.bool this.symm, Chg.refl _ _⟩
    · have : hasB T k = false := Bool.eq_false_iff.2 fun h3 => h2 (hasB_iff.1 h3).2
      exact ⟨congrArg Value.bool this.symm, Chg.refl _ _⟩
  · have : hasB T k = false := Bool.eq_false_iff.2 fun h3 => h1 (hasB_iff.1 h3).1
    exact ⟨congrArg Value.bool this.symm, Chg.refl _ _⟩
theorem callLenT : callable Proofs.Tryz.prog 13 = true := by kernel_rfl
theorem lenT_c (h : TabS n lo hi w tb sv rv nmv ndv iv xv T) :
    Calls Proofs.Tryz.prog 13 [pt tb 0].toArray w (Ret fun r w' => r = .int .i64 T.nodes.length ∧ Kp w w') := by
  have hb := h.box
  have hn := h.nodes
  obtain ⟨na, nc, rfl, -, -⟩ := hn
  refine call agree Proofs.Tryz.func13 rfl Proofs.Tryz.ntmps13 (by kernel_rfl) ?_
  refine ld agree (Own.at_ (xs := [.slice na T.nodes.length nc]) (o := 3) hb rfl) (by rfl) ?_
  exact ⟨rfl, Chg.refl _ _⟩
/-- a list of places that is its owner's -/
def ListV (lo : Nat) (l : List Nat) (r : Value) (w' : World) : Prop := (∃ a c, r = .slice a l.length c) ∧ w'.ownsRow lo 3 1 r l.length ((Tb.natI l).flatMap fN1)
theorem ListV.nil {lo : Nat} {w' : World} : ListV lo [] nilS w' := ⟨⟨none, 0, rfl⟩, World.ownsRow_nil _ _ _ _⟩
theorem ListV.nil' {lo : Nat} {l : List Nat} {w' : World} (h : l = []) : ListV lo l nilS w' := by rw [h]; exact ListV.nil
theorem ListV.of {lo : Nat} {l : List Nat} {r : Value} {w' : World} (h1 : ∃ a c, r = .slice a (Tb.natI l).length c) (h2 : w'.ownsRow lo 3 1 r (Tb.natI l).length ((Tb.natI l).flatMap fN1)) : ListV lo l r w' := by
  have e : (Tb.natI l).length = l.length := List.length_map _
  rw [e] at h1 h2
  exact ⟨h1, h2⟩
theorem ListV.ints {lo : Nat} {l : List Nat} {r : Value} {w' : World} (h : ListV lo l r w') : Ints lo w'.heap.size w' r (Tb.natI l) := by
  have e : (Tb.natI l).length = l.length := List.length_map _
  have h2 := h.2
  rw [← e] at h2
  exact ownsRow_row (f := fN1) (fun _ => rfl) (l := Tb.natI l) h2 (by decide)
theorem callInitT : callable Proofs.Tryz.prog 36 = true := by kernel_rfl
theorem initT_c (h : TabS n lo hi w tb sv rv nmv ndv iv xv T) (hl : T.init.length < 1000000000000) :
    Calls Proofs.Tryz.prog 36 [pt tb 0].toArray w (Ret fun r w' => Kp w w' ∧ ListV w.heap.size T.init r w') := by
  have hb := h.box
  refine call agree Proofs.Tryz.func36 rfl Proofs.Tryz.ntmps36 (by kernel_rfl) ?_
  refine ld agree (Own.at_ (xs := [iv]) (o := 4) hb rfl) (by rfl) ?_
  have hcall := cloneI_c h.init (by rw [List.length_map]; exact hl)
  refine cl callCloneI hcall ?_
  rintro r w1 ⟨k1, h1, h2⟩
  exact ⟨k1, ListV.of h1 h2⟩
theorem callNextT : callable Proofs.Tryz.prog 43 = true := by kernel_rfl
theorem nextT_c (h : TabS n lo hi w tb sv rv nmv ndv iv xv T) (hg : Tb.Good T) (hl : ∀ r ∈ T.next, r.length < 1000000000000) (k : Int) :
    Calls Proofs.Tryz.prog 43 [pt tb 0, iV k].toArray w (Ret fun r w' => Kp w w' ∧ ListV w.heap.size (Tb.nextOf T k) r w') := by
  have hcall := hasN_c h k
  refine call agree Proofs.Tryz.func43 rfl Proofs.Tryz.ntmps43 (by kernel_rfl) ?_
  refine cl callHasN hcall ?_
  rintro _ w1 ⟨rfl, k1⟩
  cases hq : hasB T k with
  | false =>
    have hz : Tb.nextOf T k = [] := by
      have h3 : ¬ (0 ≤ k ∧ k < (T.nodes.length : Int)) := fun h3 => Bool.eq_false_iff.1 hq (hasB_iff.2 h3)
      unfold Tb.nextOf
      split
      · rw [List.getElem?_eq_none (by rw [hg.nx]; omega)]; rfl
      · rfl
    exact ⟨k1, ListV.nil' hz⟩
  | true =>
    obtain ⟨h0, h2⟩ := hasB_iff.1 hq
    have hb := k1.own h.box id
    have hx := RowE.chg h.next k1 (fun _ _ _ => id) fun _ _ ⟨x, h1, h2⟩ => ⟨x, h1, RowE.chg h2 k1 (fun _ _ _ => id) fun _ _ h => h⟩
    obtain ⟨xa, xc, rfl, -, hx⟩ := hx
    have hkl : k.toNat < T.next.length := by rw [hg.nx]; omega
    have hxk := hx k.toNat _ (List.getElem?_eq_getElem hkl)
    obtain ⟨b, o, rfl, -, -, cs, -, hrd, x, rfl, hI⟩ := hxk
    have hz : Tb.nextOf T k = T.next[k.toNat] := by unfold Tb.nextOf; rw [if_pos h0, List.getElem?_eq_getElem hkl]; rfl
    refine ld agree (Own.at_ (xs := [.slice (some ⟨b, o, none⟩) T.next.length xc]) (o := 5) hb rfl) (by rfl) ?_
    refine ne ⟨h0, by have := hg.nx; omega⟩ ?_
    refine ld agree hrd (by rfl) ?_
    have hc2 := cloneI_c hI (by rw [List.length_map]; exact hl _ (List.getElem_mem hkl))
    refine cl callCloneI hc2 ?_
    rintro r w2 ⟨k2, h3, h4⟩
    have hL : ListV w.heap.size (Tb.nextOf T k) r w2 := by rw [hz]; exact ListV.of h3 (ownsRow_lo h4 k1.size)
    exact ⟨k1.trans k2, hL⟩
theorem node_has {T : Tb.Tab} {k : Int} (hq : hasB T k = true) : ∃ p, T.nodes[k.toNat]? = some p ∧ Tb.nodeAt T k = some p := by
  obtain ⟨h0, h2⟩ := hasB_iff.1 hq
  obtain ⟨p, hp⟩ := Tb.nodeAt_some (T := T) ⟨h0, h2⟩
  exact ⟨p, (Tb.nodeAt_lt hp).2.2, hp⟩
theorem node_no {T : Tb.Tab} {k : Int} (hq : hasB T k = false) : Tb.nodeAt T k = none := Tb.nodeAt_none fun h3 => Bool.eq_false_iff.1 hq (hasB_iff.2 h3)
theorem callOldT : callable Proofs.Tryz.prog 31 = true := by kernel_rfl
theorem oldT_c (h : TabS n lo hi w tb sv rv nmv ndv iv xv T) (hg : Tb.Good T) (hT : Tab w) (k : Int) :
    Calls Proofs.Tryz.prog 31 [pt tb 0, iV k].toArray w (Ret fun r w' => Kp w w' ∧ ListV w.heap.size (Tb.oldOf T k) r w') := by
  have hcall := hasN_c h k
  refine call agree Proofs.Tryz.func31 rfl Proofs.Tryz.ntmps31 (by kernel_rfl) ?_
  refine cl callHasN hcall ?_
  rintro _ w1 ⟨rfl, k1⟩
  cases hq : hasB T k with
  | false =>
    have hz : Tb.oldOf T k = [] := by unfold Tb.oldOf; rw [node_no hq]
    exact ⟨k1, ListV.nil' hz⟩
  | true =>
    obtain ⟨h0, h2⟩ := hasB_iff.1 hq
    obtain ⟨p, hp, hp2⟩ := node_has hq
    have hb := k1.own h.box id
    have hx := RowE.chg h.nodes k1 (fun _ _ _ => id) fun _ _ h => h
    obtain ⟨xa, xc, rfl, -, hx⟩ := hx
    have hxk := hx k.toNat _ hp
    obtain ⟨b, o, rfl, -, -, cs, -, hrd, rfl⟩ := hxk
    have hz : Tb.oldOf T k = Tb.bitsL 1024 p.1 := by unfold Tb.oldOf; rw [hp2]
    have hpn := hg.nd.2 p (List.mem_of_getElem? hp)
    have hcap := cap_of hpn.1 (by rw [hg.rl]; have := hg.sl; omega)
    refine ld agree (Own.at_ (xs := [.slice (some ⟨b, o, none⟩) T.nodes.length xc]) (o := 3) hb rfl) (by rfl) ?_
    refine ne ⟨h0, h2⟩ ?_
    refine ld (cs := setC p.1) (v := setA p.1) agree (pair_old hrd) (by rfl) ?_
    have hc2 := list_c (hT.kp k1) hcap
    refine cl callList hc2 ?_
    rintro r w2 ⟨k2, hr, h1⟩
    have hL : ListV w.heap.size (Tb.oldOf T k) r w2 := by rw [hz]; exact ⟨hr, ownsRow_lo h1 k1.size⟩
    exact ⟨k1.trans k2, hL⟩
theorem callDueT : callable Proofs.Tryz.prog 32 = true := by kernel_rfl
theorem dueT_c (h : TabS n lo hi w tb sv rv nmv ndv iv xv T) (hg : Tb.Good T) (hT : Tab w) (k : Int) :
    Calls Proofs.Tryz.prog 32 [pt tb 0, iV k].toArray w (Ret fun r w' => Kp w w' ∧ ListV w.heap.size (Tb.dueOf T k) r w') := by
  have hcall := hasN_c h k
  refine call agree Proofs.Tryz.func32 rfl Proofs.Tryz.ntmps32 (by kernel_rfl) ?_
  refine cl callHasN hcall ?_
  rintro _ w1 ⟨rfl, k1⟩
  cases hq : hasB T k with
  | false =>
    have hz : Tb.dueOf T k = [] := by unfold Tb.dueOf; rw [node_no hq]
    exact ⟨k1, ListV.nil' hz⟩
  | true =>
    obtain ⟨h0, h2⟩ := hasB_iff.1 hq
    obtain ⟨p, hp, hp2⟩ := node_has hq
    have hb := k1.own h.box id
    have hx := RowE.chg h.nodes k1 (fun _ _ _ => id) fun _ _ h => h
    obtain ⟨xa, xc, rfl, -, hx⟩ := hx
    have hxk := hx k.toNat _ hp
    obtain ⟨b, o, rfl, -, -, cs, -, hrd, rfl⟩ := hxk
    have hz : Tb.dueOf T k = Tb.bitsL 1024 p.2 := by unfold Tb.dueOf; rw [hp2]
    have hpn := hg.nd.2 p (List.mem_of_getElem? hp)
    have hcap := cap_of hpn.2 (by rw [hg.rl]; have := hg.sl; omega)
    refine ld agree (Own.at_ (xs := [.slice (some ⟨b, o, none⟩) T.nodes.length xc]) (o := 3) hb rfl) (by rfl) ?_
    refine ne ⟨h0, h2⟩ ?_
    refine ld (cs := setC p.2) (v := setA p.2) agree (pair_due hrd) (by rfl) ?_
    have hc2 := list_c (hT.kp k1) hcap
    refine cl callList hc2 ?_
    rintro r w2 ⟨k2, hr, h1⟩
    have hL : ListV w.heap.size (Tb.dueOf T k) r w2 := by rw [hz]; exact ⟨hr, ownsRow_lo h1 k1.size⟩
    exact ⟨k1.trans k2, hL⟩
end
end Go.Au

namespace Go.Au
open Go Go.RowKit
open Fm (idx)

/-! ### a node's letter -/
theorem shl16 {r : Nat} (h : r < 8) : IntKind.u16.wrap ((1 : Int) * 2 ^ (min ((r : Int)).toNat (IntKind.bits .u16))) = ((2 ^ r : Nat) : Int) := by
  have hr : 2 ^ r < 256 := Nat.pow_lt_pow_right (a := 2) (by decide) h
  rw [Int.toNat_natCast, Nat.min_eq_left (by show r ≤ 16; omega), Int.one_mul, show ((2 : Int) ^ r) = ((2 ^ r : Nat) : Int) from (Int.natCast_pow 2 _).symm]
  generalize 2 ^ r = x at hr
  show (if (false && decide ((x : Int) % 65536 ≥ 32768)) = true then (x : Int) % 65536 - 65536 else (x : Int) % 65536) = _
  rw [if_neg (by simp)]; omega
theorem ofInt16 {a : Nat} (h : a < 65536) : (BitVec.ofInt (IntKind.bits .u16) (a : Int)).toNat = a := by
  rw [BitVec.toNat_ofInt]
  show (((a : Int) % 65536)).toNat = a
  omega
theorem bitsOr16 {a b : Nat} (ha : a < 65536) (hb : b < 65536) : bits .or .u16 a b = ((a ||| b : Nat) : Int) := by
  have h : bits .or .u16 a b = IntKind.u16.wrap (((BitVec.ofInt (IntKind.bits .u16) (a : Int) ||| BitVec.ofInt (IntKind.bits .u16) (b : Int)).toNat : Nat) : Int) := rfl
  have hlt : a ||| b < 65536 := Nat.or_lt_two_pow (n := 16) ha hb
  rw [h, BitVec.toNat_or, ofInt16 ha, ofInt16 hb]
  show (if (false && decide (((a ||| b : Nat) : Int) % 65536 ≥ 32768)) = true then ((a ||| b : Nat) : Int) % 65536 - 65536 else ((a ||| b : Nat) : Int) % 65536) = _
  rw [if_neg (by simp)]; omega
namespace Tb
theorem letS_lt {T : Tab} {sel : Fm → ByteArray × Bool} {acc i : Nat} (h : acc < 256) (hn : T.names.length ≤ 8) : letS T sel acc i < 256 := by
  unfold letS
  split
  · rename_i f _
    split
    · refine Nat.or_lt_two_pow (n := 8) h (Nat.pow_lt_pow_right (by decide) ?_)
      have := Fm.idx_lt T.names (sel f).1
      omega
    · exact h
  · exact h
end Tb
section
variable {n lo hi tb : Nat} {w : World} {sv rv nmv ndv iv xv : Value} {T : Tb.Tab}
theorem callLetter : callable Proofs.Tryz.prog 98 = true := by kernel_rfl
theorem letter_c (h : TabS n lo hi w tb sv rv nmv ndv iv xv T) (hg : Tb.Good T) (hT : Tab w) (k : Int) {g : FuncId} (hcal : callable Proofs.Tryz.prog g = true) (sel : Fm → ByteArray × Bool) (hsel : ∀ x ∈ T.subs, (sel x).2 = true → 0 ≤ idx T.names (sel x).1)
    (hf : ∀ (W : World) (m : Nat) (x : Fm) (v : Value), x ∈ T.subs → KidsN m lo hi W v x.kids → Calls Proofs.Tryz.prog g [fmA x v].toArray W (Ret fun r W' => r = .tuple #[.string (sel x).1, .bool (sel x).2] ∧ Kp W W')) :
    Calls Proofs.Tryz.prog 98 [pt tb 0, iV k, .func (.func g) #[] #[]].toArray w (Ret fun r w' => r = .int .u16 (Tb.letO T sel (Tb.oldOf T k) : Nat) ∧ Kp w w') := by
  have hcall := oldT_c h hg hT k
  have hsb := h.subs.slice
  obtain ⟨sa, sc, rfl, hsc⟩ := hsb
  have hlk : ∀ i ∈ Tb.oldOf T k, i < T.subs.length := fun i hi => by
    unfold Tb.oldOf at hi
    split at hi
    · rename_i p hp
      have hb := (Tb.mem_bitsL.1 hi).2
      have hpn := (hg.nd.2 p (List.mem_of_getElem? (Tb.nodeAt_lt hp).2.2)).1
      rw [← hg.rl]
      rcases Nat.lt_or_ge i T.rows.length with h1 | h1
      · exact h1
      · rw [Nat.testBit_lt_two_pow (Nat.lt_of_lt_of_le hpn (Nat.pow_le_pow_right (by decide) h1))] at hb
        cases hb
    · cases hi
  have hll : (Tb.oldOf T k).length ≤ 1024 := by
    unfold Tb.oldOf
    split
    · exact Tb.bitsL_len _ _
    · simp
  obtain ⟨L, hL⟩ : ∃ L, L = Tb.oldOf T k := ⟨_, rfl⟩
  rewrite [← hL] at hcall hlk hll
  rewrite [← hL]
  refine call agree Proofs.Tryz.func98 rfl Proofs.Tryz.ntmps98 (by kernel_rfl) ?_
  refine cl callOldT hcall ?_
  rintro _ w1 ⟨k1, ⟨a, c, rfl⟩, hrow⟩
  have hI : Ints w.heap.size w1.heap.size w1 (.slice a L.length c) (Tb.natI L) := by
    exact ListV.ints ⟨⟨a, c, rfl⟩, hrow⟩
  have hab := row_slice hrow
  refine loop agree (σ := Nat × Nat) (fun s => [(0, pt tb 0), (2, .func (.func g) #[] #[]), (7, .int .u16 (s.2 : Nat)), (14, .slice a L.length c), (15, .int .i64 (L.length : Nat)), (16, .int .i64 (s.1 : Nat))])
    (fun s W => Kp w1 W ∧ s.1 ≤ L.length ∧ s.2 = (L.take s.1).foldl (Tb.letS T sel) 0 ∧ s.2 < 256) (fun s => L.length - s.1) (0, 0) ⟨rfl, rfl, rfl, rfl, rfl, rfl, trivial⟩ ⟨Chg.refl _ _, Nat.zero_le _, rfl, by decide⟩ ?_
  rintro ⟨i, acc⟩ e0 W ⟨hk, hi, hacc, h256⟩
  simp only at hi hacc h256
  refine sp (fun h1 => ?_) (fun h1 => ?_)
  · have hil : i < L.length := by omega
    have hIW := RowE.chg hI hk (fun _ _ _ => id) fun _ _ h => h
    obtain ⟨a', c', he, -, hx⟩ := hIW
    injection he with he1 _ he2
    subst he1 he2
    have hxi := hx i ((L[i] : Nat) : Int) (by rw [List.getElem?_map, List.getElem?_eq_getElem hil]; rfl)
    obtain ⟨b, o, rfl, -, -, cs, -, hrd, rfl⟩ := hxi
    refine ne ⟨by omega, by omega⟩ ?_
    refine ld agree hrd (by rfl) ?_
    have hkW := k1.trans hk
    have hsi := hlk L[i] (List.getElem_mem hil)
    obtain ⟨x, hxe⟩ : ∃ x, T.subs[L[i]]? = some x := ⟨_, List.getElem?_eq_getElem hsi⟩
    have hxm := List.mem_of_getElem? hxe
    have hsW := (h.subs.kp hkW).le (Nat.le_succ n)
    have hkid := hsW.kid hxe
    obtain ⟨b2, o2, v2, rfl, -, -, hrd2, hk2⟩ := hkid
    have hslx := hk2.slice
    obtain ⟨va, vc, rfl, -⟩ := hslx
    obtain ⟨s, ok, hse⟩ : ∃ s ok, sel x = (s, ok) := ⟨_, _, rfl⟩
    refine ld agree (Own.at_ (xs := [.slice (some ⟨b2, o2, none⟩) T.subs.length sc]) (o := 0) (hkW.own h.box id) rfl) (by rfl) ?_
    refine ne ⟨by omega, by omega⟩ ?_
    refine ld (v := fmA x (.slice va x.kids.length vc)) agree hrd2 (by rfl) ?_
    have hfc := hf W _ x _ hxm hk2
    rewrite [hse] at hfc
    refine cl hcal hfc ?_
    rintro _ w3 ⟨rfl, k3⟩
    have htk : L.take (i + 1) = L.take i ++ [L[i]] := List.take_succ_eq_append_getElem hil
    have hst : (L.take (i + 1)).foldl (Tb.letS T sel) 0 = Tb.letS T sel acc L[i] := by
      rw [htk, List.foldl_append, ← hacc]; rfl
    cases ok with
    | false =>
      have hls : Tb.letS T sel acc L[i] = acc := by unfold Tb.letS; rw [hxe]; simp only; rw [hse]; rfl
      refine aw (by omega) (by omega) ?_
      exact again (i + 1, acc) ⟨rfl, rfl, rfl, rfl, rfl, rfl, trivial⟩ ⟨hk.trans k3, by simp only; omega, by simp only; rw [hst, hls], h256⟩ (by simp only; omega)
    | true =>
      have hls : Tb.letS T sel acc L[i] = acc ||| 2 ^ (idx T.names s).toNat := by unfold Tb.letS; rw [hxe]; simp only; rw [hse]; rfl
      have h0 : 0 ≤ idx T.names s := by have := hsel x hxm (by rw [hse]); rw [hse] at this; exact this
      have hlt := Fm.idx_lt T.names s
      have h8 := hg.nm
      have hkW3 := hkW.trans k3
      obtain ⟨r, hr⟩ : ∃ r : Nat, idx T.names s = r := ⟨_, (Int.toNat_of_nonneg h0).symm⟩
      rewrite [hr] at hls hlt h0
      rewrite [Int.toNat_natCast] at hls
      have hr8 : r < 8 := by omega
      have hp2 : 2 ^ r < 256 := Nat.pow_lt_pow_right (a := 2) (by decide) hr8
      refine ld agree (Own.at_ (xs := [nmv]) (o := 2) (hkW3.own h.box id) rfl) (by rfl) ?_
      have hic := idxS_c (RowE.chg h.names hkW3 (fun _ _ _ => id) fun _ _ h => h) (by omega) s
      rewrite [hr] at hic
      refine cl callIdxS hic ?_
      rintro _ w4 ⟨rfl, k4⟩
      refine ne (by omega) ?_
      refine arE (shl16 (by omega)) ?_
      refine arE (bitsOr16 (by omega) (by omega)) ?_
      refine aw (by omega) (by omega) ?_
      refine again (i + 1, acc ||| 2 ^ r) ⟨rfl, rfl, rfl, rfl, rfl, rfl, trivial⟩ ⟨(hk.trans k3).trans k4, by simp only; omega, by simp only; rw [hst, hls], ?_⟩ (by simp only; omega)
      exact Nat.or_lt_two_pow (n := 8) h256 hp2
  · have : i = L.length := by omega
    subst this
    refine ⟨?_, k1.trans hk⟩
    rw [hacc, List.take_length]
    rfl
theorem callMust1 : callable Proofs.Tryz.prog 99 = true := by kernel_rfl
theorem must1_c (W : World) (x : Fm) {a : Option Addr} {c : Nat} : Calls Proofs.Tryz.prog 99 [fmA x (.slice a x.kids.length c)].toArray W (Ret fun r W' => r = .tuple #[.string (Tb.selM x).1, .bool (Tb.selM x).2] ∧ Kp W W') := by
  refine call agree Proofs.Tryz.func99 rfl Proofs.Tryz.ntmps99 (by kernel_rfl) ?_
  refine nd fun p w1 e1 s1 k1 m1 => ?_
  have m1 : Own w1 p 26 (fmC x (.slice a x.kids.length c)) := m1
  refine drawn0 agree mixed 7 (by kernel_rfl) (fun _ => False) ?_
  conv => whnf
  refine ldk agree rfl rfl (fun V hV _ => (hV.own m1 id).at_ (xs := [.string x.name]) (o := 1) rfl) (by rfl) fun _ => ?_
  conv => whnf
  refine ldk agree rfl rfl (fun V hV _ => (hV.own m1 id).at_ (xs := [.int .u8 x.op]) (o := 0) rfl) (by rfl) fun _ => ?_
  conv => whnf
  refine sp (fun h1 => ?_) (fun h1 => ?_)
  · conv => whnf
    intro V hV _
    have : x.op = 3 := Int.ofNat.inj h1
    exact ⟨by unfold Tb.selM; rw [this]; rfl, k1.trans hV⟩
  · conv => whnf
    intro V hV _
    have : decide (x.op = 3) = false := decide_eq_false fun h => h1 (by rw [h]; rfl)
    exact ⟨by unfold Tb.selM; rw [this]; rfl, k1.trans hV⟩
theorem callNot1 : callable Proofs.Tryz.prog 100 = true := by kernel_rfl
theorem not1_c {m : Nat} {W : World} {x : Fm} {a : Option Addr} {c : Nat} (hk : KidsN m lo hi W (.slice a x.kids.length c) x.kids) (h4 : x.op = 4 → x.kids ≠ []) : Calls Proofs.Tryz.prog 100 [fmA x (.slice a x.kids.length c)].toArray W (Ret fun r W' => r = .tuple #[.string (Tb.selN x).1, .bool (Tb.selN x).2] ∧ Kp W W') := by
  have hk := hk.le (Nat.le_succ m)
  refine call agree Proofs.Tryz.func100 rfl Proofs.Tryz.ntmps100 (by kernel_rfl) ?_
  refine nd fun p w1 e1 s1 k1 m1 => ?_
  have m1 : Own w1 p 26 (fmC x (.slice a x.kids.length c)) := m1
  refine ld agree (Own.at_ (xs := [.int .u8 x.op]) (o := 0) m1 rfl) (by rfl) ?_
  refine sp (fun h1 => ?_) (fun h1 => ?_)
  · have h1 : ¬ ((x.op : Int) = 4) := h1
    have : ¬ x.op = 4 := fun h => h1 (by rw [h]; rfl)
    have he : Tb.selN x = (⟨#[]⟩, false) := by unfold Tb.selN; rw [if_neg this]
    exact ⟨by rw [he]; rfl, k1⟩
  · have h1 : (x.op : Int) = 4 := Classical.byContradiction h1
    have h2 : x.op = 4 := Int.ofNat.inj h1
    have h3 := h4 h2
    obtain ⟨y, hy⟩ : ∃ y, x.kids[0]? = some y := ⟨_, List.getElem?_eq_getElem (List.length_pos_iff.2 h3)⟩
    have hpos : 0 < x.kids.length := List.length_pos_iff.2 h3
    have hkid := (hk.kp k1).kid hy
    obtain ⟨b2, o2, v2, rfl, -, -, hrd2, -⟩ := hkid
    refine ld agree (Own.at_ (xs := [.slice (some ⟨b2, o2, none⟩) x.kids.length c]) (o := 2) m1 rfl) (by rfl) ?_
    refine ne ⟨by decide, by omega⟩ ?_
    have hrd3 : w1.rangeAt b2 (o2 + 1) [.string y.name] := fun j v hv => by
      have hj := (List.getElem?_eq_some_iff.1 hv).1
      have h5 := hrd2 (1 + j) v (by
        rw [Nat.add_comm 1 j]
        exact List.getElem?_append_left (l₂ := [v2]) hj |>.trans hv)
      rw [show o2 + 1 + j = o2 + 0 * 3 + (1 + j) by omega]
      exact h5
    refine ld (cs := [.string y.name]) agree hrd3 (by rfl) ?_
    have hkn : Tb.kid0 x = y.name := by
      unfold Tb.kid0
      cases hc : x.kids with
      | nil => exact absurd hc h3
      | cons z r =>
        rw [hc] at hy
        injection hy with hy
        rw [← hy]
    have he : Tb.selN x = (y.name, true) := by unfold Tb.selN; rw [if_pos h2, hkn]
    exact ⟨by rw [he]; rfl, k1⟩
theorem callMustT : callable Proofs.Tryz.prog 34 = true := by kernel_rfl
theorem mustT_c (h : TabS n lo hi w tb sv rv nmv ndv iv xv T) (hg : Tb.Good T) (hT : Tab w) (k : Int) :
    Calls Proofs.Tryz.prog 34 [pt tb 0, iV k].toArray w (Ret fun r w' => r = .int .u16 (Tb.mustOf T k : Nat) ∧ Kp w w') := by
  have hcall := letter_c h hg hT k callMust1 Tb.selM (fun x hx h1 => hg.isM x hx (of_decide_eq_true h1)) fun W m x v hx hk => by
    have := hk.slice
    obtain ⟨a, c, rfl, -⟩ := this
    exact must1_c W x
  refine call agree Proofs.Tryz.func34 rfl Proofs.Tryz.ntmps34 (by kernel_rfl) ?_
  refine cl callLetter hcall ?_
  rintro _ w1 ⟨rfl, k1⟩
  exact ⟨rfl, k1⟩
theorem callNotT : callable Proofs.Tryz.prog 35 = true := by kernel_rfl
theorem notT_c (h : TabS n lo hi w tb sv rv nmv ndv iv xv T) (hg : Tb.Good T) (hT : Tab w) (k : Int) :
    Calls Proofs.Tryz.prog 35 [pt tb 0, iV k].toArray w (Ret fun r w' => r = .int .u16 (Tb.notOf T k : Nat) ∧ Kp w w') := by
  have hcall := letter_c h hg hT k callNot1 Tb.selN (fun x hx h1 => by
      by_cases h4 : x.op = 4
      · have := (hg.isN x hx h4).2
        unfold Tb.selN; rw [if_pos h4]; exact this
      · unfold Tb.selN at h1; rw [if_neg h4] at h1; cases h1) fun W m x v hx hk => by
    have := hk.slice
    obtain ⟨a, c, rfl, -⟩ := this
    exact not1_c hk fun h4 => (hg.isN x hx h4).1
  refine call agree Proofs.Tryz.func35 rfl Proofs.Tryz.ntmps35 (by kernel_rfl) ?_
  refine cl callLetter hcall ?_
  rintro _ w1 ⟨rfl, k1⟩
  exact ⟨rfl, k1⟩
end
end Go.Au

namespace Go.Au
open Go
namespace Fm
/-! ### the document's normal form -/
def lf (o : Nat) : Fm := .mk o ⟨#[]⟩ []
def one (o : Nat) (a : Fm) : Fm := .mk o ⟨#[]⟩ [a]
def two (o : Nat) (a b : Fm) : Fm := .mk o ⟨#[]⟩ [a, b]
def comb (o : Nat) (n : ByteArray) (l : List (Fm × Fm)) : Fm × Fm :=
  let a := l.getD 0 (lf 0, lf 0)
  let b := l.getD 1 (lf 0, lf 0)
  match o with
  | 1 => (lf 1, lf 2)
  | 2 => (lf 2, lf 1)
  | 3 => (.mk 3 n [], one 4 (.mk 3 n []))
  | 4 => (a.2, a.1)
  | 5 => (two 5 a.1 b.1, two 6 a.2 b.2)
  | 6 => (two 6 a.1 b.1, two 5 a.2 b.2)
  | 7 => (two 6 a.2 b.1, two 5 a.1 b.2)
  | 8 => (two 6 (two 5 a.1 b.1) (two 5 a.2 b.2), two 6 (two 5 a.1 b.2) (two 5 a.2 b.1))
  | 9 => (one 9 a.1, one 9 a.2)
  | 10 => (two 12 (lf 1) a.1, two 13 (lf 2) a.2)
  | 11 => (two 13 (lf 2) a.1, two 12 (lf 1) a.2)
  | 12 => (two 12 a.1 b.1, two 13 a.2 b.2)
  | 13 => (two 13 a.1 b.1, two 12 a.2 b.2)
  | 14 => (two 13 b.1 (two 6 a.1 b.1), two 12 b.2 (two 5 a.2 b.2))
  | 15 => (two 12 b.1 (two 5 a.1 b.1), two 13 b.2 (two 6 a.2 b.2))
  | o => (two o a.1 b.1, two o a.2 b.2)
mutual
def form : Fm → Fm × Fm | .mk o n k => comb o n (forms k)
def forms : List Fm → List (Fm × Fm) | [] => [] | f :: r => form f :: forms r
end
structure Cnt where
  n : Nat
  d : Nat
  dn : Nat
  dd : Nat
def cutC (n : Nat) : Nat := min n 100000
def jn (a b : Nat) : Nat := cutC (a + b + 1)
def jd (x y : Nat) : Nat := cutC (max x y + 1)
def ccomb (o : Nat) (l : List Cnt) : Cnt :=
  let a := l.getD 0 ⟨0, 0, 0, 0⟩
  let b := l.getD 1 ⟨0, 0, 0, 0⟩
  match o with
  | 1 | 2 => ⟨1, 1, 1, 1⟩
  | 3 => ⟨1, 2, 1, 2⟩
  | 4 => ⟨a.d, a.n, a.dd, a.dn⟩
  | 9 => ⟨cutC (a.n + 1), cutC (a.d + 1), cutC (a.dn + 1), cutC (a.dd + 1)⟩
  | 10 | 11 => ⟨cutC (a.n + 2), cutC (a.d + 2), cutC (a.dn + 1), cutC (a.dd + 1)⟩
  | 7 => ⟨jn a.d b.n, jn a.n b.d, jd a.dd b.dn, jd a.dn b.dd⟩
  | 8 => ⟨jn (jn a.n b.n) (jn a.d b.d), jn (jn a.n b.d) (jn a.d b.n), jd (jd a.dn b.dn) (jd a.dd b.dd), jd (jd a.dn b.dd) (jd a.dd b.dn)⟩
  | 14 | 15 => ⟨jn b.n (jn a.n b.n), jn b.d (jn a.d b.d), jd b.dn (jd a.dn b.dn), jd b.dd (jd a.dd b.dd)⟩
  | _ => ⟨jn a.n b.n, jn a.d b.d, jd a.dn b.dn, jd a.dd b.dd⟩
mutual
def cnt : Fm → Cnt | .mk o _ k => ccomb o (cnts k)
def cnts : List Fm → List Cnt | [] => [] | f :: r => cnt f :: cnts r
end
theorem forms_map : ∀ l, forms l = l.map form
  | [] => rfl
  | f :: r => by simp [forms, forms_map r]
theorem cnts_map : ∀ l, cnts l = l.map cnt
  | [] => rfl
  | f :: r => by simp [cnts, cnts_map r]
/-- what a formed tree of the future is, by its operator -/
theorem formed_cases {o : Nat} {n : ByteArray} {k : List Fm} (h : formed future (.mk o n k) = true) :
    ((o = 1 ∨ o = 2) ∧ n = ⟨#[]⟩ ∧ k = []) ∨ (o = 3 ∧ k = []) ∨ ((o = 4 ∨ o = 9 ∨ o = 10 ∨ o = 11) ∧ n = ⟨#[]⟩ ∧ ∃ a, k = [a] ∧ formed future a = true) ∨
    ((o = 5 ∨ o = 6 ∨ o = 7 ∨ o = 8 ∨ o = 12 ∨ o = 13 ∨ o = 14 ∨ o = 15) ∧ n = ⟨#[]⟩ ∧ ∃ a b, k = [a, b] ∧ formed future a = true ∧ formed future b = true) := by
  obtain ⟨h1, h2⟩ := formed_kids h
  obtain ⟨h3, h4, h5, h6, h7⟩ := headOk_spec h1
  simp only [op, kids, name, future, decide_eq_true_eq] at *
  have hn : o ≠ 3 → n = ⟨#[]⟩ := fun ho => by
    unfold nmOk at h7
    rw [if_neg ho] at h7
    obtain ⟨⟨l⟩⟩ := n
    have : l.length = 0 := of_decide_eq_true h7
    rw [List.eq_nil_of_length_eq_zero this]
  have k0 : ∀ m : Nat, kidsTab.getD o (-1) = m → k.length = m := fun m hm => by
    rw [hm] at h5; exact Int.ofNat.inj h5
  have n0 : k.length = 0 → k = [] := List.eq_nil_of_length_eq_zero
  have n1 : k.length = 1 → ∃ a, k = [a] ∧ formed future a = true := fun hl => by
    match k, hl with
    | [a], _ => exact ⟨a, rfl, h2 a (by simp)⟩
  have n2 : k.length = 2 → ∃ a b, k = [a, b] ∧ formed future a = true ∧ formed future b = true := fun hl => by
    match k, hl with
    | [a, b], _ => exact ⟨a, b, rfl, h2 a (by simp), h2 b (by simp)⟩
  match o, h6, h4 with
  | 1, _, _ => exact .inl ⟨.inl rfl, hn (by decide), n0 (k0 0 rfl)⟩
  | 2, _, _ => exact .inl ⟨.inr rfl, hn (by decide), n0 (k0 0 rfl)⟩
  | 3, _, _ => exact .inr (.inl ⟨rfl, n0 (k0 0 rfl)⟩)
  | 4, _, _ => exact .inr (.inr (.inl ⟨by simp, hn (by decide), n1 (k0 1 rfl)⟩))
  | 9, _, _ => exact .inr (.inr (.inl ⟨by simp, hn (by decide), n1 (k0 1 rfl)⟩))
  | 10, _, _ => exact .inr (.inr (.inl ⟨by simp, hn (by decide), n1 (k0 1 rfl)⟩))
  | 11, _, _ => exact .inr (.inr (.inl ⟨by simp, hn (by decide), n1 (k0 1 rfl)⟩))
  | 5, _, _ => exact .inr (.inr (.inr ⟨by simp, hn (by decide), n2 (k0 2 rfl)⟩))
  | 6, _, _ => exact .inr (.inr (.inr ⟨by simp, hn (by decide), n2 (k0 2 rfl)⟩))
  | 7, _, _ => exact .inr (.inr (.inr ⟨by simp, hn (by decide), n2 (k0 2 rfl)⟩))
  | 8, _, _ => exact .inr (.inr (.inr ⟨by simp, hn (by decide), n2 (k0 2 rfl)⟩))
  | 12, _, _ => exact .inr (.inr (.inr ⟨by simp, hn (by decide), n2 (k0 2 rfl)⟩))
  | 13, _, _ => exact .inr (.inr (.inr ⟨by simp, hn (by decide), n2 (k0 2 rfl)⟩))
  | 14, _, _ => exact .inr (.inr (.inr ⟨by simp, hn (by decide), n2 (k0 2 rfl)⟩))
  | 15, _, _ => exact .inr (.inr (.inr ⟨by simp, hn (by decide), n2 (k0 2 rfl)⟩))
theorem form_isN : ∀ {f : Fm}, formed future f = true → isN (form f).1 = true ∧ isN (form f).2 = true := by
  intro f
  refine ind (P := fun f => formed future f = true → isN (form f).1 = true ∧ isN (form f).2 = true) ?_ f
  intro o n k ih h
  rcases formed_cases h with ⟨ho, -, rfl⟩ | ⟨rfl, rfl⟩ | ⟨ho, -, a, rfl, ha⟩ | ⟨ho, -, a, b, rfl, ha, hb⟩
  · rcases ho with rfl | rfl <;> exact ⟨rfl, rfl⟩
  · exact ⟨rfl, rfl⟩
  · have h1 := ih a (by simp) ha
    rcases ho with rfl | rfl | rfl | rfl <;> simp [form, forms, comb, isN, isNs, one, two, lf, h1.1, h1.2]
  · have h1 := ih a (by simp) ha
    have h2 := ih b (by simp) hb
    rcases ho with rfl | rfl | rfl | rfl | rfl | rfl | rfl | rfl <;> simp [form, forms, comb, isN, isNs, one, two, lf, h1.1, h1.2, h2.1, h2.2]
theorem form_self : ∀ {f : Fm}, formed future f = true → isN f = true → (form f).1 = f := by
  intro f
  refine ind (P := fun f => formed future f = true → isN f = true → (form f).1 = f) ?_ f
  intro o n k ih h hn
  rcases formed_cases h with ⟨ho, rfl, rfl⟩ | ⟨rfl, rfl⟩ | ⟨ho, rfl, a, rfl, ha⟩ | ⟨ho, rfl, a, b, rfl, ha, hb⟩
  · rcases ho with rfl | rfl <;> rfl
  · rfl
  · rcases ho with rfl | rfl | rfl | rfl
    · obtain ⟨o', n', k'⟩ := a
      have hn : o' = 3 := of_decide_eq_true hn
      subst hn
      rcases formed_cases ha with ⟨ho, -, -⟩ | ⟨-, rfl⟩ | ⟨ho, -, -⟩ | ⟨ho, -, -⟩
      · omega
      · rfl
      · omega
      · omega
    · have h1 := ih a (by simp) ha (by simpa [isN, isNs] using hn)
      simp [form, forms, comb, one, h1]
    · simp [isN] at hn
    · simp [isN] at hn
  · have hab : (o = 5 ∨ o = 6 ∨ o = 12 ∨ o = 13) → isN a = true ∧ isN b = true := by
      rintro (rfl | rfl | rfl | rfl) <;> simpa [isN, isNs] using hn
    rcases ho with rfl | rfl | rfl | rfl | rfl | rfl | rfl | rfl
    · obtain ⟨h3, h4⟩ := hab (by simp)
      simp [form, forms, comb, two, ih a (by simp) ha h3, ih b (by simp) hb h4]
    · obtain ⟨h3, h4⟩ := hab (by simp)
      simp [form, forms, comb, two, ih a (by simp) ha h3, ih b (by simp) hb h4]
    · simp [isN] at hn
    · simp [isN] at hn
    · obtain ⟨h3, h4⟩ := hab (by simp)
      simp [form, forms, comb, two, ih a (by simp) ha h3, ih b (by simp) hb h4]
    · obtain ⟨h3, h4⟩ := hab (by simp)
      simp [form, forms, comb, two, ih a (by simp) ha h3, ih b (by simp) hb h4]
    · simp [isN] at hn
    · simp [isN] at hn
theorem cnt_self : ∀ {f : Fm}, formed future f = true → isN f = true → f.size ≤ 1000 → (cnt f).n = f.size ∧ (cnt f).dn = f.depth := by
  intro f
  refine ind (P := fun f => formed future f = true → isN f = true → f.size ≤ 1000 → (cnt f).n = f.size ∧ (cnt f).dn = f.depth) ?_ f
  intro o n k ih h hn hs
  have hds := depth_le_size (.mk o n k)
  rcases formed_cases h with ⟨ho, rfl, rfl⟩ | ⟨rfl, rfl⟩ | ⟨ho, rfl, a, rfl, ha⟩ | ⟨ho, rfl, a, b, rfl, ha, hb⟩
  · rcases ho with rfl | rfl <;> exact ⟨rfl, rfl⟩
  · exact ⟨rfl, rfl⟩
  · simp only [size, sizes, depth, depths] at hs hds ⊢
    rcases ho with rfl | rfl | rfl | rfl
    · obtain ⟨o', n', k'⟩ := a
      have hn : o' = 3 := of_decide_eq_true hn
      subst hn
      rcases formed_cases ha with ⟨ho, -, -⟩ | ⟨-, rfl⟩ | ⟨ho, -, -⟩ | ⟨ho, -, -⟩
      · omega
      · exact ⟨rfl, rfl⟩
      · omega
      · omega
    · have h1 := ih a (by simp) ha (by simpa [isN, isNs] using hn) (by omega)
      simp only [cnt, cnts, ccomb, List.getD_cons_zero, h1.1, h1.2, cutC]
      omega
    · simp [isN] at hn
    · simp [isN] at hn
  · simp only [size, sizes, depth, depths] at hs hds ⊢
    have hab : (o = 5 ∨ o = 6 ∨ o = 12 ∨ o = 13) → isN a = true ∧ isN b = true := by
      rintro (rfl | rfl | rfl | rfl) <;> simpa [isN, isNs] using hn
    have hrest : (o = 5 ∨ o = 6 ∨ o = 12 ∨ o = 13) → (cnt (.mk o ⟨#[]⟩ [a, b])).n = jn (cnt a).n (cnt b).n ∧ (cnt (.mk o ⟨#[]⟩ [a, b])).dn = jd (cnt a).dn (cnt b).dn := by
      rintro (rfl | rfl | rfl | rfl) <;> exact ⟨rfl, rfl⟩
    have hdo : o = 5 ∨ o = 6 ∨ o = 12 ∨ o = 13 := by
      rcases ho with rfl | rfl | rfl | rfl | rfl | rfl | rfl | rfl <;> simp_all [isN]
    obtain ⟨h3, h4⟩ := hab hdo
    obtain ⟨r1, r2⟩ := hrest hdo
    have h5 := ih a (by simp) ha h3 (by omega)
    have h6 := ih b (by simp) hb h4 (by omega)
    rw [r1, r2, h5.1, h5.2, h6.1, h6.2]
    have d1 := depth_le_size a
    have d2 := depth_le_size b
    simp only [jn, jd, cutC]
    omega
/-- the document's Is -/
def isRef (f : Fm) : Bool := right f && (decide ((cnt f).n ≤ 1000) && decide ((cnt f).dn ≤ 100) && decide (cmp (form f).1 f = 0))
theorem isRef_eq (f : Fm) : isRef f = (right f && isN f) := by
  unfold isRef
  cases hr : right f with
  | false => rfl
  | true =>
    simp only [right, Bool.and_eq_true, Bool.not_eq_true'] at hr
    obtain ⟨hf, hb⟩ := hr
    simp only [big, Bool.or_eq_false_iff, decide_eq_false_iff_not, Nat.not_lt] at hb
    simp only [Bool.true_and]
    cases hn : isN f with
    | true =>
      have h1 := cnt_self hf hn hb.1
      rw [form_self hf hn, cmp_self, h1.1, h1.2]
      simp [hb.1, hb.2]
    | false =>
      have h2 : ¬ cmp (form f).1 f = 0 := fun h => by
        have := cmp_zero h
        have h3 := (form_isN hf).1
        rw [this, hn] at h3
        cases h3
      simp [h2]
end Fm
end Go.Au

namespace Go.Au
open Go Go.RowKit
open Fm (idx)

/-! ### what is made is good -/
namespace Tb
theorem add1_len (st : List Node × List Nat) (p : Node) : st.1.length ≤ (add1 st p).1.length ∧ (add1 st p).2.length = st.2.length + 1 := by
  unfold add1
  split
  · simp
  · simp
theorem fold_len : ∀ (l : List Node) (st : List Node × List Nat), st.1.length ≤ (l.foldl add1 st).1.length ∧ (l.foldl add1 st).2.length = st.2.length + l.length
  | [], st => ⟨Nat.le_refl _, rfl⟩
  | p :: l, st => by
    have h1 := add1_len st p
    have h2 := fold_len l (add1 st p)
    simp only [List.foldl_cons, List.length_cons]
    exact ⟨by omega, by omega⟩
theorem addN_len (nodes l : List Node) : nodes.length ≤ (addN nodes l).1.length ∧ (addN nodes l).2.length = l.length := by
  have := fold_len l (nodes, [])
  unfold addN
  exact ⟨this.1, by simpa using this.2⟩
theorem gstep_len {rs : List TRow} {s : GS} (h : s.next.length ≤ s.nodes.length) : (gstep rs s).next.length ≤ (gstep rs s).nodes.length ∧ s.nodes.length ≤ (gstep rs s).nodes.length := by
  unfold gstep
  split
  · exact ⟨h, Nat.le_refl _⟩
  · rename_i p hp
    have h1 := (List.getElem?_eq_some_iff.1 hp).1
    have h2 := (addN_len s.nodes (fits rs p.2)).1
    simp only [List.length_append, List.length_singleton]
    exact ⟨by omega, h2⟩
theorem gloop_some {rs : List TRow} {most : Int} : ∀ {k : Nat} {s g : GS}, s.next.length ≤ s.nodes.length → gloop rs most k s = some g → g.next.length = g.nodes.length ∧ (g.nodes.length : Int) ≤ most ∧ ∃ j, g = giter rs j s
  | 0, s, g, _, h => by simp [gloop] at h
  | k + 1, s, g, hl, h => by
    simp only [gloop] at h
    split at h
    · rename_i hn
      have hle := List.getElem?_eq_none_iff.1 hn
      split at h
      · injection h with h
        subst h
        exact ⟨by omega, ‹_›, 0, rfl⟩
      · cases h
    · rename_i p hp
      split at h
      · split at h
        · cases h
        · obtain ⟨h1, h2, j, h3⟩ := gloop_some (gstep_len hl).1 h
          exact ⟨h1, h2, j + 1, h3⟩
      · cases h
theorem ofT_at {f : Fm} {names : List ByteArray} {most : Int} {T : Tab} (h : ofT f names most = some T) : ∃ gs, gloop (rows f.subs) most (most.toNat + 2) (start (rows f.subs) (whole f.subs)) = some gs ∧ T = ⟨f.subs, rows f.subs, names, gs.nodes, inits (rows f.subs) (whole f.subs), gs.next⟩ ∧ over most (fits (rows f.subs) (whole f.subs)) = false := by
  unfold ofT at h
  simp only at h
  split at h
  · cases h
  · rename_i ho
    split at h
    · cases h
    · rename_i gs hg
      injection h with h
      exact ⟨gs, hg, h.symm, Bool.eq_false_iff.2 ho⟩
theorem subs_len {f : Fm} (h : f.right = true) : f.subs.length ≤ 1000 := by
  have := nodup_sub (Fm.subs_sorted f).nodup fun x hx => Fm.mem_subs.1 hx
  rw [Fm.all_len] at this
  have := (right_formed h).2.1
  omega
theorem formed_all {t : Nat → Bool} : ∀ {f x : Fm}, Fm.formed t f = true → x ∈ f.all → Fm.formed t x = true := by
  intro f
  refine Fm.ind (P := fun f => ∀ {x : Fm}, Fm.formed t f = true → x ∈ f.all → Fm.formed t x = true) ?_ f
  intro o n k ih x hf hx
  rcases Fm.mem_all.1 hx with rfl | ⟨y, hy, hxy⟩
  · exact hf
  · simp only [Fm.formed, Bool.and_eq_true, Fm.formeds_all, List.all_eq_true] at hf
    exact ih y hy (hf.2 y hy) hxy
theorem prop_all {x y : Fm} (hf : Fm.formed Fm.future y = true) (h3 : y.op = 3) (hx : x ∈ y.all) : x = y := by
  obtain ⟨o, n, k⟩ := y
  rcases Fm.formed_cases hf with ⟨h, -⟩ | ⟨-, rfl⟩ | ⟨h, -⟩ | ⟨h, -⟩
  · simp only [Fm.op] at h3; omega
  · rcases Fm.mem_all.1 hx with h | ⟨z, hz, -⟩
    · exact h
    · simp [Fm.kids] at hz
  · simp only [Fm.op] at h3; omega
  · simp only [Fm.op] at h3; omega
theorem isN_all : ∀ {f x : Fm}, Fm.formed Fm.future f = true → Fm.isN f = true → x ∈ f.all → x.op = 4 → ∃ y, x.kids = [y] ∧ y.op = 3 := by
  intro f
  refine Fm.ind (P := fun f => ∀ {x : Fm}, Fm.formed Fm.future f = true → Fm.isN f = true → x ∈ f.all → x.op = 4 → ∃ y, x.kids = [y] ∧ y.op = 3) ?_ f
  intro o n k ih x hfo hf hx h4
  by_cases ho : o = 4
  · subst ho
    have hh : Fm.head k = 3 := by simpa [Fm.isN] using hf
    obtain ⟨a, rfl, hfa⟩ : ∃ a, k = [a] ∧ Fm.formed Fm.future a = true := by
      rcases Fm.formed_cases hfo with ⟨h, -⟩ | ⟨h, -⟩ | ⟨-, -, h⟩ | ⟨h, -⟩
      · omega
      · omega
      · exact h
      · omega
    have ha3 : a.op = 3 := hh
    rcases Fm.mem_all.1 hx with rfl | ⟨y, hy, hxy⟩
    · exact ⟨a, rfl, ha3⟩
    · have hya : y = a := by simpa [Fm.kids] using hy
      subst hya
      have := prop_all hfa ha3 hxy
      subst this
      omega
  · rcases Fm.mem_all.1 hx with rfl | ⟨y, hy, hxy⟩
    · exact absurd h4 ho
    · have hy : y ∈ k := hy
      simp only [Fm.isN, if_neg ho] at hf
      split at hf
      · cases hf
      · rw [Fm.isNs_all, List.all_eq_true] at hf
        simp only [Fm.formed, Bool.and_eq_true, Fm.formeds_all, List.all_eq_true] at hfo
        exact ih y hy (hfo.2 y hy) (hf y hy) hxy h4
theorem over_idx {f x : Fm} {names : List ByteArray} (ho : overNames f names = true) (hx : x ∈ f.all) (h3 : x.op = 3) : 0 ≤ idx names x.name := by
  unfold overNames at ho
  rw [List.all_eq_true] at ho
  exact of_decide_eq_true (ho x.name (Fm.names_mem.2 ⟨x, hx, h3, rfl⟩))
theorem ofT_good {f : Fm} {names : List ByteArray} {most : Int} {T : Tab} (hr : f.right = true) (hN : f.isN = true) (hnm : nameOk names = true) (hov : overNames f names = true) (hB : Bnd (rows f.subs) most (whole f.subs)) (h : ofT f names most = some T) (hnd : NodesOk T.rows.length T.nodes) : Good T := by
  obtain ⟨gs, hg, rfl, -⟩ := ofT_at h
  have hfo := (right_formed hr).1
  have hst : (start (rows f.subs) (whole f.subs)).next.length ≤ (start (rows f.subs) (whole f.subs)).nodes.length := Nat.zero_le _
  obtain ⟨h1, h2, j, h3⟩ := gloop_some hst hg
  refine ⟨hnd, rows_len _, subs_len hr, h1, ?_, ?_, fun x hx h3 => ?_, fun x hx h4 => ?_⟩
  · rcases hB with hB | ⟨-, hB⟩
    · show gs.nodes.length < _
      omega
    · rw [h3]; exact hB j
  · unfold nameOk at hnm
    simp only [Bool.and_eq_true, decide_eq_true_eq] at hnm
    exact hnm.1.1
  · exact over_idx hov (Fm.mem_subs.1 hx) h3
  · have hxa := Fm.mem_subs.1 hx
    obtain ⟨y, hy, hy3⟩ := isN_all hfo hN hxa h4
    have hya : y ∈ f.all := Fm.all_trans hxa (Fm.kid_all (by rw [hy]; simp))
    refine ⟨by rw [hy]; simp, ?_⟩
    unfold kid0
    rw [hy]
    exact over_idx hov hya hy3
end Tb
end Go.Au

namespace Go.Au
open Go
structure Edge where
  frm : Int
  to : Int
  must : Int
  no : Int
  deriving DecidableEq
def Edge.cells (e : Edge) : List Value := [.int .i64 e.frm, .int .i64 e.to, .int .u16 e.must, .int .u16 e.no]
structure General where
  props : List ByteArray
  states : Int
  init : List Int
  edges : List Edge
  sets : List (List Int)
namespace Tb
/-! ### the automaton of a tableau, plain -/
def setF (T : Tab) (i : Nat) (r : TRow) (n : Nat) : Bool := match T.nodes[n]? with
  | some p => !p.1.testBit i || p.1.testBit r.b.toNat
  | none => false
def setUp (T : Tab) (i : Nat) (r : TRow) (n : Nat) : List Nat := (List.range n).filter (setF T i r)
theorem setUp_succ (T : Tab) (i : Nat) (r : TRow) (n : Nat) : setUp T i r (n + 1) = setUp T i r n ++ if setF T i r n = true then [n] else [] := by
  unfold setUp
  rw [List.range_succ, List.filter_append]
  congr 1
  rw [List.filter_cons, List.filter_nil]
theorem setUp_yes {T : Tab} {i m : Nat} {r : TRow} {p : Node} (hp : T.nodes[m]? = some p) (h : p.1.testBit i = false ∨ p.1.testBit r.b.toNat = true) : setUp T i r (m + 1) = setUp T i r m ++ [m] := by
  have hf : setF T i r m = true := by
    unfold setF
    rw [hp]
    rcases h with h | h
    · simp [h]
    · simp [h]
  rw [setUp_succ, if_pos hf]
theorem setUp_no {T : Tab} {i m : Nat} {r : TRow} {p : Node} (hp : T.nodes[m]? = some p) (h1 : p.1.testBit i = true) (h2 : p.1.testBit r.b.toNat = false) : setUp T i r (m + 1) = setUp T i r m := by
  have hf : setF T i r m = false := by
    unfold setF
    rw [hp]
    simp [h1, h2]
  rw [setUp_succ, if_neg (by rw [hf]; decide), List.append_nil]
theorem setUp_len (T : Tab) (i : Nat) (r : TRow) (n : Nat) : (setUp T i r n).length ≤ n := by
  have := List.length_filter_le (setF T i r) (List.range n)
  rwa [List.length_range] at this
def set1 (T : Tab) (i : Nat) : List (List Nat) := match T.rows[i]? with
  | some r => if r.op = 12 then [setUp T i r T.nodes.length] else []
  | none => []
def setsN (T : Tab) : Nat → List (List Nat)
  | 0 => []
  | i + 1 => setsN T i ++ set1 T i
theorem setsN_len (T : Tab) : ∀ i, (setsN T i).length ≤ i
  | 0 => Nat.le_refl 0
  | i + 1 => by
    have h1 := setsN_len T i
    have h2 : (set1 T i).length ≤ 1 := by
      unfold set1
      split
      · split <;> simp
      · simp
    simp only [setsN, List.length_append]
    omega
end Tb
end Go.Au

namespace Go.Au
open Go Go.RowKit
open Fm (idx)

/-! ### the automaton -/
namespace Tb
def edgeOf (T : Tab) (i : Nat) (to : Nat) : Edge := ⟨i, to, mustOf T i, notOf T i⟩
def edges1 (T : Tab) (i : Nat) : List Edge := ((T.next[i]?).getD []).map (edgeOf T i)
def edgesN (T : Tab) : Nat → List Edge
  | 0 => []
  | i + 1 => edgesN T i ++ edges1 T i
theorem edgesN_len (T : Tab) : ∀ i, (edgesN T i).length = ((T.next.take i).map List.length).sum
  | 0 => by simp [edgesN]
  | i + 1 => by
    simp only [edgesN, List.length_append, edgesN_len T i]
    unfold edges1
    rw [List.length_map]
    by_cases h : i < T.next.length
    · rw [List.take_succ_eq_append_getElem h, List.getElem?_eq_getElem h, List.map_append, List.sum_append]
      simp only [Option.getD_some, List.map_cons, List.map_nil, List.sum_cons, List.sum_nil]
      omega
    · rw [List.getElem?_eq_none (by omega), List.take_of_length_le (show T.next.length ≤ i + 1 by omega), List.take_of_length_le (show T.next.length ≤ i by omega)]
      simp
theorem sum_take_le (l : List Nat) (i : Nat) : (l.take i).sum ≤ l.sum := by
  conv => rhs; rw [← List.take_append_drop i l]
  rw [List.sum_append]
  omega
theorem edgesN_le (T : Tab) (i : Nat) : (edgesN T i).length ≤ (T.next.map List.length).sum := by
  rw [edgesN_len, List.map_take]
  exact sum_take_le _ _
def generalOf (T : Tab) : General := ⟨T.names, T.nodes.length, natI T.init, edgesN T T.next.length, (setsN T T.rows.length).map natI⟩
end Tb
theorem own_row_ne {w : World} {base el size n b : Nat} {t : TypeId} {v : Value} {xs cs : List Value} (h : Own w b t cs) (ho : w.ownsRow base el size v n xs) (ht : t ≠ el) : ∀ g, v.ownBlock = some g → g ≠ b := fun g hg he => by
  obtain ⟨c, hc⟩ := ownsRow_cells2 ho hg
  subst he
  rw [h] at hc
  injection hc with hc
  injection hc with _ hc
  exact ht hc
/-- blocks of own rows apart from one another -/
def ApartV (ss : List Value) : Prop := ss.Pairwise fun a b => ∀ g, a.ownBlock = some g → b.ownBlock ≠ some g
/-- an automaton while it is made -/
structure GenP (w : World) (base : Nat) (T : Tb.Tab) (W : World) (bg b2 : Nat) (pv iv ev sv : Value) (E : List Edge) (S : List (List Nat)) (ss : List Value) : Prop where
  kp : Kp w W
  box : Own W bg 42 [pv, .int .i64 (T.nodes.length : Nat), iv, ev, sv]
  res : Own W b2 42 (cellsL ti42.zero)
  low : w.heap.size ≤ bg ∧ w.heap.size ≤ b2 ∧ b2 ≠ bg ∧ base = w.heap.size
  pr : W.ownsRow base 9 1 pv T.names.length (T.names.flatMap fS1)
  ini : W.ownsRow base 3 1 iv T.init.length ((Tb.natI T.init).flatMap fN1)
  ed : W.ownsRow base 113 4 ev E.length (E.flatMap Edge.cells)
  se : NextS base W sv ss S
  ap : ApartV (iv :: ss)
section
variable {w W W1 W2 W3 : World} {base bg b2 : Nat} {T : Tb.Tab} {pv iv ev ev' sv sv' : Value} {E : List Edge} {S : List (List Nat)} {ss : List Value}
theorem GenP.kpd (h : GenP w base T W bg b2 pv iv ev sv E S ss) (k : Kp W W1) : GenP w base T W1 bg b2 pv iv ev sv E S ss :=
  ⟨h.kp.trans k, k.own h.box id, k.own h.res id, h.low, ownsRow_chg h.pr k fun _ _ => id, ownsRow_chg h.ini k fun _ _ => id, ownsRow_chg h.ed k fun _ _ => id, h.se.kp k, h.ap⟩
theorem GenP.edge {e : Edge} (h : GenP w base T W bg b2 pv iv ev sv E S ss) (c2 : Chg (fun k => some k = ev.ownBlock) W W2) (r2 : W2.ownsRow base 113 4 ev' (E.length + 1) (E.flatMap Edge.cells ++ e.cells)) (c3 : Chg (fun k => k = bg) W2 W3) (m3 : Own W3 bg 42 [pv, .int .i64 (T.nodes.length : Nat), iv, ev', sv]) :
    GenP w base T W3 bg b2 pv iv ev' sv (E ++ [e]) S ss := by
  have hev := own_row_ne h.box h.ed (by decide)
  have hev2 := own_row_ne h.res h.ed (by decide)
  have box2 := c2.own h.box fun hh => hev bg hh.symm rfl
  have res2 := c2.own h.res fun hh => hev2 b2 hh.symm rfl
  have pr2 := ownsRow_chg h.pr c2 fun g hg hh => rows_sep2 h.pr h.ed (by decide) g hg hh.symm
  have ini2 := ownsRow_chg h.ini c2 fun g hg hh => rows_sep2 h.ini h.ed (by decide) g hg hh.symm
  have se2 := h.se.chg c2 (fun g hg hh => rows_sep2 h.se.row h.ed (by decide) g hg hh.symm) fun v n ys ho g hg hh => rows_sep2 ho h.ed (by decide) g hg hh.symm
  have hlow := h.low
  refine ⟨(h.kp.newS c2 fun g hg => ?_).newS c3 fun g hg => by subst hg; exact hlow.1, m3, c3.own res2 hlow.2.2.1, hlow, ownsRow_chg pr2 c3 fun g hg hh => own_row_ne box2 pr2 (by decide) g hg hh, ownsRow_chg ini2 c3 fun g hg hh => own_row_ne box2 ini2 (by decide) g hg hh, ?_, ?_, h.ap⟩
  · have := ownsRow_base h.ed hg.symm
    omega
  · have := ownsRow_chg r2 c3 fun g hg hh => own_row_ne box2 r2 (by decide) g hg hh
    rw [List.length_append, List.flatMap_append]
    simpa using this
  · exact se2.chg c3 (fun g hg hh => own_row_ne box2 se2.row (by decide) g hg hh) fun v n ys ho g hg hh => own_row_ne box2 ho (by decide) g hg hh
theorem GenP.sett {l : List Nat} {x : Value} (h : GenP w base T W bg b2 pv iv ev sv E S ss) (k1 : Kp W W1) (hx : W1.ownsRow W.heap.size 3 1 x l.length ((Tb.natI l).flatMap fN1)) (c2 : Chg (fun k => some k = sv.ownBlock) W1 W2) (r2 : W2.ownsRow base 38 1 sv' (S.length + 1) (ss ++ [x])) (c3 : Chg (fun k => k = bg) W2 W3) (m3 : Own W3 bg 42 [pv, .int .i64 (T.nodes.length : Nat), iv, ev, sv']) :
    GenP w base T W3 bg b2 pv iv ev sv' E (S ++ [l]) (ss ++ [x]) := by
  have h1 := h.kpd k1
  have hsv := own_row_ne h1.box h1.se.row (by decide)
  have hsv2 := own_row_ne h1.res h1.se.row (by decide)
  have box2 := c2.own h1.box fun hh => hsv bg hh.symm rfl
  have res2 := c2.own h1.res fun hh => hsv2 b2 hh.symm rfl
  have pr2 := ownsRow_chg h1.pr c2 fun g hg hh => rows_sep2 h1.pr h1.se.row (by decide) g hg hh.symm
  have ini2 := ownsRow_chg h1.ini c2 fun g hg hh => rows_sep2 h1.ini h1.se.row (by decide) g hg hh.symm
  have ed2 := ownsRow_chg h1.ed c2 fun g hg hh => rows_sep2 h1.ed h1.se.row (by decide) g hg hh.symm
  have hx2 := ownsRow_chg hx c2 fun g hg hh => rows_sep2 hx h1.se.row (by decide) g hg hh.symm
  have hlow := h.low
  have hle : base ≤ W.heap.size := by have := h.kp.size; omega
  refine ⟨(h1.kp.newS c2 fun g hg => ?_).newS c3 fun g hg => by subst hg; exact hlow.1, m3, c3.own res2 hlow.2.2.1, hlow, ownsRow_chg pr2 c3 fun g hg hh => own_row_ne box2 pr2 (by decide) g hg hh, ownsRow_chg ini2 c3 fun g hg hh => own_row_ne box2 ini2 (by decide) g hg hh, ownsRow_chg ed2 c3 fun g hg hh => own_row_ne box2 ed2 (by decide) g hg hh, ?_, ?_⟩
  · have := ownsRow_base h1.se.row hg.symm
    omega
  · refine ⟨by rw [List.length_append]; exact ownsRow_chg r2 c3 fun g hg hh => own_row_ne box2 r2 (by decide) g hg hh, by rw [List.length_append, List.length_append, h.se.len]; rfl, fun i r hr => ?_⟩
    by_cases hi : i < S.length
    · rw [List.getElem?_append_left hi] at hr
      obtain ⟨y, hy1, hy2⟩ := h1.se.each i r hr
      have hy3 := ownsRow_chg hy2 c2 fun g hg hh => rows_sep2 hy2 h1.se.row (by decide) g hg hh.symm
      exact ⟨y, by rw [List.getElem?_append_left (by rw [h.se.len]; exact hi)]; exact hy1, ownsRow_chg hy3 c3 fun g hg hh => own_row_ne box2 hy3 (by decide) g hg hh⟩
    · rw [List.getElem?_append_right (by omega)] at hr
      have hi0 : i - S.length = 0 := by
        have := (List.getElem?_eq_some_iff.1 hr).1
        simp only [List.length_cons, List.length_nil] at this
        omega
      rw [hi0] at hr
      injection hr with hr
      subst hr
      exact ⟨x, by rw [List.getElem?_append_right (by rw [h.se.len]; omega), h.se.len, hi0]; rfl, ownsRow_lo (ownsRow_chg hx2 c3 fun g hg hh => own_row_ne box2 hx2 (by decide) g hg hh) hle⟩
  · have hap := h.ap
    unfold ApartV at hap ⊢
    rw [← List.cons_append, List.pairwise_append]
    refine ⟨hap, List.pairwise_singleton _ _, fun a ha b hb g hg hg2 => ?_⟩
    simp only [List.mem_singleton] at hb
    subst hb
    have hb1 := ownsRow_base hx hg2
    have : g < W.heap.size := by
      rcases List.mem_cons.1 ha with rfl | ha
      · exact (h.ini.lt g hg).2
      · obtain ⟨i, hi⟩ := List.getElem?_of_mem ha
        have hil := (List.getElem?_eq_some_iff.1 hi).1
        obtain ⟨y, hy1, hy2⟩ := h.se.each i _ (List.getElem?_eq_getElem (by rw [← h.se.len]; exact hil))
        rw [hi] at hy1
        injection hy1 with hy1
        subst hy1
        exact (hy2.lt g hg).2
    omega
end
end Go.Au

namespace Go.Au
open Go Go.RowKit
open Fm (idx)

theorem callGenT : callable Proofs.Tryz.prog 14 = true := by kernel_rfl
/-- an automaton that was made -/
structure GenOut (base : Nat) (w : World) (T : Tb.Tab) (pv iv ev sv : Value) (ss : List Value) : Prop where
  pr : w.ownsRow base 9 1 pv T.names.length (T.names.flatMap fS1)
  ini : w.ownsRow base 3 1 iv T.init.length ((Tb.natI T.init).flatMap fN1)
  ed : w.ownsRow base 113 4 ev (Tb.edgesN T T.next.length).length ((Tb.edgesN T T.next.length).flatMap Edge.cells)
  se : NextS base w sv ss (Tb.setsN T T.rows.length)
  ap : ApartV (iv :: ss)
set_option maxHeartbeats 4000000 in
theorem genT_c {n lo hi tb : Nat} {w : World} {sv0 rv nmv ndv iv0 xv : Value} {T : Tb.Tab} (h : TabS n lo hi w tb sv0 rv nmv ndv iv0 xv T) (hg : Tb.Good T) (hwf : Tb.WfR T.rows) (hT : Tab w) (hil : T.init.length < 1000000000000) (hel : (T.next.map List.length).sum < 1000000000000) :
    Calls Proofs.Tryz.prog 14 [pt tb 0].toArray w (Ret fun r w' => Kp w w' ∧ ∃ pv iv ev sv ss, r = .agg #[pv, .int .i64 (T.nodes.length : Nat), iv, ev, sv] ∧ GenOut w.heap.size w' T pv iv ev sv ss) := by
  have hnm := hg.nm
  have hnl := hg.nl
  have hnx := hg.nx
  have hsl := hg.sl
  have hrl := hg.rl
  have hnodes := h.nodes
  obtain ⟨na, nc, rfl, -, hndx⟩ := hnodes
  have hnext := h.next
  obtain ⟨xa, xc, rfl, -, hxx⟩ := hnext
  have hrows := h.rows
  obtain ⟨ra, rc, rfl, -, hrx⟩ := hrows
  refine call agree Proofs.Tryz.func14 rfl Proofs.Tryz.ntmps14 (by kernel_rfl) ?_
  refine nd fun b2 w1 e1 s1 k1 m1 => ?_
  have m1 : Own w1 b2 42 (cellsL ti42.zero) := m1
  have h1 := h.kp k1
  refine drawnK agree mixed 14 [0, 1, 2, 3, 4, 10, 11, 5, 6, 7, 8, 9, 12, 13] (by kernel_rfl) ?_
  conv => whnf
  refine ldk agree rfl rfl (fun V hV _ => Own.at_ (xs := [nmv]) (o := 2) (hV.own h1.box id) rfl) (by rfl) fun _ => ?_
  conv => whnf
  refine callf (τ := Option Addr × Nat) (hne := ⟨(none, 0)⟩) (fun y => .slice y.1 T.names.length y.2) (fun y V => V.ownsRow w.heap.size 9 1 (.slice y.1 T.names.length y.2) T.names.length (T.names.flatMap fS1)) rfl rfl rfl (fun y V V' hF hS => ownsRow_chg hF hS fun _ _ => id) callCloneS (fun V hV _ => ?_) fun y1 D1 hD1 => ?_
  · refine (cloneS_c (RowE.chg h1.names hV (fun _ _ _ => id) fun _ _ h => h) (by omega)).mono fun en V' hr => ?_
    cases en with
    | returned r =>
      obtain ⟨hk', ⟨a, c, rfl⟩, q⟩ := hr
      exact ⟨hk', (a, c), rfl, ownsRow_lo q (by have := k1.size; have := hV.size; omega)⟩
    | _ => exact hr.elim
  conv => whnf
  refine callf (τ := Option Addr × Nat) (hne := ⟨(none, 0)⟩) (fun y => .slice y.1 T.init.length y.2) (fun y V => V.ownsRow w.heap.size 3 1 (.slice y.1 T.init.length y.2) T.init.length ((Tb.natI T.init).flatMap fN1)) rfl rfl rfl (fun y V V' hF hS => ownsRow_chg hF hS fun _ _ => id) callInitT (fun V hV _ => ?_) fun y2 D2 hD2 => ?_
  · refine (initT_c (h1.kp hV) hil).mono fun en V' hr => ?_
    cases en with
    | returned r =>
      obtain ⟨hk', ⟨a, c, rfl⟩, q⟩ := hr
      exact ⟨hk', (a, c), rfl, ownsRow_lo q (by have := k1.size; have := hV.size; omega)⟩
    | _ => exact hr.elim
  conv => whnf
  refine ldk agree rfl rfl (fun V hV _ => Own.at_ (xs := [.slice na T.nodes.length nc]) (o := 3) (hV.own h1.box id) rfl) (by rfl) fun _ => ?_
  conv => whnf
  refine alk rfl rfl fun bg D3 hD3 => ?_
  conv => whnf
  intro w2 k2 hd
  have hpv := hD1 w2 (hd 4)
  have hiv := hD2 w2 (hd 11)
  have hbx := hD3 w2 (hd 13)
  obtain ⟨pa, pc⟩ := y1
  obtain ⟨ia, ic⟩ := y2
  simp only at hpv hiv
  obtain ⟨mbx, hbg⟩ := hbx
  have k12 := k1.trans k2
  refine st agree mbx rfl (Nat.le_refl 5) rfl fun w3 e3 k3 m3 => ?_
  have m3 : Own w3 bg 42 [.slice pa T.names.length pc, .int .i64 (T.nodes.length : Nat), .slice ia T.init.length ic, nilS, nilS] := m3
  have hz1 := k1.size
  have hP3 : GenP w w.heap.size T w3 bg b2 (.slice pa T.names.length pc) (.slice ia T.init.length ic) nilS nilS [] [] [] := by
    refine ⟨k12.newS k3 fun g hg => by subst hg; omega, m3, k3.own (k2.own m1 id) (by omega), ⟨by omega, by omega, by omega, rfl⟩, ownsRow_chg hpv k3 fun g hg hh => own_row_ne mbx hpv (by decide) g hg hh, ownsRow_chg hiv k3 fun g hg hh => own_row_ne mbx hiv (by decide) g hg hh, World.ownsRow_nil _ _ _ _, ⟨World.ownsRow_nil _ _ _ _, rfl, fun i r hr => by cases hr⟩, List.pairwise_singleton _ _⟩
  have hb3 := (h.kp hP3.kp).box
  refine ld agree (Own.at_ (xs := [.slice xa T.next.length xc]) (o := 5) hb3 rfl) (by rfl) ?_
  refine loop agree (σ := Nat × Value) (fun s => [(0, pt tb 0), (2, pt b2 0), (3, pt bg 0), (31, .slice xa T.next.length xc), (32, .int .i64 (T.next.length : Nat)), (33, .int .i64 (s.1 : Nat))])
    (fun s W => s.1 ≤ T.next.length ∧ GenP w w.heap.size T W bg b2 (.slice pa T.names.length pc) (.slice ia T.init.length ic) s.2 nilS (Tb.edgesN T s.1) [] []) (fun s => T.next.length - s.1) (0, nilS) ⟨rfl, rfl, rfl, rfl, rfl, rfl, trivial⟩ ⟨Nat.zero_le _, hP3⟩ ?_
  rintro ⟨i, ev⟩ e0 W ⟨hi, hP⟩
  simp only at hi hP
  refine sp (fun q1 => ?_) (fun q1 => ?_)
  · have hil : i < T.next.length := by omega
    have hW := h.kp hP.kp
    have hxi := hxx i _ (List.getElem?_eq_getElem hil)
    obtain ⟨b, o, rfl, -, -, cs, -, hrd, x, rfl, hI⟩ := hxi
    have hIs := hI
    obtain ⟨ja, jc, rfl, -, -⟩ := hIs
    rewrite [List.length_map] at hrd hI
    obtain ⟨r, hr⟩ : ∃ r, r = T.next[i] := ⟨_, rfl⟩
    rewrite [← hr] at hrd hI
    refine ne ⟨by omega, by omega⟩ ?_
    refine ld (cs := [.slice ja r.length jc]) agree (hP.kp.range hrd id) (by rfl) ?_
    have hmc := mustT_c hW hg (hT.kp hP.kp) i
    refine cl callMustT hmc ?_
    rintro _ w5 ⟨rfl, k5⟩
    have hnc := notT_c (hW.kp k5) hg (hT.kp (hP.kp.trans k5)) i
    refine cl callNotT hnc ?_
    rintro _ w6 ⟨rfl, k6⟩
    have hP6 := (hP.kpd k5).kpd k6
    have hrl2 : (Tb.edgesN T (i + 1)) = Tb.edgesN T i ++ r.map (Tb.edgeOf T i) := by
      simp only [Tb.edgesN]
      unfold Tb.edges1
      rw [List.getElem?_eq_getElem hil, ← hr]; rfl
    have hle2 := Tb.edgesN_le T (i + 1)
    rewrite [hrl2, List.length_append, List.length_map] at hle2
    refine loop agree (σ := Nat × Value) (fun s => [(0, pt tb 0), (2, pt b2 0), (3, pt bg 0), (4, .int .i64 (i : Nat)), (6, .int .u16 (Tb.mustOf T i : Nat)), (7, .int .u16 (Tb.notOf T i : Nat)), (31, .slice (some ⟨b, o, none⟩) T.next.length xc), (32, .int .i64 (T.next.length : Nat)), (33, .int .i64 (i : Nat)), (44, .slice ja r.length jc), (45, .int .i64 (r.length : Nat)), (46, .int .i64 (s.1 : Nat))])
      (fun s V => s.1 ≤ r.length ∧ GenP w w.heap.size T V bg b2 (.slice pa T.names.length pc) (.slice ia T.init.length ic) s.2 nilS (Tb.edgesN T i ++ (r.take s.1).map (Tb.edgeOf T i)) [] []) (fun s => r.length - s.1) (0, ev) ⟨rfl, rfl, rfl, rfl, rfl, rfl, rfl, rfl, rfl, rfl, rfl, rfl, trivial⟩ ⟨Nat.zero_le _, by simp only [List.take_zero, List.map_nil, List.append_nil]; exact hP6⟩ ?_
    rintro ⟨j, ev⟩ e2 V ⟨hj, hPV⟩
    simp only at hj hPV
    obtain ⟨E, hE⟩ : ∃ E, E = Tb.edgesN T i ++ (r.take j).map (Tb.edgeOf T i) := ⟨_, rfl⟩
    have hEl : E.length ≤ (T.next.map List.length).sum := by
      rw [hE, List.length_append, List.length_map, List.length_take]
      omega
    rewrite [← hE] at hPV
    refine sp (fun q2 => ?_) (fun q2 => ?_)
    · have hjl : j < r.length := by omega
      have hIV := RowE.chg hI hPV.kp (fun _ _ _ => id) fun _ _ h => h
      obtain ⟨a', c', he, -, hx2⟩ := hIV
      injection he with he1 _ he2
      subst he1 he2
      have hxj := hx2 j ((r[j] : Nat) : Int) (by rw [List.getElem?_map, List.getElem?_eq_getElem hjl]; rfl)
      obtain ⟨b5, o5, rfl, -, -, cs, -, hrd5, rfl⟩ := hxj
      refine ne ⟨by omega, by omega⟩ ?_
      refine ld agree hrd5 (by rfl) ?_
      have hrg := row_slice hPV.ed
      obtain ⟨va, vc, rfl, -, hvb⟩ := hrg
      refine ld agree (Own.at_ (xs := [.slice va E.length vc]) (o := 3) hPV.box rfl) (by rfl) ?_
      refine ne (by decide) ?_
      refine nd fun bo q3 f3 g3 r3 mo => ?_
      have mo : Own q3 bo 113 (Edge.cells (Tb.edgeOf T i r[j])) := mo
      have hPq := hPV.kpd r3
      refine apP (m := 1) (size := 4) (news := Edge.cells (Tb.edgeOf T i r[j])) agree rfl rfl rfl rfl rfl rfl rfl (by decide) hPq.ed rfl (Own.all mo) rfl (by simp only [maxLen]; omega) (by show (_ + 1) * 24 ≤ _; omega) (by have := hPq.kp.size; omega) fun v' q4 hrow4 hc4 hnew4 _ => ?_
      have hbx4 := hc4.own hPq.box fun hh => own_row_ne hPq.box hPq.ed (by decide) bg hh.symm rfl
      have hrg4 := row_slice hrow4
      obtain ⟨ua, uc, rfl, -, -⟩ := hrg4
      refine st agree hbx4 rfl (show (4 : Nat) ≤ 5 by decide) rfl fun w9 e9 k9 m9 => ?_
      have m9 : Own w9 bg 42 [.slice pa T.names.length pc, .int .i64 (T.nodes.length : Nat), .slice ia T.init.length ic, .slice ua (E.length + 1) uc, nilS] := m9
      have hP9 := hPq.edge hc4 hrow4 k9 m9
      have hE9 : E ++ [Tb.edgeOf T i r[j]] = Tb.edgesN T i ++ (r.take (j + 1)).map (Tb.edgeOf T i) := by
        rw [hE, List.take_succ_eq_append_getElem hjl, List.map_append, List.append_assoc]; rfl
      rewrite [hE9] at hP9
      refine aw (by omega) (by omega) ?_
      exact again (j + 1, .slice ua (E.length + 1) uc) ⟨rfl, rfl, rfl, rfl, rfl, rfl, rfl, rfl, rfl, rfl, rfl, rfl, trivial⟩ ⟨by simp only; omega, hP9⟩ (by simp only; omega)
    · have : j = r.length := by omega
      subst this
      rewrite [hE, List.take_length, ← hrl2] at hPV
      refine aw (by omega) (by omega) ?_
      exact again (i + 1, ev) ⟨rfl, rfl, rfl, rfl, rfl, rfl, trivial⟩ ⟨by simp only; omega, hPV⟩ (by simp only; omega)
  · have hin : i = T.next.length := by omega
    subst hin
    obtain ⟨EE, hEE⟩ : ∃ EE, EE = Tb.edgesN T T.next.length := ⟨_, rfl⟩
    rewrite [← hEE] at hP
    have hbW := (h.kp hP.kp).box
    refine ld agree (Own.at_ (xs := [.slice ra T.rows.length rc]) (o := 1) hbW rfl) (by rfl) ?_
    refine loop agree (σ := Nat × Value × List Value) (fun s => [(0, pt tb 0), (2, pt b2 0), (3, pt bg 0), (65, .slice ra T.rows.length rc), (66, .int .i64 (T.rows.length : Nat)), (67, .int .i64 (s.1 : Nat))])
      (fun s V => s.1 ≤ T.rows.length ∧ GenP w w.heap.size T V bg b2 (.slice pa T.names.length pc) (.slice ia T.init.length ic) ev s.2.1 EE (Tb.setsN T s.1) s.2.2) (fun s => T.rows.length - s.1) (0, nilS, []) ⟨rfl, rfl, rfl, rfl, rfl, rfl, trivial⟩ ⟨Nat.zero_le _, hP⟩ ?_
    rintro ⟨i, sv, ss⟩ e2 V ⟨hi, hPV⟩
    simp only at hi hPV
    refine sp (fun q2 => ?_) (fun q2 => ?_)
    · have hil : i < T.rows.length := by omega
      obtain ⟨r, hr⟩ : ∃ r, T.rows[i]? = some r := ⟨_, List.getElem?_eq_getElem hil⟩
      have hrx2 := hrx i r hr
      obtain ⟨rb, ro, rfl, -, -, cs, -, hrd, rfl⟩ := hrx2
      refine ne ⟨by omega, by omega⟩ ?_
      refine ld agree (hPV.kp.range hrd id) (by rfl) ?_
      refine nd fun b11 w5 e5 s5 k5 m5 => ?_
      refine st agree m5 rfl (Nat.le_refl 4) rfl fun w6 e6 k6 m6 => ?_
      have m6 : Own w6 b11 115 (rowC r) := m6
      have kV6 : Kp V w6 := k5.newS k6 (fun j hj => by subst hj; omega)
      have hP6 := hPV.kpd kV6
      refine ld agree (Own.at_ (xs := [.int .u8 r.op]) m6 rfl) (by rfl) ?_
      have hSl := Tb.setsN_len T i
      refine sp (fun q3 => ?_) (fun q3 => ?_)
      · have q3 : ¬ (r.op : Int) = 12 := q3
        have hs1 : Tb.setsN T (i + 1) = Tb.setsN T i := by
          simp only [Tb.setsN]
          unfold Tb.set1
          rw [hr]
          simp only
          rw [if_neg (by omega), List.append_nil]
        rewrite [← hs1] at hP6
        refine aw (by omega) (by omega) ?_
        exact again (i + 1, sv, ss) ⟨rfl, rfl, rfl, rfl, rfl, rfl, trivial⟩ ⟨by simp only; omega, hP6⟩ (by simp only; omega)
      · have q3 : (r.op : Int) = 12 := Classical.byContradiction q3
        have hop : r.op = 12 := by omega
        have hrw := (hwf i r hr).2.1 (by omega)
        obtain ⟨bb, hbb⟩ : ∃ bb : Nat, r.b = bb := ⟨_, (Int.toNat_of_nonneg hrw.2.2.1).symm⟩
        have hbi : bb < 1024 := by omega
        have hs1 : Tb.setsN T (i + 1) = Tb.setsN T i ++ [Tb.setUp T i r T.nodes.length] := by
          simp only [Tb.setsN]
          congr 1
          unfold Tb.set1
          rw [hr]
          simp only
          rw [if_pos hop]
        refine ne (by decide) ?_
        refine nd fun bl w7 e7 s7 k7 m7 => ?_
        have own0 : w7.ownsRow w6.heap.size 3 1 (.slice (some ⟨bl, 0, none⟩) 0 0) 0 [] := ⟨rfl, .inr ⟨bl, 0, _, rfl, by omega, m7, by omega, by simp [maxLen], rfl, by simp⟩⟩
        have hb7 := (h.kp (hP6.kp.trans k7)).box
        refine ld agree (Own.at_ (xs := [.slice na T.nodes.length nc]) (o := 3) hb7 rfl) (by rfl) ?_
        refine loop agree (σ := Nat × Value) (fun s => [(0, pt tb 0), (2, pt b2 0), (3, pt bg 0), (10, .int .i64 (i : Nat)), (11, pt b11 0), (12, s.2), (65, .slice (some ⟨rb, ro, none⟩) T.rows.length rc), (66, .int .i64 (T.rows.length : Nat)), (67, .int .i64 (i : Nat)), (79, .slice na T.nodes.length nc), (80, .int .i64 (T.nodes.length : Nat)), (81, .int .i64 (s.1 : Nat))])
          (fun s U => s.1 ≤ T.nodes.length ∧ Kp w6 U ∧ U.ownsRow w6.heap.size 3 1 s.2 (Tb.setUp T i r s.1).length ((Tb.natI (Tb.setUp T i r s.1)).flatMap fN1)) (fun s => T.nodes.length - s.1) (0, .slice (some ⟨bl, 0, none⟩) 0 0) ⟨rfl, rfl, rfl, rfl, rfl, rfl, rfl, rfl, rfl, rfl, rfl, rfl, trivial⟩ ⟨Nat.zero_le _, k7, own0⟩ ?_
        rintro ⟨m, lv⟩ e3 U ⟨hm, hkU, hrowU⟩
        simp only at hm hrowU
        have hsul := Tb.setUp_len T i r m
        refine sp (fun q4 => ?_) (fun q4 => ?_)
        · have hml : m < T.nodes.length := by omega
          obtain ⟨p, hp⟩ : ∃ p, T.nodes[m]? = some p := ⟨_, List.getElem?_eq_getElem hml⟩
          have hnx2 := hndx m p hp
          obtain ⟨nb, no, rfl, -, -, cs, -, hrdp, rfl⟩ := hnx2
          have hpn := hg.nd.2 p (List.mem_of_getElem? hp)
          have hcap := cap_of hpn.1 (by omega)
          have kU := hP6.kp.trans hkU
          refine ne ⟨by omega, by omega⟩ ?_
          refine ld (v := pairA p) agree (by simp only [Int.toNat_natCast]; exact kU.range hrdp id) (asvPair p) ?_
          refine nd fun b14 u1 f1 g1 j1 n1 => ?_
          refine st agree n1 (szPair p) (show 0 + (cellsL (pairA p)).length ≤ (cellsL ti120.zero).length by rw [cellsPair, pairZ]; omega) (show (cellsL (pairA p)).all (·.oneCell') = true by rw [cellsPair]; exact onePair _) fun u2 f2 j2 n2 => ?_
          have n3 : Own u2 b14 120 (lay (cellsL ti120.zero) 0 (cellsL (pairA p))) := n2
          rewrite [cellsPair, lay_full (pairZ p)] at n3
          have n2 := n3
          clear n1 n3
          have jU2 : Kp U u2 := j1.newS j2 (fun j hj => by subst hj; omega)
          have hrow2 := ownsRow_chg hrowU jU2 fun _ _ => id
          refine ld (v := setA p.1) agree (Own.fst n2) (by rfl) ?_
          have hc1 := has_c u2 hcap (show i < 1024 by omega)
          obtain ⟨t1, ht1⟩ : ∃ t1, p.1.testBit i = t1 := ⟨_, rfl⟩
          rewrite [ht1] at hc1
          refine cl callHas hc1 ?_
          rintro _ u3 ⟨rfl, j3⟩
          have hrow3 := ownsRow_chg hrow2 j3 fun _ _ => id
          have jU3 := jU2.trans j3
          cases t1 with
          | false =>
            have hsu : Tb.setUp T i r (m + 1) = Tb.setUp T i r m ++ [m] := Tb.setUp_yes hp (.inl ht1)
            have hrowX := hrow3
            have jX := jU3
            refine ne (by decide) ?_
            refine nd fun bo v4 f4 g4 r4 mo => ?_
            have mo : Own v4 bo 3 [.int .i64 (m : Nat)] := mo
            have hrg := row_slice hrowX
            obtain ⟨la, lc, rfl, -, hlb⟩ := hrg
            refine apP (m := 1) (news := [.int .i64 (m : Nat)]) agree rfl rfl rfl rfl rfl rfl rfl (by decide) (ownsRow_chg hrowX r4 fun _ _ => id) rfl (Own.at_ (o := 0) mo rfl) rfl (by simp only [maxLen]; omega) (by show (_ + 1) * 8 ≤ _; omega) (by have := hkU.size; have := jX.size; have := r4.size; omega) fun v' v5 hrow5 hc5 hnew5 _ => ?_
            refine aw (by omega) (by omega) ?_
            refine again (m + 1, v') ⟨rfl, rfl, rfl, rfl, rfl, rfl, rfl, rfl, rfl, rfl, rfl, rfl, trivial⟩ ⟨by simp only; omega, ((hkU.trans jX).trans r4).newS hc5 fun g hg => by have := (hlb g hg.symm).1; omega, ?_⟩ (by simp only; omega)
            simp only
            rw [hsu, List.length_append, Tb.natI_append, List.flatMap_append]
            exact hrow5
          | true =>
            have kw6 : Kp w6 u3 := hkU.trans jU3
            refine ld (v := setA p.1) agree (Own.fst (j3.own n2 id)) (by rfl) ?_
            refine ixArr (j := 1) agree rfl rfl rfl rfl rfl rfl (by decide) ?_
            have hrb : u3.rangeAt b11 2 [.int .i64 (bb : Nat)] := by
              rw [← hbb]
              exact Own.at_ (xs := [.int .i64 r.b]) (kw6.own m6 id) rfl
            refine ld (cs := [.int .i64 (bb : Nat)]) agree hrb (by rfl) ?_
            have hc2 := has_c u3 hcap hbi
            obtain ⟨t2, ht2⟩ : ∃ t2, p.1.testBit bb = t2 := ⟨_, rfl⟩
            rewrite [ht2] at hc2
            refine cl callHas hc2 ?_
            rintro _ u4 ⟨rfl, j4⟩
            have hrowX := ownsRow_chg hrow3 j4 fun _ _ => id
            have jX := jU3.trans j4
            cases t2 with
            | true =>
              have hsu : Tb.setUp T i r (m + 1) = Tb.setUp T i r m ++ [m] := Tb.setUp_yes hp (.inr (by rw [hbb, Int.toNat_natCast]; exact ht2))
              refine ne (by decide) ?_
              refine nd fun bo v4 f4 g4 r4 mo => ?_
              have mo : Own v4 bo 3 [.int .i64 (m : Nat)] := mo
              have hrg := row_slice hrowX
              obtain ⟨la, lc, rfl, -, hlb⟩ := hrg
              refine apP (m := 1) (news := [.int .i64 (m : Nat)]) agree rfl rfl rfl rfl rfl rfl rfl (by decide) (ownsRow_chg hrowX r4 fun _ _ => id) rfl (Own.at_ (o := 0) mo rfl) rfl (by simp only [maxLen]; omega) (by show (_ + 1) * 8 ≤ _; omega) (by have := hkU.size; have := jX.size; have := r4.size; omega) fun v' v5 hrow5 hc5 hnew5 _ => ?_
              refine aw (by omega) (by omega) ?_
              refine again (m + 1, v') ⟨rfl, rfl, rfl, rfl, rfl, rfl, rfl, rfl, rfl, rfl, rfl, rfl, trivial⟩ ⟨by simp only; omega, ((hkU.trans jX).trans r4).newS hc5 fun g hg => by have := (hlb g hg.symm).1; omega, ?_⟩ (by simp only; omega)
              simp only
              rw [hsu, List.length_append, Tb.natI_append, List.flatMap_append]
              exact hrow5
            | false =>
              have hsu : Tb.setUp T i r (m + 1) = Tb.setUp T i r m := Tb.setUp_no hp ht1 (by rw [hbb, Int.toNat_natCast]; exact ht2)
              refine aw (by omega) (by omega) ?_
              refine again (m + 1, lv) ⟨rfl, rfl, rfl, rfl, rfl, rfl, rfl, rfl, rfl, rfl, rfl, rfl, trivial⟩ ⟨by simp only; omega, hkU.trans jX, ?_⟩ (by simp only; omega)
              simp only
              rw [hsu]
              exact hrowX
        · have : m = T.nodes.length := by omega
          subst this
          have hPU := hP6.kpd hkU
          have hrgl := row_slice hrowU
          obtain ⟨la, lc, rfl, -, -⟩ := hrgl
          have hrg := row_slice hPU.se.row
          obtain ⟨va, vc, rfl, -, hvb⟩ := hrg
          refine ld agree (Own.at_ (xs := [.slice va (Tb.setsN T i).length vc]) (o := 4) hPU.box rfl) (by rfl) ?_
          refine ne (by decide) ?_
          refine nd fun bo q3 f3 g3 r3 mo => ?_
          have mo : Own q3 bo 38 [.slice la (Tb.setUp T i r T.nodes.length).length lc] := mo
          have hPq := hPU.kpd r3
          refine apP (m := 1) (size := 1) (news := [.slice la (Tb.setUp T i r T.nodes.length).length lc]) agree rfl rfl rfl rfl rfl rfl rfl (by decide) hPq.se.row rfl (Own.all mo) rfl (by simp only [maxLen]; omega) (by show (_ + 1) * 24 ≤ _; omega) (by have := hPq.kp.size; omega) fun v' q4 hrow4 hc4 hnew4 _ => ?_
          have hbx4 := hc4.own hPq.box fun hh => own_row_ne hPq.box hPq.se.row (by decide) bg hh.symm rfl
          have hrg4 := row_slice hrow4
          obtain ⟨ua, uc, rfl, -, -⟩ := hrg4
          refine st agree hbx4 rfl (show (5 : Nat) ≤ 5 by decide) rfl fun w9 e9 k9 m9 => ?_
          have m9 : Own w9 bg 42 [.slice pa T.names.length pc, .int .i64 (T.nodes.length : Nat), .slice ia T.init.length ic, ev, .slice ua ((Tb.setsN T i).length + 1) uc] := m9
          have hP9 := hP6.sett (hkU.trans r3) (ownsRow_chg hrowU r3 fun _ _ => id) hc4 hrow4 k9 m9
          rewrite [← hs1] at hP9
          refine aw (by omega) (by omega) ?_
          exact again (i + 1, .slice ua ((Tb.setsN T i).length + 1) uc, ss ++ [.slice la (Tb.setUp T i r T.nodes.length).length lc]) ⟨rfl, rfl, rfl, rfl, rfl, rfl, trivial⟩ ⟨by simp only; omega, hP9⟩ (by simp only; omega)
    · have hin : i = T.rows.length := by omega
      subst hin
      have hrg1 := row_slice hPV.ed
      obtain ⟨ea, ec, rfl, -, -⟩ := hrg1
      have hrg2 := row_slice hPV.se.row
      obtain ⟨va, vc, rfl, -, -⟩ := hrg2
      have hre := hPV.res
      refine ld agree (Own.all hPV.box) (by rfl) ?_
      refine st agree hre rfl (Nat.le_refl 5) rfl fun w9 e9 k9 m9 => ?_
      have m9 : Own w9 b2 42 [.slice pa T.names.length pc, .int .i64 (T.nodes.length : Nat), .slice ia T.init.length ic, .slice ea EE.length ec, .slice va (Tb.setsN T T.rows.length).length vc] := m9
      refine ld agree (Own.all m9) (by rfl) ?_
      have hed9 := ownsRow_chg hPV.ed k9 fun g hg hh => own_row_ne hPV.res hPV.ed (by decide) g hg hh
      have hlow := hPV.low
      refine ⟨hPV.kp.newS k9 (fun j hj => by subst hj; omega), _, _, _, _, ss, rfl, ?_, ?_, ?_, ?_, hPV.ap⟩
      · exact ownsRow_chg hPV.pr k9 fun g hg hh => own_row_ne hPV.res hPV.pr (by decide) g hg hh
      · exact ownsRow_chg hPV.ini k9 fun g hg hh => own_row_ne hPV.res hPV.ini (by decide) g hg hh
      · rw [← hEE]; exact hed9
      · exact hPV.se.chg k9 (fun g hg hh => own_row_ne hPV.res hPV.se.row (by decide) g hg hh) fun v n ys ho g hg hh => own_row_ne hPV.res ho (by decide) g hg hh
end Go.Au

namespace Go.Au
open Go
namespace Tb
def exP : Fm := .mk 3 (b1 112) []
def exN : List ByteArray := [b1 112, b1 113]
theorem ex1e : errOf exU exN 3 = 0 := by decide +kernel
theorem ex2e : errOf exU exN 2 = 92 := by decide +kernel
theorem ex3e : errOf (.mk 10 ⟨#[]⟩ [exP]) [b1 112] 9 = 90 := by decide +kernel
theorem ex4e : errOf exU [b1 113] 9 = 91 := by decide +kernel
def exT : Tab := (ofT exU exN 3).getD ⟨[], [], [], [], [], []⟩
theorem exT_of {T : Tab} (h : ofT exU exN 3 = some T) : T = exT := by unfold exT; rw [h]; rfl
theorem exT_parts : (exT.nodes, exT.init, exT.next) = ([(5, 4), (6, 0), (0, 0)], [0, 1], [[0, 1], [2], [2]]) := by decide +kernel
theorem exT_rows : exT.rows.length = 3 := by decide +kernel
theorem exU_props : exU.size = 3 ∧ (exU.all.all fun x => decide (x.op < 256)) = true := by decide +kernel
theorem exE_props : (Fm.mk 10 ⟨#[]⟩ [exP]).size = 2 ∧ ((Fm.mk 10 ⟨#[]⟩ [exP]).all.all fun x => decide (x.op < 256)) = true := by decide +kernel
end Tb
end Go.Au

namespace Go.Au
open Go Go.RowKit
open Fm (idx)

/-! ### trees that are made; Of, by its answer -/
theorem callProp : callable Proofs.Tryz.prog 21 = true := by kernel_rfl
theorem prop_c (w : World) (s : ByteArray) : Calls Proofs.Tryz.prog 21 [.string s].toArray w (Ret fun r w' => r = fmA (.mk 3 s []) nilS ∧ Kp w w') := by
  refine call agree Proofs.Tryz.func21 rfl Proofs.Tryz.ntmps21 (by kernel_rfl) ?_
  refine nd fun b w1 e1 s1 k1 m1 => ?_
  refine st agree m1 rfl (Nat.le_refl 3) rfl fun w2 e2 k2 m2 => ?_
  have m2 : Own w2 b 26 (fmC (.mk 3 s []) nilS) := m2
  refine ld agree (Own.all m2) (by rfl) ?_
  exact ⟨rfl, k1.newS k2 (fun j hj => by subst hj; omega)⟩
theorem prop_kids {lo hi : Nat} (w : World) (s : ByteArray) : KidsN 0 lo hi w nilS (Fm.mk 3 s []).kids := ⟨none, 0, rfl, Nat.le_refl 0, fun i x hx => by cases hx⟩
theorem kidsE_two {n lo hi b : Nat} {w : World} {t : TypeId} {f g : Fm} {v1 v2 : Value} (m : Own w b t (fmC f v1 ++ fmC g v2)) (hb : lo ≤ b ∧ b < hi) (h1 : KidsN n lo hi w v1 f.kids) (h2 : KidsN n lo hi w v2 g.kids) : KidsN (n + 1) lo hi w (.slice (some ⟨b, 0, none⟩) 2 2) [f, g] := by
  refine ⟨some ⟨b, 0, none⟩, 2, rfl, Nat.le_refl 2, fun i x hx => ⟨b, 0, rfl, hb.1, hb.2, ?_⟩⟩
  match i, hx with
  | 0, hx =>
    injection hx with hx
    subst hx
    exact ⟨fmC f v1, rfl, Own.at_ (xs := fmC f v1) (o := 0) m rfl, v1, rfl, h1⟩
  | 1, hx =>
    injection hx with hx
    subst hx
    exact ⟨fmC g v2, rfl, Own.at_ (xs := fmC g v2) (o := 3) m rfl, v2, rfl, h2⟩
theorem kidsE_one {n lo hi b : Nat} {w : World} {t : TypeId} {f : Fm} {v1 : Value} (m : Own w b t (fmC f v1)) (hb : lo ≤ b ∧ b < hi) (h1 : KidsN n lo hi w v1 f.kids) : KidsN (n + 1) lo hi w (.slice (some ⟨b, 0, none⟩) 1 1) [f] := by
  refine ⟨some ⟨b, 0, none⟩, 1, rfl, Nat.le_refl 1, fun i x hx => ⟨b, 0, rfl, hb.1, hb.2, ?_⟩⟩
  match i, hx with
  | 0, hx =>
    injection hx with hx
    subst hx
    exact ⟨fmC f v1, rfl, Own.at_ (xs := fmC f v1) (o := 0) m rfl, v1, rfl, h1⟩
theorem callTwo : callable Proofs.Tryz.prog 41 = true := by kernel_rfl
theorem two_c {n lo hi o : Nat} {w : World} {f g : Fm} {v1 v2 : Value} (h1 : KidsN n lo hi w v1 f.kids) (h2 : KidsN n lo hi w v2 g.kids) (hl : lo ≤ w.heap.size) (hh : hi ≤ w.heap.size) :
    Calls Proofs.Tryz.prog 41 [.int .u8 o, fmA f v1, fmA g v2].toArray w (Ret fun r w' => Kp w w' ∧ ∃ v, r = fmA (.mk o ⟨#[]⟩ [f, g]) v ∧ KidsN (n + 1) lo w'.heap.size w' v [f, g]) := by
  have s1 := h1.slice
  have s2 := h2.slice
  obtain ⟨a1, c1, rfl, -⟩ := s1
  obtain ⟨a2, c2, rfl, -⟩ := s2
  refine call agree Proofs.Tryz.func41 rfl Proofs.Tryz.ntmps41 (by kernel_rfl) ?_
  refine nd fun b4 w1 e1 z1 k1 m1 => ?_
  have m1 : Own w1 b4 26 (fmC f (.slice a1 f.kids.length c1)) := m1
  refine nd fun b5 w2 e2 z2 k2 m2 => ?_
  have m2 : Own w2 b5 26 (fmC g (.slice a2 g.kids.length c2)) := m2
  refine nd fun b6 w3 e3 z3 k3 m3 => ?_
  refine ld agree (Own.all ((k2.trans k3).own m1 id)) (by rfl) ?_
  refine ld agree (Own.all (k3.own m2 id)) (by rfl) ?_
  refine ne (by decide) ?_
  refine nd fun bs w4 e4 z4 k4 m4 => ?_
  have m4 : Own w4 bs 26 (fmC f (.slice a1 f.kids.length c1) ++ fmC g (.slice a2 g.kids.length c2)) := m4
  refine st agree (k4.own m3 id) rfl (Nat.le_refl 3) rfl fun w5 e5 k5 m5 => ?_
  have m5 : Own w5 b6 26 (fmC (.mk o ⟨#[]⟩ [f, g]) (.slice (some ⟨bs, 0, none⟩) 2 2)) := m5
  refine ld agree (Own.all m5) (by rfl) ?_
  have k25 : Kp w2 w5 := (k3.trans k4).newS k5 (fun j hj => by subst hj; omega)
  have k15 : Kp w w5 := (k1.trans k2).trans k25
  refine ⟨k15, _, rfl, ?_⟩
  have m4' := k5.own m4 (by omega)
  have hz5 := k5.size
  exact kidsE_two m4' ⟨by omega, by omega⟩ ((h1.kp k15).mono (Nat.le_refl _) (by omega)) ((h2.kp k15).mono (Nat.le_refl _) (by omega))
theorem callOne : callable Proofs.Tryz.prog 42 = true := by kernel_rfl
theorem one_c {n lo hi o : Nat} {w : World} {f : Fm} {v1 : Value} (h1 : KidsN n lo hi w v1 f.kids) (hl : lo ≤ w.heap.size) (hh : hi ≤ w.heap.size) :
    Calls Proofs.Tryz.prog 42 [.int .u8 o, fmA f v1].toArray w (Ret fun r w' => Kp w w' ∧ ∃ v, r = fmA (.mk o ⟨#[]⟩ [f]) v ∧ KidsN (n + 1) lo w'.heap.size w' v [f]) := by
  have s1 := h1.slice
  obtain ⟨a1, c1, rfl, -⟩ := s1
  refine call agree Proofs.Tryz.func42 rfl Proofs.Tryz.ntmps42 (by kernel_rfl) ?_
  refine nd fun b4 w1 e1 z1 k1 m1 => ?_
  have m1 : Own w1 b4 26 (fmC f (.slice a1 f.kids.length c1)) := m1
  refine nd fun b6 w3 e3 z3 k3 m3 => ?_
  refine ld agree (Own.all (k3.own m1 id)) (by rfl) ?_
  refine ne (by decide) ?_
  refine nd fun bs w4 e4 z4 k4 m4 => ?_
  have m4 : Own w4 bs 26 (fmC f (.slice a1 f.kids.length c1)) := m4
  refine st agree (k4.own m3 id) rfl (Nat.le_refl 3) rfl fun w5 e5 k5 m5 => ?_
  have m5 : Own w5 b6 26 (fmC (.mk o ⟨#[]⟩ [f]) (.slice (some ⟨bs, 0, none⟩) 1 1)) := m5
  refine ld agree (Own.all m5) (by rfl) ?_
  have k15 : Kp w w5 := (k1.trans (k3.trans k4)).newS k5 (fun j hj => by subst hj; omega)
  refine ⟨k15, _, rfl, ?_⟩
  have m4' := k5.own m4 (by omega)
  have hz5 := k5.size
  exact kidsE_one m4' ⟨by omega, by omega⟩ ((h1.kp k15).mono (Nat.le_refl _) (by omega))
section
variable {n lo hi lo' hi' : Nat} {w : World} {v nv : Value} {f : Fm} {names : List ByteArray} {most : Int}
/-- what Of made -/
structure MadeT (f : Fm) (names : List ByteArray) (most : Int) (n lo : Nat) (w : World) (tb : Nat) (sv rv nmv ndv iv xv : Value) (T : Tb.Tab) : Prop where
  of : Tb.ofT f names most = some T
  tab : TabS n lo w.heap.size w tb sv rv nmv ndv iv xv T
  good : Tb.Good T
  wf : Tb.WfR T.rows
theorem ofOk_c (hT : KTab w) (h : KidsN n lo hi w v f.kids) (hhi : hi ≤ w.heap.size) (hs : f.size < 4611686018427387904) (hop : ∀ x ∈ f.all, x.op < 256) (hn : Strs lo' hi' w nv names) (hl : names.length < 1000000000000)
    (hB : f.right = true → f.isN = true → Tb.nameOk names = true → Tb.overNames f names = true → Tb.Bnd (Tb.rows f.subs) most (Tb.whole f.subs)) (he : Tb.errOf f names most = 0) :
    Calls Proofs.Tryz.prog 12 [fmA f v, nv, iV most].toArray w (Ret fun r w' => Kp w w' ∧ ∃ n tb sv rv nmv ndv iv xv T, r = .tuple #[pt tb 0, .int .i64 0] ∧ MadeT f names most n w.heap.size w' tb sv rv nmv ndv iv xv T) := by
  refine (of_c hT h hhi hs hop hn hl hB).mono fun en w' hr => ?_
  cases en with
  | returned r =>
    obtain ⟨hk, p, rfl, -, h0⟩ := hr
    obtain ⟨hr, hN, hnm, hov, n, tb, sv, rv, nmv, ndv, iv, xv, T, hof, rfl, ht, hnd⟩ := h0 he
    rw [he]
    refine ⟨hk, n, tb, sv, rv, nmv, ndv, iv, xv, T, rfl, hof, ht, Tb.ofT_good hr hN hnm hov (hB hr hN hnm hov) hof hnd, ?_⟩
    obtain ⟨gs, -, rfl, -⟩ := Tb.ofT_at hof
    exact Tb.wf_rows (right_formed hr).1
  | _ => exact hr.elim
theorem ofErr_c (hT : KTab w) (h : KidsN n lo hi w v f.kids) (hhi : hi ≤ w.heap.size) (hs : f.size < 4611686018427387904) (hop : ∀ x ∈ f.all, x.op < 256) (hn : Strs lo' hi' w nv names) (hl : names.length < 1000000000000)
    (hB : f.right = true → f.isN = true → Tb.nameOk names = true → Tb.overNames f names = true → Tb.Bnd (Tb.rows f.subs) most (Tb.whole f.subs)) {e : Int} (he : Tb.errOf f names most = e) (h0 : e ≠ 0) :
    Calls Proofs.Tryz.prog 12 [fmA f v, nv, iV most].toArray w (Ret fun r w' => r = .tuple #[.pointer none, .int .i64 e] ∧ Kp w w') := by
  refine (of_c hT h hhi hs hop hn hl hB).mono fun en w' hr => ?_
  cases en with
  | returned r =>
    obtain ⟨hk, p, rfl, hp, -⟩ := hr
    rw [hp (by rw [he]; exact h0), he]
    exact ⟨rfl, hk⟩
  | _ => exact hr.elim
end
theorem strs_new {w : World} {b lo hi : Nat} {t : TypeId} {l : List ByteArray} (m : Own w b t (l.map Value.string)) (hb : lo ≤ b ∧ b < hi) {n : Nat} (hn : n = l.length) : Strs lo hi w (.slice (some ⟨b, 0, none⟩) n n) l :=
  row1 (f := Value.string) m (by rw [List.take_of_length_le (by simp)]) hn (Nat.le_refl _) hb.1 hb.2
end Go.Au

namespace Go.Au
open Go Go.RowKit
open Fm (idx)

/-! ### the examples of the statement -/
namespace Tb
theorem exT_at : exT.nodes = [(5, 4), (6, 0), (0, 0)] ∧ exT.init = [0, 1] ∧ exT.next = [[0, 1], [2], [2]] := by
  have h := exT_parts
  simpa using h
theorem exT_tells : nextOf exT 0 = [0, 1] ∧ oldOf exT 0 = [0, 2] ∧ dueOf exT 0 = [2] ∧ mustOf exT 0 = 1 ∧ mustOf exT 1 = 2 := by decide +kernel
theorem exT_gen : setsN exT 3 = [[1, 2]] ∧ (edgesN exT 3).length = 4 := by decide +kernel
end Tb
theorem ints_at {lo hi : Nat} {w : World} {a : Option Addr} {n c : Nat} {l : List Int} (h : Ints lo hi w (.slice a n c) l) {i : Nat} {x : Int} (hx : l[i]? = some x) : ∃ b o, a = some ⟨b, o, none⟩ ∧ w.rangeAt b (o + i * 1) [.int .i64 x] := by
  obtain ⟨a', c', he, -, hh⟩ := h
  injection he with he1 _ _
  subst he1
  obtain ⟨b, o, h1, -, -, cs, -, h2, rfl⟩ := hh i x hx
  exact ⟨b, o, h1, h2⟩
theorem NextS.at {base : Nat} {w : World} {a : Option Addr} {n c : Nat} {xs : List Value} {L : List (List Nat)} (h : NextS base w (.slice a n c) xs L) {i : Nat} {r : List Nat} (hr : L[i]? = some r) :
    ∃ b o x, a = some ⟨b, o, none⟩ ∧ w.rangeAt b (o + i * 1) [x] ∧ w.ownsRow base 3 1 x r.length ((r.map fun (n : Nat) => (n : Int)).flatMap fN1) := by
  obtain ⟨x, hx, ho⟩ := h.each i r hr
  obtain ⟨a', c', he, -, hh⟩ := ownsRow_rowR (E := fun _ cs (u : Value) => cs = [u]) h.row h.len fun i u hu => ⟨u, hu, rfl⟩
  injection he with he _ _
  subst he
  obtain ⟨b, o, h1, -, -, cs, -, h2, rfl⟩ := hh i x hx
  exact ⟨b, o, x, h1, h2, ho⟩
theorem bnd_small {rs : List TRow} {most : Int} {S0 : Nat} (h : most < 137438953472) : Tb.Bnd rs most S0 := .inl h
theorem callAwake : callable Proofs.Tryz.prog 9 = true := by kernel_rfl
set_option maxHeartbeats 4000000 in
theorem awake_c {w : World} (hK : KTab w) (hT : Tab w) : Calls Proofs.Tryz.prog 9 [].toArray w (Ret fun r w' => r = .bool true ∧ Kp w w') := by
  have hexU := Tb.exU_props
  have hexE := Tb.exE_props
  have hopU : ∀ x ∈ Tb.exU.all, x.op < 256 := fun x hx => of_decide_eq_true (List.all_eq_true.1 hexU.2 x hx)
  have hopE : ∀ x ∈ (Fm.mk 10 ⟨#[]⟩ [Tb.exP]).all, x.op < 256 := fun x hx => of_decide_eq_true (List.all_eq_true.1 hexE.2 x hx)
  refine call agree Proofs.Tryz.func9 rfl Proofs.Tryz.ntmps9 (by kernel_rfl) ?_
  refine cl callProp (prop_c w (Tb.b1 112)) ?_
  rintro _ w1 ⟨rfl, k1⟩
  refine cl callProp (prop_c w1 (Tb.b1 113)) ?_
  rintro _ w2 ⟨rfl, k2⟩
  have hc2 := two_c (o := 12) (prop_kids (lo := w.heap.size) (hi := w.heap.size) w2 (Tb.b1 112)) (prop_kids w2 (Tb.b1 113)) (by have := k1.size; have := k2.size; omega) (by have := k1.size; have := k2.size; omega)
  refine cl callTwo hc2 ?_
  rintro _ w3 ⟨k3, v, rfl, hv⟩
  have hvs := hv.slice
  obtain ⟨va, vc, rfl, -⟩ := hvs
  refine nd fun b1 w4 e4 z4 k4 m4 => ?_
  refine st agree m4 rfl (Nat.le_refl 3) rfl fun w5 e5 k5 m5 => ?_
  have m5 : Own w5 b1 26 (fmC Tb.exU (.slice va 2 vc)) := m5
  have k35 : Kp w3 w5 := k4.newS k5 (fun j hj => by subst hj; omega)
  have k05 : Kp w w5 := ((k1.trans k2).trans k3).trans k35
  have hv5 : KidsN 1 w.heap.size w5.heap.size w5 (.slice va 2 vc) Tb.exU.kids := (hv.kp k35).mono (Nat.le_refl _) k35.size
  refine ld agree (Own.all m5) (by rfl) ?_
  refine ne (by decide) ?_
  refine nd fun bn w6 e6 z6 k6 m6 => ?_
  have hn6 : Strs w5.heap.size w6.heap.size w6 (.slice (some ⟨bn, 0, none⟩) 2 2) Tb.exN := strs_new (l := Tb.exN) m6 ⟨by omega, by omega⟩ rfl
  have hof1 := ofOk_c (most := 3) (hK.kp (k05.trans k6)) (hv5.kp k6) k6.size (by rw [hexU.1]; decide) hopU hn6 (by decide) (fun _ _ _ _ => bnd_small (by decide)) Tb.ex1e
  refine cl callOf hof1 ?_
  rintro _ w7 ⟨k7, n, tb, sv, rv, nmv, ndv, iv, xv, T, rfl, hmade⟩
  have hTe := Tb.exT_of hmade.of
  subst hTe
  have k57 := k6.trans k7
  have m7 := k57.own m5 id
  refine ld agree (Own.all m7) (by rfl) ?_
  refine ne (by decide) ?_
  refine nd fun bn2 w8 e8 z8 k8 m8 => ?_
  have hn8 : Strs w7.heap.size w8.heap.size w8 (.slice (some ⟨bn2, 0, none⟩) 2 2) Tb.exN := strs_new (l := Tb.exN) m8 ⟨by omega, by omega⟩ rfl
  have k08 := (k05.trans k57).trans k8
  have hof2 := ofErr_c (most := 2) (hK.kp k08) (hv5.kp (k57.trans k8)) (by have := k57.size; have := k8.size; omega) (by rw [hexU.1]; decide) hopU hn8 (by decide) (fun _ _ _ _ => bnd_small (by decide)) Tb.ex2e (by decide)
  refine cl callOf hof2 ?_
  rintro _ w9 ⟨rfl, k9⟩
  refine cl callProp (prop_c w9 (Tb.b1 112)) ?_
  rintro _ w10 ⟨rfl, k10⟩
  have hc1 := one_c (o := 10) (prop_kids (lo := w.heap.size) (hi := w.heap.size) w10 (Tb.b1 112)) (by have := k08.size; have := k9.size; have := k10.size; omega) (by have := k08.size; have := k9.size; have := k10.size; omega)
  refine cl callOne hc1 ?_
  rintro _ w11 ⟨k11, v2, rfl, hv2⟩
  have hvs2 := hv2.slice
  obtain ⟨ua, uc, rfl, -⟩ := hvs2
  refine ne (by decide) ?_
  refine nd fun bn3 w12 e12 z12 k12 m12 => ?_
  have hn12 : Strs w11.heap.size w12.heap.size w12 (.slice (some ⟨bn3, 0, none⟩) 1 1) [Tb.b1 112] := strs_new (l := [Tb.b1 112]) m12 ⟨by omega, by omega⟩ rfl
  have k012 := (((k08.trans k9).trans k10).trans k11).trans k12
  have hof3 := ofErr_c (f := Fm.mk 10 ⟨#[]⟩ [Tb.exP]) (most := 9) (hK.kp k012) (hv2.kp k12) (by have := k12.size; omega) (by rw [hexE.1]; decide) hopE hn12 (by decide) (fun _ _ _ _ => bnd_small (by decide)) Tb.ex3e (by decide)
  refine cl callOf hof3 ?_
  rintro _ w13 ⟨rfl, k13⟩
  have k813 := (((k9.trans k10).trans k11).trans k12).trans k13
  have k513 := (k57.trans k8).trans k813
  refine ld agree (Own.all (k513.own m5 id)) (by rfl) ?_
  refine ne (by decide) ?_
  refine nd fun bn4 w14 e14 z14 k14 m14 => ?_
  have hn14 : Strs w13.heap.size w14.heap.size w14 (.slice (some ⟨bn4, 0, none⟩) 1 1) [Tb.b1 113] := strs_new (l := [Tb.b1 113]) m14 ⟨by omega, by omega⟩ rfl
  have k514 := k513.trans k14
  have hof4 := ofErr_c (most := 9) (hK.kp (k05.trans k514)) (hv5.kp k514) k514.size (by rw [hexU.1]; decide) hopU hn14 (by decide) (fun _ _ _ _ => bnd_small (by decide)) Tb.ex4e (by decide)
  refine cl callOf hof4 ?_
  rintro _ w15 ⟨rfl, k15⟩
  have k715 := ((k8.trans k813).trans k14).trans k15
  have k015 := (k05.trans k57).trans k715
  have ht15 := hmade.tab.kp k715
  refine ptrNil agree rfl rfl rfl (by kernel_rfl) ?_
  refine spF (fun h => h rfl) ?_
  refine ptrNotNil agree rfl rfl rfl (by kernel_rfl) ?_
  refine spF (fun h => h rfl) ?_
  refine spF (fun h => h rfl) ?_
  refine spF (fun h => h rfl) ?_
  have hg := hmade.good
  have hlen : Tb.exT.nodes.length = 3 := by rw [Tb.exT_at.1]; rfl
  have hT15 := hT.kp k015
  have hn0 := nextT_c ht15 hg (by rw [Tb.exT_at.2.2]; decide) 0
  rewrite [Tb.exT_tells.1] at hn0
  refine cl callNextT hn0 ?_
  rintro _ w16 ⟨k16, ⟨na, nc, rfl⟩, -⟩
  have hd0 := oldT_c (ht15.kp k16) hg (hT15.kp k16) 0
  rewrite [Tb.exT_tells.2.1] at hd0
  refine cl callOldT hd0 ?_
  rintro _ w17 ⟨k17, hL17⟩
  have hI17 := hL17.ints
  obtain ⟨⟨oa, oc, rfl⟩, -⟩ := hL17
  have hA0 := ints_at hI17 (i := 0) (x := 0) rfl
  obtain ⟨ob, oo, rfl, hA0⟩ := hA0
  have hA1 := ints_at hI17 (i := 1) (x := 2) rfl
  obtain ⟨ob2, oo2, he, hA1⟩ := hA1
  injection he with he
  injection he with he1 he2
  subst he1 he2
  have k1517 := k16.trans k17
  have hu0 := dueT_c (ht15.kp k1517) hg (hT15.kp k1517) 0
  rewrite [Tb.exT_tells.2.2.1] at hu0
  refine cl callDueT hu0 ?_
  rintro _ w18 ⟨k18, hL18⟩
  have hI18 := hL18.ints
  obtain ⟨⟨da, dc, rfl⟩, -⟩ := hL18
  have hB0 := ints_at hI18 (i := 0) (x := 2) rfl
  obtain ⟨db, dd, rfl, hB0⟩ := hB0
  have k1518 := k1517.trans k18
  have hgc := genT_c (ht15.kp k1518) hg hmade.wf (hT15.kp k1518) (by rw [Tb.exT_at.2.1]; decide) (by rw [Tb.exT_at.2.2]; decide)
  refine cl callGenT hgc ?_
  rintro _ w19 ⟨k19, pv, iw, ew, sw, ss, rfl, ho⟩
  have hpr := row_slice ho.pr
  obtain ⟨p1, p2, rfl, -, -⟩ := hpr
  have hpr := row_slice ho.ini
  obtain ⟨p3, p4, rfl, -, -⟩ := hpr
  have hed := ho.ed
  have hse := ho.se
  rewrite [Tb.exT_rows, Tb.exT_gen.1] at hse
  have hnl : Tb.exT.next.length = 3 := by rw [Tb.exT_at.2.2]; rfl
  rewrite [hnl, Tb.exT_gen.2] at hed
  have hpr := row_slice hed
  obtain ⟨p5, p6, rfl, -, -⟩ := hpr
  have hpr := row_slice hse.row
  obtain ⟨p7, p8, rfl, -, -⟩ := hpr
  refine nd fun bg w20 e20 z20 k20 m20 => ?_
  refine st agree m20 rfl (Nat.le_refl 5) rfl fun w21 e21 k21 m21 => ?_
  have m21 : Own w21 bg 42 [.slice p1 Tb.exT.names.length p2, .int .i64 (Tb.exT.nodes.length : Nat), .slice p3 Tb.exT.init.length p4, .slice p5 4 p6, .slice p7 1 p8] := m21
  have k1921 : Kp w19 w21 := k20.newS k21 (fun j hj => by subst hj; omega)
  have k1521 := (k1518.trans k19).trans k1921
  have hlc := lenT_c (ht15.kp k1521)
  rewrite [hlen] at hlc
  refine cl callLenT hlc ?_
  rintro _ w22 ⟨rfl, k22⟩
  refine spT rfl ?_
  refine spT rfl ?_
  refine spT rfl ?_
  refine ne ⟨by decide, by decide⟩ ?_
  have k1722 := (((k18.trans k19).trans k1921).trans k22)
  refine ld agree (k1722.range hA0 id) (by rfl) ?_
  refine spT rfl ?_
  refine ne ⟨by decide, by decide⟩ ?_
  refine ld agree (k1722.range hA1 id) (by rfl) ?_
  refine spT rfl ?_
  refine spT rfl ?_
  refine ne ⟨by decide, by decide⟩ ?_
  refine ld agree (((k19.trans k1921).trans k22).range hB0 id) (by rfl) ?_
  refine spT rfl ?_
  have k1522 := k1521.trans k22
  have hm0 := mustT_c (ht15.kp k1522) hg (hT15.kp k1522) 0
  rewrite [Tb.exT_tells.2.2.2.1] at hm0
  refine cl callMustT hm0 ?_
  rintro _ w23 ⟨rfl, k23⟩
  refine spT rfl ?_
  have k1523 := k1522.trans k23
  have hm1 := mustT_c (ht15.kp k1523) hg (hT15.kp k1523) 1
  rewrite [Tb.exT_tells.2.2.2.2] at hm1
  refine cl callMustT hm1 ?_
  rintro _ w24 ⟨rfl, k24⟩
  refine spT rfl ?_
  have k2124 := (k22.trans k23).trans k24
  have k1924 := k1921.trans k2124
  have m24 := k2124.own m21 id
  refine ld agree (Own.at_ (xs := [.slice p7 1 p8]) (o := 4) m24 rfl) (by rfl) ?_
  refine spT rfl ?_
  have hx0 := hse.at (i := 0) (r := [1, 2]) rfl
  obtain ⟨sb, so, x, rfl, hrs, hx2⟩ := hx0
  have hxr := row_slice hx2
  obtain ⟨xa, xc, rfl, -, -⟩ := hxr
  refine ld agree (Own.at_ (xs := [.slice (some ⟨sb, so, none⟩) 1 p8]) (o := 4) m24 rfl) (by rfl) ?_
  refine ne ⟨by decide, by decide⟩ ?_
  refine ld agree (k1924.range hrs id) (by rfl) ?_
  refine spT rfl ?_
  refine ld agree (Own.at_ (xs := [.slice p5 4 p6]) (o := 3) m24 rfl) (by rfl) ?_
  refine spT rfl ?_
  exact ⟨rfl, ((k015.trans k1518).trans k19).trans k1924⟩
end Go.Au

namespace Go.Au
open Go Go.RowKit

theorem lawNumbers_c {w : World} (hK : KTab w) (hT : Tab w) : Calls Proofs.Tryz.prog 3 [].toArray w (Ret fun r w' => r = .bool true ∧ Kp w w') := by
  refine call agree Proofs.Tryz.func3 rfl Proofs.Tryz.ntmps3 (by kernel_rfl) ?_
  refine cl callAwake (awake_c hK hT) ?_
  rintro _ w1 ⟨rfl, k1⟩
  exact ⟨rfl, k1⟩
end Go.Au

namespace Go.Au
open Go Go.RowKit
open Fm (idx)

/-! ### the document's trees: Place, Name, Kids, Size, Depth -/
theorem callPlace3 : callable Proofs.Tryz.prog 97 = true := by kernel_rfl
theorem place3_c {w : World} {lo hi : Nat} {v : Value} {l : List ByteArray} (h : Strs lo hi w v l) (hl : l.length < 4611686018427387904) (s : ByteArray) :
    Calls Proofs.Tryz.prog 97 [v, .string s].toArray w (Ret fun r w' => r = .int .i64 (idx l s) ∧ Kp w w') := by
  obtain ⟨a, cap, rfl, hcap, hx⟩ := h
  refine call agree Proofs.Tryz.func97 rfl Proofs.Tryz.ntmps97 (by kernel_rfl) ?_
  refine loop agree (σ := Nat) (fun i => [(0, .slice a l.length cap), (1, .string s), (5, .int .i64 i)]) (fun i w' => w' = w ∧ i ≤ l.length ∧ s ∉ l.take i) (fun i => l.length - i) 0
    ⟨rfl, rfl, rfl, trivial⟩ ⟨rfl, by omega, by simp⟩ ?_
  rintro i e0 w1 ⟨rfl, hi, hr⟩
  refine sp (fun h1 => ?_) (fun h1 => ?_)
  · have hi' : i < l.length := by omega
    obtain ⟨b, o, rfl, hlo, hhi, cs, hcs, hrd, rfl⟩ := hx i l[i] (by simp)
    refine ne ⟨by omega, h1⟩ ?_
    refine ld agree hrd (by rfl) ?_
    refine sp (fun h2 => ?_) (fun h2 => ?_)
    · exact ⟨congrArg (Value.int .i64) (idx_drop hr hi' h2).symm, Chg.refl _ _⟩
    · refine aw (by omega) (by omega) ?_
      exact again (i + 1) ⟨rfl, rfl, rfl, trivial⟩ ⟨rfl, by omega, not_take hr hi' h2⟩ (by omega)
  · rw [List.take_of_length_le (by omega)] at hr
    exact ⟨congrArg (Value.int .i64) (Fm.idx_none hr).symm, Chg.refl _ _⟩
theorem callName3 : callable Proofs.Tryz.prog 112 = true := by kernel_rfl
theorem name3_c (w : World) (s : ByteArray) : Calls Proofs.Tryz.prog 112 [.string s].toArray w (Ret fun r w' => r = .bool (Fm.nameB s) ∧ Kp w w') := by
  refine call agree Proofs.Tryz.func112 rfl Proofs.Tryz.ntmps112 (by kernel_rfl) ?_
  refine sp (fun h => ?_) (fun h => ?_)
  · exact ⟨congrArg Value.bool (by unfold Fm.nameB; rw [decide_eq_false (p := 1 ≤ s.size) (by omega)]; rfl), Chg.refl _ _⟩
  · have hpos : 1 ≤ s.size := by omega
    refine sp (fun h2 => ?_) (fun h2 => ?_)
    · exact ⟨congrArg Value.bool (by unfold Fm.nameB; rw [decide_eq_false (p := s.size ≤ 32) (by omega)]; simp), Chg.refl _ _⟩
    · refine loop agree (σ := Nat) (fun j => [(0, .string s), (3, .int .i64 j)])
        (fun j w' => w' = w ∧ j ≤ s.size ∧ (s.data.toList.take j).all (fun c => !Fm.badB c) = true) (fun j => s.size - j) 0 ⟨rfl, rfl, trivial⟩ ⟨rfl, by omega, by simp⟩ ?_
      rintro j e1 w4 ⟨rfl, hj, hja⟩
      refine sp (fun h4 => ?_) (fun h4 => ?_)
      · have hj' : j < s.size := by omega
        have hjt : s.data.toList.take (j + 1) = s.data.toList.take j ++ [s[j]] := by
          rw [List.take_succ_eq_append_getElem (by simpa using hj')]
          rfl
        have badb : Fm.badB s[j] = true → Fm.nameB s = false := fun hb => by
          simp only [Fm.nameB, Bool.and_eq_false_iff]
          refine .inr ?_
          rw [List.all_eq_false]
          exact ⟨s[j], by
            have : s[j] ∈ s.data.toList.take (j + 1) := by rw [hjt]; simp
            exact List.mem_of_mem_take this, by simp [hb]⟩
        refine ixS agree rfl rfl rfl rfl hj' ?_
        refine sp (fun h5 => ?_) (fun h5 => ?_)
        · exact ⟨congrArg Value.bool (badb (by simp [Fm.badB, h5])).symm, Chg.refl _ _⟩
        refine ixS agree rfl rfl rfl rfl hj' ?_
        refine sp (fun h6 => ?_) (fun h6 => ?_)
        · exact ⟨congrArg Value.bool (badb (by simp [Fm.badB, h6])).symm, Chg.refl _ _⟩
        refine ixS agree rfl rfl rfl rfl hj' ?_
        refine sp (fun h7 => ?_) (fun h7 => ?_)
        · exact ⟨congrArg Value.bool (badb (by simp [Fm.badB, h7])).symm, Chg.refl _ _⟩
        refine ixS agree rfl rfl rfl rfl hj' ?_
        refine sp (fun h8 => ?_) (fun h8 => ?_)
        · exact ⟨congrArg Value.bool (badb (by simp [Fm.badB, h8])).symm, Chg.refl _ _⟩
        refine aw (by omega) (by omega) ?_
        refine again (j + 1) ⟨rfl, rfl, trivial⟩ ⟨rfl, by omega, ?_⟩ (by omega)
        rw [hjt, List.all_append, hja]
        simp [Fm.badB, h5, h6, h7, h8]
      · refine ⟨congrArg Value.bool ?_, Chg.refl _ _⟩
        have hjl : j = s.size := by omega
        subst hjl
        have : s.data.toList.take s.size = s.data.toList := List.take_of_length_le (by simp)
        rw [this] at hja
        unfold Fm.nameB
        rw [hja, decide_eq_true hpos, decide_eq_true (p := s.size ≤ 32) (by omega)]
        rfl
theorem kids_eq {op : Nat} {k z : Int} (h : (op : Int) = k) (e : Fm.kidsTab.getD k.toNat (-1) = z) : z = Fm.kidsTab.getD op (-1) := by
  have : op = k.toNat := by omega
  rw [this, e]
theorem callKids3 : callable Proofs.Tryz.prog 177 = true := by kernel_rfl
theorem kids3_c (w : World) (o : Nat) : Calls Proofs.Tryz.prog 177 [.int .u8 o].toArray w (Ret fun r w' => r = .int .i64 (Fm.kidsTab.getD o (-1)) ∧ Kp w w') := by
  refine call agree Proofs.Tryz.func177 rfl Proofs.Tryz.ntmps177 (by kernel_rfl) ?_
  iterate 21 refine sp (fun h => ⟨congrArg (Value.int .i64) (kids_eq h rfl), Chg.refl _ _⟩) (fun h => ?_)
  refine ⟨congrArg (Value.int .i64) ?_, Chg.refl _ _⟩
  have : o = 0 ∨ 22 ≤ o := by omega
  rcases this with rfl | h22
  · rfl
  · have hn : Fm.kidsTab[o]? = none := List.getElem?_eq_none (show 22 ≤ o from h22)
    rw [List.getD_eq_getElem?_getD, hn]; rfl
theorem callSize3 : callable Proofs.Tryz.prog 114 = true := by kernel_rfl
theorem size3_c : ∀ (n lo hi : Nat) (w : World) (v : Value) (f : Fm), KidsN n lo hi w v f.kids → f.size < 4611686018427387904 →
    Calls Proofs.Tryz.prog 114 [fmA f v].toArray w (Ret fun r w' => r = .int .i64 f.size ∧ Kp w w') := by
  intro n
  induction n using Nat.strongRecOn with
  | ind n ih =>
    intro lo hi w v f h hs
    obtain ⟨a, c, rfl, hc⟩ := h.slice
    have hkl := kids_le f.kids
    have hsz := size_kids f
    refine call agree Proofs.Tryz.func114 rfl Proofs.Tryz.ntmps114 (by kernel_rfl) ?_
    refine nd fun m w1 e1 e2 k1 hm => ?_
    have hm : Own w1 m 26 (fmC f (.slice a f.kids.length c)) := hm
    refine loop agree (σ := Nat) (fun i => [(1, pt m 0), (3, .int .i64 (Fm.sizes (f.kids.take i) + 1 : Nat)), (4, .int .i64 i)]) (fun i w' => Kp w1 w' ∧ i ≤ f.kids.length) (fun i => f.kids.length - i) 0 ⟨rfl, rfl, rfl, trivial⟩ ⟨Chg.refl _ _, by omega⟩ ?_
    rintro i e0 w2 ⟨hk2, hi2⟩
    have hm2 := hk2.own hm id
    have k02 := k1.trans hk2
    refine ld agree (Own.at_ (xs := [.slice a f.kids.length c]) hm2 rfl) (by rfl) ?_
    refine sp (fun h1 => ?_) (fun h1 => ?_)
    · have hi' : i < f.kids.length := by omega
      have hx := List.getElem?_eq_getElem hi'
      generalize f.kids[i] = x at hx
      obtain _ | n := n
      · exact (h.kid0 hx).elim
      obtain ⟨b, o, u, rfl, hlo, hhi, hrd, hku⟩ := h.kid hx
      obtain ⟨ua, uc, rfl, -⟩ := hku.slice
      have hst := sizes_take hx
      have hsl := sizes_take_le f.kids (i + 1)
      refine ld agree (Own.at_ (xs := [.slice (some ⟨b, o, none⟩) f.kids.length c]) hm2 rfl) (by rfl) ?_
      refine ne ⟨by omega, h1⟩ ?_
      refine ld agree (k02.range hrd id) (by rfl) ?_
      refine cl callSize3 (ih n (by omega) lo hi w2 _ x (hku.kp k02) (by omega)) ?_
      rintro _ w5 ⟨rfl, k5⟩
      refine aw (by omega) (by omega) ?_
      refine aw (by omega) (by omega) ?_
      refine again (i + 1) ⟨rfl, congrArg (Value.int .i64) (by rw [hst]; omega), rfl, trivial⟩ ⟨hk2.trans k5, by omega⟩ (by omega)
    · refine ⟨congrArg (Value.int .i64) ?_, k02⟩
      rw [hsz, show i = f.kids.length by omega, List.take_length]
theorem callDepth3 : callable Proofs.Tryz.prog 145 = true := by kernel_rfl
theorem depth3_c : ∀ (n lo hi : Nat) (w : World) (v : Value) (f : Fm), KidsN n lo hi w v f.kids → f.size < 4611686018427387904 →
    Calls Proofs.Tryz.prog 145 [fmA f v].toArray w (Ret fun r w' => r = .int .i64 f.depth ∧ Kp w w') := by
  intro n
  induction n using Nat.strongRecOn with
  | ind n ih =>
    intro lo hi w v f h hs
    obtain ⟨a, c, rfl, hc⟩ := h.slice
    have hkl := kids_le f.kids
    have hsz := size_kids f
    have hdp := depth_kids f
    have hds := Fm.depth_le_size f
    refine call agree Proofs.Tryz.func145 rfl Proofs.Tryz.ntmps145 (by kernel_rfl) ?_
    refine nd fun m w1 e1 e2 k1 hm => ?_
    have hm : Own w1 m 26 (fmC f (.slice a f.kids.length c)) := hm
    refine loop agree (σ := Nat) (fun i => [(1, pt m 0), (3, .int .i64 (Fm.depths (f.kids.take i))), (4, .int .i64 i)]) (fun i w' => Kp w1 w' ∧ i ≤ f.kids.length) (fun i => f.kids.length - i) 0 ⟨rfl, rfl, rfl, trivial⟩ ⟨Chg.refl _ _, by omega⟩ ?_
    rintro i e0 w2 ⟨hk2, hi2⟩
    have hm2 := hk2.own hm id
    have k02 := k1.trans hk2
    refine ld agree (Own.at_ (xs := [.slice a f.kids.length c]) hm2 rfl) (by rfl) ?_
    refine sp (fun h1 => ?_) (fun h1 => ?_)
    · have hi' : i < f.kids.length := by omega
      have hx := List.getElem?_eq_getElem hi'
      generalize f.kids[i] = x at hx
      obtain _ | n := n
      · exact (h.kid0 hx).elim
      obtain ⟨b, o, u, rfl, hlo, hhi, hrd, hku⟩ := h.kid hx
      obtain ⟨ua, uc, rfl, -⟩ := hku.slice
      have hst := depths_take hx
      have hsl := sizes_take_le f.kids (i + 1)
      have hst2 := sizes_take hx
      refine ld agree (Own.at_ (xs := [.slice (some ⟨b, o, none⟩) f.kids.length c]) hm2 rfl) (by rfl) ?_
      refine ne ⟨by omega, h1⟩ ?_
      refine ld agree (k02.range hrd id) (by rfl) ?_
      refine cl callDepth3 (ih n (by omega) lo hi w2 _ x (hku.kp k02) (by omega)) ?_
      rintro _ w5 ⟨rfl, k5⟩
      refine mxE (z := (max (Fm.depths (f.kids.take i)) x.depth : Nat)) rfl rfl rfl (by split <;> omega) ?_
      refine aw (by omega) (by omega) ?_
      refine again (i + 1) ⟨rfl, congrArg (Value.int .i64) (by rw [hst]), rfl, trivial⟩ ⟨hk2.trans k5, by omega⟩ (by omega)
    · have hil : i = f.kids.length := by omega
      subst hil
      rw [List.take_length] at *
      refine aw (by omega) (by omega) ?_
      exact ⟨congrArg (Value.int .i64) (by rw [hdp]; rfl), k02⟩
end Go.Au

namespace Go.Au
open Go Go.RowKit
open Fm (idx)

/-! ### the document's order of trees; what it finds -/
theorem cmpU_L (x y : List UInt8) : cmpU x y = Fm.cmpL (x.map UInt8.toNat) (y.map UInt8.toNat) := by
  induction x generalizing y with
  | nil => cases y <;> rfl
  | cons a x ih =>
    cases y with
    | nil => rfl
    | cons b y =>
      simp only [cmpU, List.map_cons, Fm.cmpL, ih]
      unfold Fm.sgn3 Fm.orI
      by_cases h : a < b
      · have h1 : a.toNat < b.toNat := UInt8.lt_iff_toNat_lt.1 h
        rw [if_pos h, if_pos h1, if_neg (by decide)]
      · have h1 : ¬ a.toNat < b.toNat := fun h2 => h (UInt8.lt_iff_toNat_lt.2 h2)
        by_cases h2 : b < a
        · have h3 : b.toNat < a.toNat := UInt8.lt_iff_toNat_lt.1 h2
          rw [if_neg h, if_pos h2, if_neg h1, if_pos h3, if_neg (by decide)]
        · have h3 : ¬ b.toNat < a.toNat := fun h4 => h2 (UInt8.lt_iff_toNat_lt.2 h4)
          rw [if_neg h, if_neg h2, if_neg h1, if_neg h3, if_pos rfl]
theorem cmpU_B (a b : ByteArray) : cmpU a.toList b.toList = Fm.cmpL (Fm.bytesI a) (Fm.bytesI b) := by
  rw [cmpU_L, Lib.toList_data, Lib.toList_data]
  rfl
theorem cmps_drop3 {k k' : List Fm} {i : Nat} {x y : Fm} (hx : k[i]? = some x) (hy : k'[i]? = some y) : Fm.cmps (k.drop i) (k'.drop i) = Fm.orI (Fm.cmp x y) (Fm.cmps (k.drop (i + 1)) (k'.drop (i + 1))) := by
  obtain ⟨h1, rfl⟩ := List.getElem?_eq_some_iff.1 hx
  obtain ⟨h2, rfl⟩ := List.getElem?_eq_some_iff.1 hy
  rw [List.drop_eq_getElem_cons h1, List.drop_eq_getElem_cons h2]
  rfl
theorem callCmp3 : callable Proofs.Tryz.prog 69 = true := by kernel_rfl
theorem rcmp_c : ∀ (n lo hi lo' hi' : Nat) (w : World) (v v' : Value) (f g : Fm), KidsN n lo hi w v f.kids → KidsN n lo' hi' w v' g.kids → f.size < 4611686018427387904 ∨ g.size < 4611686018427387904 →
    Calls Proofs.Tryz.prog 69 [fmA f v, fmA g v'].toArray w (Ret fun r w' => r = .int .i64 (Fm.cmp f g) ∧ Kp w w') := by
  intro n
  induction n using Nat.strongRecOn with
  | ind n ih =>
    intro lo hi lo' hi' w v v' f g h h' hs
    obtain ⟨a, c, rfl, hc⟩ := h.slice
    obtain ⟨a', c', rfl, hc'⟩ := h'.slice
    have hkl := kids_le f.kids
    have hsz := size_kids f
    have hkl2 := kids_le g.kids
    have hsz2 := size_kids g
    have hcm := cmp_orI f g
    rewrite [Fm.orI_assoc, Fm.orI_assoc] at hcm
    refine call agree Proofs.Tryz.func69 rfl Proofs.Tryz.ntmps69 (by kernel_rfl) ?_
    refine nd fun p w1 e1 s1 k1 m1 => ?_
    refine nd fun q w2 e2 s2 k2 m2 => ?_
    have m1 : Own w2 p 26 (fmC f (.slice a f.kids.length c)) := k2.own (show Own w1 p 26 (fmC f (.slice a f.kids.length c)) from m1) id
    have m2 : Own w2 q 26 (fmC g (.slice a' g.kids.length c')) := m2
    have k02 := k1.trans k2
    have lf := fun (W : World) (h : Kp w2 W) => Own.at_ (xs := [.int .u8 f.op]) (o := 0) (h.own m1 id) rfl
    refine ld agree (Own.at_ (xs := [.int .u8 f.op]) (o := 0) m1 rfl) (by rfl) ?_
    refine ld agree (Own.at_ (xs := [.int .u8 g.op]) (o := 0) m2 rfl) (by rfl) ?_
    refine sp (fun h1 => ?_) (fun h1 => ?_)
    · have hc1 : Fm.cmp f g = -1 := by
        rw [hcm]; unfold Fm.sgn3 Fm.orI
        rw [if_pos (by omega : f.op < g.op), if_neg (by decide)]
      exact ⟨congrArg (Value.int .i64) hc1.symm, k02⟩
    refine ld agree (Own.at_ (xs := [.int .u8 f.op]) (o := 0) m1 rfl) (by rfl) ?_
    refine ld agree (Own.at_ (xs := [.int .u8 g.op]) (o := 0) m2 rfl) (by rfl) ?_
    refine sp (fun h2 => ?_) (fun h2 => ?_)
    · have hc1 : Fm.cmp f g = 1 := by
        rw [hcm]
        have : Fm.sgn3 f.op g.op = 1 := by unfold Fm.sgn3; rw [if_neg (by omega), if_pos (by omega)]
        rw [this]; rfl
      exact ⟨congrArg (Value.int .i64) hc1.symm, k02⟩
    have hop : Fm.sgn3 f.op g.op = 0 := by unfold Fm.sgn3; rw [if_neg (by omega), if_neg (by omega)]
    rewrite [hop, show ∀ z, Fm.orI 0 z = z from fun z => rfl] at hcm
    refine ld agree (Own.at_ (xs := [.string f.name]) (o := 1) m1 rfl) (by rfl) ?_
    refine ld agree (Own.at_ (xs := [.string g.name]) (o := 1) m2 rfl) (by rfl) ?_
    refine strLt rfl rfl rfl (sp (fun h3 => ?_) (fun h3 => ?_))
    · rewrite [cmpU_B] at h3
      have hr := Fm.cmpL_range (Fm.bytesI f.name) (Fm.bytesI g.name)
      have hc1 : Fm.cmp f g = -1 := by
        rw [hcm, show Fm.cmpL (Fm.bytesI f.name) (Fm.bytesI g.name) = -1 by omega]; rfl
      exact ⟨congrArg (Value.int .i64) hc1.symm, k02⟩
    refine ld agree (Own.at_ (xs := [.string f.name]) (o := 1) m1 rfl) (by rfl) ?_
    refine ld agree (Own.at_ (xs := [.string g.name]) (o := 1) m2 rfl) (by rfl) ?_
    refine strGt rfl rfl rfl (sp (fun h4 => ?_) (fun h4 => ?_))
    · rewrite [cmpU_B] at h4
      have hr := Fm.cmpL_range (Fm.bytesI f.name) (Fm.bytesI g.name)
      have hc1 : Fm.cmp f g = 1 := by
        rw [hcm, show Fm.cmpL (Fm.bytesI f.name) (Fm.bytesI g.name) = 1 by omega]; rfl
      exact ⟨congrArg (Value.int .i64) hc1.symm, k02⟩
    rewrite [cmpU_B] at h3 h4
    rewrite [show Fm.cmpL (Fm.bytesI f.name) (Fm.bytesI g.name) = 0 by omega, show ∀ z, Fm.orI 0 z = z from fun z => rfl] at hcm
    refine ld agree (Own.at_ (xs := [.slice a f.kids.length c]) (o := 2) m1 rfl) (by rfl) ?_
    refine ld agree (Own.at_ (xs := [.slice a' g.kids.length c']) (o := 2) m2 rfl) (by rfl) ?_
    refine sp (fun h5 => ?_) (fun h5 => ?_)
    · have hc1 : Fm.cmp f g = -1 := by
        rw [hcm]; unfold Fm.sgn3 Fm.orI
        rw [if_pos (by omega : f.kids.length < g.kids.length), if_neg (by decide)]
      exact ⟨congrArg (Value.int .i64) hc1.symm, k02⟩
    refine ld agree (Own.at_ (xs := [.slice a f.kids.length c]) (o := 2) m1 rfl) (by rfl) ?_
    refine ld agree (Own.at_ (xs := [.slice a' g.kids.length c']) (o := 2) m2 rfl) (by rfl) ?_
    refine sp (fun h6 => ?_) (fun h6 => ?_)
    · have hc1 : Fm.cmp f g = 1 := by
        rw [hcm]
        have : Fm.sgn3 f.kids.length g.kids.length = 1 := by unfold Fm.sgn3; rw [if_neg (by omega), if_pos (by omega)]
        rw [this]; rfl
      exact ⟨congrArg (Value.int .i64) hc1.symm, k02⟩
    have hkk : f.kids.length = g.kids.length := by omega
    have hkz : Fm.sgn3 f.kids.length g.kids.length = 0 := by unfold Fm.sgn3; rw [if_neg (by omega), if_neg (by omega)]
    rewrite [hkz, show ∀ z, Fm.orI 0 z = z from fun z => rfl] at hcm
    refine loop agree (σ := Nat) (fun i => [(2, pt p 0), (3, pt q 0), (5, .int .i64 i)]) (fun i W => Kp w2 W ∧ i ≤ f.kids.length ∧ Fm.cmps f.kids g.kids = Fm.cmps (f.kids.drop i) (g.kids.drop i)) (fun i => f.kids.length - i) 0 ⟨rfl, rfl, rfl, trivial⟩ ⟨Chg.refl _ _, by omega, rfl⟩ ?_
    rintro i e0 W ⟨hkW, hik, hcs⟩
    have mp := hkW.own m1 id
    have mq := hkW.own m2 id
    have k0W := k02.trans hkW
    refine ld agree (Own.at_ (xs := [.slice a f.kids.length c]) (o := 2) mp rfl) (by rfl) ?_
    refine sp (fun h7 => ?_) (fun h7 => ?_)
    · have hlt : i < f.kids.length := by omega
      have hx := List.getElem?_eq_getElem hlt
      have hy := List.getElem?_eq_getElem (show i < g.kids.length by omega)
      generalize f.kids[i] = x at hx
      generalize g.kids[i]'(by omega) = y at hy
      obtain _ | n := n
      · exact (h.kid0 hx).elim
      obtain ⟨b, o, u, rfl, -, -, hrd, hku⟩ := h.kid hx
      obtain ⟨b', o', u', rfl, -, -, hrd', hku'⟩ := h'.kid hy
      obtain ⟨ua, uc, rfl, -⟩ := hku.slice
      obtain ⟨ua', uc', rfl, -⟩ := hku'.slice
      have hxs := Fm.sizes_mem (List.mem_of_getElem? hx)
      have hys := Fm.sizes_mem (List.mem_of_getElem? hy)
      refine drawn0 agree mixed 11 (by kernel_rfl) (fun _ => False) ?_
      conv => whnf
      refine ldk agree rfl rfl (fun V hV _ => Own.at_ (xs := [.slice (some ⟨b, o, none⟩) f.kids.length c]) (o := 2) (hV.own mp id) rfl) (by rfl) fun _ => ?_
      conv => whnf
      refine ne ⟨by omega, h7⟩ ?_
      conv => whnf
      refine ldk (v := fmA x (.slice ua x.kids.length uc)) agree rfl rfl (fun V hV _ => (k0W.trans hV).range hrd id) (by rfl) fun _ => ?_
      conv => whnf
      refine ldk agree rfl rfl (fun V hV _ => Own.at_ (xs := [.slice (some ⟨b', o', none⟩) g.kids.length c']) (o := 2) (hV.own mq id) rfl) (by rfl) fun _ => ?_
      conv => whnf
      refine ne ⟨by omega, by omega⟩ ?_
      conv => whnf
      refine ldk (v := fmA y (.slice ua' y.kids.length uc')) agree rfl rfl (fun V hV _ => (k0W.trans hV).range hrd' id) (by rfl) fun _ => ?_
      conv => whnf
      refine callk rfl rfl rfl callCmp3 (fun V hV _ => ih n (by omega) lo hi lo' hi' V _ _ x y (hku.kp (k0W.trans hV)) (hku'.kp (k0W.trans hV)) (by omega)) fun _ => ?_
      conv => whnf
      intro V hV _
      have hdr := cmps_drop3 hx hy
      refine sp (fun h8 => ?_) (fun h8 => ?_)
      · have hc1 : Fm.cmp f g = Fm.cmp x y := by
          rw [hcm, hcs, hdr]; unfold Fm.orI; rw [if_neg h8]
        exact ⟨congrArg (Value.int .i64) hc1.symm, k0W.trans hV⟩
      · have hz : Fm.cmp x y = 0 := Classical.byContradiction h8
        rewrite [hz, show ∀ z, Fm.orI 0 z = z from fun z => rfl] at hdr
        refine aw (by omega) (by omega) ?_
        exact again (i + 1) ⟨rfl, rfl, rfl, trivial⟩ ⟨hkW.trans hV, by omega, hcs.trans hdr⟩ (by omega)
    · have hil : i = f.kids.length := by omega
      have hc1 : Fm.cmp f g = 0 := by
        rw [hcm, hcs, List.drop_eq_nil_of_le (by omega), List.drop_eq_nil_of_le (by omega)]; rfl
      exact ⟨congrArg (Value.int .i64) hc1.symm, k0W⟩
theorem callFind3 : callable Proofs.Tryz.prog 50 = true := by kernel_rfl
theorem find_step {l : List Fm} {f x : Fm} {i : Nat} (h : f ∉ l.take i) (hx : l[i]? = some x) : (Fm.cmp x f = 0 → idx l f = i) ∧ (¬ Fm.cmp x f = 0 → f ∉ l.take (i + 1)) := by
  obtain ⟨hi, rfl⟩ := List.getElem?_eq_some_iff.1 hx
  constructor
  · intro h0
    have he := Fm.cmp_zero h0
    rcases Fm.idx_range (x := f) l with ⟨-, h1⟩ | ⟨j, h1, h2, h3⟩
    · exact absurd (he ▸ List.getElem_mem hi) h1
    · rw [h1]
      congr 1
      rcases Nat.lt_trichotomy j i with h4 | h4 | h4
      · exact absurd (List.mem_of_getElem? (i := j) (by rw [List.getElem?_take, if_pos h4]; exact h2)) h
      · exact h4
      · exact absurd (by rw [List.getElem?_eq_getElem hi, he]) (h3 i h4)
  · intro h0 hm
    rw [List.take_succ_eq_append_getElem hi, List.mem_append] at hm
    rcases hm with hm | hm
    · exact h hm
    · simp only [List.mem_singleton] at hm
      exact h0 (by rw [← hm]; exact Fm.cmp_self f)
theorem find3_c {n lo hi lo' hi' : Nat} {w : World} {v v' : Value} {l : List Fm} {f : Fm} (h : KidsN (n + 1) lo hi w v l) (h' : KidsN n lo' hi' w v' f.kids) (hs : ∀ x ∈ l, x.size < 4611686018427387904) (hll : l.length < 4611686018427387904) :
    Calls Proofs.Tryz.prog 50 [v, fmA f v'].toArray w (Ret fun r w' => r = .int .i64 (idx l f) ∧ Kp w w') := by
  obtain ⟨a, c, rfl, hc⟩ := h.slice
  obtain ⟨a', c', rfl, hc'⟩ := h'.slice
  refine call agree Proofs.Tryz.func50 rfl Proofs.Tryz.ntmps50 (by kernel_rfl) ?_
  refine nd fun q w1 e1 s1 k1 m1 => ?_
  have m1 : Own w1 q 26 (fmC f (.slice a' f.kids.length c')) := m1
  refine loop agree (σ := Nat) (fun i => [(0, .slice a l.length c), (3, pt q 0), (5, .int .i64 i)]) (fun i W => Kp w1 W ∧ i ≤ l.length ∧ f ∉ l.take i) (fun i => l.length - i) 0 ⟨rfl, rfl, rfl, trivial⟩ ⟨Chg.refl _ _, by omega, by simp⟩ ?_
  rintro i e0 W ⟨hkW, hil, hni⟩
  have k0W := k1.trans hkW
  refine sp (fun h1 => ?_) (fun h1 => ?_)
  · have hlt : i < l.length := by omega
    have hx := List.getElem?_eq_getElem hlt
    generalize l[i] = x at hx
    obtain ⟨b, o, u, rfl, -, -, hrd, hku⟩ := h.kid hx
    obtain ⟨ua, uc, rfl, -⟩ := hku.slice
    have hxs := hs x (List.mem_of_getElem? hx)
    have hst := find_step hni hx
    refine drawn0 agree mixed 7 (by kernel_rfl) (fun _ => False) ?_
    conv => whnf
    refine ne ⟨by omega, h1⟩ ?_
    conv => whnf
    refine ldk (v := fmA x (.slice ua x.kids.length uc)) agree rfl rfl (fun V hV _ => (k0W.trans hV).range hrd id) (by rfl) fun _ => ?_
    conv => whnf
    refine ldk (v := fmA f (.slice a' f.kids.length c')) agree rfl rfl (fun V hV _ => Own.all ((hkW.trans hV).own m1 id)) (by rfl) fun _ => ?_
    conv => whnf
    refine callk rfl rfl rfl callCmp3 (fun V hV _ => rcmp_c n lo hi lo' hi' V _ _ x f (hku.kp (k0W.trans hV)) (h'.kp (k0W.trans hV)) (by omega)) fun _ => ?_
    conv => whnf
    refine sp (fun h2 => ?_) (fun h2 => ?_)
    · conv => whnf
      intro V hV _
      exact ⟨congrArg (Value.int .i64) (hst.1 h2).symm, k0W.trans hV⟩
    · conv => whnf
      intro V hV _
      refine aw (by omega) (by omega) ?_
      exact again (i + 1) ⟨rfl, rfl, rfl, trivial⟩ ⟨hkW.trans hV, by omega, hst.2 h2⟩ (by omega)
  · rw [List.take_of_length_le (by omega)] at hni
    exact ⟨congrArg (Value.int .i64) (Fm.idx_none hni).symm, k0W⟩
end Go.Au

namespace Go.Au
open Go Go.RowKit
open Fm (idx)

/-! ### the document's names of a tree -/
theorem addN_len1 (l : List ByteArray) (f : Fm) : (Fm.addN l f).length ≤ l.length + 1 := by
  unfold Fm.addN
  split
  · simp
  · omega
theorem foldN_len : ∀ (fs : List Fm) (l : List ByteArray), (fs.foldl Fm.addN l).length ≤ l.length + fs.length
  | [], l => Nat.le_refl _
  | f :: fs, l => by
    have h1 := foldN_len fs (Fm.addN l f)
    have h2 := addN_len1 l f
    simp only [List.foldl_cons, List.length_cons]
    omega
theorem alls_len (k : List Fm) : (Fm.alls k).length = Fm.sizes k := by
  induction k with
  | nil => rfl
  | cons f r ih => simp only [Fm.alls, Fm.sizes, List.length_append, Fm.all_len, ih]
theorem callNames3 : callable Proofs.Tryz.prog 66 = true := by kernel_rfl
def NamesV (base : Nat) (w w' : World) (nv : Value) (L : List ByteArray) (r : Value) : Prop :=
  w'.ownsRow base 9 1 r L.length (L.flatMap fS1) ∧ Chg (fun j => some j = nv.ownBlock) w w' ∧ ∀ g, r.ownBlock = some g → nv.ownBlock = some g ∨ w.heap.size ≤ g
theorem names3_c : ∀ (n lo hi : Nat) (w : World) (v : Value) (f : Fm) (base : Nat) (nv : Value) (L : List ByteArray), w.ownsRow base 9 1 nv L.length (L.flatMap fS1) → KidsN n lo hi w v f.kids → hi ≤ base → base ≤ w.heap.size → L.length + f.size < 1000000000 →
    Calls Proofs.Tryz.prog 66 [fmA f v, nv].toArray w (Ret fun r w' => NamesV base w w' nv (f.all.foldl Fm.addN L) r) := by
  intro n
  induction n using Nat.strongRecOn with
  | ind n ih =>
    intro lo hi w v f base nv L hrow h hhi hbase hsz
    obtain ⟨a, c, rfl, hc⟩ := h.slice
    have hkl := kids_le f.kids
    have hfs := size_kids f
    have hnb : ∀ g, nv.ownBlock = some g → base ≤ g ∧ g < w.heap.size := fun g hg => ⟨ownsRow_base hrow hg, (hrow.lt g hg).2⟩
    have hnS : ∀ j, lo ≤ j → j < hi → ¬ some j = nv.ownBlock := fun j h1 h2 hj => by have := hnb j hj.symm; omega
    refine call agree Proofs.Tryz.func66 rfl Proofs.Tryz.ntmps66 (by kernel_rfl) ?_
    refine nd fun p w1 e1 s1 k1 m1 => ?_
    have m1 : Own w1 p 26 (fmC f (.slice a f.kids.length c)) := m1
    have hrow1 := ownsRow_chg hrow k1 fun _ _ => id
    refine ld agree (Own.at_ (xs := [.int .u8 f.op]) (o := 0) m1 rfl) (by rfl) ?_
    have hl1 := addN_len1 L f
    have hz1 := k1.size
    refine sp (fun h1 => ?_) (fun h1 => ?_)
    focus
      have h3 : f.op = 3 := Int.ofNat.inj h1
      refine ld agree (Own.at_ (xs := [.string f.name]) (o := 1) m1 rfl) (by rfl) ?_
      refine cl callPlace3 (place3_c (strs_own hrow1) (by omega) f.name) ?_
      rintro _ w2 ⟨rfl, k2⟩
      have k02 := k1.trans k2
      have hrow2 := ownsRow_chg hrow1 k2 fun _ _ => id
      have m2 := k2.own m1 id
      refine sp (fun h2 => ?_) (fun h2 => ?_)
      focus
        have hadd : Fm.addN L f = L ++ [f.name] := by unfold Fm.addN; rw [if_pos ⟨h3, h2⟩]
        refine ld agree (Own.at_ (xs := [.string f.name]) (o := 1) m2 rfl) (by rfl) ?_
        refine ne (by decide) ?_
        refine nd fun bo w3 e3 s3 k3 mo => ?_
        have mo : Own w3 bo 9 [.string f.name] := mo
        have hrow3 := ownsRow_chg hrow2 k3 fun _ _ => id
        have m3 := k3.own m2 id
        have hrg := row_slice hrow3
        obtain ⟨na, nc, rfl, -, -⟩ := hrg
        refine apP (m := 1) (news := [.string f.name]) agree rfl rfl rfl rfl rfl rfl rfl (by decide) hrow3 rfl (Own.at_ (o := 0) mo rfl) rfl (by simp only [maxLen]; omega) (by show (_ + 1) * 16 ≤ _; omega) (by have := k02.size; have := k3.size; omega) fun u W hrW hcW hnW _ => ?_
        have hN : NamesV base w W (.slice na L.length nc) (Fm.addN L f) u := by
          refine ⟨?_, ((k02.trans k3).mono fun _ h => h.elim).trans hcW, fun g hg => (hnW g hg).imp id fun h => by have := k02.size; have := k3.size; omega⟩
          rw [hadd, List.length_append, List.flatMap_append]
          exact hrW
        have hp : Own W p 26 (fmC f (.slice a f.kids.length c)) := hcW.own m3 fun hh => own_row_ne m3 hrow3 (by decide) p hh.symm rfl
      rotate_left
      focus
        have hadd : Fm.addN L f = L := by unfold Fm.addN; rw [if_neg (fun hh => h2 hh.2)]
        have hN : NamesV base w w2 nv (Fm.addN L f) nv := ⟨by rw [hadd]; exact hrow2, k02.mono fun _ h => h.elim, fun g hg => .inl hg⟩
        have hp := m2
    rotate_right
    focus
      have hadd : Fm.addN L f = L := by unfold Fm.addN; rw [if_neg (fun hh => h1 (by rw [hh.1]; rfl))]
      have hN : NamesV base w w1 nv (Fm.addN L f) nv := ⟨by rw [hadd]; exact hrow1, k1.mono fun _ h => h.elim, fun g hg => .inl hg⟩
      have hp := m1
    all_goals (
      refine loop agree (σ := Nat × Value) (fun s => [(1, s.2), (2, pt p 0), (5, .int .i64 (s.1 : Nat))]) (fun s V => s.1 ≤ f.kids.length ∧ NamesV base w V _ ((Fm.alls (f.kids.take s.1)).foldl Fm.addN (Fm.addN L f)) s.2 ∧ Own V p 26 (fmC f (.slice a f.kids.length c))) (fun s => f.kids.length - s.1) (0, _) ⟨rfl, rfl, rfl, trivial⟩ ⟨Nat.zero_le _, hN, hp⟩ ?_
      rintro ⟨i, ui⟩ e0 V ⟨hik, hNi, hpV⟩
      simp only at hik hNi
      refine ld agree (Own.at_ (xs := [.slice a f.kids.length c]) (o := 2) hpV rfl) (by rfl) ?_
      refine sp (fun h4 => ?_) (fun h4 => ?_)
      · have hlt : i < f.kids.length := by omega
        have hx := List.getElem?_eq_getElem hlt
        generalize f.kids[i] = x at hx
        obtain _ | n := n
        · exact (h.kid0 hx).elim
        obtain ⟨b, o, u2, rfl, hlo, hbh, hrd, hku⟩ := h.kid hx
        obtain ⟨ua, uc, rfl, -⟩ := hku.slice
        have hst := sizes_take hx
        have hsl := sizes_take_le f.kids (i + 1)
        have hfl := foldN_len (Fm.alls (f.kids.take i)) (Fm.addN L f)
        rewrite [alls_len] at hfl
        refine ld agree (Own.at_ (xs := [.slice (some ⟨b, o, none⟩) f.kids.length c]) (o := 2) hpV rfl) (by rfl) ?_
        refine ne ⟨by omega, h4⟩ ?_
        refine ld (v := fmA x (.slice ua x.kids.length uc)) agree (hNi.2.1.range hrd (hnS b hlo hbh)) (by rfl) ?_
        refine cl callNames3 (ih n (by omega) lo hi V _ x base ui _ hNi.1 (hku.chg hNi.2.1 hnS) hhi (by have := hNi.2.1.size; omega) (by omega)) ?_
        rintro r W5 hN5
        refine aw (by simp only; omega) (by simp only; omega) ?_
        refine again (i + 1, r) ⟨rfl, rfl, rfl, trivial⟩ ⟨by simp only; omega, ?_, ?_⟩ (by simp only; omega)
        · show NamesV base w W5 _ _ r
          rw [alls_take hx, List.foldl_append]
          refine ⟨hN5.1, hNi.2.1.newT hN5.2.1 fun j hj => (hNi.2.2 j hj.symm).imp Eq.symm id, fun g hg => ?_⟩
          rcases hN5.2.2 g hg with h5 | h5
          · exact hNi.2.2 g h5
          · have := hNi.2.1.size
            exact .inr (by omega)
        · exact hN5.2.1.own hpV fun hh => own_row_ne hpV hNi.1 (by decide) p hh.symm rfl
      · have hil : i = f.kids.length := by omega
        subst hil
        rewrite [List.take_length] at hNi
        have hfin : f.all.foldl Fm.addN L = (Fm.alls f.kids).foldl Fm.addN (Fm.addN L f) := by rw [all_kids]; rfl
        rewrite [← hfin] at hNi
        exact hNi)
theorem callNamesA3 : callable Proofs.Tryz.prog 16 = true := by kernel_rfl
theorem rnames_c {n lo hi : Nat} {w : World} {v : Value} {f : Fm} (h : KidsN n lo hi w v f.kids) (hh : hi ≤ w.heap.size) (hs : f.size < 100000000) :
    Calls Proofs.Tryz.prog 16 [fmA f v].toArray w (Ret fun r w' => Kp w w' ∧ w'.ownsRow w.heap.size 9 1 r (Fm.names f).length ((Fm.names f).flatMap fS1)) := by
  obtain ⟨a, c, rfl, hc⟩ := h.slice
  refine call agree Proofs.Tryz.func16 rfl Proofs.Tryz.ntmps16 (by kernel_rfl) ?_
  refine nd fun p w1 e1 s1 k1 m1 => ?_
  have m1 : Own w1 p 26 (fmC f (.slice a f.kids.length c)) := m1
  refine ld agree (Own.all m1) (by rfl) ?_
  have hc := names3_c n lo hi w1 _ f w1.heap.size nilS [] (World.ownsRow_nil _ _ _ _) (h.kp k1) (by omega) (Nat.le_refl _) (by simp only [List.length_nil]; omega)
  refine cl callNames3 hc ?_
  rintro r w2 ⟨q1, q2, -⟩
  exact ⟨k1.trans (q2.mono fun j hj => by cases hj), ownsRow_lo q1 k1.size⟩
end Go.Au

namespace Go.Au
open Go Go.RowKit
open Fm (idx)

/-! ### the document's formed, right -/
theorem kidsTab_low {o : Nat} (h : 0 ≤ Fm.kidsTab.getD o (-1)) : o < 22 := by
  rcases Nat.lt_or_ge o 22 with h1 | h1
  · exact h1
  · have hn : Fm.kidsTab[o]? = none := List.getElem?_eq_none (show 22 ≤ o from h1)
    rw [List.getD_eq_getElem?_getD, hn] at h
    exact absurd h (by decide)
theorem formed_eq (t : Nat → Bool) (f : Fm) : Fm.formed t f = (Fm.headOk t f.op f.name f.kids.length && Fm.formeds t f.kids) := by obtain ⟨o, n, k⟩ := f; rfl
theorem formeds_take {t : Nat → Bool} {k : List Fm} {i : Nat} {x : Fm} (h : k[i]? = some x) : Fm.formeds t (k.take (i + 1)) = (Fm.formeds t (k.take i) && Fm.formed t x) := by
  obtain ⟨hi, rfl⟩ := List.getElem?_eq_some_iff.1 h
  rw [List.take_succ_eq_append_getElem hi, Fm.formeds_all, Fm.formeds_all, List.all_append]
  simp
theorem formeds_no {t : Nat → Bool} {k : List Fm} {i : Nat} {x : Fm} (h : k[i]? = some x) (hx : Fm.formed t x = false) : Fm.formeds t k = false := by
  rw [Fm.formeds_all, List.all_eq_false]
  exact ⟨x, List.mem_of_getElem? h, by rw [hx]; decide⟩
theorem callFormed3 : callable Proofs.Tryz.prog 144 = true := by kernel_rfl
set_option maxHeartbeats 2000000 in
theorem formed3_c : ∀ (n lo hi : Nat) (w : World) (v : Value) (f : Fm), KidsN n lo hi w v f.kids → f.size < 4611686018427387904 →
    Calls Proofs.Tryz.prog 144 [fmA f v, .int .i64 2].toArray w (Ret fun r w' => r = .bool (Fm.formed Fm.future f) ∧ Kp w w') := by
  intro n
  induction n using Nat.strongRecOn with
  | ind n ih =>
    intro lo hi w v f h hs
    obtain ⟨a, c, rfl, hc⟩ := h.slice
    have hkl := kids_le f.kids
    have hsz := size_kids f
    have hfe := formed_eq Fm.future f
    refine call agree Proofs.Tryz.func144 rfl Proofs.Tryz.ntmps144 (by kernel_rfl) ?_
    refine nd fun p w1 e1 s1 k1 m1 => ?_
    have m1 : Own w1 p 26 (fmC f (.slice a f.kids.length c)) := m1
    refine ld agree (Own.at_ (xs := [.int .u8 f.op]) (o := 0) m1 rfl) (by rfl) ?_
    obtain ⟨kv, hkv⟩ : ∃ kv, kv = Fm.kidsTab.getD f.op (-1) := ⟨_, rfl⟩
    have hc1 := kids3_c w1 f.op
    rewrite [← hkv] at hc1
    refine cl callKids3 hc1 ?_
    rintro _ w2 ⟨rfl, k2⟩
    have m2 := k2.own m1 id
    refine ld agree (Own.at_ (xs := [.string f.name]) (o := 1) m2 rfl) (by rfl) ?_
    obtain ⟨nb, hnb⟩ : ∃ nb, nb = Fm.nameB f.name := ⟨_, rfl⟩
    have hc2 := name3_c w2 f.name
    rewrite [← hnb] at hc2
    refine cl callName3 hc2 ?_
    rintro _ w3 ⟨rfl, k3⟩
    have m3 := k3.own m2 id
    have k03 := (k1.trans k2).trans k3
    refine ld agree (Own.at_ (xs := [.int .u8 f.op]) (o := 0) m3 rfl) (by rfl) ?_
    refine sp (fun g1 => ?_) (fun g1 => ?_)
    focus
      refine ld agree (Own.at_ (xs := [.int .u8 f.op]) (o := 0) m3 rfl) (by rfl) ?_
      refine sp (fun g2 => ?_) (fun g2 => ?_)
    all_goals (
      refine ld agree (Own.at_ (xs := [.int .u8 f.op]) (o := 0) m3 rfl) (by rfl) ?_
      first | refine spF (by omega) ?_ | refine spT (by omega) ?_
      refine sp (fun h5 => ?_) (fun h5 => ?_)
      · have hbad : Fm.formed Fm.future f = false := by rw [hfe]; unfold Fm.headOk; rw [← hkv, decide_eq_false (p := 0 ≤ kv) (by omega)]; simp
        exact ⟨congrArg Value.bool hbad.symm, k03⟩
      have ho := kidsTab_low (o := f.op) (by rw [← hkv]; omega)
      refine ld agree (Own.at_ (xs := [.slice a f.kids.length c]) (o := 2) m3 rfl) (by rfl) ?_
      refine sp (fun h6 => ?_) (fun h6 => ?_)
      · have hbad : Fm.formed Fm.future f = false := by rw [hfe]; unfold Fm.headOk; rw [← hkv, decide_eq_false (p := (f.kids.length : Int) = kv) h6]; simp
        exact ⟨congrArg Value.bool hbad.symm, k03⟩
      have hlen : (f.kids.length : Int) = kv := Classical.byContradiction h6
      refine ld agree (Own.at_ (xs := [.int .u8 f.op]) (o := 0) m3 rfl) (by rfl) ?_
      refine sp (fun h7 => ?_) (fun h7 => ?_)
      focus
        have h3 : f.op = 3 := Int.ofNat.inj h7
        rcases nb with _ | _
        · have hbad : Fm.formed Fm.future f = false := by rw [hfe]; unfold Fm.headOk Fm.nmOk; rw [if_pos h3, ← hnb]; simp
          exact ⟨congrArg Value.bool hbad.symm, k03⟩
        have hnm : Fm.nmOk f.op f.name = true := by unfold Fm.nmOk; rw [if_pos h3, ← hnb]
        refine ld agree (Own.at_ (xs := [.int .u8 f.op]) (o := 0) m3 rfl) (by rfl) ?_
        refine spF (fun hh => hh h7) ?_
      rotate_left
      focus
        have h3 : ¬ f.op = 3 := fun hh => h7 (by rw [hh]; rfl)
        refine ld agree (Own.at_ (xs := [.int .u8 f.op]) (o := 0) m3 rfl) (by rfl) ?_
        refine spT h7 ?_
        refine ld agree (Own.at_ (xs := [.string f.name]) (o := 1) m3 rfl) (by rfl) ?_
        refine sp (fun h8 => ?_) (fun h8 => ?_)
        · have hbad : Fm.formed Fm.future f = false := by
            rw [hfe]; unfold Fm.headOk Fm.nmOk
            rw [if_neg h3, decide_eq_false (p := f.name.size = 0) (fun hh => h8 (empty_of hh))]; simp
          exact ⟨congrArg Value.bool hbad.symm, k03⟩
        have h9 : f.name = ⟨#[]⟩ := Classical.byContradiction h8
        have hnm : Fm.nmOk f.op f.name = true := by unfold Fm.nmOk; rw [if_neg h3, h9]; rfl
      all_goals (
        refine spF (by decide) ?_
        refine spT rfl ?_
        have hhead : Fm.headOk Fm.future f.op f.name f.kids.length = Fm.future f.op := by
          unfold Fm.headOk
          rw [← hkv, hnm, decide_eq_true ho, decide_eq_true (p := 0 ≤ kv) (by omega), decide_eq_true hlen]
          simp
        first
        | (have h16 : ¬ f.op < 16 := by omega
           have hbad : Fm.formed Fm.future f = false := by rw [hfe, hhead]; unfold Fm.future; rw [decide_eq_false h16]; rfl
           exact ⟨congrArg Value.bool hbad.symm, k03⟩)
        | (have h16 : f.op < 16 := by omega
           have hfk : Fm.formed Fm.future f = Fm.formeds Fm.future f.kids := by rw [hfe, hhead]; unfold Fm.future; rw [decide_eq_true h16]; rfl
           refine loop agree (σ := Nat) (fun i => [(1, .int .i64 2), (2, pt p 0), (5, .int .i64 kv), (9, .int .i64 (i : Nat))]) (fun i W => Kp w3 W ∧ i ≤ f.kids.length ∧ Fm.formeds Fm.future (f.kids.take i) = true) (fun i => f.kids.length - i) 0 ⟨rfl, rfl, rfl, rfl, trivial⟩ ⟨Chg.refl _ _, Nat.zero_le _, rfl⟩ ?_
           rintro i e0 W ⟨hkW, hik, hft⟩
           have k0W := k03.trans hkW
           refine sp (fun h10 => ?_) (fun h10 => ?_)
           · have hlt : i < f.kids.length := by omega
             have hx := List.getElem?_eq_getElem hlt
             generalize f.kids[i] = x at hx
             obtain _ | n := n
             · exact (h.kid0 hx).elim
             obtain ⟨b, o, u2, rfl, -, -, hrd, hku⟩ := h.kid hx
             obtain ⟨ua, uc, rfl, -⟩ := hku.slice
             have hxs := Fm.sizes_mem (List.mem_of_getElem? hx)
             refine ld agree (Own.at_ (xs := [.slice (some ⟨b, o, none⟩) f.kids.length c]) (o := 2) (hkW.own m3 id) rfl) (by rfl) ?_
             refine ne ⟨by omega, by omega⟩ ?_
             refine ld (v := fmA x (.slice ua x.kids.length uc)) agree (k0W.range hrd id) (by rfl) ?_
             obtain ⟨bx, hbx⟩ : ∃ bx, bx = Fm.formed Fm.future x := ⟨_, rfl⟩
             have hc3 := ih n (by omega) lo hi W _ x (hku.kp k0W) (by omega)
             rewrite [← hbx] at hc3
             refine cl callFormed3 hc3 ?_
             rintro _ w5 ⟨rfl, k5⟩
             rcases bx with _ | _
             · have hbad : Fm.formed Fm.future f = false := by rw [hfk]; exact formeds_no hx hbx.symm
               exact ⟨congrArg Value.bool hbad.symm, k0W.trans k5⟩
             · refine aw (by omega) (by omega) ?_
               exact again (i + 1) ⟨rfl, rfl, rfl, rfl, trivial⟩ ⟨hkW.trans k5, by omega, by rw [formeds_take hx, hft, ← hbx]; rfl⟩ (by omega)
           · have hil : i = f.kids.length := by omega
             rw [hil, List.take_length] at hft
             have hg : Fm.formed Fm.future f = true := by rw [hfk, hft]
             exact ⟨congrArg Value.bool hg.symm, k0W⟩)))
theorem callRight3 : callable Proofs.Tryz.prog 67 = true := by kernel_rfl
theorem callRightA3 : callable Proofs.Tryz.prog 17 = true := by kernel_rfl
theorem right3_c {n lo hi : Nat} {w : World} {v : Value} {f : Fm} (h : KidsN n lo hi w v f.kids) (hs : f.size < 4611686018427387904) :
    Calls Proofs.Tryz.prog 67 [fmA f v, .int .i64 2].toArray w (Ret fun r w' => r = .int .i64 (rightI f) ∧ Kp w w') := by
  obtain ⟨a, c, rfl, hc⟩ := h.slice
  refine call agree Proofs.Tryz.func67 rfl Proofs.Tryz.ntmps67 (by kernel_rfl) ?_
  refine nd fun p w1 e1 s1 k1 m1 => ?_
  have m1 : Own w1 p 26 (fmC f (.slice a f.kids.length c)) := m1
  refine ld agree (Own.all m1) (by rfl) ?_
  obtain ⟨b, hb⟩ : ∃ b, b = Fm.formed Fm.future f := ⟨_, rfl⟩
  have hc1 := formed3_c n lo hi w1 _ f (h.kp k1) hs
  rewrite [← hb] at hc1
  refine cl callFormed3 hc1 ?_
  rintro _ w2 ⟨rfl, k2⟩
  have k02 := k1.trans k2
  have m2 := k2.own m1 id
  rcases b with _ | _
  · have hr : rightI f = 30 := by unfold rightI Fm.rightE; rw [if_pos hb.symm]
    exact ⟨congrArg (Value.int .i64) hr.symm, k02⟩
  · refine ld agree (Own.all m2) (by rfl) ?_
    refine cl callSize3 (size3_c n lo hi w2 _ f (h.kp k02) hs) ?_
    rintro _ w3 ⟨rfl, k3⟩
    have k03 := k02.trans k3
    have hr1 : rightI f = if f.big = true then 31 else 0 := by unfold rightI Fm.rightE; rw [if_neg (by rw [← hb]; decide)]
    refine sp (fun h1 => ?_) (fun h1 => ?_)
    · have hr : rightI f = 31 := by rw [hr1]; unfold Fm.big; rw [decide_eq_true (p := 1000 < f.size) (by omega)]; rfl
      exact ⟨congrArg (Value.int .i64) hr.symm, k03⟩
    · refine ld agree (Own.all (k3.own m2 id)) (by rfl) ?_
      refine cl callDepth3 (depth3_c n lo hi w3 _ f (h.kp k03) hs) ?_
      rintro _ w4 ⟨rfl, k4⟩
      refine sp (fun h2 => ?_) (fun h2 => ?_)
      · have hr : rightI f = 31 := by rw [hr1]; unfold Fm.big; rw [decide_eq_true (p := 100 < f.depth) (by omega), Bool.or_true]; rfl
        exact ⟨congrArg (Value.int .i64) hr.symm, k03.trans k4⟩
      · have hr : rightI f = 0 := by rw [hr1]; unfold Fm.big; rw [decide_eq_false (p := 1000 < f.size) (by omega), decide_eq_false (p := 100 < f.depth) (by omega)]; rfl
        exact ⟨congrArg (Value.int .i64) hr.symm, k03.trans k4⟩
theorem rright_c {n lo hi : Nat} {w : World} {v : Value} {f : Fm} (h : KidsN n lo hi w v f.kids) (hs : f.size < 4611686018427387904) :
    Calls Proofs.Tryz.prog 17 [fmA f v].toArray w (Ret fun r w' => r = .int .i64 (rightI f) ∧ Kp w w') := by
  obtain ⟨a, c, rfl, hc⟩ := h.slice
  refine call agree Proofs.Tryz.func17 rfl Proofs.Tryz.ntmps17 (by kernel_rfl) ?_
  refine nd fun p w1 e1 s1 k1 m1 => ?_
  have m1 : Own w1 p 26 (fmC f (.slice a f.kids.length c)) := m1
  refine ld agree (Own.all m1) (by rfl) ?_
  refine cl callRight3 (right3_c (h.kp k1) hs) ?_
  rintro _ w2 ⟨rfl, k2⟩
  exact ⟨rfl, k1.trans k2⟩
end Go.Au

namespace Go.Au
open Go Go.RowKit
open Fm (idx)

/-! ### all that stands in a tree, told -/
theorem callDigits : callable Proofs.Tryz.prog 187 = true := by kernel_rfl
theorem digits_c : ∀ (k n : Nat) (w : World), n < 10 ^ (k + 1) → k < 18 → Calls Proofs.Tryz.prog 187 [.int .i64 n].toArray w (Ret fun r w' => (∃ s : ByteArray, r = .string s ∧ s.size ≤ k + 1) ∧ Kp w w') := by
  have hd : ∀ r : Nat, r < 10 → ((⟨#[48, 49, 50, 51, 52, 53, 54, 55, 56, 57]⟩ : ByteArray).extract r (r + 1)).size = 1 := by decide
  intro k
  induction k with
  | zero =>
    intro n w hn hk
    refine call agree Proofs.Tryz.func187 rfl Proofs.Tryz.ntmps187 (by kernel_rfl) ?_
    have hn10 : n < 10 := by simpa using hn
    refine ne (by decide) ?_
    refine arE (z' := ((n % 10 : Nat) : Int)) (by rw [Int.tmod_eq_emod_of_nonneg (by omega)]; rfl) ?_
    refine ne (by decide) ?_
    refine arE (z' := ((n % 10 : Nat) : Int)) (by rw [Int.tmod_eq_emod_of_nonneg (by omega)]; rfl) ?_
    refine arE (z' := ((n % 10 + 1 : Nat) : Int)) (by rw [wrap64 (by omega) (by omega)]; omega) ?_
    have h10 := hd (n % 10) (by omega)
    refine ne ⟨by omega, by omega, by show ((n % 10 + 1 : Nat) : Int) ≤ 10; omega⟩ ?_
    refine spT (by omega) ?_
    exact ⟨⟨_, rfl, Nat.le_of_eq h10⟩, Chg.refl _ _⟩
  | succ k ih =>
    intro n w hn hk
    have hpk : 10 ^ (k + 1 + 1) = 10 ^ (k + 1) * 10 := Nat.pow_succ 10 (k + 1)
    have hp18 : 10 ^ (k + 1) ≤ 10 ^ 17 := Nat.pow_le_pow_right (by decide) (by omega)
    refine call agree Proofs.Tryz.func187 rfl Proofs.Tryz.ntmps187 (by kernel_rfl) ?_
    refine ne (by decide) ?_
    refine arE (z' := ((n % 10 : Nat) : Int)) (by rw [Int.tmod_eq_emod_of_nonneg (by omega)]; rfl) ?_
    refine ne (by decide) ?_
    refine arE (z' := ((n % 10 : Nat) : Int)) (by rw [Int.tmod_eq_emod_of_nonneg (by omega)]; rfl) ?_
    refine arE (z' := ((n % 10 + 1 : Nat) : Int)) (by rw [wrap64 (by omega) (by omega)]; omega) ?_
    have h10 := hd (n % 10) (by omega)
    refine ne ⟨by omega, by omega, by show ((n % 10 + 1 : Nat) : Int) ≤ 10; omega⟩ ?_
    refine sp (fun h1 => ?_) (fun h1 => ?_)
    · exact ⟨⟨_, rfl, Nat.le_trans (Nat.le_of_eq h10) (by omega)⟩, Chg.refl _ _⟩
    · refine ne (by decide) ?_
      refine arE (z' := ((n / 10 : Nat) : Int)) (by rw [Int.tdiv_eq_ediv_of_nonneg (by omega), wrap64 (by omega) (by omega)]; rfl) ?_
      refine cl callDigits (ih (n / 10) w (by omega) (by omega)) ?_
      rintro _ w2 ⟨⟨s, rfl, hs⟩, k2⟩
      refine ne (by rw [show ((⟨#[48, 49, 50, 51, 52, 53, 54, 55, 56, 57]⟩ : ByteArray).extract ((n % 10 : Nat) : Int).toNat ((n % 10 + 1 : Nat) : Int).toNat).size = 1 from h10]; omega) ?_
      refine ⟨⟨_, rfl, ?_⟩, k2⟩
      rw [ByteArray.size_append, show ((⟨#[48, 49, 50, 51, 52, 53, 54, 55, 56, 57]⟩ : ByteArray).extract ((n % 10 : Nat) : Int).toNat ((n % 10 + 1 : Nat) : Int).toNat).size = 1 from h10]
      omega
abbrev Told := ByteArray × Fm × Value
def tdC (q : Told) : List Value := .string q.1 :: fmC q.2.1 q.2.2
theorem callTold : callable Proofs.Tryz.prog 162 = true := by kernel_rfl
def ToldV (n lo hi base : Nat) (w w' : World) (tv : Value) (all : List Fm) (L : List Told) (r : Value) : Prop :=
  ∃ M : List Told, M.map (·.2.1) = all ∧ (∀ q ∈ M, KidsN n lo hi w' q.2.2 q.2.1.kids) ∧ w'.ownsRow base 168 4 r (L ++ M).length ((L ++ M).flatMap tdC) ∧ Chg (fun j => some j = tv.ownBlock) w w' ∧ ∀ g, r.ownBlock = some g → tv.ownBlock = some g ∨ w.heap.size ≤ g
set_option maxHeartbeats 1000000 in
theorem told_c : ∀ (n lo hi : Nat) (w : World) (v : Value) (f : Fm) (base : Nat) (tv : Value) (L : List Told) (path : ByteArray), w.ownsRow base 168 4 tv L.length (L.flatMap tdC) → KidsN n lo hi w v f.kids → hi ≤ base → base ≤ w.heap.size → L.length + f.size < 1000000000 → path.size + 21 * f.depth < 1152921504606846976 →
    Calls Proofs.Tryz.prog 162 [.string path, fmA f v, tv].toArray w (Ret fun r w' => ToldV n lo hi base w w' tv f.all L r) := by
  intro n
  induction n using Nat.strongRecOn with
  | ind n ih =>
    intro lo hi w v f base tv L path hrow h hhi hbase hsz hpath
    have h0 := h
    obtain ⟨a, c, rfl, hc⟩ := h.slice
    have hkl := kids_le f.kids
    have hfs := size_kids f
    have hnb : ∀ g, tv.ownBlock = some g → base ≤ g ∧ g < w.heap.size := fun g hg => ⟨ownsRow_base hrow hg, (hrow.lt g hg).2⟩
    have hnS : ∀ j, lo ≤ j → j < hi → ¬ some j = tv.ownBlock := fun j h1 h2 hj => by have := hnb j hj.symm; omega
    refine call agree Proofs.Tryz.func162 rfl Proofs.Tryz.ntmps162 (by kernel_rfl) ?_
    refine nd fun p w1 e1 s1 k1 m1 => ?_
    have m1 : Own w1 p 26 (fmC f (.slice a f.kids.length c)) := m1
    have hrow1 := ownsRow_chg hrow k1 fun _ _ => id
    refine ld agree (Own.all m1) (by rfl) ?_
    refine ne (by decide) ?_
    refine nd fun bo w2 e2 s2 k2 mo => ?_
    have mo : Own w2 bo 168 (tdC (path, f, .slice a f.kids.length c)) := mo
    have hrow2 := ownsRow_chg hrow1 k2 fun _ _ => id
    have m2 := k2.own m1 id
    have k02 := k1.trans k2
    have hrg := row_slice hrow2
    obtain ⟨na, nc, rfl, -, -⟩ := hrg
    refine apP (m := 1) (size := 4) (news := tdC (path, f, .slice a f.kids.length c)) agree rfl rfl rfl rfl rfl rfl rfl (by decide) hrow2 rfl (Own.all mo) rfl (by simp only [maxLen]; omega) (by show (_ + 1) * 64 ≤ _; omega) (by have := k02.size; omega) fun u W hrW hcW hnW _ => ?_
    have hN : ToldV n lo hi base w W (.slice na L.length nc) [f] L u := by
      have hcc : Chg (fun j => some j = (Value.slice na L.length nc).ownBlock) w W := (k02.mono fun _ h => h.elim).trans hcW
      refine ⟨[(path, f, .slice a f.kids.length c)], rfl, fun q hq => ?_, ?_, hcc, fun g hg => (hnW g hg).imp id fun h => by have := k02.size; omega⟩
      · simp only [List.mem_singleton] at hq
        subst hq
        exact h0.chg hcc hnS
      · rw [List.length_append, List.flatMap_append]
        exact hrW
    have hp : Own W p 26 (fmC f (.slice a f.kids.length c)) := hcW.own m2 fun hh => own_row_ne m2 hrow2 (by decide) p hh.symm rfl
    refine loop agree (σ := Nat × Value × ByteArray) (fun s => [(0, .string path), (2, s.2.1), (4, pt p 0), (7, .int .i64 (s.1 : Nat))]) (fun s V => s.1 ≤ f.kids.length ∧ ToldV n lo hi base w V (.slice na L.length nc) (f :: Fm.alls (f.kids.take s.1)) L s.2.1 ∧ Own V p 26 (fmC f (.slice a f.kids.length c))) (fun s => f.kids.length - s.1) (0, u, path) ⟨rfl, rfl, rfl, rfl, trivial⟩ ⟨Nat.zero_le _, hN, hp⟩ ?_
    rintro ⟨i, ui, q0⟩ e0 V ⟨hik, hNi, hpV⟩
    simp only at hik hNi
    obtain ⟨M, hM, hMk, hMr, hMc, hMn⟩ := hNi
    have hMl : M.length = 1 + Fm.sizes (f.kids.take i) := by
      have := congrArg List.length hM
      rw [List.length_map, List.length_cons, alls_len] at this
      omega
    refine ld agree (Own.at_ (xs := [.slice a f.kids.length c]) (o := 2) hpV rfl) (by rfl) ?_
    refine sp (fun h4 => ?_) (fun h4 => ?_)
    · have hlt : i < f.kids.length := by omega
      have hx := List.getElem?_eq_getElem hlt
      have hdx := Fm.depth_kid (f := f) (List.getElem_mem hlt)
      generalize f.kids[i] = x at hx hdx
      obtain _ | n := n
      · exact (h.kid0 hx).elim
      obtain ⟨b, o, u2, rfl, hlo, hbh, hrd, hku⟩ := h.kid hx
      obtain ⟨ua, uc, rfl, -⟩ := hku.slice
      have hst := sizes_take hx
      have hsl := sizes_take_le f.kids (i + 1)
      refine cl callDigits (digits_c 17 i V (by omega) (by omega)) ?_
      rintro _ V2 ⟨⟨d, rfl, hd⟩, kd⟩
      have hcV : Chg (fun j => some j = (Value.slice na L.length nc).ownBlock) w V2 := hMc.newT kd fun _ h => h.elim
      have hpV2 := kd.own hpV id
      have hMr2 := ownsRow_chg hMr kd fun _ _ => id
      refine sp (fun h5 => ?_) (fun h5 => ?_)
      focus
        refine ne (by rw [show (⟨#[46]⟩ : ByteArray).size = 1 from rfl]; omega) ?_
        have hq1 : (path ++ (⟨#[46]⟩ : ByteArray)).size = path.size + 1 := by rw [ByteArray.size_append]; rfl
        refine ne (by rw [hq1]; omega) ?_
        have hq : ((path ++ (⟨#[46]⟩ : ByteArray)) ++ d).size + 21 * x.depth < 1152921504606846976 := by rw [ByteArray.size_append, hq1]; omega
      rotate_left
      focus
        have hq : d.size + 21 * x.depth < 1152921504606846976 := by omega
      all_goals (
        refine ld agree (Own.at_ (xs := [.slice (some ⟨b, o, none⟩) f.kids.length c]) (o := 2) hpV2 rfl) (by rfl) ?_
        refine ne ⟨by omega, h4⟩ ?_
        refine ld (v := fmA x (.slice ua x.kids.length uc)) agree (hcV.range hrd (hnS b hlo hbh)) (by rfl) ?_
        refine cl callTold (ih n (by omega) lo hi V2 _ x base ui (L ++ M) _ hMr2 (hku.chg hcV hnS) hhi (by have := hcV.size; omega) (by rw [List.length_append]; omega) hq) ?_
        rintro r W5 ⟨M', hM', hMk', hMr', hMc', hMn'⟩
        refine aw (by simp only; omega) (by simp only; omega) ?_
        refine again (i + 1, r, path) ⟨rfl, rfl, rfl, rfl, trivial⟩ ⟨by simp only; omega, ?_, ?_⟩ (by simp only; omega)
        · have hui : ∀ j, some j = ui.ownBlock → some j = (Value.slice na L.length nc).ownBlock ∨ w.heap.size ≤ j := fun j hj => (hMn j hj.symm).imp Eq.symm id
          have hnui : ∀ j, lo ≤ j → j < hi → ¬ some j = ui.ownBlock := fun j h1 h2 hj => (hui j hj).elim (hnS j h1 h2) fun h => by omega
          refine ⟨M ++ M', ?_, ?_, ?_, hcV.newT hMc' hui, fun g hg => ?_⟩
          · simp only
            rw [List.map_append, hM, hM', alls_take hx]
            rfl
          · intro q hq
            rcases List.mem_append.1 hq with hq | hq
            · exact ((hMk q hq).kp kd).chg hMc' hnui
            · exact (hMk' q hq).le (by omega)
          · rw [← List.append_assoc]
            exact hMr'
          · rcases hMn' g hg with h6 | h6
            · exact hMn g h6
            · have := hcV.size
              exact .inr (by omega)
        · exact hMc'.own hpV2 fun hh => own_row_ne hpV2 hMr2 (by decide) p hh.symm rfl)
    · have hil : i = f.kids.length := by omega
      subst hil
      rewrite [List.take_length, ← all_kids] at hM
      exact ⟨M, hM, hMk, hMr, hMc, hMn⟩
theorem callAll3 : callable Proofs.Tryz.prog 113 = true := by kernel_rfl
theorem all3_c {n lo hi : Nat} {w : World} {v : Value} {f : Fm} (h : KidsN n lo hi w v f.kids) (hh : hi ≤ w.heap.size) (hs : f.size < 100000000) :
    Calls Proofs.Tryz.prog 113 [fmA f v].toArray w (Ret fun r w' => Kp w w' ∧ ∃ M : List Told, M.map (·.2.1) = f.all ∧ (∀ q ∈ M, KidsN n lo hi w' q.2.2 q.2.1.kids) ∧ w'.ownsRow w.heap.size 168 4 r M.length (M.flatMap tdC)) := by
  obtain ⟨a, c, rfl, hc⟩ := h.slice
  have hds := Fm.depth_le_size f
  refine call agree Proofs.Tryz.func113 rfl Proofs.Tryz.ntmps113 (by kernel_rfl) ?_
  refine nd fun p w1 e1 s1 k1 m1 => ?_
  have m1 : Own w1 p 26 (fmC f (.slice a f.kids.length c)) := m1
  refine ld agree (Own.all m1) (by rfl) ?_
  have hc := told_c n lo hi w1 _ f w1.heap.size nilS [] ⟨#[]⟩ (World.ownsRow_nil _ _ _ _) (h.kp k1) (by omega) (Nat.le_refl _) (by simp only [List.length_nil]; omega) (by show 0 + 21 * f.depth < _; omega)
  refine cl callTold hc ?_
  rintro r w2 ⟨M, q1, q2, q3, q4, -⟩
  exact ⟨k1.trans (q4.mono fun j hj => by cases hj), M, q1, q2, ownsRow_lo q3 k1.size⟩
end Go.Au

namespace Go.Au
open Go
namespace Fm
theorem ins_at {x : Fm} : ∀ {l : List Fm} {k : Nat}, (∀ j y, j < k → l[j]? = some y → ord y x < 0) → (∀ y, l[k]? = some y → ¬ ord y x < 0) → k ≤ l.length → ins x l = if l[k]? = some x then l else l.take k ++ x :: l.drop k
  | [], k, _, _, hk => by
    have : k = 0 := by simpa using hk
    subst this
    rfl
  | y :: r, 0, _, h2, _ => by
    have hn := h2 y rfl
    have hneg := ord_neg x y
    simp only [ins, List.getElem?_cons_zero, List.take_zero, List.drop_zero, List.nil_append]
    by_cases he : y = x
    · subst he
      rw [ord_self, if_neg (by decide), if_pos rfl, if_pos rfl]
    · have hne : ord x y ≠ 0 := fun h => he (ord_zero h).symm
      rw [if_pos (by omega), if_neg (fun h => he (by injection h))]
  | y :: r, k + 1, h1, h2, hk => by
    have hy := h1 0 y (by omega) rfl
    have hneg := ord_neg x y
    have ih := ins_at (x := x) (l := r) (k := k) (fun j z hj hz => h1 (j + 1) z (by omega) (by simpa using hz)) (fun z hz => h2 z (by simpa using hz)) (by simpa using hk)
    simp only [ins, List.getElem?_cons_succ, List.take_succ_cons, List.drop_succ_cons, List.cons_append]
    rw [if_neg (by omega), if_neg (by omega), ih]
    split <;> rfl
def insL (o : List Fm) (x : Fm) : List Fm := ins x o
theorem foldl_sorted : ∀ (l o : List Fm), Sorted o → Sorted (l.foldl insL o)
  | [], o, h => h
  | x :: r, o, h => foldl_sorted r (insL o x) (ins_sorted h)
theorem foldl_mem {z : Fm} : ∀ (l o : List Fm), z ∈ l.foldl insL o ↔ z ∈ o ∨ z ∈ l
  | [], o => by simp
  | x :: r, o => by
    rw [List.foldl_cons, foldl_mem r (insL o x)]
    unfold insL
    rw [mem_ins]
    simp only [List.mem_cons]
    constructor
    · rintro ((h | h) | h)
      · exact .inr (.inl h)
      · exact .inl h
      · exact .inr (.inr h)
    · rintro (h | h | h)
      · exact .inl (.inr h)
      · exact .inl (.inl h)
      · exact .inr h
theorem foldl_subs (f : Fm) : f.all.foldl insL [] = f.subs := by
  refine sorted_eq (foldl_sorted _ _ List.Pairwise.nil) (subs_sorted f) fun z => ?_
  rw [foldl_mem, mem_subs]
  simp
theorem ins_len (x : Fm) : ∀ l : List Fm, (ins x l).length ≤ l.length + 1
  | [] => Nat.le_refl _
  | y :: r => by
    simp only [ins]
    split
    · simp
    · split
      · simp
      · have := ins_len x r
        simp only [List.length_cons]
        omega
theorem foldl_len : ∀ (l o : List Fm), (l.foldl insL o).length ≤ o.length + l.length
  | [], o => Nat.le_refl _
  | x :: r, o => by
    have h1 := foldl_len r (insL o x)
    have h2 := ins_len x o
    simp only [List.foldl_cons, List.length_cons]
    unfold insL at h1
    unfold insL
    omega
theorem ord_def (y x : Fm) : ord y x < 0 ↔ (y.size < x.size ∨ y.size = x.size ∧ cmp y x < 0) := by
  unfold ord orI sgn3
  by_cases h1 : y.size < x.size
  · simp [h1]
  · by_cases h2 : x.size < y.size
    · have h3 : ¬ y.size = x.size := by omega
      simp [h1, h2, h3]
    · have h3 : y.size = x.size := by omega
      simp [h1, h2, h3]
end Fm
end Go.Au

namespace Go.Au
open Go Go.RowKit
open Fm (idx)

/-! ### the document's Subs -/
abbrev FmS := Fm × Option Addr × Nat
def fsV (q : FmS) : Value := .slice q.2.1 q.1.kids.length q.2.2
def fsC (q : FmS) : List Value := fmC q.1 (fsV q)
theorem fsC_len (q : FmS) : (fsC q).length = 3 := rfl
theorem fsC_one (q : FmS) : (fsC q).all (·.oneCell') = true := rfl
theorem told_at {w : World} {b o : Nat} {q : Told} (h : w.rangeAt b o (tdC q)) : w.rangeAt b (o + 1) (fmC q.2.1 q.2.2) := fun j v hv => by
  have h1 := h (1 + j) v (by unfold tdC; rw [Nat.add_comm 1 j, List.getElem?_cons_succ]; exact hv)
  rw [show o + 1 + j = o + (1 + j) by omega]
  exact h1
theorem fs_row {base : Nat} {w : World} {v : Value} {O : List FmS} (h : w.ownsRow base 26 3 v O.length (O.flatMap fsC)) : RowE (fun _ cs q => cs = fsC q) 3 base w.heap.size w v O := ownsRow_row (f := fsC) fsC_len h (by decide)
theorem kids_rows {n lo hi lo' hi' : Nat} {w : World} {v : Value} {O : List FmS} (h : RowE (fun _ cs q => cs = fsC q) 3 lo' hi' w v O) (hk : ∀ q ∈ O, KidsN n lo hi w (fsV q) q.1.kids) (h1 : lo ≤ lo') (h2 : hi ≤ hi') : KidsN (n + 1) lo hi' w v (O.map (·.1)) := by
  obtain ⟨a, c, rfl, hc, hx⟩ := h
  refine ⟨a, c, by rw [List.length_map], by rw [List.length_map]; exact hc, fun i x hix => ?_⟩
  rw [List.getElem?_map] at hix
  cases hq : O[i]? with
  | none => rw [hq] at hix; cases hix
  | some q =>
    rw [hq] at hix
    injection hix with hix
    subst hix
    obtain ⟨b, o, e1, e2, e3, cs, e4, e5, rfl⟩ := hx i q hq
    exact ⟨b, o, e1, by omega, e3, fsC q, rfl, e5, fsV q, rfl, (hk q (List.mem_of_getElem? hq)).mono (Nat.le_refl _) h2⟩
theorem callSubs3 : callable Proofs.Tryz.prog 49 = true := by kernel_rfl
set_option maxHeartbeats 4000000 in
theorem rsubs_c {n lo hi : Nat} {w : World} {v : Value} {f : Fm} (h : KidsN n lo hi w v f.kids) (hh : hi ≤ w.heap.size) (hs : f.size < 100000000) :
    Calls Proofs.Tryz.prog 49 [fmA f v].toArray w (Ret fun r w' => Kp w w' ∧ ∃ O : List FmS, O.map (·.1) = f.subs ∧ (∀ q ∈ O, KidsN n lo hi w' (fsV q) q.1.kids) ∧ w'.ownsRow w.heap.size 26 3 r O.length (O.flatMap fsC)) := by
  obtain ⟨a, c, rfl, hc⟩ := h.slice
  refine call agree Proofs.Tryz.func49 rfl Proofs.Tryz.ntmps49 (by kernel_rfl) ?_
  refine nd fun p w1 e1 s1 k1 m1 => ?_
  have m1 : Own w1 p 26 (fmC f (.slice a f.kids.length c)) := m1
  refine ld agree (Own.all m1) (by rfl) ?_
  have hcA := all3_c (h.kp k1) (by omega) hs
  refine cl callAll3 hcA ?_
  rintro tv w2 ⟨k2, M, hM, hMk, hMr⟩
  have k02 := k1.trans k2
  have hMl : M.length = f.size := by
    have := congrArg List.length hM
    rw [List.length_map, Fm.all_len] at this
    exact this
  have hMx := ownsRow_row (f := tdC) (fun _ => rfl) hMr (by decide)
  obtain ⟨ta, tc, rfl, -, hMx⟩ := hMx
  refine loop agree (σ := Nat × Value × List FmS) (fun s => [(3, .slice ta M.length tc), (4, s.2.1), (5, .int .i64 (s.1 : Nat))]) (fun s W => s.1 ≤ M.length ∧ Kp w2 W ∧ W.ownsRow w2.heap.size 26 3 s.2.1 s.2.2.length (s.2.2.flatMap fsC) ∧ s.2.2.map (·.1) = (f.all.take s.1).foldl Fm.insL [] ∧ ∀ q ∈ s.2.2, KidsN n lo hi W (fsV q) q.1.kids) (fun s => M.length - s.1) (0, nilS, []) ⟨rfl, rfl, rfl, trivial⟩ ⟨Nat.zero_le _, Chg.refl _ _, World.ownsRow_nil _ _ _ _, rfl, fun q hq => by cases hq⟩ ?_
  rintro ⟨i, ov, O⟩ e0 W ⟨hiM, hkW, hrW, hO, hOk⟩
  simp only at hiM hrW hO hOk
  have hOm : ∀ q ∈ O, q.1 ∈ f.all := fun q hq => by
    have h1 : q.1 ∈ (f.all.take i).foldl Fm.insL [] := by rw [← hO]; exact List.mem_map.2 ⟨q, hq, rfl⟩
    rw [Fm.foldl_mem] at h1
    exact h1.elim (fun h => by cases h) List.mem_of_mem_take
  have hOs : ∀ q ∈ O, q.1.size ≤ f.size := fun q hq => by
    rcases Fm.all_size (hOm q hq) with h1 | h1
    · rw [h1]; omega
    · omega
  have hOl : O.length ≤ f.size := by
    have h1 := congrArg List.length hO
    have h2 := Fm.foldl_len (f.all.take i) []
    rw [List.length_map] at h1
    rw [List.length_take, List.length_nil] at h2
    omega
  refine sp (fun h1 => ?_) (fun h1 => ?_)
  · have hlt : i < M.length := by omega
    obtain ⟨q, hq⟩ : ∃ q, M[i]? = some q := ⟨_, List.getElem?_eq_getElem hlt⟩
    obtain ⟨pth, x, xv⟩ := q
    have hqm := List.mem_of_getElem? hq
    have hxk := hMk _ hqm
    simp only at hxk
    have hxs := hxk.slice
    obtain ⟨xa, xc, rfl, -⟩ := hxs
    have hxa : f.all[i]? = some x := by rw [← hM, List.getElem?_map, hq]; rfl
    have hxm := List.mem_of_getElem? hxa
    have hxz : x.size ≤ f.size := by
      rcases Fm.all_size hxm with h2 | h2
      · rw [h2]; omega
      · omega
    have htk : (f.all.take (i + 1)).foldl Fm.insL [] = Fm.ins x ((f.all.take i).foldl Fm.insL []) := by
      obtain ⟨hi2, rfl⟩ := List.getElem?_eq_some_iff.1 hxa
      rw [List.take_succ_eq_append_getElem hi2, List.foldl_append]
      rfl
    obtain ⟨mb, mo, rfl, -, -, cs, -, hrd, rfl⟩ := hMx i _ hq
    have hrgO := row_slice hrW
    obtain ⟨oa, oc, rfl, hocap, hob⟩ := hrgO
    refine ne ⟨by omega, h1⟩ ?_
    refine ld (cs := fmC x (.slice xa x.kids.length xc)) (v := fmA x (.slice xa x.kids.length xc)) agree (told_at (hkW.range hrd id)) (by rfl) ?_
    refine nd fun b6 w5 e5 s5 k5 m5 => ?_
    refine st agree m5 rfl (Nat.le_refl 3) rfl fun W6 e6 k6 m6 => ?_
    have m6 : Own W6 b6 26 (fmC x (.slice xa x.kids.length xc)) := m6
    have kW6 : Kp W W6 := k5.newS k6 (fun j hj => by subst hj; omega)
    have k26 := hkW.trans kW6
    have hr6 := ownsRow_chg hrW kW6 fun _ _ => id
    refine loop agree (σ := Nat) (fun s => [(3, .slice (some ⟨mb, mo, none⟩) M.length tc), (4, .slice oa O.length oc), (5, .int .i64 (i : Nat)), (6, pt b6 0), (7, .int .i64 (s : Nat))]) (fun s V => s ≤ O.length ∧ Kp W6 V ∧ ∀ j y, j < s → (O.map (·.1))[j]? = some y → Fm.ord y x < 0) (fun s => O.length - s) 0 ⟨rfl, rfl, rfl, rfl, rfl, trivial⟩ ⟨Nat.zero_le _, Chg.refl _ _, fun j y hj => absurd hj (Nat.not_lt_zero _)⟩ ?_
    rintro k e3 V ⟨hkO, hkV, hall⟩
    have hrV := ownsRow_chg hr6 hkV fun _ _ => id
    have hxV := fun (U : World) (hU : Kp V U) => (hxk.kp ((k26.trans hkV).trans hU))
    have hoV := fun (U : World) (hU : Kp V U) => (hkV.trans hU).own m6 id
    have hmV := fun (U : World) (hU : Kp V U) => Own.all (hoV U hU)
    have hel : ∀ (U : World), Kp V U → ∀ y, O[k]? = some y → ∃ b o, oa = some ⟨b, o, none⟩ ∧ U.rangeAt b (o + k * 3) (fsC y) := fun U hU y hy => by
      obtain ⟨a', c', he, -, hh⟩ := fs_row (ownsRow_chg hrV hU fun _ _ => id)
      injection he with he _ _
      subst he
      obtain ⟨b, o, e1, -, -, cs, -, e2, rfl⟩ := hh k y hy
      exact ⟨b, o, e1, e2⟩
    refine drawn0 agree mixed 33 (by kernel_rfl) (fun _ => False) ?_
    conv => whnf
    refine sp (fun g1 => ?_) (fun g1 => ?_)
    focus
      have hkl : k < O.length := by omega
      obtain ⟨y, hy⟩ : ∃ y, O[k]? = some y := ⟨_, List.getElem?_eq_getElem hkl⟩
      have hyt := hel V (Chg.refl _ _) y hy
      obtain ⟨yb, yo, rfl, -⟩ := hyt
      have hrdy : ∀ U, Kp V U → U.rangeAt yb (yo + k * 3) (fsC y) := fun U hU => by
        obtain ⟨b, o, e1, e2⟩ := hel U hU y hy
        injection e1 with e1
        injection e1 with e1 e3
        subst e1 e3
        exact e2
      have hym := List.mem_of_getElem? hy
      have hyk := fun (U : World) (hU : Kp V U) => (hOk y hym).kp (((kW6.trans hkV).trans hU))
      have hyz := hOs y hym
      have hymap : ∀ z, (O.map (·.1))[k]? = some z → z = y.1 := fun z hz => by
        rw [List.getElem?_map, hy] at hz
        injection hz with hz
        exact hz.symm
      conv => whnf
      refine ne ⟨by omega, g1⟩ ?_
      conv => whnf
      refine ldk (cs := fsC y) (v := fmA y.1 (fsV y)) agree rfl rfl (fun U hU _ => hrdy U hU) (by rfl) fun _ => ?_
      conv => whnf
      refine callk rfl rfl rfl callSize3 (fun U hU _ => size3_c n lo hi U _ y.1 (hyk U hU) (by omega)) fun _ => ?_
      conv => whnf
      refine ldk (v := fmA x (.slice xa x.kids.length xc)) agree rfl rfl (fun U hU _ => hmV U hU) (by rfl) fun _ => ?_
      conv => whnf
      refine callk rfl rfl rfl callSize3 (fun U hU _ => size3_c n lo hi U _ x (hxV U hU) (by omega)) fun _ => ?_
      conv => whnf
      refine sp (fun g2 => ?_) (fun g2 => ?_)
      · conv => whnf
        intro X kX _
        refine aw (by omega) (by omega) ?_
        refine again (k + 1) ⟨rfl, rfl, rfl, rfl, rfl, trivial⟩ ⟨by omega, hkV.trans kX, fun j z hj hz => ?_⟩ (by omega)
        rcases Nat.lt_or_ge j k with h5 | h5
        · exact hall j z h5 hz
        · have : j = k := by omega
          subst this
          rw [hymap z hz, Fm.ord_def]
          exact .inl (by omega)
      conv => whnf
      refine ne ⟨by omega, g1⟩ ?_
      conv => whnf
      refine ldk (cs := fsC y) (v := fmA y.1 (fsV y)) agree rfl rfl (fun U hU _ => hrdy U hU) (by rfl) fun _ => ?_
      conv => whnf
      refine callk rfl rfl rfl callSize3 (fun U hU _ => size3_c n lo hi U _ y.1 (hyk U hU) (by omega)) fun _ => ?_
      conv => whnf
      refine ldk (v := fmA x (.slice xa x.kids.length xc)) agree rfl rfl (fun U hU _ => hmV U hU) (by rfl) fun _ => ?_
      conv => whnf
      refine callk rfl rfl rfl callSize3 (fun U hU _ => size3_c n lo hi U _ x (hxV U hU) (by omega)) fun _ => ?_
      conv => whnf
      refine sp (fun g3 => ?_) (fun g3 => ?_)
      focus
        conv => whnf
        refine ne ⟨by omega, g1⟩ ?_
        conv => whnf
        refine ldk (cs := fsC y) (v := fmA y.1 (fsV y)) agree rfl rfl (fun U hU _ => hrdy U hU) (by rfl) fun _ => ?_
        conv => whnf
        refine ldk (v := fmA x (.slice xa x.kids.length xc)) agree rfl rfl (fun U hU _ => hmV U hU) (by rfl) fun _ => ?_
        conv => whnf
        refine callk rfl rfl rfl callCmp3 (fun U hU _ => rcmp_c n lo hi lo hi U _ _ y.1 x (hyk U hU) (hxV U hU) (by omega)) fun _ => ?_
        conv => whnf
        refine sp (fun g4 => ?_) (fun g4 => ?_)
        · conv => whnf
          intro X kX _
          refine aw (by omega) (by omega) ?_
          refine again (k + 1) ⟨rfl, rfl, rfl, rfl, rfl, trivial⟩ ⟨by omega, hkV.trans kX, fun j z hj hz => ?_⟩ (by omega)
          rcases Nat.lt_or_ge j k with h5 | h5
          · exact hall j z h5 hz
          · have : j = k := by omega
            subst this
            rw [hymap z hz, Fm.ord_def]
            exact .inr ⟨by omega, g4⟩
        conv => whnf
        intro X kX _
        have hst : ∀ z, (O.map (·.1))[k]? = some z → ¬ Fm.ord z x < 0 := fun z hz => by
          rw [hymap z hz, Fm.ord_def]
          exact fun hh => hh.elim (fun h => g2 (by omega)) fun h => g4 h.2
      rotate_left
      focus
        conv => whnf
        intro X kX _
        have hst : ∀ z, (O.map (·.1))[k]? = some z → ¬ Fm.ord z x < 0 := fun z hz => by
          rw [hymap z hz, Fm.ord_def]
          exact fun hh => hh.elim (fun h => g2 (by omega)) fun h => g3 (by omega)
    rotate_right
    focus
      conv => whnf
      intro X kX _
      have hst : ∀ z, (O.map (·.1))[k]? = some z → ¬ Fm.ord z x < 0 := fun z hz => by
        rw [List.getElem?_eq_none (by rw [List.length_map]; omega)] at hz
        cases hz
    all_goals (
      have hins : (f.all.take (i + 1)).foldl Fm.insL [] = if (O.map (·.1))[k]? = some x then O.map (·.1) else (O.map (·.1)).take k ++ x :: (O.map (·.1)).drop k := by
        rw [htk, ← hO]
        exact Fm.ins_at hall hst (by rw [List.length_map]; exact hkO)
      have hrX := ownsRow_chg hrV kX fun _ _ => id
      have hOX := fun (q : FmS) (hq : q ∈ O) => (hOk q hq).kp ((kW6.trans hkV).trans kX)
      refine drawn0 agree mixed 13 (by kernel_rfl) (fun _ => False) ?_
      conv => whnf
      refine sp (fun r1 => ?_) (fun r1 => ?_)
      focus
        have hkl2 : k < O.length := by omega
        obtain ⟨z, hz⟩ : ∃ z, O[k]? = some z := ⟨_, List.getElem?_eq_getElem hkl2⟩
        have hzt := hel X kX z hz
        obtain ⟨zb, zo, he0, -⟩ := hzt
        have hrdz : ∀ U, Kp X U → U.rangeAt zb (zo + k * 3) (fsC z) := fun U hU => by
          obtain ⟨b, o, e1, e2⟩ := hel U (kX.trans hU) z hz
          rw [he0] at e1
          injection e1 with e1
          injection e1 with e1 e3
          subst e1 e3
          exact e2
        have hzk := fun (U : World) (hU : Kp X U) => (hOX z (List.mem_of_getElem? hz)).kp hU
        have hzz := hOs z (List.mem_of_getElem? hz)
        have hzmap : (O.map (·.1))[k]? = some z.1 := by rw [List.getElem?_map, hz]; rfl
        first
        | subst he0
        | (injection he0 with he1
           injection he1 with he2 he3
           subst he2 he3)
        conv => whnf
        refine ne ⟨by omega, r1⟩ ?_
        conv => whnf
        refine ldk (cs := fsC z) (v := fmA z.1 (fsV z)) agree rfl rfl (fun U hU _ => hrdz U hU) (by rfl) fun _ => ?_
        conv => whnf
        refine ldk (v := fmA x (.slice xa x.kids.length xc)) agree rfl rfl (fun U hU _ => hmV U (kX.trans hU)) (by rfl) fun _ => ?_
        conv => whnf
        refine callk rfl rfl rfl callCmp3 (fun U hU _ => rcmp_c n lo hi lo hi U _ _ z.1 x (hzk U hU) (hxV U (kX.trans hU)) (by omega)) fun _ => ?_
        conv => whnf
        refine sp (fun r2 => ?_) (fun r2 => ?_)
        · conv => whnf
          intro Y hY _
          have hzx := Fm.cmp_zero r2
          rewrite [if_pos (by rw [hzmap, hzx])] at hins
          refine aw (by omega) (by omega) ?_
          exact again (i + 1, _, O) ⟨rfl, rfl, rfl, trivial⟩ ⟨by simp only; omega, (((k26.trans hkV).trans kX).trans hY), ownsRow_chg hrX hY fun _ _ => id, hins.symm, fun q hq => (hOX q hq).kp hY⟩ (by simp only; omega)
        conv => whnf
        intro Y hY _
        have hne : ¬ (O.map (·.1))[k]? = some x := fun hh => by
          rw [hzmap] at hh
          injection hh with hh
          exact r2 (by rw [hh]; exact Fm.cmp_self x)
      rotate_left
      focus
        conv => whnf
        intro Y hY _
        have hne : ¬ (O.map (·.1))[k]? = some x := fun hh => by
          rw [List.getElem?_eq_none (by rw [List.length_map]; omega)] at hh
          cases hh
      all_goals (
        rewrite [if_neg hne] at hins
        have hrY := ownsRow_chg hrX hY fun _ _ => id
        have hOY := fun (q : FmS) (hq : q ∈ O) => (hOX q hq).kp hY
        have hmY := hmV Y (kX.trans hY)
        have hxY := hxV Y (kX.trans hY)
        have k2Y := ((k26.trans hkV).trans kX).trans hY
        have hz2Y := k2Y.size
        have hfr := fs_row hrY
        have htl : (O.take k).length = k := by rw [List.length_take]; omega
        have hdl : (O.drop k).length = O.length - k := List.length_drop
        refine ne ⟨by omega, by omega, by omega⟩ ?_
        refine apV (f := fsC) (size := 3) agree rfl rfl rfl rfl rfl rfl rfl (by decide) (World.ownsRow_nil Y Y.heap.size _ _) fsC_len (rowT hfr (k := k) hkO) fsC_one (by simp only [maxLen]; omega) (by show (_ + _) * 48 ≤ _; omega) (Nat.le_refl _) ?_
        intro v1 Y1 o1 c1
        rewrite [Nat.zero_add, List.nil_append, htl] at o1
        have kY1 : Kp Y Y1 := c1.mono fun j hj => by cases hj
        refine ld (v := fmA x (.slice xa x.kids.length xc)) agree (Own.all (kY1.own (hoV Y (kX.trans hY)) id)) (by rfl) ?_
        refine ne (by decide) ?_
        refine nd fun bo Y2 f2 g2 j2 mo => ?_
        have mo : Own Y2 bo 26 (fmC x (.slice xa x.kids.length xc)) := mo
        have o2 := ownsRow_chg o1 j2 fun _ _ => id
        have hrg1 := row_slice o2
        obtain ⟨v1a, v1c, rfl, -, -⟩ := hrg1
        refine apP (m := 1) (size := 3) (news := fmC x (.slice xa x.kids.length xc)) agree rfl rfl rfl rfl rfl rfl rfl (by decide) o2 rfl (Own.all mo) rfl (by simp only [maxLen]; omega) (by show (_ + 1) * 48 ≤ _; omega) (by have := kY1.size; have := j2.size; omega) fun v2 Y3 o3 c3 n3 _ => ?_
        have kY3 : Kp Y Y3 := (kY1.trans j2).newS c3 fun g hg => ownsRow_base o2 hg.symm
        have hfr3 := fs_row (ownsRow_chg hrY kY3 fun _ _ => id)
        refine ne ⟨by omega, by omega, by omega⟩ ?_
        refine apV (f := fsC) (size := 3) agree rfl rfl rfl rfl rfl rfl rfl (by decide) o3 fsC_len (rowD hfr3 (k := k) hkO) fsC_one (by simp only [maxLen]; omega) (by show (_ + _) * 48 ≤ _; omega) (by have := kY3.size; omega) ?_
        intro v3 Y4 o4 c4
        have kY4 : Kp Y Y4 := kY3.newS c4 fun g hg => ownsRow_base o3 hg.symm
        have hmap : (O.take k ++ ((x, xa, xc) : FmS) :: O.drop k).map (·.1) = (O.map (·.1)).take k ++ x :: (O.map (·.1)).drop k := by
          rw [List.map_append, List.map_cons, List.map_take, List.map_drop]
        have hlen : (O.take k ++ ((x, xa, xc) : FmS) :: O.drop k).length = k + 1 + (O.drop k).length := by
          rw [List.length_append, htl, List.length_cons]; omega
        have hfl : (O.take k ++ ((x, xa, xc) : FmS) :: O.drop k).flatMap fsC = ((O.take k).flatMap fsC ++ fmC x (.slice xa x.kids.length xc)) ++ (O.drop k).flatMap fsC := by
          rw [List.flatMap_append, List.flatMap_cons, List.append_assoc]; rfl
        refine aw (by omega) (by omega) ?_
        refine again (i + 1, v3, O.take k ++ (x, xa, xc) :: O.drop k) ⟨rfl, rfl, rfl, trivial⟩ ⟨by simp only; omega, k2Y.trans kY4, ?_, ?_, fun q hq => ?_⟩ (by simp only; omega)
        · simp only
          rw [hlen, hfl]
          exact ownsRow_lo o4 hz2Y
        · simp only
          rw [hmap, hins]
        · simp only at hq
          rcases List.mem_append.1 hq with hq | hq
          · exact (hOY q (List.mem_of_mem_take hq)).kp kY4
          · rcases List.mem_cons.1 hq with hq | hq
            · subst hq
              exact hxY.kp kY4
            · exact (hOY q (List.mem_of_mem_drop hq)).kp kY4))
  · have hil : i = M.length := by omega
    subst hil
    have hta : f.all.take M.length = f.all := List.take_of_length_le (by rw [Fm.all_len]; omega)
    rewrite [hta, Fm.foldl_subs] at hO
    have hz2 := k02.size
    exact ⟨k02.trans hkW, O, hO, hOk, ownsRow_lo hrW hz2⟩
end Go.Au

namespace Go.Au
open Go Go.RowKit
open Fm (idx)

/-! ### how much is handed in -/
theorem callWeight : callable Proofs.Tryz.prog 111 = true := by kernel_rfl
def WeightV (f : Fm) (d : Nat) (r : Value) : Prop := ∃ z : Nat, r = .int .i64 z ∧ 1 ≤ z ∧ z ≤ 1152921504606846977 + 2147483648 * (2002 - d) ∧ (z ≤ 20000 → f.size ≤ z)
theorem weight_c : ∀ (n lo hi : Nat) (w : World) (v : Value) (f : Fm) (d : Nat), KidsN n lo hi w v f.kids → d ≤ 2001 → (∀ x ∈ f.all, x.kids.length < 4611686018427387904) → (∀ x ∈ f.all, x.name.size ≤ 1152921504606846976) →
    Calls Proofs.Tryz.prog 111 [fmA f v, .int .i64 d].toArray w (Ret fun r w' => WeightV f d r ∧ Kp w w') := by
  intro n
  induction n using Nat.strongRecOn with
  | ind n ih =>
    intro lo hi w v f d h hd hs hnm
    obtain ⟨a, c, rfl, hc⟩ := h.slice
    have hkl := kids_le f.kids
    have hsz := size_kids f
    have hn0 := hnm f (Fm.self_all f)
    have hkb := hs f (Fm.self_all f)
    refine call agree Proofs.Tryz.func111 rfl Proofs.Tryz.ntmps111 (by kernel_rfl) ?_
    refine nd fun p w1 e1 s1 k1 m1 => ?_
    have m1 : Own w1 p 26 (fmC f (.slice a f.kids.length c)) := m1
    refine ld agree (Own.at_ (xs := [.string f.name]) (o := 1) m1 rfl) (by rfl) ?_
    refine arE (z' := ((1 + f.name.size : Nat) : Int)) (by rw [wrap64 (by omega) (by omega)]; omega) ?_
    refine sp (fun h1 => ?_) (fun h1 => ?_)
    · exact ⟨⟨2147483648, rfl, by omega, by omega, fun h => by omega⟩, k1⟩
    refine loop agree (σ := Nat × Nat) (fun s => [(1, .int .i64 (d : Nat)), (2, pt p 0), (5, .int .i64 (s.2 : Nat)), (6, .int .i64 (s.1 : Nat))]) (fun s W => s.1 ≤ f.kids.length ∧ Kp w1 W ∧ 1 ≤ s.2 ∧ s.2 ≤ 1152921504606846977 + 2147483648 * (2002 - d) ∧ (s.2 ≤ 20000 → 1 + Fm.sizes (f.kids.take s.1) ≤ s.2)) (fun s => f.kids.length - s.1) (0, 1 + f.name.size) ⟨rfl, rfl, rfl, rfl, trivial⟩ ⟨Nat.zero_le _, Chg.refl _ _, by simp only; omega, by simp only; omega, fun _ => by simp only [List.take_zero, Fm.sizes]; omega⟩ ?_
    rintro ⟨i, z⟩ e0 W ⟨hik, hkW, hz1, hzb, hzs⟩
    simp only at hik hz1 hzb hzs
    have k0W := k1.trans hkW
    refine ld agree (Own.at_ (xs := [.slice a f.kids.length c]) (o := 2) (hkW.own m1 id) rfl) (by rfl) ?_
    refine sp (fun h2 => ?_) (fun h2 => ?_)
    · refine sp (fun h3 => ?_) (fun h3 => ?_)
      · have hlt : i < f.kids.length := by omega
        have hx := List.getElem?_eq_getElem hlt
        generalize f.kids[i] = x at hx
        obtain _ | n := n
        · exact (h.kid0 hx).elim
        obtain ⟨b, o, u2, rfl, -, -, hrd, hku⟩ := h.kid hx
        obtain ⟨ua, uc, rfl, -⟩ := hku.slice
        have hxm := List.mem_of_getElem? hx
        have hxs := Fm.sizes_mem hxm
        have hst := sizes_take hx
        refine ld agree (Own.at_ (xs := [.slice (some ⟨b, o, none⟩) f.kids.length c]) (o := 2) (hkW.own m1 id) rfl) (by rfl) ?_
        refine ne ⟨by omega, h2⟩ ?_
        refine ld (v := fmA x (.slice ua x.kids.length uc)) agree (k0W.range hrd id) (by rfl) ?_
        refine arE (z' := ((d + 1 : Nat) : Int)) (by rw [wrap64 (by omega) (by omega)]; omega) ?_
        refine cl callWeight (ih n (by omega) lo hi W _ x (d + 1) (hku.kp k0W) (by omega) (fun y hy => hs y (Fm.all_trans (Fm.kid_all hxm) hy)) fun y hy => hnm y (Fm.all_trans (Fm.kid_all hxm) hy)) ?_
        rintro _ w5 ⟨⟨y, rfl, hy1, hyb, hys⟩, k5⟩
        refine arE (z' := ((z + y : Nat) : Int)) (by rw [wrap64 (by simp only; omega) (by simp only; omega)]; simp only; omega) ?_
        refine aw (by omega) (by omega) ?_
        refine again (i + 1, z + y) ⟨rfl, rfl, rfl, rfl, trivial⟩ ⟨by simp only; omega, hkW.trans k5, by simp only; omega, by simp only; omega, fun hh => ?_⟩ (by simp only; omega)
        simp only at hh ⊢
        have := hzs (by omega)
        have := hys (by omega)
        omega
      · have h3 : ¬ (z : Int) ≤ 2147483647 := h3
        exact ⟨⟨z, rfl, hz1, hzb, fun h => by omega⟩, k0W⟩
    · have hil : i = f.kids.length := by omega
      subst hil
      rw [List.take_length] at hzs
      exact ⟨⟨z, rfl, hz1, hzb, fun h => by have := hzs h; omega⟩, k0W⟩
theorem callWeightA : callable Proofs.Tryz.prog 44 = true := by kernel_rfl
theorem weightA_c {n lo hi : Nat} {w : World} {v : Value} {f : Fm} (h : KidsN n lo hi w v f.kids) (hs : ∀ x ∈ f.all, x.kids.length < 4611686018427387904) (hnm : ∀ x ∈ f.all, x.name.size ≤ 1152921504606846976) :
    Calls Proofs.Tryz.prog 44 [fmA f v].toArray w (Ret fun r w' => WeightV f 0 r ∧ Kp w w') := by
  obtain ⟨a, c, rfl, hc⟩ := h.slice
  refine call agree Proofs.Tryz.func44 rfl Proofs.Tryz.ntmps44 (by kernel_rfl) ?_
  refine nd fun p w1 e1 s1 k1 m1 => ?_
  have m1 : Own w1 p 26 (fmC f (.slice a f.kids.length c)) := m1
  refine ld agree (Own.all m1) (by rfl) ?_
  refine cl callWeight (weight_c n lo hi w1 _ f 0 (h.kp k1) (by omega) hs hnm) ?_
  rintro _ w2 ⟨⟨z, rfl, h1⟩, k2⟩
  exact ⟨⟨z, rfl, h1⟩, k1.trans k2⟩
theorem callOfTexts : callable Proofs.Tryz.prog 45 = true := by kernel_rfl
theorem ofTexts_c {lo hi : Nat} {w : World} {v : Value} {l : List ByteArray} (h : Strs lo hi w v l) (hl : l.length < 4611686018427387904) (hnm : ∀ x ∈ l, x.size ≤ 1152921504606846976) :
    Calls Proofs.Tryz.prog 45 [v].toArray w (Ret fun r w' => (∃ z : Nat, r = .int .i64 z ∧ (z ≤ 1048576 → l.length ≤ z)) ∧ Kp w w') := by
  obtain ⟨a, c, rfl, hc, hx⟩ := h
  refine call agree Proofs.Tryz.func45 rfl Proofs.Tryz.ntmps45 (by kernel_rfl) ?_
  refine loop agree (σ := Nat × Nat) (fun s => [(0, .slice a l.length c), (3, .int .i64 (s.2 : Nat)), (4, .int .i64 (s.1 : Nat))]) (fun s W => W = w ∧ s.1 ≤ l.length ∧ s.2 ≤ 1152921504606846977 + 2147483648 ∧ (s.2 ≤ 1048576 → s.1 ≤ s.2)) (fun s => l.length - s.1) (0, 0) ⟨rfl, rfl, rfl, trivial⟩ ⟨rfl, Nat.zero_le _, Nat.zero_le _, fun _ => Nat.le_refl _⟩ ?_
  rintro ⟨i, z⟩ e0 W ⟨rfl, hik, hzb, hzs⟩
  simp only at hik hzb hzs
  refine sp (fun h2 => ?_) (fun h2 => ?_)
  · refine sp (fun h3 => ?_) (fun h3 => ?_)
    · have hlt : i < l.length := by omega
      obtain ⟨x, hxi⟩ : ∃ x, l[i]? = some x := ⟨_, List.getElem?_eq_getElem hlt⟩
      obtain ⟨b, o, rfl, -, -, cs, -, hrd, rfl⟩ := hx i x hxi
      have hxz := hnm x (List.mem_of_getElem? hxi)
      have h3 : (z : Int) ≤ 2147483647 := h3
      refine ne ⟨by omega, h2⟩ ?_
      refine ld agree hrd (by rfl) ?_
      refine arE (z' := ((1 + x.size : Nat) : Int)) (by rw [wrap64 (by omega) (by omega)]; omega) ?_
      refine arE (z' := ((z + (1 + x.size) : Nat) : Int)) (by rw [wrap64 (by simp only; omega) (by simp only; omega)]; simp only; omega) ?_
      refine aw (by omega) (by omega) ?_
      exact again (i + 1, z + (1 + x.size)) ⟨rfl, rfl, rfl, trivial⟩ ⟨rfl, by simp only; omega, by simp only; omega, fun hh => by simp only at hh ⊢; have := hzs (by omega); omega⟩ (by simp only; omega)
    · have h3 : ¬ (z : Int) ≤ 2147483647 := h3
      exact ⟨⟨z, rfl, fun h => by omega⟩, Chg.refl _ _⟩
  · have hil : i = l.length := by omega
    exact ⟨⟨z, rfl, fun h => by have := hzs h; omega⟩, Chg.refl _ _⟩
/-- how many unlike parts have a choice -/
def splitB (x : Fm) : Bool := decide (x.op = 6) || decide (x.op = 12) || decide (x.op = 13)
def splitsN (f : Fm) : Nat := (f.subs.filter splitB).length
theorem callSplits : callable Proofs.Tryz.prog 46 = true := by kernel_rfl
theorem splits_c {n lo hi : Nat} {w : World} {v : Value} {f : Fm} (h : KidsN n lo hi w v f.kids) (hh : hi ≤ w.heap.size) (hs : f.size < 100000000) :
    Calls Proofs.Tryz.prog 46 [fmA f v].toArray w (Ret fun r w' => r = .int .i64 (splitsN f) ∧ Kp w w') := by
  obtain ⟨a, c, rfl, hc⟩ := h.slice
  refine call agree Proofs.Tryz.func46 rfl Proofs.Tryz.ntmps46 (by kernel_rfl) ?_
  refine nd fun p w1 e1 s1 k1 m1 => ?_
  have m1 : Own w1 p 26 (fmC f (.slice a f.kids.length c)) := m1
  refine ld agree (Own.all m1) (by rfl) ?_
  have hcS := rsubs_c (h.kp k1) (by omega) hs
  refine cl callSubs3 hcS ?_
  rintro r w2 ⟨k2, O, hO, -, hr⟩
  have k02 := k1.trans k2
  have hOl : O.length ≤ f.size := by
    have h1 := congrArg List.length hO
    rw [List.length_map] at h1
    have := nodup_sub (Fm.subs_sorted f).nodup fun x hx => Fm.mem_subs.1 hx
    rw [Fm.all_len] at this
    omega
  obtain ⟨oa, oc, rfl, -, hx⟩ := fs_row hr
  have hcnt : splitsN f = (O.filter fun q => splitB q.1).length := by
    unfold splitsN
    rw [← hO, List.filter_map, List.length_map]
    rfl
  refine loop agree (σ := Nat × Nat) (fun s => [(3, .slice oa O.length oc), (4, .int .i64 (s.2 : Nat)), (5, .int .i64 (s.1 : Nat))]) (fun s W => W = w2 ∧ s.1 ≤ O.length ∧ s.2 = ((O.take s.1).filter fun q => splitB q.1).length ∧ s.2 ≤ s.1) (fun s => O.length - s.1) (0, 0) ⟨rfl, rfl, rfl, trivial⟩ ⟨rfl, Nat.zero_le _, rfl, Nat.le_refl _⟩ ?_
  rintro ⟨i, z⟩ e0 W ⟨rfl, hik, hz, hzi⟩
  simp only at hik hz hzi
  refine sp (fun h2 => ?_) (fun h2 => ?_)
  · have hlt : i < O.length := by omega
    obtain ⟨q, hq⟩ : ∃ q, O[i]? = some q := ⟨_, List.getElem?_eq_getElem hlt⟩
    obtain ⟨b, o, rfl, -, -, cs, -, hrd, rfl⟩ := hx i q hq
    have hop : W.rangeAt b (o + i * 3 + 0) [.int .u8 q.1.op] := fun j u hu => by
      have hj := (List.getElem?_eq_some_iff.1 hu).1
      have h5 := hrd j u ((List.getElem?_append_left (l₁ := [Value.int .u8 q.1.op]) (l₂ := [Value.string q.1.name, fsV q]) hj).trans hu)
      exact h5
    have htk : O.take (i + 1) = O.take i ++ [q] := by
      obtain ⟨h6, rfl⟩ := List.getElem?_eq_some_iff.1 hq
      exact List.take_succ_eq_append_getElem h6
    have hyes : splitB q.1 = true → z + 1 = ((O.take (i + 1)).filter fun q => splitB q.1).length := fun h => by
      rw [htk, List.filter_append, List.length_append, ← hz, List.filter_cons, if_pos h]; rfl
    have hno : splitB q.1 = false → z = ((O.take (i + 1)).filter fun q => splitB q.1).length := fun h => by
      rw [htk, List.filter_append, List.length_append, ← hz, List.filter_cons, if_neg (by rw [h]; decide)]; rfl
    refine ne ⟨by omega, h2⟩ ?_
    refine ld agree hop (by rfl) ?_
    refine sp (fun g1 => ?_) (fun g1 => ?_)
    · have : q.1.op = 6 := Int.ofNat.inj g1
      refine aw (by simp only; omega) (by simp only; omega) ?_
      refine aw (by omega) (by omega) ?_
      exact again (i + 1, z + 1) ⟨rfl, rfl, rfl, trivial⟩ ⟨rfl, by simp only; omega, hyes (by unfold splitB; rw [this]; rfl), by simp only; omega⟩ (by simp only; omega)
    refine ne ⟨by omega, h2⟩ ?_
    refine ld agree hop (by rfl) ?_
    refine sp (fun g2 => ?_) (fun g2 => ?_)
    · have : q.1.op = 12 := Int.ofNat.inj g2
      refine aw (by simp only; omega) (by simp only; omega) ?_
      refine aw (by omega) (by omega) ?_
      exact again (i + 1, z + 1) ⟨rfl, rfl, rfl, trivial⟩ ⟨rfl, by simp only; omega, hyes (by unfold splitB; rw [this]; rfl), by simp only; omega⟩ (by simp only; omega)
    refine ne ⟨by omega, h2⟩ ?_
    refine ld agree hop (by rfl) ?_
    refine sp (fun g3 => ?_) (fun g3 => ?_)
    · have : q.1.op = 13 := Int.ofNat.inj g3
      refine aw (by simp only; omega) (by simp only; omega) ?_
      refine aw (by omega) (by omega) ?_
      exact again (i + 1, z + 1) ⟨rfl, rfl, rfl, trivial⟩ ⟨rfl, by simp only; omega, hyes (by unfold splitB; rw [this]; rfl), by simp only; omega⟩ (by simp only; omega)
    · refine aw (by omega) (by omega) ?_
      refine again (i + 1, z) ⟨rfl, rfl, rfl, trivial⟩ ⟨rfl, by simp only; omega, hno ?_, by simp only; omega⟩ (by simp only; omega)
      unfold splitB
      rw [decide_eq_false (fun h => g1 (by rw [h]; rfl)), decide_eq_false (fun h => g2 (by rw [h]; rfl)), decide_eq_false (fun h => g3 (by rw [h]; rfl))]
      rfl
  · have hil : i = O.length := by omega
    subst hil
    rw [List.take_length] at hz
    exact ⟨congrArg (Value.int .i64) (by rw [hcnt, hz]), k02⟩
theorem callFar : callable Proofs.Tryz.prog 10 = true := by kernel_rfl
def FarV (f : Fm) (names : List ByteArray) (r : Value) : Prop := ∃ b, r = .bool b ∧ (b = false → f.size ≤ 20000 ∧ names.length ≤ 1048576 ∧ (f.right = true → splitsN f ≤ 9))
theorem far_c {n lo hi lo' hi' : Nat} {w : World} {v nv : Value} {f : Fm} {names : List ByteArray} (h : KidsN n lo hi w v f.kids) (hh : hi ≤ w.heap.size) (hs : ∀ x ∈ f.all, x.kids.length < 4611686018427387904) (hnm : ∀ x ∈ f.all, x.name.size ≤ 1152921504606846976) (hN : Strs lo' hi' w nv names) (hNl : names.length < 4611686018427387904) (hNs : ∀ x ∈ names, x.size ≤ 1152921504606846976) :
    Calls Proofs.Tryz.prog 10 [fmA f v, nv].toArray w (Ret fun r w' => FarV f names r ∧ Kp w w') := by
  obtain ⟨a, c, rfl, hc⟩ := h.slice
  refine call agree Proofs.Tryz.func10 rfl Proofs.Tryz.ntmps10 (by kernel_rfl) ?_
  refine nd fun p w1 e1 s1 k1 m1 => ?_
  have m1 : Own w1 p 26 (fmC f (.slice a f.kids.length c)) := m1
  refine ld agree (Own.all m1) (by rfl) ?_
  refine cl callWeightA (weightA_c (h.kp k1) hs hnm) ?_
  rintro _ w2 ⟨⟨z, rfl, -, -, hz⟩, k2⟩
  have k02 := k1.trans k2
  refine sp (fun h1 => ?_) (fun h1 => ?_)
  · exact ⟨⟨true, rfl, fun h => by cases h⟩, k02⟩
  have hfs := hz (by omega)
  refine cl callOfTexts (ofTexts_c (RowE.chg hN k02 (fun _ _ _ => id) fun _ _ h => h) hNl hNs) ?_
  rintro _ w3 ⟨⟨y, rfl, hy⟩, k3⟩
  have k03 := k02.trans k3
  refine sp (fun h2 => ?_) (fun h2 => ?_)
  · exact ⟨⟨true, rfl, fun h => by cases h⟩, k03⟩
  have hnl := hy (by omega)
  have m3 := (k2.trans k3).own m1 id
  refine ld agree (Own.all m3) (by rfl) ?_
  refine cl callRightA3 (rright_c (h.kp k03) (by omega)) ?_
  rintro _ w4 ⟨rfl, k4⟩
  have k04 := k03.trans k4
  refine sp (fun h3 => ?_) (fun h3 => ?_)
  · refine ld agree (Own.all (k4.own m3 id)) (by rfl) ?_
    refine cl callSplits (splits_c (h.kp k04) (by have := k04.size; omega) (by omega)) ?_
    rintro _ w5 ⟨rfl, k5⟩
    refine sp (fun h4 => ?_) (fun h4 => ?_)
    · exact ⟨⟨true, rfl, fun h => by cases h⟩, k04.trans k5⟩
    · exact ⟨⟨false, rfl, fun _ => ⟨by omega, by omega, fun _ => by omega⟩⟩, k04.trans k5⟩
  · exact ⟨⟨false, rfl, fun _ => ⟨by omega, by omega, fun hr => absurd (rightI_ok.2 hr) h3⟩⟩, k04⟩
end Go.Au

namespace Go.Au
open Go Go.RowKit
open Fm (idx)

/-! ### the document's count of a formula's forms (printed by genV8.py) -/
theorem rng_sub {w : World} {b o j : Nat} {cs ys : List Value} (h : w.rangeAt b o cs) (hx : (cs.drop j).take ys.length = ys) : w.rangeAt b (o + j) ys := fun i v hv => by
  have hi := (List.getElem?_eq_some_iff.1 hv).1
  rw [← hx, List.getElem?_take, if_pos hi, List.getElem?_drop] at hv
  have := h (j + i) v hv
  rw [show o + j + i = o + (j + i) by omega]
  exact this
abbrev Cnt := Fm.Cnt
def cntC (c : Cnt) : List Value := [.int .i64 (c.n : Nat), .int .i64 (c.d : Nat), .int .i64 (c.dn : Nat), .int .i64 (c.dd : Nat)]
def cntV (c : Cnt) : Value := .agg (cntC c).toArray
structure CntOk (c : Cnt) : Prop where
  n : c.n ≤ 100000
  d : c.d ≤ 100000
  dn : c.dn ≤ 100000
  dd : c.dd ≤ 100000
theorem cut_le (n : Nat) : Fm.cutC n ≤ 100000 := Nat.min_le_right _ _
theorem cntOk_zero : CntOk ⟨0, 0, 0, 0⟩ := ⟨by decide, by decide, by decide, by decide⟩
theorem ccomb_ok (o : Nat) (l : List Cnt) (h : ∀ c ∈ l, CntOk c) : CntOk (Fm.ccomb o l) := by
  have hg : ∀ i, CntOk (l.getD i ⟨0, 0, 0, 0⟩) := fun i => by
    rw [List.getD_eq_getElem?_getD]
    cases hi : l[i]? with
    | none => exact cntOk_zero
    | some c => exact h c (List.mem_of_getElem? hi)
  have h0 := hg 0
  unfold Fm.ccomb
  simp only
  split
  all_goals first
  | exact ⟨by decide, by decide, by decide, by decide⟩
  | exact ⟨h0.d, h0.n, h0.dd, h0.dn⟩
  | exact ⟨cut_le _, cut_le _, cut_le _, cut_le _⟩
theorem cnt_ok : ∀ f : Fm, CntOk (Fm.cnt f) := fun f => by
  refine Fm.ind (P := fun f => CntOk (Fm.cnt f)) ?_ f
  intro o n k ih
  simp only [Fm.cnt, Fm.cnts_map]
  refine ccomb_ok o _ fun c hc => ?_
  obtain ⟨x, hx, rfl⟩ := List.mem_map.1 hc
  exact ih x hx
theorem cnt_kids (f : Fm) : Fm.cnt f = Fm.ccomb f.op (f.kids.map Fm.cnt) := by obtain ⟨o, n, k⟩ := f; simp only [Fm.cnt, Fm.cnts_map]; rfl
theorem callCut7 : callable Proofs.Tryz.prog 224 = true := by kernel_rfl
theorem cut7_c (w : World) (n : Nat) : Calls Proofs.Tryz.prog 224 [.int .i64 n].toArray w (Ret fun r w' => r = .int .i64 (Fm.cutC n : Nat) ∧ Kp w w') := by
  refine call agree Proofs.Tryz.func224 rfl Proofs.Tryz.ntmps224 (by kernel_rfl) ?_
  refine mnE (z := (Fm.cutC n : Nat)) rfl rfl rfl (by unfold Fm.cutC; split <;> omega) ?_
  exact ⟨rfl, Chg.refl _ _⟩
theorem callJoined : callable Proofs.Tryz.prog 225 = true := by kernel_rfl
theorem joined_c (w : World) {a b x y : Nat} (ha : a ≤ 100000) (hb : b ≤ 100000) (hx : x ≤ 100000) (hy : y ≤ 100000) : Calls Proofs.Tryz.prog 225 [.int .i64 a, .int .i64 b, .int .i64 x, .int .i64 y].toArray w (Ret fun r w' => r = .tuple #[.int .i64 (Fm.jn a b : Nat), .int .i64 (Fm.jd x y : Nat)] ∧ Kp w w') := by
  refine call agree Proofs.Tryz.func225 rfl Proofs.Tryz.ntmps225 (by kernel_rfl) ?_
  refine arE (z' := ((a + b : Nat) : Int)) (by rw [wrap64 (by omega) (by omega)]; omega) ?_
  refine arE (z' := ((a + b + 1 : Nat) : Int)) (by rw [wrap64 (by omega) (by omega)]; omega) ?_
  refine cl callCut7 (cut7_c w (a + b + 1)) ?_
  rintro _ w2 ⟨rfl, k2⟩
  refine mxE (z := (max x y : Nat)) rfl rfl rfl (by split <;> omega) ?_
  refine arE (z' := ((max x y + 1 : Nat) : Int)) (by rw [wrap64 (by omega) (by omega)]; omega) ?_
  refine cl callCut7 (cut7_c w2 (max x y + 1)) ?_
  rintro _ w3 ⟨rfl, k3⟩
  exact ⟨rfl, k2.trans k3⟩
theorem cnts_take {k : List Fm} {i : Nat} {x : Fm} (h : k[i]? = some x) : (k.take (i + 1)).map Fm.cnt = (k.take i).map Fm.cnt ++ [Fm.cnt x] := by
  obtain ⟨hi, rfl⟩ := List.getElem?_eq_some_iff.1 h
  rw [List.take_succ_eq_append_getElem hi, List.map_append]
  rfl
theorem callCount7 : callable Proofs.Tryz.prog 178 = true := by kernel_rfl
set_option maxHeartbeats 8000000 in
theorem count_c : ∀ (n lo hi : Nat) (w : World) (v : Value) (f : Fm), KidsN n lo hi w v f.kids → Fm.formed Fm.future f = true →
    Calls Proofs.Tryz.prog 178 [fmA f v].toArray w (Ret fun r w' => r = cntV (Fm.cnt f) ∧ Kp w w') := by
  intro n
  induction n using Nat.strongRecOn with
  | ind n ih =>
    intro lo hi w v f h hf
    obtain ⟨a, c, rfl, hc⟩ := h.slice
    have hk2 := kids_two hf
    have hck := cnt_kids f
    refine call agree Proofs.Tryz.func178 rfl Proofs.Tryz.ntmps178 (by kernel_rfl) ?_
    refine nd fun p w1 e1 s1 k1 m1 => ?_
    have m1 : Own w1 p 26 (fmC f (.slice a f.kids.length c)) := m1
    refine nd fun bR w2 e2 s2 k2 mR => ?_
    have mR : Own w2 bR 248 (cntC ⟨0, 0, 0, 0⟩) := mR
    have m1 := k2.own m1 id
    have k02 := k1.trans k2
    refine loop agree (σ := Nat × Value) (fun s => [(1, pt p 0), (2, pt bR 0), (3, s.2), (4, .int .i64 (s.1 : Nat))]) (fun s W => s.1 ≤ f.kids.length ∧ Kp w2 W ∧ W.ownsRow w2.heap.size 248 4 s.2 s.1 (((f.kids.take s.1).map Fm.cnt).flatMap cntC)) (fun s => f.kids.length - s.1) (0, nilS) ⟨rfl, rfl, rfl, rfl, trivial⟩ ⟨Nat.zero_le _, Chg.refl _ _, World.ownsRow_nil _ _ _ _⟩ ?_
    rintro ⟨i, lv⟩ e0 W ⟨hik, hkW, hrW⟩
    simp only at hik hrW
    have k0W := k02.trans hkW
    have mW := hkW.own m1 id
    refine ld agree (Own.at_ (xs := [.slice a f.kids.length c]) (o := 2) mW rfl) (by rfl) ?_
    refine sp (fun h1 => ?_) (fun h1 => ?_)
    · have hlt : i < f.kids.length := by omega
      have hx := List.getElem?_eq_getElem hlt
      generalize f.kids[i] = x at hx
      obtain _ | n := n
      · exact (h.kid0 hx).elim
      obtain ⟨b, o, u2, rfl, -, -, hrd, hku⟩ := h.kid hx
      obtain ⟨ua, uc, rfl, -⟩ := hku.slice
      have hxm := List.mem_of_getElem? hx
      have hxf := Fm.formed_all hf (Fm.kid_all hxm)
      refine ld agree (Own.at_ (xs := [.slice (some ⟨b, o, none⟩) f.kids.length c]) (o := 2) mW rfl) (by rfl) ?_
      refine ne ⟨by omega, h1⟩ ?_
      refine ld (v := fmA x (.slice ua x.kids.length uc)) agree (k0W.range hrd id) (by rfl) ?_
      refine cl callCount7 (ih n (by omega) lo hi W _ x (hku.kp k0W) hxf) ?_
      rintro _ w5 ⟨rfl, k5⟩
      refine ne (by decide) ?_
      refine nd fun bo w6 e6 s6 k6 mo => ?_
      have mo : Own w6 bo 248 (cntC (Fm.cnt x)) := mo
      have hr6 := ownsRow_chg hrW (k5.trans k6) fun _ _ => id
      have hrg := row_slice hr6
      obtain ⟨la, lc, rfl, -, -⟩ := hrg
      refine apP (m := 1) (size := 4) (news := cntC (Fm.cnt x)) agree rfl rfl rfl rfl rfl rfl rfl (by decide) hr6 rfl (Own.all mo) rfl (by simp only [maxLen]; omega) (by show (_ + 1) * 32 ≤ _; omega) (by have := hkW.size; have := k5.size; have := k6.size; omega) fun v' w7 hr7 hc7 hn7 _ => ?_
      have k27 : Kp w2 w7 := ((hkW.trans k5).trans k6).newS hc7 fun g hg => ownsRow_base hr6 hg.symm
      refine aw (by simp only; omega) (by simp only; omega) ?_
      refine again (i + 1, v') ⟨rfl, rfl, rfl, rfl, trivial⟩ ⟨by simp only; omega, k27, ?_⟩ (by simp only; omega)
      simp only
      rw [cnts_take hx, List.flatMap_append]
      simpa using hr7
    have hil : i = f.kids.length := by omega
    subst hil
    rewrite [List.take_length] at hrW
    have hlm : (f.kids.map Fm.cnt).length = f.kids.length := List.length_map _
    rewrite [← hlm] at hrW
    have hrx := ownsRow_row (f := cntC) (fun _ => rfl) hrW (by decide)
    obtain ⟨la, lc, rfl, -, hlx⟩ := hrx
    have hel : ∀ j x, f.kids[j]? = some x → ∃ b o, la = some ⟨b, o, none⟩ ∧ W.rangeAt b (o + j * 4) (cntC (Fm.cnt x)) := fun j x hj => by
      obtain ⟨b, o, e1, -, -, cs, -, e2, rfl⟩ := hlx j (Fm.cnt x) (by rw [List.getElem?_map, hj]; rfl)
      exact ⟨b, o, e1, e2⟩
    have mRW := hkW.own mR id
    refine nd fun bC w3 e3 s3 k3 mC => ?_
    have mC : Own w3 bC 248 (cntC ⟨0, 0, 0, 0⟩) := mC
    have m3 := k3.own mW id
    have mR3 := k3.own mRW id
    have k03 := k0W.trans k3
    have hzR : bR < bC ∧ w.heap.size ≤ bR ∧ w.heap.size ≤ bC := by have := k1.size; have := hkW.size; omega
    refine ld agree (Own.at_ (xs := [.int .u8 f.op]) (o := 0) m3 rfl) (by rfl) ?_
    have hcases : ((f.op = 1 ∨ f.op = 2) ∧ f.kids = []) ∨ (f.op = 3 ∧ f.kids = []) ∨ ((f.op = 4 ∨ f.op = 9 ∨ f.op = 10 ∨ f.op = 11) ∧ ∃ x, f.kids = [x]) ∨ ((f.op = 5 ∨ f.op = 6 ∨ f.op = 7 ∨ f.op = 8 ∨ f.op = 12 ∨ f.op = 13 ∨ f.op = 14 ∨ f.op = 15) ∧ ∃ x y, f.kids = [x, y]) := by
      obtain ⟨o, nm, k⟩ := f
      rcases Fm.formed_cases hf with ⟨h, -, h2⟩ | ⟨h, h2⟩ | ⟨h, -, x, h2, -⟩ | ⟨h, -, x, y, h2, -⟩
      · exact .inl ⟨h, h2⟩
      · exact .inr (.inl ⟨h, h2⟩)
      · exact .inr (.inr (.inl ⟨h, x, h2⟩))
      · exact .inr (.inr (.inr ⟨h, x, y, h2⟩))
    rcases hcases with ⟨ho, hk⟩ | ⟨ho, hk⟩ | ⟨ho, x, hk⟩ | ⟨ho, x, y, hk⟩
    · have ho1 : f.op = 1 ∨ f.op = 2 := ho
      rcases ho with ho | ho
      · repeat (first | (refine spF (by omega) ?_) | (refine spT (by omega) ?_))
        refine st agree mR3 rfl (Nat.le_refl 4) rfl fun wz ez kz mz => ?_
        have mz : Own wz bR 248 (cntC ⟨1, 1, 1, 1⟩) := mz
        refine ld agree (Own.all mz) (by rfl) ?_
        have hfin : Fm.cnt f = ⟨1, 1, 1, 1⟩ := by rw [hck, ho]; rfl
        exact ⟨by rw [hfin]; rfl, (k03).newS kz fun g hg => by subst hg; omega⟩
      · repeat (first | (refine spF (by omega) ?_) | (refine spT (by omega) ?_))
        refine st agree mR3 rfl (Nat.le_refl 4) rfl fun wz ez kz mz => ?_
        have mz : Own wz bR 248 (cntC ⟨1, 1, 1, 1⟩) := mz
        refine ld agree (Own.all mz) (by rfl) ?_
        have hfin : Fm.cnt f = ⟨1, 1, 1, 1⟩ := by rw [hck, ho]; rfl
        exact ⟨by rw [hfin]; rfl, (k03).newS kz fun g hg => by subst hg; omega⟩
    · repeat (first | (refine spF (by omega) ?_) | (refine spT (by omega) ?_))
      refine st agree mR3 rfl (Nat.le_refl 4) rfl fun wz ez kz mz => ?_
      have mz : Own wz bR 248 (cntC ⟨1, 2, 1, 2⟩) := mz
      refine ld agree (Own.all mz) (by rfl) ?_
      have hfin : Fm.cnt f = ⟨1, 2, 1, 2⟩ := by rw [hck, ho]; rfl
      exact ⟨by rw [hfin]; rfl, (k03).newS kz fun g hg => by subst hg; omega⟩
    · have hel0 := hel 0 x (by rw [hk]; rfl)
      obtain ⟨b, o, rfl, hrd⟩ := hel0
      obtain ⟨A, hA⟩ : ∃ A, A = Fm.cnt x := ⟨_, rfl⟩
      have hAk := cnt_ok x
      rewrite [← hA] at hrd hAk
      have hkl : f.kids.length = 1 := by rw [hk]; rfl
      obtain ⟨hA1, hA2, hA3, hA4⟩ := hAk
      rcases ho with ho | ho | ho | ho
      · repeat (first | (refine spF (by omega) ?_) | (refine spT (by omega) ?_))
        refine drawn0 agree mixed 17 (by kernel_rfl) (fun _ => False) ?_
        conv => whnf
        refine ne ⟨by decide, by rw [hlm, hkl]; decide⟩ ?_
        conv => whnf
        refine ldk (cs := [.int .i64 (A.d : Nat)]) agree rfl rfl (fun V hV _ => (k3.trans hV).range (rng_sub (j := 1) (ys := [.int .i64 (A.d : Nat)]) hrd rfl) id) (by rfl) fun _ => ?_
        conv => whnf
        refine ne ⟨by decide, by rw [hlm, hkl]; decide⟩ ?_
        conv => whnf
        refine ldk (cs := [.int .i64 (A.n : Nat)]) agree rfl rfl (fun V hV _ => (k3.trans hV).range (rng_sub (j := 0) (ys := [.int .i64 (A.n : Nat)]) hrd rfl) id) (by rfl) fun _ => ?_
        conv => whnf
        refine ne ⟨by decide, by rw [hlm, hkl]; decide⟩ ?_
        conv => whnf
        refine ldk (cs := [.int .i64 (A.dd : Nat)]) agree rfl rfl (fun V hV _ => (k3.trans hV).range (rng_sub (j := 3) (ys := [.int .i64 (A.dd : Nat)]) hrd rfl) id) (by rfl) fun _ => ?_
        conv => whnf
        refine ne ⟨by decide, by rw [hlm, hkl]; decide⟩ ?_
        conv => whnf
        refine ldk (cs := [.int .i64 (A.dn : Nat)]) agree rfl rfl (fun V hV _ => (k3.trans hV).range (rng_sub (j := 2) (ys := [.int .i64 (A.dn : Nat)]) hrd rfl) id) (by rfl) fun _ => ?_
        conv => whnf
        intro V hV _
        refine st agree (hV.own mR3 id) rfl (Nat.le_refl 4) rfl fun wz ez kz mz => ?_
        have mz : Own wz bR 248 (cntC ⟨A.d, A.n, A.dd, A.dn⟩) := mz
        refine ld agree (Own.all mz) (by rfl) ?_
        have hfin : Fm.cnt f = ⟨A.d, A.n, A.dd, A.dn⟩ := by rw [hck, ho, hk, hA]; rfl
        exact ⟨by rw [hfin]; rfl, (k03.trans hV).newS kz fun g hg => by subst hg; omega⟩
      · repeat (first | (refine spF (by omega) ?_) | (refine spT (by omega) ?_))
        refine drawn0 agree mixed 25 (by kernel_rfl) (fun _ => False) ?_
        conv => whnf
        refine ne ⟨by decide, by rw [hlm, hkl]; decide⟩ ?_
        conv => whnf
        refine ldk (cs := [.int .i64 (A.n : Nat)]) agree rfl rfl (fun V hV _ => (k3.trans hV).range (rng_sub (j := 0) (ys := [.int .i64 (A.n : Nat)]) hrd rfl) id) (by rfl) fun _ => ?_
        conv => whnf
        refine arE (z' := ((A.n + 1 : Nat) : Int)) (by rw [wrap64 (by omega) (by omega)]; omega) ?_
        conv => whnf
        refine callk rfl rfl rfl callCut7 (fun V _ _ => cut7_c V (A.n + 1)) fun _ => ?_
        conv => whnf
        refine ne ⟨by decide, by rw [hlm, hkl]; decide⟩ ?_
        conv => whnf
        refine ldk (cs := [.int .i64 (A.d : Nat)]) agree rfl rfl (fun V hV _ => (k3.trans hV).range (rng_sub (j := 1) (ys := [.int .i64 (A.d : Nat)]) hrd rfl) id) (by rfl) fun _ => ?_
        conv => whnf
        refine arE (z' := ((A.d + 1 : Nat) : Int)) (by rw [wrap64 (by omega) (by omega)]; omega) ?_
        conv => whnf
        refine callk rfl rfl rfl callCut7 (fun V _ _ => cut7_c V (A.d + 1)) fun _ => ?_
        conv => whnf
        refine ne ⟨by decide, by rw [hlm, hkl]; decide⟩ ?_
        conv => whnf
        refine ldk (cs := [.int .i64 (A.dn : Nat)]) agree rfl rfl (fun V hV _ => (k3.trans hV).range (rng_sub (j := 2) (ys := [.int .i64 (A.dn : Nat)]) hrd rfl) id) (by rfl) fun _ => ?_
        conv => whnf
        refine arE (z' := ((A.dn + 1 : Nat) : Int)) (by rw [wrap64 (by omega) (by omega)]; omega) ?_
        conv => whnf
        refine callk rfl rfl rfl callCut7 (fun V _ _ => cut7_c V (A.dn + 1)) fun _ => ?_
        conv => whnf
        refine ne ⟨by decide, by rw [hlm, hkl]; decide⟩ ?_
        conv => whnf
        refine ldk (cs := [.int .i64 (A.dd : Nat)]) agree rfl rfl (fun V hV _ => (k3.trans hV).range (rng_sub (j := 3) (ys := [.int .i64 (A.dd : Nat)]) hrd rfl) id) (by rfl) fun _ => ?_
        conv => whnf
        refine arE (z' := ((A.dd + 1 : Nat) : Int)) (by rw [wrap64 (by omega) (by omega)]; omega) ?_
        conv => whnf
        refine callk rfl rfl rfl callCut7 (fun V _ _ => cut7_c V (A.dd + 1)) fun _ => ?_
        conv => whnf
        intro V hV _
        refine st agree (hV.own mR3 id) rfl (Nat.le_refl 4) rfl fun wz ez kz mz => ?_
        have mz : Own wz bR 248 (cntC ⟨Fm.cutC (A.n + 1), Fm.cutC (A.d + 1), Fm.cutC (A.dn + 1), Fm.cutC (A.dd + 1)⟩) := mz
        refine ld agree (Own.all mz) (by rfl) ?_
        have hfin : Fm.cnt f = ⟨Fm.cutC (A.n + 1), Fm.cutC (A.d + 1), Fm.cutC (A.dn + 1), Fm.cutC (A.dd + 1)⟩ := by rw [hck, ho, hk, hA]; rfl
        exact ⟨by rw [hfin]; rfl, (k03.trans hV).newS kz fun g hg => by subst hg; omega⟩
      · repeat (first | (refine spF (by omega) ?_) | (refine spT (by omega) ?_))
        refine drawn0 agree mixed 25 (by kernel_rfl) (fun _ => False) ?_
        conv => whnf
        refine ne ⟨by decide, by rw [hlm, hkl]; decide⟩ ?_
        conv => whnf
        refine ldk (cs := [.int .i64 (A.n : Nat)]) agree rfl rfl (fun V hV _ => (k3.trans hV).range (rng_sub (j := 0) (ys := [.int .i64 (A.n : Nat)]) hrd rfl) id) (by rfl) fun _ => ?_
        conv => whnf
        refine arE (z' := ((A.n + 2 : Nat) : Int)) (by rw [wrap64 (by omega) (by omega)]; omega) ?_
        conv => whnf
        refine callk rfl rfl rfl callCut7 (fun V _ _ => cut7_c V (A.n + 2)) fun _ => ?_
        conv => whnf
        refine ne ⟨by decide, by rw [hlm, hkl]; decide⟩ ?_
        conv => whnf
        refine ldk (cs := [.int .i64 (A.d : Nat)]) agree rfl rfl (fun V hV _ => (k3.trans hV).range (rng_sub (j := 1) (ys := [.int .i64 (A.d : Nat)]) hrd rfl) id) (by rfl) fun _ => ?_
        conv => whnf
        refine arE (z' := ((A.d + 2 : Nat) : Int)) (by rw [wrap64 (by omega) (by omega)]; omega) ?_
        conv => whnf
        refine callk rfl rfl rfl callCut7 (fun V _ _ => cut7_c V (A.d + 2)) fun _ => ?_
        conv => whnf
        refine ne ⟨by decide, by rw [hlm, hkl]; decide⟩ ?_
        conv => whnf
        refine ldk (cs := [.int .i64 (A.dn : Nat)]) agree rfl rfl (fun V hV _ => (k3.trans hV).range (rng_sub (j := 2) (ys := [.int .i64 (A.dn : Nat)]) hrd rfl) id) (by rfl) fun _ => ?_
        conv => whnf
        refine arE (z' := ((A.dn + 1 : Nat) : Int)) (by rw [wrap64 (by omega) (by omega)]; omega) ?_
        conv => whnf
        refine callk rfl rfl rfl callCut7 (fun V _ _ => cut7_c V (A.dn + 1)) fun _ => ?_
        conv => whnf
        refine ne ⟨by decide, by rw [hlm, hkl]; decide⟩ ?_
        conv => whnf
        refine ldk (cs := [.int .i64 (A.dd : Nat)]) agree rfl rfl (fun V hV _ => (k3.trans hV).range (rng_sub (j := 3) (ys := [.int .i64 (A.dd : Nat)]) hrd rfl) id) (by rfl) fun _ => ?_
        conv => whnf
        refine arE (z' := ((A.dd + 1 : Nat) : Int)) (by rw [wrap64 (by omega) (by omega)]; omega) ?_
        conv => whnf
        refine callk rfl rfl rfl callCut7 (fun V _ _ => cut7_c V (A.dd + 1)) fun _ => ?_
        conv => whnf
        intro V hV _
        refine st agree (hV.own mR3 id) rfl (Nat.le_refl 4) rfl fun wz ez kz mz => ?_
        have mz : Own wz bR 248 (cntC ⟨Fm.cutC (A.n + 2), Fm.cutC (A.d + 2), Fm.cutC (A.dn + 1), Fm.cutC (A.dd + 1)⟩) := mz
        refine ld agree (Own.all mz) (by rfl) ?_
        have hfin : Fm.cnt f = ⟨Fm.cutC (A.n + 2), Fm.cutC (A.d + 2), Fm.cutC (A.dn + 1), Fm.cutC (A.dd + 1)⟩ := by rw [hck, ho, hk, hA]; rfl
        exact ⟨by rw [hfin]; rfl, (k03.trans hV).newS kz fun g hg => by subst hg; omega⟩
      · repeat (first | (refine spF (by omega) ?_) | (refine spT (by omega) ?_))
        refine drawn0 agree mixed 25 (by kernel_rfl) (fun _ => False) ?_
        conv => whnf
        refine ne ⟨by decide, by rw [hlm, hkl]; decide⟩ ?_
        conv => whnf
        refine ldk (cs := [.int .i64 (A.n : Nat)]) agree rfl rfl (fun V hV _ => (k3.trans hV).range (rng_sub (j := 0) (ys := [.int .i64 (A.n : Nat)]) hrd rfl) id) (by rfl) fun _ => ?_
        conv => whnf
        refine arE (z' := ((A.n + 2 : Nat) : Int)) (by rw [wrap64 (by omega) (by omega)]; omega) ?_
        conv => whnf
        refine callk rfl rfl rfl callCut7 (fun V _ _ => cut7_c V (A.n + 2)) fun _ => ?_
        conv => whnf
        refine ne ⟨by decide, by rw [hlm, hkl]; decide⟩ ?_
        conv => whnf
        refine ldk (cs := [.int .i64 (A.d : Nat)]) agree rfl rfl (fun V hV _ => (k3.trans hV).range (rng_sub (j := 1) (ys := [.int .i64 (A.d : Nat)]) hrd rfl) id) (by rfl) fun _ => ?_
        conv => whnf
        refine arE (z' := ((A.d + 2 : Nat) : Int)) (by rw [wrap64 (by omega) (by omega)]; omega) ?_
        conv => whnf
        refine callk rfl rfl rfl callCut7 (fun V _ _ => cut7_c V (A.d + 2)) fun _ => ?_
        conv => whnf
        refine ne ⟨by decide, by rw [hlm, hkl]; decide⟩ ?_
        conv => whnf
        refine ldk (cs := [.int .i64 (A.dn : Nat)]) agree rfl rfl (fun V hV _ => (k3.trans hV).range (rng_sub (j := 2) (ys := [.int .i64 (A.dn : Nat)]) hrd rfl) id) (by rfl) fun _ => ?_
        conv => whnf
        refine arE (z' := ((A.dn + 1 : Nat) : Int)) (by rw [wrap64 (by omega) (by omega)]; omega) ?_
        conv => whnf
        refine callk rfl rfl rfl callCut7 (fun V _ _ => cut7_c V (A.dn + 1)) fun _ => ?_
        conv => whnf
        refine ne ⟨by decide, by rw [hlm, hkl]; decide⟩ ?_
        conv => whnf
        refine ldk (cs := [.int .i64 (A.dd : Nat)]) agree rfl rfl (fun V hV _ => (k3.trans hV).range (rng_sub (j := 3) (ys := [.int .i64 (A.dd : Nat)]) hrd rfl) id) (by rfl) fun _ => ?_
        conv => whnf
        refine arE (z' := ((A.dd + 1 : Nat) : Int)) (by rw [wrap64 (by omega) (by omega)]; omega) ?_
        conv => whnf
        refine callk rfl rfl rfl callCut7 (fun V _ _ => cut7_c V (A.dd + 1)) fun _ => ?_
        conv => whnf
        intro V hV _
        refine st agree (hV.own mR3 id) rfl (Nat.le_refl 4) rfl fun wz ez kz mz => ?_
        have mz : Own wz bR 248 (cntC ⟨Fm.cutC (A.n + 2), Fm.cutC (A.d + 2), Fm.cutC (A.dn + 1), Fm.cutC (A.dd + 1)⟩) := mz
        refine ld agree (Own.all mz) (by rfl) ?_
        have hfin : Fm.cnt f = ⟨Fm.cutC (A.n + 2), Fm.cutC (A.d + 2), Fm.cutC (A.dn + 1), Fm.cutC (A.dd + 1)⟩ := by rw [hck, ho, hk, hA]; rfl
        exact ⟨by rw [hfin]; rfl, (k03.trans hV).newS kz fun g hg => by subst hg; omega⟩
    · have hel0 := hel 0 x (by rw [hk]; rfl)
      have hel1 := hel 1 y (by rw [hk]; rfl)
      obtain ⟨b, o, rfl, hrd⟩ := hel0
      obtain ⟨b2, o2, he, hrd2⟩ := hel1
      injection he with he
      injection he with he1 he2
      subst he1 he2
      obtain ⟨A, hA⟩ : ∃ A, A = Fm.cnt x := ⟨_, rfl⟩
      obtain ⟨B, hB⟩ : ∃ B, B = Fm.cnt y := ⟨_, rfl⟩
      have hAk := cnt_ok x
      have hBk := cnt_ok y
      rewrite [← hA] at hrd hAk
      rewrite [← hB] at hrd2 hBk
      have hkl : f.kids.length = 2 := by rw [hk]; rfl
      obtain ⟨hA1, hA2, hA3, hA4⟩ := hAk
      obtain ⟨hB1, hB2, hB3, hB4⟩ := hBk
      have hop : 5 ≤ f.op ∧ f.op ≤ 15 ∧ f.op ≠ 9 ∧ f.op ≠ 10 ∧ f.op ≠ 11 := by omega
      iterate 7 refine spF (by omega) ?_
      refine ne ⟨by decide, by rw [hlm, hkl]; decide⟩ ?_
      refine ld (v := cntV A) agree (k3.range hrd id) (by rfl) ?_
      refine nd fun bA w4 e4 s4 k4 mA => ?_
      refine st agree mA rfl (Nat.le_refl 4) rfl fun w5 e5 k5 mA => ?_
      have mA : Own w5 bA 248 (cntC A) := mA
      have k35 : Kp w3 w5 := k4.newS k5 (fun j hj => by subst hj; omega)
      refine ne ⟨by decide, by rw [hlm, hkl]; decide⟩ ?_
      refine ld (v := cntV B) agree ((k3.trans k35).range hrd2 id) (by rfl) ?_
      refine nd fun bB w6 e6 s6 k6 mB => ?_
      refine st agree mB rfl (Nat.le_refl 4) rfl fun w7 e7 k7 mB => ?_
      have mB : Own w7 bB 248 (cntC B) := mB
      have k57 : Kp w5 w7 := k6.newS k7 (fun j hj => by subst hj; omega)
      have mA := k57.own mA id
      have k37 := k35.trans k57
      have k07 := k03.trans k37
      have m7 := k37.own m3 id
      have mR7 := k37.own mR3 id
      have mC7 := k37.own mC id
      have hzB : bC < bA ∧ bA < bB := by have := k3.size; omega
      clear mR3 mC m3 mRW mW
      refine ld agree (Own.at_ (xs := [.int .u8 f.op]) (o := 0) m7 rfl) (by rfl) ?_
      rcases ho with ho | ho | ho | ho | ho | ho | ho | ho
      · repeat (first | (refine spF (by omega) ?_) | (refine spT (by omega) ?_))
        refine ld agree (Own.at_ (xs := [.int .i64 (A.n : Nat)]) (o := 0) mA rfl) (by rfl) ?_
        refine ld agree (Own.at_ (xs := [.int .i64 (B.n : Nat)]) (o := 0) mB rfl) (by rfl) ?_
        refine ld agree (Own.at_ (xs := [.int .i64 (A.dn : Nat)]) (o := 2) mA rfl) (by rfl) ?_
        refine ld agree (Own.at_ (xs := [.int .i64 (B.dn : Nat)]) (o := 2) mB rfl) (by rfl) ?_
        refine cl callJoined (joined_c w7 hA1 hB1 hA3 hB3) ?_
        rintro _ w8 ⟨rfl, k8⟩
        have mA := k8.own mA id
        have mB := k8.own mB id
        have mR8 := k8.own mR7 id
        have mC8 := k8.own mC7 id
        have k08 := k07.trans k8
        refine st agree mC8 rfl (show 1 ≤ 4 by decide) rfl fun w9 e9 k9 mC9 => ?_
        have mC9 : Own w9 bC 248 (cntC ⟨Fm.jn (A.n) (B.n), 0, 0, 0⟩) := mC9
        have mA := k9.own mA (by omega)
        have mB := k9.own mB (by omega)
        have mR9 := k9.own mR8 (by omega)
        have k09 := k08.newS k9 fun g hg => by subst hg; omega
        refine st agree mC9 rfl (show 3 ≤ 4 by decide) rfl fun w10 e10 k10 mC10 => ?_
        have mC10 : Own w10 bC 248 (cntC ⟨Fm.jn (A.n) (B.n), 0, Fm.jd (A.dn) (B.dn), 0⟩) := mC10
        have mA := k10.own mA (by omega)
        have mB := k10.own mB (by omega)
        have mR10 := k10.own mR9 (by omega)
        have k010 := k09.newS k10 fun g hg => by subst hg; omega
        refine ld agree (Own.at_ (xs := [.int .i64 (A.d : Nat)]) (o := 1) mA rfl) (by rfl) ?_
        refine ld agree (Own.at_ (xs := [.int .i64 (B.d : Nat)]) (o := 1) mB rfl) (by rfl) ?_
        refine ld agree (Own.at_ (xs := [.int .i64 (A.dd : Nat)]) (o := 3) mA rfl) (by rfl) ?_
        refine ld agree (Own.at_ (xs := [.int .i64 (B.dd : Nat)]) (o := 3) mB rfl) (by rfl) ?_
        refine cl callJoined (joined_c w10 hA2 hB2 hA4 hB4) ?_
        rintro _ w11 ⟨rfl, k11⟩
        have mA := k11.own mA id
        have mB := k11.own mB id
        have mR11 := k11.own mR10 id
        have mC11 := k11.own mC10 id
        have k011 := k010.trans k11
        refine st agree mC11 rfl (show 2 ≤ 4 by decide) rfl fun w12 e12 k12 mC12 => ?_
        have mC12 : Own w12 bC 248 (cntC ⟨Fm.jn (A.n) (B.n), Fm.jn (A.d) (B.d), Fm.jd (A.dn) (B.dn), 0⟩) := mC12
        have mA := k12.own mA (by omega)
        have mB := k12.own mB (by omega)
        have mR12 := k12.own mR11 (by omega)
        have k012 := k011.newS k12 fun g hg => by subst hg; omega
        refine st agree mC12 rfl (show 4 ≤ 4 by decide) rfl fun w13 e13 k13 mC13 => ?_
        have mC13 : Own w13 bC 248 (cntC ⟨Fm.jn (A.n) (B.n), Fm.jn (A.d) (B.d), Fm.jd (A.dn) (B.dn), Fm.jd (A.dd) (B.dd)⟩) := mC13
        have mA := k13.own mA (by omega)
        have mB := k13.own mB (by omega)
        have mR13 := k13.own mR12 (by omega)
        have k013 := k012.newS k13 fun g hg => by subst hg; omega
        refine ld agree (Own.all mC13) (by rfl) ?_
        refine st agree mR13 rfl (Nat.le_refl 4) rfl fun wz ez kz mz => ?_
        have mz : Own wz bR 248 (cntC ⟨Fm.jn (A.n) (B.n), Fm.jn (A.d) (B.d), Fm.jd (A.dn) (B.dn), Fm.jd (A.dd) (B.dd)⟩) := mz
        refine ld agree (Own.all mz) (by rfl) ?_
        have hfin : Fm.cnt f = ⟨Fm.jn (A.n) (B.n), Fm.jn (A.d) (B.d), Fm.jd (A.dn) (B.dn), Fm.jd (A.dd) (B.dd)⟩ := by rw [hck, ho, hk, hA, hB]; rfl
        exact ⟨by rw [hfin]; rfl, (k013).newS kz fun g hg => by subst hg; omega⟩
      · repeat (first | (refine spF (by omega) ?_) | (refine spT (by omega) ?_))
        refine ld agree (Own.at_ (xs := [.int .i64 (A.n : Nat)]) (o := 0) mA rfl) (by rfl) ?_
        refine ld agree (Own.at_ (xs := [.int .i64 (B.n : Nat)]) (o := 0) mB rfl) (by rfl) ?_
        refine ld agree (Own.at_ (xs := [.int .i64 (A.dn : Nat)]) (o := 2) mA rfl) (by rfl) ?_
        refine ld agree (Own.at_ (xs := [.int .i64 (B.dn : Nat)]) (o := 2) mB rfl) (by rfl) ?_
        refine cl callJoined (joined_c w7 hA1 hB1 hA3 hB3) ?_
        rintro _ w8 ⟨rfl, k8⟩
        have mA := k8.own mA id
        have mB := k8.own mB id
        have mR8 := k8.own mR7 id
        have mC8 := k8.own mC7 id
        have k08 := k07.trans k8
        refine st agree mC8 rfl (show 1 ≤ 4 by decide) rfl fun w9 e9 k9 mC9 => ?_
        have mC9 : Own w9 bC 248 (cntC ⟨Fm.jn (A.n) (B.n), 0, 0, 0⟩) := mC9
        have mA := k9.own mA (by omega)
        have mB := k9.own mB (by omega)
        have mR9 := k9.own mR8 (by omega)
        have k09 := k08.newS k9 fun g hg => by subst hg; omega
        refine st agree mC9 rfl (show 3 ≤ 4 by decide) rfl fun w10 e10 k10 mC10 => ?_
        have mC10 : Own w10 bC 248 (cntC ⟨Fm.jn (A.n) (B.n), 0, Fm.jd (A.dn) (B.dn), 0⟩) := mC10
        have mA := k10.own mA (by omega)
        have mB := k10.own mB (by omega)
        have mR10 := k10.own mR9 (by omega)
        have k010 := k09.newS k10 fun g hg => by subst hg; omega
        refine ld agree (Own.at_ (xs := [.int .i64 (A.d : Nat)]) (o := 1) mA rfl) (by rfl) ?_
        refine ld agree (Own.at_ (xs := [.int .i64 (B.d : Nat)]) (o := 1) mB rfl) (by rfl) ?_
        refine ld agree (Own.at_ (xs := [.int .i64 (A.dd : Nat)]) (o := 3) mA rfl) (by rfl) ?_
        refine ld agree (Own.at_ (xs := [.int .i64 (B.dd : Nat)]) (o := 3) mB rfl) (by rfl) ?_
        refine cl callJoined (joined_c w10 hA2 hB2 hA4 hB4) ?_
        rintro _ w11 ⟨rfl, k11⟩
        have mA := k11.own mA id
        have mB := k11.own mB id
        have mR11 := k11.own mR10 id
        have mC11 := k11.own mC10 id
        have k011 := k010.trans k11
        refine st agree mC11 rfl (show 2 ≤ 4 by decide) rfl fun w12 e12 k12 mC12 => ?_
        have mC12 : Own w12 bC 248 (cntC ⟨Fm.jn (A.n) (B.n), Fm.jn (A.d) (B.d), Fm.jd (A.dn) (B.dn), 0⟩) := mC12
        have mA := k12.own mA (by omega)
        have mB := k12.own mB (by omega)
        have mR12 := k12.own mR11 (by omega)
        have k012 := k011.newS k12 fun g hg => by subst hg; omega
        refine st agree mC12 rfl (show 4 ≤ 4 by decide) rfl fun w13 e13 k13 mC13 => ?_
        have mC13 : Own w13 bC 248 (cntC ⟨Fm.jn (A.n) (B.n), Fm.jn (A.d) (B.d), Fm.jd (A.dn) (B.dn), Fm.jd (A.dd) (B.dd)⟩) := mC13
        have mA := k13.own mA (by omega)
        have mB := k13.own mB (by omega)
        have mR13 := k13.own mR12 (by omega)
        have k013 := k012.newS k13 fun g hg => by subst hg; omega
        refine ld agree (Own.all mC13) (by rfl) ?_
        refine st agree mR13 rfl (Nat.le_refl 4) rfl fun wz ez kz mz => ?_
        have mz : Own wz bR 248 (cntC ⟨Fm.jn (A.n) (B.n), Fm.jn (A.d) (B.d), Fm.jd (A.dn) (B.dn), Fm.jd (A.dd) (B.dd)⟩) := mz
        refine ld agree (Own.all mz) (by rfl) ?_
        have hfin : Fm.cnt f = ⟨Fm.jn (A.n) (B.n), Fm.jn (A.d) (B.d), Fm.jd (A.dn) (B.dn), Fm.jd (A.dd) (B.dd)⟩ := by rw [hck, ho, hk, hA, hB]; rfl
        exact ⟨by rw [hfin]; rfl, (k013).newS kz fun g hg => by subst hg; omega⟩
      · repeat (first | (refine spF (by omega) ?_) | (refine spT (by omega) ?_))
        refine ld agree (Own.at_ (xs := [.int .i64 (A.d : Nat)]) (o := 1) mA rfl) (by rfl) ?_
        refine ld agree (Own.at_ (xs := [.int .i64 (B.n : Nat)]) (o := 0) mB rfl) (by rfl) ?_
        refine ld agree (Own.at_ (xs := [.int .i64 (A.dd : Nat)]) (o := 3) mA rfl) (by rfl) ?_
        refine ld agree (Own.at_ (xs := [.int .i64 (B.dn : Nat)]) (o := 2) mB rfl) (by rfl) ?_
        refine cl callJoined (joined_c w7 hA2 hB1 hA4 hB3) ?_
        rintro _ w8 ⟨rfl, k8⟩
        have mA := k8.own mA id
        have mB := k8.own mB id
        have mR8 := k8.own mR7 id
        have mC8 := k8.own mC7 id
        have k08 := k07.trans k8
        refine st agree mC8 rfl (show 1 ≤ 4 by decide) rfl fun w9 e9 k9 mC9 => ?_
        have mC9 : Own w9 bC 248 (cntC ⟨Fm.jn (A.d) (B.n), 0, 0, 0⟩) := mC9
        have mA := k9.own mA (by omega)
        have mB := k9.own mB (by omega)
        have mR9 := k9.own mR8 (by omega)
        have k09 := k08.newS k9 fun g hg => by subst hg; omega
        refine st agree mC9 rfl (show 3 ≤ 4 by decide) rfl fun w10 e10 k10 mC10 => ?_
        have mC10 : Own w10 bC 248 (cntC ⟨Fm.jn (A.d) (B.n), 0, Fm.jd (A.dd) (B.dn), 0⟩) := mC10
        have mA := k10.own mA (by omega)
        have mB := k10.own mB (by omega)
        have mR10 := k10.own mR9 (by omega)
        have k010 := k09.newS k10 fun g hg => by subst hg; omega
        refine ld agree (Own.at_ (xs := [.int .i64 (A.n : Nat)]) (o := 0) mA rfl) (by rfl) ?_
        refine ld agree (Own.at_ (xs := [.int .i64 (B.d : Nat)]) (o := 1) mB rfl) (by rfl) ?_
        refine ld agree (Own.at_ (xs := [.int .i64 (A.dn : Nat)]) (o := 2) mA rfl) (by rfl) ?_
        refine ld agree (Own.at_ (xs := [.int .i64 (B.dd : Nat)]) (o := 3) mB rfl) (by rfl) ?_
        refine cl callJoined (joined_c w10 hA1 hB2 hA3 hB4) ?_
        rintro _ w11 ⟨rfl, k11⟩
        have mA := k11.own mA id
        have mB := k11.own mB id
        have mR11 := k11.own mR10 id
        have mC11 := k11.own mC10 id
        have k011 := k010.trans k11
        refine st agree mC11 rfl (show 2 ≤ 4 by decide) rfl fun w12 e12 k12 mC12 => ?_
        have mC12 : Own w12 bC 248 (cntC ⟨Fm.jn (A.d) (B.n), Fm.jn (A.n) (B.d), Fm.jd (A.dd) (B.dn), 0⟩) := mC12
        have mA := k12.own mA (by omega)
        have mB := k12.own mB (by omega)
        have mR12 := k12.own mR11 (by omega)
        have k012 := k011.newS k12 fun g hg => by subst hg; omega
        refine st agree mC12 rfl (show 4 ≤ 4 by decide) rfl fun w13 e13 k13 mC13 => ?_
        have mC13 : Own w13 bC 248 (cntC ⟨Fm.jn (A.d) (B.n), Fm.jn (A.n) (B.d), Fm.jd (A.dd) (B.dn), Fm.jd (A.dn) (B.dd)⟩) := mC13
        have mA := k13.own mA (by omega)
        have mB := k13.own mB (by omega)
        have mR13 := k13.own mR12 (by omega)
        have k013 := k012.newS k13 fun g hg => by subst hg; omega
        refine ld agree (Own.all mC13) (by rfl) ?_
        refine st agree mR13 rfl (Nat.le_refl 4) rfl fun wz ez kz mz => ?_
        have mz : Own wz bR 248 (cntC ⟨Fm.jn (A.d) (B.n), Fm.jn (A.n) (B.d), Fm.jd (A.dd) (B.dn), Fm.jd (A.dn) (B.dd)⟩) := mz
        refine ld agree (Own.all mz) (by rfl) ?_
        have hfin : Fm.cnt f = ⟨Fm.jn (A.d) (B.n), Fm.jn (A.n) (B.d), Fm.jd (A.dd) (B.dn), Fm.jd (A.dn) (B.dd)⟩ := by rw [hck, ho, hk, hA, hB]; rfl
        exact ⟨by rw [hfin]; rfl, (k013).newS kz fun g hg => by subst hg; omega⟩
      · repeat (first | (refine spF (by omega) ?_) | (refine spT (by omega) ?_))
        refine ld agree (Own.at_ (xs := [.int .i64 (A.n : Nat)]) (o := 0) mA rfl) (by rfl) ?_
        refine ld agree (Own.at_ (xs := [.int .i64 (B.n : Nat)]) (o := 0) mB rfl) (by rfl) ?_
        refine ld agree (Own.at_ (xs := [.int .i64 (A.dn : Nat)]) (o := 2) mA rfl) (by rfl) ?_
        refine ld agree (Own.at_ (xs := [.int .i64 (B.dn : Nat)]) (o := 2) mB rfl) (by rfl) ?_
        refine cl callJoined (joined_c w7 hA1 hB1 hA3 hB3) ?_
        rintro _ w8 ⟨rfl, k8⟩
        have mA := k8.own mA id
        have mB := k8.own mB id
        have mR8 := k8.own mR7 id
        have mC8 := k8.own mC7 id
        have k08 := k07.trans k8
        refine ld agree (Own.at_ (xs := [.int .i64 (A.d : Nat)]) (o := 1) mA rfl) (by rfl) ?_
        refine ld agree (Own.at_ (xs := [.int .i64 (B.d : Nat)]) (o := 1) mB rfl) (by rfl) ?_
        refine ld agree (Own.at_ (xs := [.int .i64 (A.dd : Nat)]) (o := 3) mA rfl) (by rfl) ?_
        refine ld agree (Own.at_ (xs := [.int .i64 (B.dd : Nat)]) (o := 3) mB rfl) (by rfl) ?_
        refine cl callJoined (joined_c w8 hA2 hB2 hA4 hB4) ?_
        rintro _ w9 ⟨rfl, k9⟩
        have mA := k9.own mA id
        have mB := k9.own mB id
        have mR9 := k9.own mR8 id
        have mC9 := k9.own mC8 id
        have k09 := k08.trans k9
        refine cl callJoined (joined_c w9 (cut_le _) (cut_le _) (cut_le _) (cut_le _)) ?_
        rintro _ w10 ⟨rfl, k10⟩
        have mA := k10.own mA id
        have mB := k10.own mB id
        have mR10 := k10.own mR9 id
        have mC10 := k10.own mC9 id
        have k010 := k09.trans k10
        refine st agree mC10 rfl (show 1 ≤ 4 by decide) rfl fun w11 e11 k11 mC11 => ?_
        have mC11 : Own w11 bC 248 (cntC ⟨Fm.jn (Fm.jn (A.n) (B.n)) (Fm.jn (A.d) (B.d)), 0, 0, 0⟩) := mC11
        have mA := k11.own mA (by omega)
        have mB := k11.own mB (by omega)
        have mR11 := k11.own mR10 (by omega)
        have k011 := k010.newS k11 fun g hg => by subst hg; omega
        refine st agree mC11 rfl (show 3 ≤ 4 by decide) rfl fun w12 e12 k12 mC12 => ?_
        have mC12 : Own w12 bC 248 (cntC ⟨Fm.jn (Fm.jn (A.n) (B.n)) (Fm.jn (A.d) (B.d)), 0, Fm.jd (Fm.jd (A.dn) (B.dn)) (Fm.jd (A.dd) (B.dd)), 0⟩) := mC12
        have mA := k12.own mA (by omega)
        have mB := k12.own mB (by omega)
        have mR12 := k12.own mR11 (by omega)
        have k012 := k011.newS k12 fun g hg => by subst hg; omega
        refine ld agree (Own.at_ (xs := [.int .i64 (A.n : Nat)]) (o := 0) mA rfl) (by rfl) ?_
        refine ld agree (Own.at_ (xs := [.int .i64 (B.d : Nat)]) (o := 1) mB rfl) (by rfl) ?_
        refine ld agree (Own.at_ (xs := [.int .i64 (A.dn : Nat)]) (o := 2) mA rfl) (by rfl) ?_
        refine ld agree (Own.at_ (xs := [.int .i64 (B.dd : Nat)]) (o := 3) mB rfl) (by rfl) ?_
        refine cl callJoined (joined_c w12 hA1 hB2 hA3 hB4) ?_
        rintro _ w13 ⟨rfl, k13⟩
        have mA := k13.own mA id
        have mB := k13.own mB id
        have mR13 := k13.own mR12 id
        have mC13 := k13.own mC12 id
        have k013 := k012.trans k13
        refine ld agree (Own.at_ (xs := [.int .i64 (A.d : Nat)]) (o := 1) mA rfl) (by rfl) ?_
        refine ld agree (Own.at_ (xs := [.int .i64 (B.n : Nat)]) (o := 0) mB rfl) (by rfl) ?_
        refine ld agree (Own.at_ (xs := [.int .i64 (A.dd : Nat)]) (o := 3) mA rfl) (by rfl) ?_
        refine ld agree (Own.at_ (xs := [.int .i64 (B.dn : Nat)]) (o := 2) mB rfl) (by rfl) ?_
        refine cl callJoined (joined_c w13 hA2 hB1 hA4 hB3) ?_
        rintro _ w14 ⟨rfl, k14⟩
        have mA := k14.own mA id
        have mB := k14.own mB id
        have mR14 := k14.own mR13 id
        have mC14 := k14.own mC13 id
        have k014 := k013.trans k14
        refine cl callJoined (joined_c w14 (cut_le _) (cut_le _) (cut_le _) (cut_le _)) ?_
        rintro _ w15 ⟨rfl, k15⟩
        have mA := k15.own mA id
        have mB := k15.own mB id
        have mR15 := k15.own mR14 id
        have mC15 := k15.own mC14 id
        have k015 := k014.trans k15
        refine st agree mC15 rfl (show 2 ≤ 4 by decide) rfl fun w16 e16 k16 mC16 => ?_
        have mC16 : Own w16 bC 248 (cntC ⟨Fm.jn (Fm.jn (A.n) (B.n)) (Fm.jn (A.d) (B.d)), Fm.jn (Fm.jn (A.n) (B.d)) (Fm.jn (A.d) (B.n)), Fm.jd (Fm.jd (A.dn) (B.dn)) (Fm.jd (A.dd) (B.dd)), 0⟩) := mC16
        have mA := k16.own mA (by omega)
        have mB := k16.own mB (by omega)
        have mR16 := k16.own mR15 (by omega)
        have k016 := k015.newS k16 fun g hg => by subst hg; omega
        refine st agree mC16 rfl (show 4 ≤ 4 by decide) rfl fun w17 e17 k17 mC17 => ?_
        have mC17 : Own w17 bC 248 (cntC ⟨Fm.jn (Fm.jn (A.n) (B.n)) (Fm.jn (A.d) (B.d)), Fm.jn (Fm.jn (A.n) (B.d)) (Fm.jn (A.d) (B.n)), Fm.jd (Fm.jd (A.dn) (B.dn)) (Fm.jd (A.dd) (B.dd)), Fm.jd (Fm.jd (A.dn) (B.dd)) (Fm.jd (A.dd) (B.dn))⟩) := mC17
        have mA := k17.own mA (by omega)
        have mB := k17.own mB (by omega)
        have mR17 := k17.own mR16 (by omega)
        have k017 := k016.newS k17 fun g hg => by subst hg; omega
        refine ld agree (Own.all mC17) (by rfl) ?_
        refine st agree mR17 rfl (Nat.le_refl 4) rfl fun wz ez kz mz => ?_
        have mz : Own wz bR 248 (cntC ⟨Fm.jn (Fm.jn (A.n) (B.n)) (Fm.jn (A.d) (B.d)), Fm.jn (Fm.jn (A.n) (B.d)) (Fm.jn (A.d) (B.n)), Fm.jd (Fm.jd (A.dn) (B.dn)) (Fm.jd (A.dd) (B.dd)), Fm.jd (Fm.jd (A.dn) (B.dd)) (Fm.jd (A.dd) (B.dn))⟩) := mz
        refine ld agree (Own.all mz) (by rfl) ?_
        have hfin : Fm.cnt f = ⟨Fm.jn (Fm.jn (A.n) (B.n)) (Fm.jn (A.d) (B.d)), Fm.jn (Fm.jn (A.n) (B.d)) (Fm.jn (A.d) (B.n)), Fm.jd (Fm.jd (A.dn) (B.dn)) (Fm.jd (A.dd) (B.dd)), Fm.jd (Fm.jd (A.dn) (B.dd)) (Fm.jd (A.dd) (B.dn))⟩ := by rw [hck, ho, hk, hA, hB]; rfl
        exact ⟨by rw [hfin]; rfl, (k017).newS kz fun g hg => by subst hg; omega⟩
      · repeat (first | (refine spF (by omega) ?_) | (refine spT (by omega) ?_))
        refine ld agree (Own.at_ (xs := [.int .i64 (A.n : Nat)]) (o := 0) mA rfl) (by rfl) ?_
        refine ld agree (Own.at_ (xs := [.int .i64 (B.n : Nat)]) (o := 0) mB rfl) (by rfl) ?_
        refine ld agree (Own.at_ (xs := [.int .i64 (A.dn : Nat)]) (o := 2) mA rfl) (by rfl) ?_
        refine ld agree (Own.at_ (xs := [.int .i64 (B.dn : Nat)]) (o := 2) mB rfl) (by rfl) ?_
        refine cl callJoined (joined_c w7 hA1 hB1 hA3 hB3) ?_
        rintro _ w8 ⟨rfl, k8⟩
        have mA := k8.own mA id
        have mB := k8.own mB id
        have mR8 := k8.own mR7 id
        have mC8 := k8.own mC7 id
        have k08 := k07.trans k8
        refine st agree mC8 rfl (show 1 ≤ 4 by decide) rfl fun w9 e9 k9 mC9 => ?_
        have mC9 : Own w9 bC 248 (cntC ⟨Fm.jn (A.n) (B.n), 0, 0, 0⟩) := mC9
        have mA := k9.own mA (by omega)
        have mB := k9.own mB (by omega)
        have mR9 := k9.own mR8 (by omega)
        have k09 := k08.newS k9 fun g hg => by subst hg; omega
        refine st agree mC9 rfl (show 3 ≤ 4 by decide) rfl fun w10 e10 k10 mC10 => ?_
        have mC10 : Own w10 bC 248 (cntC ⟨Fm.jn (A.n) (B.n), 0, Fm.jd (A.dn) (B.dn), 0⟩) := mC10
        have mA := k10.own mA (by omega)
        have mB := k10.own mB (by omega)
        have mR10 := k10.own mR9 (by omega)
        have k010 := k09.newS k10 fun g hg => by subst hg; omega
        refine ld agree (Own.at_ (xs := [.int .i64 (A.d : Nat)]) (o := 1) mA rfl) (by rfl) ?_
        refine ld agree (Own.at_ (xs := [.int .i64 (B.d : Nat)]) (o := 1) mB rfl) (by rfl) ?_
        refine ld agree (Own.at_ (xs := [.int .i64 (A.dd : Nat)]) (o := 3) mA rfl) (by rfl) ?_
        refine ld agree (Own.at_ (xs := [.int .i64 (B.dd : Nat)]) (o := 3) mB rfl) (by rfl) ?_
        refine cl callJoined (joined_c w10 hA2 hB2 hA4 hB4) ?_
        rintro _ w11 ⟨rfl, k11⟩
        have mA := k11.own mA id
        have mB := k11.own mB id
        have mR11 := k11.own mR10 id
        have mC11 := k11.own mC10 id
        have k011 := k010.trans k11
        refine st agree mC11 rfl (show 2 ≤ 4 by decide) rfl fun w12 e12 k12 mC12 => ?_
        have mC12 : Own w12 bC 248 (cntC ⟨Fm.jn (A.n) (B.n), Fm.jn (A.d) (B.d), Fm.jd (A.dn) (B.dn), 0⟩) := mC12
        have mA := k12.own mA (by omega)
        have mB := k12.own mB (by omega)
        have mR12 := k12.own mR11 (by omega)
        have k012 := k011.newS k12 fun g hg => by subst hg; omega
        refine st agree mC12 rfl (show 4 ≤ 4 by decide) rfl fun w13 e13 k13 mC13 => ?_
        have mC13 : Own w13 bC 248 (cntC ⟨Fm.jn (A.n) (B.n), Fm.jn (A.d) (B.d), Fm.jd (A.dn) (B.dn), Fm.jd (A.dd) (B.dd)⟩) := mC13
        have mA := k13.own mA (by omega)
        have mB := k13.own mB (by omega)
        have mR13 := k13.own mR12 (by omega)
        have k013 := k012.newS k13 fun g hg => by subst hg; omega
        refine ld agree (Own.all mC13) (by rfl) ?_
        refine st agree mR13 rfl (Nat.le_refl 4) rfl fun wz ez kz mz => ?_
        have mz : Own wz bR 248 (cntC ⟨Fm.jn (A.n) (B.n), Fm.jn (A.d) (B.d), Fm.jd (A.dn) (B.dn), Fm.jd (A.dd) (B.dd)⟩) := mz
        refine ld agree (Own.all mz) (by rfl) ?_
        have hfin : Fm.cnt f = ⟨Fm.jn (A.n) (B.n), Fm.jn (A.d) (B.d), Fm.jd (A.dn) (B.dn), Fm.jd (A.dd) (B.dd)⟩ := by rw [hck, ho, hk, hA, hB]; rfl
        exact ⟨by rw [hfin]; rfl, (k013).newS kz fun g hg => by subst hg; omega⟩
      · repeat (first | (refine spF (by omega) ?_) | (refine spT (by omega) ?_))
        refine ld agree (Own.at_ (xs := [.int .i64 (A.n : Nat)]) (o := 0) mA rfl) (by rfl) ?_
        refine ld agree (Own.at_ (xs := [.int .i64 (B.n : Nat)]) (o := 0) mB rfl) (by rfl) ?_
        refine ld agree (Own.at_ (xs := [.int .i64 (A.dn : Nat)]) (o := 2) mA rfl) (by rfl) ?_
        refine ld agree (Own.at_ (xs := [.int .i64 (B.dn : Nat)]) (o := 2) mB rfl) (by rfl) ?_
        refine cl callJoined (joined_c w7 hA1 hB1 hA3 hB3) ?_
        rintro _ w8 ⟨rfl, k8⟩
        have mA := k8.own mA id
        have mB := k8.own mB id
        have mR8 := k8.own mR7 id
        have mC8 := k8.own mC7 id
        have k08 := k07.trans k8
        refine st agree mC8 rfl (show 1 ≤ 4 by decide) rfl fun w9 e9 k9 mC9 => ?_
        have mC9 : Own w9 bC 248 (cntC ⟨Fm.jn (A.n) (B.n), 0, 0, 0⟩) := mC9
        have mA := k9.own mA (by omega)
        have mB := k9.own mB (by omega)
        have mR9 := k9.own mR8 (by omega)
        have k09 := k08.newS k9 fun g hg => by subst hg; omega
        refine st agree mC9 rfl (show 3 ≤ 4 by decide) rfl fun w10 e10 k10 mC10 => ?_
        have mC10 : Own w10 bC 248 (cntC ⟨Fm.jn (A.n) (B.n), 0, Fm.jd (A.dn) (B.dn), 0⟩) := mC10
        have mA := k10.own mA (by omega)
        have mB := k10.own mB (by omega)
        have mR10 := k10.own mR9 (by omega)
        have k010 := k09.newS k10 fun g hg => by subst hg; omega
        refine ld agree (Own.at_ (xs := [.int .i64 (A.d : Nat)]) (o := 1) mA rfl) (by rfl) ?_
        refine ld agree (Own.at_ (xs := [.int .i64 (B.d : Nat)]) (o := 1) mB rfl) (by rfl) ?_
        refine ld agree (Own.at_ (xs := [.int .i64 (A.dd : Nat)]) (o := 3) mA rfl) (by rfl) ?_
        refine ld agree (Own.at_ (xs := [.int .i64 (B.dd : Nat)]) (o := 3) mB rfl) (by rfl) ?_
        refine cl callJoined (joined_c w10 hA2 hB2 hA4 hB4) ?_
        rintro _ w11 ⟨rfl, k11⟩
        have mA := k11.own mA id
        have mB := k11.own mB id
        have mR11 := k11.own mR10 id
        have mC11 := k11.own mC10 id
        have k011 := k010.trans k11
        refine st agree mC11 rfl (show 2 ≤ 4 by decide) rfl fun w12 e12 k12 mC12 => ?_
        have mC12 : Own w12 bC 248 (cntC ⟨Fm.jn (A.n) (B.n), Fm.jn (A.d) (B.d), Fm.jd (A.dn) (B.dn), 0⟩) := mC12
        have mA := k12.own mA (by omega)
        have mB := k12.own mB (by omega)
        have mR12 := k12.own mR11 (by omega)
        have k012 := k011.newS k12 fun g hg => by subst hg; omega
        refine st agree mC12 rfl (show 4 ≤ 4 by decide) rfl fun w13 e13 k13 mC13 => ?_
        have mC13 : Own w13 bC 248 (cntC ⟨Fm.jn (A.n) (B.n), Fm.jn (A.d) (B.d), Fm.jd (A.dn) (B.dn), Fm.jd (A.dd) (B.dd)⟩) := mC13
        have mA := k13.own mA (by omega)
        have mB := k13.own mB (by omega)
        have mR13 := k13.own mR12 (by omega)
        have k013 := k012.newS k13 fun g hg => by subst hg; omega
        refine ld agree (Own.all mC13) (by rfl) ?_
        refine st agree mR13 rfl (Nat.le_refl 4) rfl fun wz ez kz mz => ?_
        have mz : Own wz bR 248 (cntC ⟨Fm.jn (A.n) (B.n), Fm.jn (A.d) (B.d), Fm.jd (A.dn) (B.dn), Fm.jd (A.dd) (B.dd)⟩) := mz
        refine ld agree (Own.all mz) (by rfl) ?_
        have hfin : Fm.cnt f = ⟨Fm.jn (A.n) (B.n), Fm.jn (A.d) (B.d), Fm.jd (A.dn) (B.dn), Fm.jd (A.dd) (B.dd)⟩ := by rw [hck, ho, hk, hA, hB]; rfl
        exact ⟨by rw [hfin]; rfl, (k013).newS kz fun g hg => by subst hg; omega⟩
      · repeat (first | (refine spF (by omega) ?_) | (refine spT (by omega) ?_))
        refine ld agree (Own.at_ (xs := [.int .i64 (A.n : Nat)]) (o := 0) mA rfl) (by rfl) ?_
        refine ld agree (Own.at_ (xs := [.int .i64 (B.n : Nat)]) (o := 0) mB rfl) (by rfl) ?_
        refine ld agree (Own.at_ (xs := [.int .i64 (A.dn : Nat)]) (o := 2) mA rfl) (by rfl) ?_
        refine ld agree (Own.at_ (xs := [.int .i64 (B.dn : Nat)]) (o := 2) mB rfl) (by rfl) ?_
        refine cl callJoined (joined_c w7 hA1 hB1 hA3 hB3) ?_
        rintro _ w8 ⟨rfl, k8⟩
        have mA := k8.own mA id
        have mB := k8.own mB id
        have mR8 := k8.own mR7 id
        have mC8 := k8.own mC7 id
        have k08 := k07.trans k8
        refine ld agree (Own.at_ (xs := [.int .i64 (A.d : Nat)]) (o := 1) mA rfl) (by rfl) ?_
        refine ld agree (Own.at_ (xs := [.int .i64 (B.d : Nat)]) (o := 1) mB rfl) (by rfl) ?_
        refine ld agree (Own.at_ (xs := [.int .i64 (A.dd : Nat)]) (o := 3) mA rfl) (by rfl) ?_
        refine ld agree (Own.at_ (xs := [.int .i64 (B.dd : Nat)]) (o := 3) mB rfl) (by rfl) ?_
        refine cl callJoined (joined_c w8 hA2 hB2 hA4 hB4) ?_
        rintro _ w9 ⟨rfl, k9⟩
        have mA := k9.own mA id
        have mB := k9.own mB id
        have mR9 := k9.own mR8 id
        have mC9 := k9.own mC8 id
        have k09 := k08.trans k9
        refine ld agree (Own.at_ (xs := [.int .i64 (B.n : Nat)]) (o := 0) mB rfl) (by rfl) ?_
        refine ld agree (Own.at_ (xs := [.int .i64 (B.dn : Nat)]) (o := 2) mB rfl) (by rfl) ?_
        refine cl callJoined (joined_c w9 hB1 (cut_le _) hB3 (cut_le _)) ?_
        rintro _ w10 ⟨rfl, k10⟩
        have mA := k10.own mA id
        have mB := k10.own mB id
        have mR10 := k10.own mR9 id
        have mC10 := k10.own mC9 id
        have k010 := k09.trans k10
        refine st agree mC10 rfl (show 1 ≤ 4 by decide) rfl fun w11 e11 k11 mC11 => ?_
        have mC11 : Own w11 bC 248 (cntC ⟨Fm.jn (B.n) (Fm.jn (A.n) (B.n)), 0, 0, 0⟩) := mC11
        have mA := k11.own mA (by omega)
        have mB := k11.own mB (by omega)
        have mR11 := k11.own mR10 (by omega)
        have k011 := k010.newS k11 fun g hg => by subst hg; omega
        refine st agree mC11 rfl (show 3 ≤ 4 by decide) rfl fun w12 e12 k12 mC12 => ?_
        have mC12 : Own w12 bC 248 (cntC ⟨Fm.jn (B.n) (Fm.jn (A.n) (B.n)), 0, Fm.jd (B.dn) (Fm.jd (A.dn) (B.dn)), 0⟩) := mC12
        have mA := k12.own mA (by omega)
        have mB := k12.own mB (by omega)
        have mR12 := k12.own mR11 (by omega)
        have k012 := k011.newS k12 fun g hg => by subst hg; omega
        refine ld agree (Own.at_ (xs := [.int .i64 (B.d : Nat)]) (o := 1) mB rfl) (by rfl) ?_
        refine ld agree (Own.at_ (xs := [.int .i64 (B.dd : Nat)]) (o := 3) mB rfl) (by rfl) ?_
        refine cl callJoined (joined_c w12 hB2 (cut_le _) hB4 (cut_le _)) ?_
        rintro _ w13 ⟨rfl, k13⟩
        have mA := k13.own mA id
        have mB := k13.own mB id
        have mR13 := k13.own mR12 id
        have mC13 := k13.own mC12 id
        have k013 := k012.trans k13
        refine st agree mC13 rfl (show 2 ≤ 4 by decide) rfl fun w14 e14 k14 mC14 => ?_
        have mC14 : Own w14 bC 248 (cntC ⟨Fm.jn (B.n) (Fm.jn (A.n) (B.n)), Fm.jn (B.d) (Fm.jn (A.d) (B.d)), Fm.jd (B.dn) (Fm.jd (A.dn) (B.dn)), 0⟩) := mC14
        have mA := k14.own mA (by omega)
        have mB := k14.own mB (by omega)
        have mR14 := k14.own mR13 (by omega)
        have k014 := k013.newS k14 fun g hg => by subst hg; omega
        refine st agree mC14 rfl (show 4 ≤ 4 by decide) rfl fun w15 e15 k15 mC15 => ?_
        have mC15 : Own w15 bC 248 (cntC ⟨Fm.jn (B.n) (Fm.jn (A.n) (B.n)), Fm.jn (B.d) (Fm.jn (A.d) (B.d)), Fm.jd (B.dn) (Fm.jd (A.dn) (B.dn)), Fm.jd (B.dd) (Fm.jd (A.dd) (B.dd))⟩) := mC15
        have mA := k15.own mA (by omega)
        have mB := k15.own mB (by omega)
        have mR15 := k15.own mR14 (by omega)
        have k015 := k014.newS k15 fun g hg => by subst hg; omega
        refine ld agree (Own.all mC15) (by rfl) ?_
        refine st agree mR15 rfl (Nat.le_refl 4) rfl fun wz ez kz mz => ?_
        have mz : Own wz bR 248 (cntC ⟨Fm.jn (B.n) (Fm.jn (A.n) (B.n)), Fm.jn (B.d) (Fm.jn (A.d) (B.d)), Fm.jd (B.dn) (Fm.jd (A.dn) (B.dn)), Fm.jd (B.dd) (Fm.jd (A.dd) (B.dd))⟩) := mz
        refine ld agree (Own.all mz) (by rfl) ?_
        have hfin : Fm.cnt f = ⟨Fm.jn (B.n) (Fm.jn (A.n) (B.n)), Fm.jn (B.d) (Fm.jn (A.d) (B.d)), Fm.jd (B.dn) (Fm.jd (A.dn) (B.dn)), Fm.jd (B.dd) (Fm.jd (A.dd) (B.dd))⟩ := by rw [hck, ho, hk, hA, hB]; rfl
        exact ⟨by rw [hfin]; rfl, (k015).newS kz fun g hg => by subst hg; omega⟩
      · repeat (first | (refine spF (by omega) ?_) | (refine spT (by omega) ?_))
        refine ld agree (Own.at_ (xs := [.int .i64 (A.n : Nat)]) (o := 0) mA rfl) (by rfl) ?_
        refine ld agree (Own.at_ (xs := [.int .i64 (B.n : Nat)]) (o := 0) mB rfl) (by rfl) ?_
        refine ld agree (Own.at_ (xs := [.int .i64 (A.dn : Nat)]) (o := 2) mA rfl) (by rfl) ?_
        refine ld agree (Own.at_ (xs := [.int .i64 (B.dn : Nat)]) (o := 2) mB rfl) (by rfl) ?_
        refine cl callJoined (joined_c w7 hA1 hB1 hA3 hB3) ?_
        rintro _ w8 ⟨rfl, k8⟩
        have mA := k8.own mA id
        have mB := k8.own mB id
        have mR8 := k8.own mR7 id
        have mC8 := k8.own mC7 id
        have k08 := k07.trans k8
        refine ld agree (Own.at_ (xs := [.int .i64 (A.d : Nat)]) (o := 1) mA rfl) (by rfl) ?_
        refine ld agree (Own.at_ (xs := [.int .i64 (B.d : Nat)]) (o := 1) mB rfl) (by rfl) ?_
        refine ld agree (Own.at_ (xs := [.int .i64 (A.dd : Nat)]) (o := 3) mA rfl) (by rfl) ?_
        refine ld agree (Own.at_ (xs := [.int .i64 (B.dd : Nat)]) (o := 3) mB rfl) (by rfl) ?_
        refine cl callJoined (joined_c w8 hA2 hB2 hA4 hB4) ?_
        rintro _ w9 ⟨rfl, k9⟩
        have mA := k9.own mA id
        have mB := k9.own mB id
        have mR9 := k9.own mR8 id
        have mC9 := k9.own mC8 id
        have k09 := k08.trans k9
        refine ld agree (Own.at_ (xs := [.int .i64 (B.n : Nat)]) (o := 0) mB rfl) (by rfl) ?_
        refine ld agree (Own.at_ (xs := [.int .i64 (B.dn : Nat)]) (o := 2) mB rfl) (by rfl) ?_
        refine cl callJoined (joined_c w9 hB1 (cut_le _) hB3 (cut_le _)) ?_
        rintro _ w10 ⟨rfl, k10⟩
        have mA := k10.own mA id
        have mB := k10.own mB id
        have mR10 := k10.own mR9 id
        have mC10 := k10.own mC9 id
        have k010 := k09.trans k10
        refine st agree mC10 rfl (show 1 ≤ 4 by decide) rfl fun w11 e11 k11 mC11 => ?_
        have mC11 : Own w11 bC 248 (cntC ⟨Fm.jn (B.n) (Fm.jn (A.n) (B.n)), 0, 0, 0⟩) := mC11
        have mA := k11.own mA (by omega)
        have mB := k11.own mB (by omega)
        have mR11 := k11.own mR10 (by omega)
        have k011 := k010.newS k11 fun g hg => by subst hg; omega
        refine st agree mC11 rfl (show 3 ≤ 4 by decide) rfl fun w12 e12 k12 mC12 => ?_
        have mC12 : Own w12 bC 248 (cntC ⟨Fm.jn (B.n) (Fm.jn (A.n) (B.n)), 0, Fm.jd (B.dn) (Fm.jd (A.dn) (B.dn)), 0⟩) := mC12
        have mA := k12.own mA (by omega)
        have mB := k12.own mB (by omega)
        have mR12 := k12.own mR11 (by omega)
        have k012 := k011.newS k12 fun g hg => by subst hg; omega
        refine ld agree (Own.at_ (xs := [.int .i64 (B.d : Nat)]) (o := 1) mB rfl) (by rfl) ?_
        refine ld agree (Own.at_ (xs := [.int .i64 (B.dd : Nat)]) (o := 3) mB rfl) (by rfl) ?_
        refine cl callJoined (joined_c w12 hB2 (cut_le _) hB4 (cut_le _)) ?_
        rintro _ w13 ⟨rfl, k13⟩
        have mA := k13.own mA id
        have mB := k13.own mB id
        have mR13 := k13.own mR12 id
        have mC13 := k13.own mC12 id
        have k013 := k012.trans k13
        refine st agree mC13 rfl (show 2 ≤ 4 by decide) rfl fun w14 e14 k14 mC14 => ?_
        have mC14 : Own w14 bC 248 (cntC ⟨Fm.jn (B.n) (Fm.jn (A.n) (B.n)), Fm.jn (B.d) (Fm.jn (A.d) (B.d)), Fm.jd (B.dn) (Fm.jd (A.dn) (B.dn)), 0⟩) := mC14
        have mA := k14.own mA (by omega)
        have mB := k14.own mB (by omega)
        have mR14 := k14.own mR13 (by omega)
        have k014 := k013.newS k14 fun g hg => by subst hg; omega
        refine st agree mC14 rfl (show 4 ≤ 4 by decide) rfl fun w15 e15 k15 mC15 => ?_
        have mC15 : Own w15 bC 248 (cntC ⟨Fm.jn (B.n) (Fm.jn (A.n) (B.n)), Fm.jn (B.d) (Fm.jn (A.d) (B.d)), Fm.jd (B.dn) (Fm.jd (A.dn) (B.dn)), Fm.jd (B.dd) (Fm.jd (A.dd) (B.dd))⟩) := mC15
        have mA := k15.own mA (by omega)
        have mB := k15.own mB (by omega)
        have mR15 := k15.own mR14 (by omega)
        have k015 := k014.newS k15 fun g hg => by subst hg; omega
        refine ld agree (Own.all mC15) (by rfl) ?_
        refine st agree mR15 rfl (Nat.le_refl 4) rfl fun wz ez kz mz => ?_
        have mz : Own wz bR 248 (cntC ⟨Fm.jn (B.n) (Fm.jn (A.n) (B.n)), Fm.jn (B.d) (Fm.jn (A.d) (B.d)), Fm.jd (B.dn) (Fm.jd (A.dn) (B.dn)), Fm.jd (B.dd) (Fm.jd (A.dd) (B.dd))⟩) := mz
        refine ld agree (Own.all mz) (by rfl) ?_
        have hfin : Fm.cnt f = ⟨Fm.jn (B.n) (Fm.jn (A.n) (B.n)), Fm.jn (B.d) (Fm.jn (A.d) (B.d)), Fm.jd (B.dn) (Fm.jd (A.dn) (B.dn)), Fm.jd (B.dd) (Fm.jd (A.dd) (B.dd))⟩ := by rw [hck, ho, hk, hA, hB]; rfl
        exact ⟨by rw [hfin]; rfl, (k015).newS kz fun g hg => by subst hg; omega⟩
end Go.Au
