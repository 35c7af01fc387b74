/- Own text of this workplace: a part of the proofs of this place's statements. -/
import Derived.Test.YtjibhchnhkjgkaaDoorP0
import Derived.Test.YtjibhchnhkjgkaaDoorG
import Derived.Test.YtjibhchnhkjgkaaDoorP2
import Derived.Test.YtjibhchnhkjgkaaDoorP3
set_option linter.unusedVariables false
set_option linter.unusedSimpArgs false
set_option linter.unusedSectionVars false
namespace Go.Au
open Go Go.RowKit

/-! ### words of 64 bits -/
theorem wrapU64 {z : Int} (h1 : 0 ≤ z) (h2 : z < 18446744073709551616) : IntKind.u64.wrap z = z := by
  show (if (false && decide (z % 18446744073709551616 ≥ 9223372036854775808)) = true then z % 18446744073709551616 - 18446744073709551616 else z % 18446744073709551616) = z
  rw [if_neg (by simp)]; omega
theorem ofInt64 {a : Nat} (h : a < 18446744073709551616) : (BitVec.ofInt (IntKind.bits .u64) (a : Int)).toNat = a := by
  rw [BitVec.toNat_ofInt]
  show (((a : Int) % 18446744073709551616)).toNat = a
  omega
theorem wrapN {a : Nat} (h : a < 18446744073709551616) : IntKind.u64.wrap (a : Int) = a := wrapU64 (by omega) (by omega)
theorem bitsAnd {a b : Nat} (ha : a < 18446744073709551616) (hb : b < 18446744073709551616) : bits .and .u64 a b = ((a &&& b : Nat) : Int) := by
  have h : bits .and .u64 a b = IntKind.u64.wrap (((BitVec.ofInt (IntKind.bits .u64) (a : Int) &&& BitVec.ofInt (IntKind.bits .u64) (b : Int)).toNat : Nat) : Int) := rfl
  rw [h, BitVec.toNat_and, ofInt64 ha, ofInt64 hb]
  exact wrapN (Nat.lt_of_le_of_lt Nat.and_le_left ha)
theorem bitsOr {a b : Nat} (ha : a < 18446744073709551616) (hb : b < 18446744073709551616) : bits .or .u64 a b = ((a ||| b : Nat) : Int) := by
  have h : bits .or .u64 a b = IntKind.u64.wrap (((BitVec.ofInt (IntKind.bits .u64) (a : Int) ||| BitVec.ofInt (IntKind.bits .u64) (b : Int)).toNat : Nat) : Int) := rfl
  rw [h, BitVec.toNat_or, ofInt64 ha, ofInt64 hb]
  exact wrapN (Nat.or_lt_two_pow (n := 64) ha hb)
def cutB (a b : Nat) : Nat := a &&& (2 ^ 64 - (b + 1))
theorem bitsCut {a b : Nat} (ha : a < 18446744073709551616) (hb : b < 18446744073709551616) : bits .andNot .u64 a b = ((cutB a b : Nat) : Int) := by
  have h : bits .andNot .u64 a b = IntKind.u64.wrap (((BitVec.ofInt (IntKind.bits .u64) (a : Int) &&& ~~~ BitVec.ofInt (IntKind.bits .u64) (b : Int)).toNat : Nat) : Int) := rfl
  rw [h, BitVec.toNat_and, BitVec.toNat_not, ofInt64 ha, ofInt64 hb]
  have h2 : 2 ^ (IntKind.bits .u64) - 1 - b = 2 ^ 64 - (b + 1) := by show 2 ^ 64 - 1 - b = _; omega
  rw [h2]
  exact wrapN (Nat.lt_of_le_of_lt Nat.and_le_left ha)
theorem bit_lt {r : Nat} (h : r < 64) : 2 ^ r < 18446744073709551616 := Nat.pow_lt_pow_right (a := 2) (by decide) h
theorem shl64 {r : Nat} (h : r < 64) : IntKind.u64.wrap ((1 : Int) * 2 ^ (min ((r : Int)).toNat (IntKind.bits .u64))) = ((2 ^ r : Nat) : Int) := by
  rw [Int.toNat_natCast, Nat.min_eq_left (by show r ≤ 64; omega), Int.one_mul, show ((2 : Int) ^ r) = ((2 ^ r : Nat) : Int) from (Int.natCast_pow 2 _).symm]
  exact wrapN (bit_lt h)
theorem shr64 {a r : Nat} (h : r < 64) : ((a : Int)).fdiv (2 ^ (min ((r : Int)).toNat (IntKind.bits .u64))) = ((a / 2 ^ r : Nat) : Int) := by
  rw [Int.toNat_natCast, Nat.min_eq_left (by show r ≤ 64; omega), show ((2 : Int) ^ r) = ((2 ^ r : Nat) : Int) from (Int.natCast_pow 2 _).symm, Int.fdiv_eq_ediv_of_nonneg _ (Int.natCast_nonneg _)]
  rfl
theorem quo64 (i : Nat) (h : i < 4611686018427387904) : IntKind.i64.wrap (((i : Int)).tdiv 64) = ((i / 64 : Nat) : Int) := by
  rw [Int.tdiv_eq_ediv_of_nonneg (by omega), wrap64 (by omega) (by omega)]
  rfl
theorem rem64 (i : Nat) : ((i : Int)).tmod 64 = ((i % 64 : Nat) : Int) := by
  rw [Int.tmod_eq_emod_of_nonneg (by omega)]
  rfl

/-! ### a set's words -/
def hasW (W : List Nat) (i : Nat) : Bool := (W.getD (i / 64) 0).testBit (i % 64)
def putW (W : List Nat) (i : Nat) : List Nat := W.set (i / 64) (W.getD (i / 64) 0 ||| 2 ^ (i % 64))
def cutW (W : List Nat) (i : Nat) : List Nat := W.set (i / 64) (cutB (W.getD (i / 64) 0) (2 ^ (i % 64)))
structure SetP (n : Nat) (W : List Nat) : Prop where
  len : W.length = (n + 63) / 64
  lt : ∀ x ∈ W, x < 18446744073709551616
  top : ∀ i, hasW W i = true → i < n
theorem getD_set (W : List Nat) (a k v : Nat) (ha : a < W.length) : (W.set a v).getD k 0 = if a = k then v else W.getD k 0 := by
  rw [List.getD_eq_getElem?_getD, List.getElem?_set]
  split
  · rename_i h; subst h; simp [ha]
  · rw [List.getD_eq_getElem?_getD]
theorem SetP.word {n : Nat} {W : List Nat} (h : SetP n W) (k : Nat) : W.getD k 0 < 18446744073709551616 := by
  rw [List.getD_eq_getElem?_getD]
  cases hk : W[k]? with
  | none => simp
  | some x => exact h.lt x (List.mem_of_getElem? hk)
theorem hasW_put {W : List Nat} {i : Nat} (hi : i / 64 < W.length) (j : Nat) : hasW (putW W i) j = (decide (j = i) || hasW W j) := by
  unfold hasW putW
  rw [getD_set _ _ _ _ hi]
  split
  · rename_i h
    rw [Nat.testBit_or, Nat.testBit_two_pow, Bool.or_comm, h]
    congr 1
    by_cases hji : j = i
    · subst hji; simp
    · rw [decide_eq_false hji, decide_eq_false (by omega)]
  · rename_i h
    rw [decide_eq_false (show ¬ j = i by rintro rfl; exact h rfl)]
    rfl
theorem hasW_cut {n : Nat} {W : List Nat} {i : Nat} (hi : i / 64 < W.length) (j : Nat) : hasW (cutW W i) j = (!decide (j = i) && hasW W j) := by
  unfold hasW cutW
  rw [getD_set _ _ _ _ hi]
  split
  · rename_i h
    unfold cutB
    rw [Nat.testBit_and, Nat.testBit_two_pow_sub_succ (bit_lt (Nat.mod_lt _ (by decide))), Nat.testBit_two_pow, Bool.and_comm, h]
    congr 1
    rw [decide_eq_true (Nat.mod_lt _ (by decide)), Bool.true_and]
    by_cases hji : j = i
    · subst hji; simp
    · rw [decide_eq_false hji, decide_eq_false (by omega)]
  · rename_i h
    rw [decide_eq_false (show ¬ j = i by rintro rfl; exact h rfl)]
    rfl
theorem SetP.idx {n : Nat} {W : List Nat} (h : SetP n W) {i : Nat} (hi : i < n) : i / 64 < W.length := by rw [h.len]; omega
theorem SetP.put {n : Nat} {W : List Nat} (h : SetP n W) {i : Nat} (hi : i < n) : SetP n (putW W i) := by
  refine ⟨by unfold putW; rw [List.length_set]; exact h.len, fun x hx => ?_, fun j hj => ?_⟩
  · rcases List.mem_or_eq_of_mem_set hx with h1 | rfl
    · exact h.lt x h1
    · exact Nat.or_lt_two_pow (n := 64) (h.word _) (bit_lt (Nat.mod_lt _ (by decide)))
  · rw [hasW_put (h.idx hi)] at hj
    simp only [Bool.or_eq_true, decide_eq_true_eq] at hj
    rcases hj with rfl | hj
    · exact hi
    · exact h.top j hj
theorem SetP.cut {n : Nat} {W : List Nat} (h : SetP n W) {i : Nat} (hi : i < n) : SetP n (cutW W i) := by
  refine ⟨by unfold cutW; rw [List.length_set]; exact h.len, fun x hx => ?_, fun j hj => ?_⟩
  · rcases List.mem_or_eq_of_mem_set hx with h1 | rfl
    · exact h.lt x h1
    · exact Nat.lt_of_le_of_lt Nat.and_le_left (h.word _)
  · rw [hasW_cut (n := n) (h.idx hi)] at hj
    simp only [Bool.and_eq_true] at hj
    exact h.top j hj.2
theorem hasW_new (n j : Nat) : hasW (List.replicate n 0) j = false := by
  unfold hasW
  rw [List.getD_eq_getElem?_getD, List.getElem?_replicate]
  split <;> simp
theorem SetP.new (n : Nat) : SetP n (List.replicate ((n + 63) / 64) 0) :=
  ⟨by simp, fun x hx => by rw [(List.mem_replicate.1 hx).2]; decide, fun i hi => by rw [hasW_new] at hi; cases hi⟩
theorem SetP.zero {n : Nat} {W : List Nat} (h : SetP n W) (h0 : ∀ i, hasW W i = false) : ∀ x ∈ W, x = 0 := by
  intro x hx
  obtain ⟨k, hk⟩ := List.mem_iff_getElem?.1 hx
  refine Nat.eq_of_testBit_eq fun j => ?_
  rw [Nat.zero_testBit]
  rcases Nat.lt_or_ge j 64 with hj | hj
  · have := h0 (k * 64 + j)
    unfold hasW at this
    rwa [show (k * 64 + j) / 64 = k by omega, show (k * 64 + j) % 64 = j by omega, List.getD_eq_getElem?_getD, hk] at this
  · exact Nat.testBit_lt_two_pow (Nat.lt_of_lt_of_le (h.lt x hx) (Nat.pow_le_pow_right (n := 2) (by decide) hj))

/-! ### sets in memory -/
abbrev fW (x : Nat) : List Value := [.int .u64 (x : Int)]
structure SetV (w : World) (p q n : Nat) (W : List Nat) : Prop where
  hdr : Own w p 67 [.int .i64 n, .slice (some ⟨q, 0, none⟩) W.length W.length]
  row : Own w q 72 (W.flatMap fW)
  pl : SetP n W
  nb : n ≤ 65536
theorem SetV.chg {w w' : World} {p q n : Nat} {W : List Nat} {S : Nat → Prop} (h : SetV w p q n W) (k : Chg S w w') (hp : ¬ S p) (hq : ¬ S q) : SetV w' p q n W := ⟨k.own h.hdr hp, k.own h.row hq, h.pl, h.nb⟩
theorem SetV.ne {w : World} {p q n : Nat} {W : List Nat} (h : SetV w p q n W) : p ≠ q := own_ne h.hdr h.row (by decide)
theorem fwAt {W : List Nat} {k : Nat} (h : k < W.length) : W[k]? = some (W.getD k 0) := by rw [List.getD_eq_getElem?_getD]; simp [h]

theorem callIn : callable Proofs.Tryd.prog 47 = true := by kernel_rfl
theorem in_c {w : World} {p q n : Nat} {W : List Nat} (h : SetV w p q n W) (i : Int) : Calls Proofs.Tryd.prog 47 [pt p 0, .int .i64 i].toArray w (Ret fun r w' => r = .bool (decide (0 ≤ i ∧ i < n)) ∧ Kp w w') := by
  refine call agree Proofs.Tryd.func47 rfl Proofs.Tryd.ntmps47 (by kernel_rfl) ?_
  refine sp (fun h1 => ?_) (fun h1 => ?_)
  · refine ld agree (Own.at_ (xs := [.int .i64 n]) (o := 0) h.hdr rfl) (by rfl) ?_
    refine sp (fun h2 => ?_) (fun h2 => ?_)
    · exact ⟨congrArg Value.bool (by rw [decide_eq_true ⟨h1, h2⟩]), Chg.refl _ _⟩
    · exact ⟨congrArg Value.bool (by rw [decide_eq_false fun h => h2 h.2]), Chg.refl _ _⟩
  · exact ⟨congrArg Value.bool (by rw [decide_eq_false fun h => h1 h.1]), Chg.refl _ _⟩

theorem callWidth : callable Proofs.Tryd.prog 16 = true := by kernel_rfl
theorem width_c {w : World} {p q n : Nat} {W : List Nat} (h : SetV w p q n W) : Calls Proofs.Tryd.prog 16 [pt p 0].toArray w (Ret fun r w' => r = .int .i64 n ∧ Kp w w') := by
  refine call agree Proofs.Tryd.func16 rfl Proofs.Tryd.ntmps16 (by kernel_rfl) ?_
  refine ld agree (Own.at_ (xs := [.int .i64 n]) (o := 0) h.hdr rfl) (by rfl) ?_
  exact ⟨rfl, Chg.refl _ _⟩

def hasI (W : List Nat) (i : Int) : Bool := decide (0 ≤ i) && hasW W i.toNat
theorem callHas : callable Proofs.Tryd.prog 30 = true := by kernel_rfl
theorem has_c {w : World} {p q n : Nat} {W : List Nat} (h : SetV w p q n W) (i : Int) : Calls Proofs.Tryd.prog 30 [pt p 0, .int .i64 i].toArray w (Ret fun r w' => r = .bool (hasI W i) ∧ Kp w w') := by
  refine call agree Proofs.Tryd.func30 rfl Proofs.Tryd.ntmps30 (by kernel_rfl) ?_
  refine cl callIn (in_c h i) ?_
  rintro _ w1 ⟨rfl, k1⟩
  by_cases hi : 0 ≤ i ∧ i < n
  · rw [decide_eq_true hi]
    obtain ⟨j, rfl⟩ : ∃ j : Nat, i = j := ⟨i.toNat, by omega⟩
    have hj : j < n := by omega
    have hk := h.pl.idx hj
    have hn := h.nb
    have hr : j % 64 < 64 := Nat.mod_lt _ (by decide)
    have hw := h.pl.word (j / 64)
    refine ld agree (Own.at_ (xs := [.slice (some ⟨q, 0, none⟩) W.length W.length]) (o := 1) (k1.own h.hdr id) rfl) (by rfl) ?_
    refine ne (by decide) ?_
    refine arE (quo64 j (by omega)) ?_
    refine ne ⟨by omega, by omega⟩ ?_
    refine ld (v := .int .u64 (W.getD (j / 64) 0 : Nat)) agree (by rw [Int.toNat_natCast]; exact flat_range (f := fW) (cs := []) (fun _ => rfl) (fwAt hk) (by rw [List.append_nil]; exact Own.all (k1.own h.row id))) (by rfl) ?_
    refine ne (by decide) ?_
    refine arE (rem64 j) ?_
    refine ne (by omega) ?_
    refine arE (shr64 hr) ?_
    refine arE (bitsAnd (b := 1) (Nat.lt_of_le_of_lt (Nat.div_le_self _ _) hw) (by decide)) ?_
    have hb : hasI W (j : Int) = decide (W.getD (j / 64) 0 / 2 ^ (j % 64) &&& 1 = 1) := by
      unfold hasI hasW
      rw [decide_eq_true (by omega), Bool.true_and, Int.toNat_natCast, Nat.testBit_eq_decide_div_mod_eq, Nat.and_one_is_mod]
    refine sp (fun h1 => ?_) (fun h1 => ?_)
    · exact ⟨congrArg Value.bool (by rw [hb, decide_eq_true (by omega)]), k1⟩
    · exact ⟨congrArg Value.bool (by rw [hb, decide_eq_false (by omega)]), k1⟩
  · rw [decide_eq_false hi]
    refine ⟨congrArg Value.bool ?_, k1⟩
    unfold hasI
    by_cases h0 : 0 ≤ i
    · rw [decide_eq_true h0, Bool.true_and]
      cases hh : hasW W i.toNat with
      | false => rfl
      | true => have := h.pl.top _ hh; omega
    · rw [decide_eq_false h0]; rfl
end Go.Au

namespace Go.Au
open Go Go.RowKit Go.MapKept
open Go.Maps (Keyed)

def putI (n : Nat) (W : List Nat) (i : Int) : List Nat := if 0 ≤ i ∧ i < (n : Int) then putW W i.toNat else W

theorem fW_set (W : List Nat) (k v o : Nat) (ho : o = k) : lay (W.flatMap fW) o [.int .u64 (v : Int)] = (W.set k v).flatMap fW := by
  subst ho
  have h : ∀ L : List Nat, L.flatMap fW = L.map fun x => .int .u64 (x : Int) := fun L => by induction L <;> simp_all
  show (W.flatMap fW).set o _ = _
  rw [h, h, List.map_set]

theorem putW_len (W : List Nat) (i : Nat) : (putW W i).length = W.length := by unfold putW; rw [List.length_set]

theorem callSPut : callable Proofs.Tryd.prog 32 = true := by kernel_rfl

theorem sput_c {w : World} {p q n : Nat} {W : List Nat} (h : SetV w p q n W) (i : Int) : Calls Proofs.Tryd.prog 32 [pt p 0, .int .i64 i].toArray w (Ret fun r w' => Chg (fun k => k = q) w w' ∧ SetV w' p q n (putI n W i)) := by
  refine call agree Proofs.Tryd.func32 rfl Proofs.Tryd.ntmps32 (by kernel_rfl) ?_
  refine cl callIn (in_c h i) ?_
  rintro _ w1 ⟨rfl, k1⟩
  have h1 := h.chg k1 id id
  have c1 : Chg (fun k => k = q) w w1 := k1.mono fun _ h => h.elim
  by_cases hi : 0 ≤ i ∧ i < n
  · have hI : putI n W i = putW W i.toNat := by unfold putI; rw [if_pos hi]
    rw [hI]
    rw [decide_eq_true hi]
    obtain ⟨j, rfl⟩ : ∃ j : Nat, i = j := ⟨i.toNat, by omega⟩
    rw [Int.toNat_natCast]
    have hj : j < n := by omega
    have hk := h.pl.idx hj
    have hn := h.nb
    have hr : j % 64 < 64 := Nat.mod_lt _ (by decide)
    have hw := h.pl.word (j / 64)
    refine drawn0 agree mixed 13 (by kernel_rfl) (fun _ => False) ?_
    conv => whnf
    refine ldk agree rfl rfl (fun V hV _ => Own.at_ (xs := [.slice (some ⟨q, 0, none⟩) W.length W.length]) (o := 1) (hV.own h1.hdr id) rfl) (by rfl) fun _ => ?_
    conv => whnf
    refine ne (by decide) ?_
    conv => whnf
    refine arE (quo64 j (by omega)) ?_
    conv => whnf
    refine ne ⟨by omega, by omega⟩ ?_
    conv => whnf
    refine ldk (v := .int .u64 (W.getD (j / 64) 0 : Nat)) agree rfl rfl (fun V hV _ => by rw [Int.toNat_natCast]; exact flat_range (f := fW) (cs := []) (fun _ => rfl) (fwAt hk) (by rw [List.append_nil]; exact Own.all (hV.own h1.row id))) (by rfl) fun _ => ?_
    conv => whnf
    refine ne (by decide) ?_
    conv => whnf
    refine arE (rem64 j) ?_
    conv => whnf
    refine ne (by omega) ?_
    conv => whnf
    refine arE (shl64 hr) ?_
    conv => whnf
    refine arE (bitsOr hw (bit_lt hr)) ?_
    conv => whnf
    refine ne ⟨by omega, by omega⟩ ?_
    conv => whnf
    intro V hV _
    have h2 := h1.chg hV id id
    refine st agree h2.row rfl (by rw [Int.toNat_natCast, flat_len (f := fW) (size := 1) (fun _ => rfl)]; show 0 + j / 64 * 1 + 1 ≤ _; omega) rfl ?_
    intro V2 s2 k2 m2
    rw [Int.toNat_natCast] at m2
    have m2 := fW_set W (j / 64) _ (0 + j / 64 * 1) (by omega) ▸ m2
    refine ⟨(c1.trans (hV.mono fun _ h => h.elim)).trans k2, ?_, ?_, h.pl.put hj, hn⟩
    · rw [putW_len]
      exact k2.own h2.hdr h.ne
    · exact m2
  · have hI : putI n W i = W := by unfold putI; rw [if_neg hi]
    rw [hI]
    rw [decide_eq_false hi]
    exact ⟨c1, h1⟩

theorem callNew : callable Proofs.Tryd.prog 29 = true := by kernel_rfl

theorem new_c (w : World) (n : Nat) (hn : n ≤ 65536) : Calls Proofs.Tryd.prog 29 [.int .i64 n].toArray w (Ret fun r w' => Kp w w' ∧ ∃ p q, r = pt p 0 ∧ w.heap.size ≤ p ∧ w.heap.size ≤ q ∧ SetV w' p q n (List.replicate ((n + 63) / 64) 0)) := by
  refine call agree Proofs.Tryd.func29 rfl Proofs.Tryd.ntmps29 (by kernel_rfl) ?_
  refine spF (by omega) ?_
  refine spF (by omega) ?_
  refine aw (by omega) (by omega) ?_
  refine ne (by decide) ?_
  have hq : IntKind.i64.wrap (((n : Int) + 63).tdiv 64) = (((n + 63) / 64 : Nat) : Int) := by
    rw [Int.tdiv_eq_ediv_of_nonneg (by omega), wrap64 (by omega) (by omega)]
    omega
  refine arE hq ?_
  refine ms agree rfl rfl rfl rfl rfl rfl (by omega) (Int.le_refl _) (by show (8 : Int) * _ ≤ _; omega) (by omega) fun q w1 e1 s1 k1 m1 => ?_
  rw [Int.toNat_natCast] at m1 ⊢
  refine nd fun p w2 e2 s2 k2 m2 => ?_
  have hL : (List.replicate ((n + 63) / 64) 0).length = (n + 63) / 64 := List.length_replicate ..
  refine ⟨k1.trans k2, p, q, rfl, by omega, by omega, ?_, ?_, SetP.new n, hn⟩
  · rw [hL]; exact m2
  · have hrep : ∀ k, rep [Value.int .u64 0] k = (List.replicate k 0).flatMap fW := fun k => by
      induction k with
      | zero => rfl
      | succ k ih => simp [rep, ih, List.replicate_succ]
    have m1 : Own w1 q 72 (rep [.int .u64 0] ((n + 63) / 64)) := m1
    rw [hrep] at m1
    exact k2.own m1 id

/-- what Of comes to -/
def ofW (n : Nat) (l : List Int) : List Nat := l.foldl (putI n) (List.replicate ((n + 63) / 64) 0)

theorem ofW_snoc (n : Nat) (l : List Int) (i : Nat) (x : Int) (hx : l[i]? = some x) : ofW n (l.take (i + 1)) = putI n (ofW n (l.take i)) x := by
  unfold ofW
  rw [List.take_add_one, hx, List.foldl_append]
  rfl

theorem callOf : callable Proofs.Tryd.prog 18 = true := by kernel_rfl

theorem of_c {w : World} {lo hi : Nat} {v : Value} {l : List Int} (hv : Ints lo hi w v l) (n : Nat) (hn : n ≤ 65536) (hl : l.length < 4611686018427387904) :
    Calls Proofs.Tryd.prog 18 [.int .i64 n, v].toArray w (Ret fun r w' => Kp w w' ∧ ∃ p q, r = pt p 0 ∧ w.heap.size ≤ p ∧ w.heap.size ≤ q ∧ SetV w' p q n (ofW n l)) := by
  obtain ⟨a, c, rfl, hc, hx⟩ := hv
  refine call agree Proofs.Tryd.func18 rfl Proofs.Tryd.ntmps18 (by kernel_rfl) ?_
  refine cl callNew (new_c w n hn) ?_
  rintro _ w1 ⟨k1, p, q, rfl, hp, hq, hS⟩
  refine ptrNil agree rfl rfl rfl (by kernel_rfl) ?_
  refine loop agree (σ := Nat) (fun i => [(5, pt p 0), (12, .slice a l.length c), (13, .int .i64 l.length), (14, .int .i64 i)]) (fun i W => Kp w W ∧ i ≤ l.length ∧ SetV W p q n (ofW n (l.take i))) (fun i => l.length - i) 0
    ⟨rfl, rfl, rfl, rfl, trivial⟩ ⟨k1, by omega, hS⟩ ?_
  rintro i e0 W ⟨k, hi, hS⟩
  refine sp (fun hlt => ?_) (fun hge => ?_)
  · have hi' : i < l.length := by omega
    have hgi : l[i]? = some l[i] := by simp [hi']
    obtain ⟨b, o, rfl, -, -, cs, -, hrd, rfl⟩ := hx i l[i] hgi
    refine ne ⟨by omega, by omega⟩ ?_
    refine ld agree (k.range hrd id) (by rfl) ?_
    have hcall := sput_c hS l[i]
    refine cl callSPut hcall ?_
    rintro _ W2 ⟨k2, hS2⟩
    refine aw (by omega) (by omega) ?_
    refine again (i + 1) ⟨rfl, rfl, rfl, rfl, trivial⟩ ⟨k.newS k2 fun j hj => by omega, by omega, ?_⟩ (by omega)
    rw [ofW_snoc n l i _ hgi]
    exact hS2
  · have : i = l.length := by omega
    subst this
    rw [List.take_length] at hS
    exact ⟨k, p, q, rfl, hp, hq, hS⟩
end Go.Au

namespace Go.Au
open Go Go.RowKit Go.MapKept
open Go.Maps (Keyed)

def stepG (W : List Nat) (l : Int) (e : Edge) : Bool := hasI W e.frm && goesS e l

def stepW (n : Nat) (es : List Edge) (W : List Nat) (l : Int) : List Nat := es.foldl (fun A e => if stepG W l e = true then putI n A e.to else A) (List.replicate ((n + 63) / 64) 0)

theorem stepW_snoc (n : Nat) (es : List Edge) (W : List Nat) (l : Int) (i : Nat) (e : Edge) (he : es[i]? = some e) : stepW n (es.take (i + 1)) W l = if stepG W l e = true then putI n (stepW n (es.take i) W l) e.to else stepW n (es.take i) W l := by
  unfold stepW
  rw [List.take_add_one, he, List.foldl_append]
  rfl

theorem callStp : callable Proofs.Tryd.prog 17 = true := by kernel_rfl

theorem stp_c {w : World} {lo hi p q n : Nat} {ev : Value} {es : List Edge} {W : List Nat} (hv : Edges lo hi w ev es) (hS : SetV w p q n W) (hl : es.length < 4611686018427387904) (l : Int) :
    Calls Proofs.Tryd.prog 17 [ev, pt p 0, .int .u16 l].toArray w (Ret fun r w' => Kp w w' ∧ ∃ p' q', r = pt p' 0 ∧ w.heap.size ≤ p' ∧ w.heap.size ≤ q' ∧ SetV w' p' q' n (stepW n es W l)) := by
  obtain ⟨a, c, rfl, hc, hx⟩ := hv
  refine call agree Proofs.Tryd.func17 rfl Proofs.Tryd.ntmps17 (by kernel_rfl) ?_
  refine cl callWidth (width_c hS) ?_
  rintro _ w1 ⟨rfl, k1⟩
  have hcall := new_c w1 n hS.nb
  refine cl callNew hcall ?_
  rintro _ w2 ⟨k2, p2, q2, rfl, hp2, hq2, hS2⟩
  have z1 := k1.size
  have k12 := k1.trans k2
  have hSp := hS.hdr.lt
  have hSq := hS.row.lt
  refine loop agree (σ := Nat) (fun i => [(1, pt p 0), (2, .int .u16 l), (7, pt p2 0), (13, .slice a es.length c), (14, .int .i64 es.length), (15, .int .i64 i)]) (fun i w' => Kp w w' ∧ i ≤ es.length ∧ SetV w' p2 q2 n (stepW n (es.take i) W l)) (fun i => es.length - i) 0
    ⟨rfl, rfl, rfl, rfl, rfl, rfl, trivial⟩ ⟨k12, by omega, hS2⟩ ?_
  rintro i e0 w3 ⟨k3, hi, hA⟩
  refine sp (fun hlt => ?_) (fun hge => ?_)
  · have hi' : i < es.length := by omega
    have hgi : es[i]? = some es[i] := by simp [hi']
    obtain ⟨b, o, rfl, -, -, cs, -, hrd, rfl, -⟩ := hx i es[i] hgi
    refine ne ⟨by omega, by omega⟩ ?_
    refine ld agree (v := es[i].val) (k3.range hrd id) rfl ?_
    refine nd fun r w4 e4 s4 k4 m4 => ?_
    refine st agree (cs := [.int .i64 0, .int .i64 0, .int .u16 0, .int .u16 0]) m4 rfl (Nat.le_refl 4) rfl ?_
    intro w5 s5 k5 m5
    have m5 : Own w5 r 50 es[i].cells := m5
    have k35 : Kp w3 w5 := k4.new e4 k5
    have k05 := k3.trans k35
    have hS5 : SetV w5 p q n W := hS.chg k05 id id
    have hA5 := hA.chg k35 id id
    refine ld agree (Own.at_ (xs := [.int .i64 es[i].frm]) (o := 0) m5 rfl) (by rfl) ?_
    refine cl callHas (has_c hS5 es[i].frm) ?_
    rintro _ w6 ⟨rfl, k6⟩
    have hsn := stepW_snoc n es W l i _ hgi
    unfold stepG at hsn
    cases hh : hasI W es[i].frm with
    | false =>
      refine aw (by omega) (by omega) ?_
      refine again (i + 1) ⟨rfl, rfl, rfl, rfl, rfl, rfl, trivial⟩ ⟨k05.trans k6, by omega, ?_⟩ (by omega)
      rw [hsn, hh, Bool.false_and, if_neg (by decide)]
      exact hA5.chg k6 id id
    | true =>
      have m6 := k6.own m5 id
      refine ld agree (v := es[i].val) (Own.at_ (xs := es[i].cells) (o := 0) m6 rfl) (by rfl) ?_
      refine cl callGoes (goes_c w6 es[i] l) ?_
      rintro _ w7 ⟨rfl, k7⟩
      have k57 := k6.trans k7
      cases hg : goesS es[i] l with
      | false =>
        refine aw (by omega) (by omega) ?_
        refine again (i + 1) ⟨rfl, rfl, rfl, rfl, rfl, rfl, trivial⟩ ⟨k05.trans k57, by omega, ?_⟩ (by omega)
        rw [hsn, hh, hg, Bool.and_false, if_neg (by decide)]
        exact hA5.chg k57 id id
      | true =>
        refine ld agree (Own.at_ (xs := [.int .i64 es[i].to]) (o := 1) (k7.own m6 id) rfl) (by rfl) ?_
        have hcall := sput_c (hA5.chg k57 id id) es[i].to
        refine cl callSPut hcall ?_
        rintro _ w8 ⟨k8, hA8⟩
        refine aw (by omega) (by omega) ?_
        refine again (i + 1) ⟨rfl, rfl, rfl, rfl, rfl, rfl, trivial⟩ ⟨(k05.trans k57).newS k8 fun j hj => by omega, by omega, ?_⟩ (by omega)
        rw [hsn, hh, hg, Bool.and_self, if_pos rfl]
        exact hA8
  · have : i = es.length := by omega
    subst this
    rw [List.take_length] at hA
    exact ⟨k3, p2, q2, rfl, by omega, by omega, hA⟩

def stepOk (g : Buchi) (n : Nat) (l : Int) : Prop := checkS g.general = true ∧ (n : Int) = g.states ∧ l < 2 ^ g.props.length

theorem callStep : callable Proofs.Tryd.prog 8 = true := by kernel_rfl

theorem step_c {w : World} {lo hi p q n : Nat} {pv iv ev fv : Value} {g : Buchi} {W : List Nat} (hv : BuchiV lo hi w pv iv ev fv g) (hS : SetV w p q n W) (l : Int) (hl : Let16 l) :
    Calls Proofs.Tryd.prog 8 [.agg #[pv, .int .i64 g.states, iv, ev, fv], pt p 0, .int .u16 l].toArray w (Ret fun r w' => Kp w w' ∧ (¬ stepOk g n l ∧ r = .pointer none ∨ stepOk g n l ∧ ∃ p' q', r = pt p' 0 ∧ w.heap.size ≤ p' ∧ w.heap.size ≤ q' ∧ SetV w' p' q' n (stepW n g.edges W l))) := by
  obtain ⟨hl1, hl2⟩ := hl
  obtain ⟨a1, c1, hh1, -⟩ := id hv.props
  obtain ⟨a2, c2, hh2, -⟩ := id hv.init
  obtain ⟨a3, c3, hh3, -⟩ := id hv.edges
  obtain ⟨a4, c4, hh4, -⟩ := id hv.final
  subst hh1 hh2 hh3 hh4
  refine call agree Proofs.Tryd.func8 rfl Proofs.Tryd.ntmps8 (by kernel_rfl) ?_
  refine nd fun b w1 e1 s1 k1 m1 => ?_
  have m1 : Own w1 b 26 [.slice a1 g.props.length c1, .int .i64 g.states, .slice a2 g.init.length c2, .slice a3 g.edges.length c3, .slice a4 g.final.length c4] := m1
  have hck : ∀ V, Kp w1 V → Calls Proofs.Tryd.prog 13 [.agg #[.slice a1 g.props.length c1, .int .i64 g.states, .slice a2 g.init.length c2, .slice a3 g.edges.length c3, .slice a4 g.final.length c4]].toArray V (Ret fun r w' => r = .int .i64 (errS (checkS g.general)) ∧ Kp V w') := fun V hV => checkB_c (hv.chg (k1.trans hV) (Nat.le_refl _) (Nat.le_refl _))
  have hwd : ∀ V, Kp w1 V → Calls Proofs.Tryd.prog 16 [pt p 0].toArray V (Ret fun r w' => r = .int .i64 n ∧ Kp V w') := fun V hV => width_c (hS.chg (k1.trans hV) id id)
  refine drawn0 agree mixed 19 (by kernel_rfl) (fun _ => False) ?_
  conv => whnf
  refine ldk (v := .agg #[.slice a1 g.props.length c1, .int .i64 g.states, .slice a2 g.init.length c2, .slice a3 g.edges.length c3, .slice a4 g.final.length c4]) agree rfl rfl (fun V hV _ => Own.at_ (xs := [.slice a1 g.props.length c1, .int .i64 g.states, .slice a2 g.init.length c2, .slice a3 g.edges.length c3, .slice a4 g.final.length c4]) (o := 0) (hV.own m1 id) rfl) (by rfl) fun _ => ?_
  conv => whnf
  cases hc : checkS g.general with
  | false =>
    refine callk (v := .int .i64 100) rfl rfl rfl callCheck (fun V hV _ => by have := hck V hV; rw [hc] at this; exact this) fun _ => ?_
    conv => whnf
    refine spT (by decide) ?_
    conv => whnf
    intro V hV _
    exact ⟨k1.trans hV, .inl ⟨fun h => Bool.noConfusion (hc.symm.trans h.1), rfl⟩⟩
  | true =>
    refine callk (v := .int .i64 0) rfl rfl rfl callCheck (fun V hV _ => by have := hck V hV; rw [hc] at this; exact this) fun _ => ?_
    conv => whnf
    refine spF (by decide) ?_
    conv => whnf
    refine callk (v := .int .i64 n) rfl rfl rfl callWidth (fun V hV _ => hwd V hV) fun _ => ?_
    conv => whnf
    refine ldk agree rfl rfl (fun V hV _ => Own.at_ (xs := [.int .i64 g.states]) (o := 1) (hV.own m1 id) rfl) (by rfl) fun _ => ?_
    conv => whnf
    by_cases hn : (n : Int) = g.states
    · refine spF (fun h => h hn) ?_
      have h8 : g.props.length ≤ 8 := check_len hc
      obtain ⟨e1', e2', e3'⟩ := shl_val h8
      conv => whnf
      refine arE (wrap64 (by omega) (by omega)) ?_
      conv => whnf
      refine ldk agree rfl rfl (fun V hV _ => Own.at_ (xs := [.slice a1 g.props.length c1]) (o := 0) (hV.own m1 id) rfl) (by rfl) fun _ => ?_
      conv => whnf
      refine ne (by omega) ?_
      conv => whnf
      refine arE (show _ = (2 : Int) ^ g.props.length by rw [e1']; exact wrap64 (by omega) (by omega)) ?_
      conv => whnf
      by_cases hlt : l < 2 ^ g.props.length
      · refine spF (by omega) ?_
        conv => whnf
        intro V hV _
        have k0V := k1.trans hV
        refine ld agree (Own.at_ (xs := [.slice a3 g.edges.length c3]) (o := 3) (hV.own m1 id) rfl) (by rfl) ?_
        have hcall := stp_c ((hv.chg k0V (Nat.le_refl _) (Nat.le_refl _)).edges) (hS.chg k0V id id) hv.le l
        refine cl callStp hcall ?_
        rintro _ w3 ⟨k3, p', q', rfl, h1, h2, h3⟩
        have := k0V.size
        exact ⟨k0V.trans k3, .inr ⟨⟨hc, hn, hlt⟩, p', q', rfl, by omega, by omega, h3⟩⟩
      · refine spT (by omega) ?_
        conv => whnf
        intro V hV _
        exact ⟨k1.trans hV, .inl ⟨fun h => hlt h.2.2, rfl⟩⟩
    · refine spT hn ?_
      conv => whnf
      intro V hV _
      exact ⟨k1.trans hV, .inl ⟨fun h => hn h.2.1, rfl⟩⟩

theorem callSet : callable Proofs.Tryd.prog 9 = true := by kernel_rfl

theorem set_c {w : World} {lo hi : Nat} {v : Value} {l : List Int} (hv : Ints lo hi w v l) (n : Nat) (hn : n ≤ 65536) (hl : l.length < 4611686018427387904) :
    Calls Proofs.Tryd.prog 9 [.int .i64 n, v].toArray w (Ret fun r w' => Kp w w' ∧ ∃ p q, r = pt p 0 ∧ w.heap.size ≤ p ∧ w.heap.size ≤ q ∧ SetV w' p q n (ofW n l)) := by
  refine call agree Proofs.Tryd.func9 rfl Proofs.Tryd.ntmps9 (by kernel_rfl) ?_
  refine cl callOf (of_c hv n hn hl) ?_
  rintro _ w1 ⟨k1, p, q, rfl, h1, h2, h3⟩
  exact ⟨k1, p, q, rfl, h1, h2, h3⟩
end Go.Au

namespace Go.Au
open Go Go.RowKit

/-! ### the lowest bit -/
def deB : List Nat := [0, 1, 56, 2, 57, 49, 28, 3, 61, 58, 42, 50, 38, 29, 17, 4, 62, 47, 59, 36, 45, 43, 51, 22, 53, 39, 33, 30, 24, 18, 12, 5, 63, 55, 48, 27, 60, 41, 37, 16, 46, 35, 44, 21, 52, 32, 23, 11, 54, 26, 40, 15, 34, 20, 31, 10, 25, 14, 19, 9, 13, 8, 7, 6]
theorem deB_at : ∀ j, j < 64 → deB[(2 ^ j * 285870213051353865 % 18446744073709551616) / 2 ^ 58]? = some j := by decide +kernel
theorem low_split (x : Nat) (hx : x ≠ 0) : ∃ j m, x = 2 ^ (j + 1) * m + 2 ^ j := by
  induction x using Nat.strongRecOn with
  | _ x ih =>
    rcases Nat.mod_two_eq_zero_or_one x with h | h
    · obtain ⟨j, m, hj⟩ := ih (x / 2) (by omega) (by omega)
      refine ⟨j + 1, m, ?_⟩
      have h2 : x = 2 * (x / 2) := by omega
      rw [hj] at h2
      rw [h2, Nat.mul_add, ← Nat.mul_assoc, Nat.pow_succ 2 (j + 1), Nat.pow_succ 2 j]
      simp only [Nat.mul_comm, Nat.mul_left_comm, Nat.mul_assoc]
    · exact ⟨0, x / 2, by omega⟩
theorem low_and {j m : Nat} (h : 2 ^ (j + 1) * m + 2 ^ j < 18446744073709551616) : (2 ^ (j + 1) * m + 2 ^ j) &&& (2 ^ 64 - (2 ^ (j + 1) * m + 2 ^ j)) = 2 ^ j := by
  have hp : 0 < 2 ^ j := Nat.two_pow_pos j
  have hj : j < 64 := by
    rcases Nat.lt_or_ge j 64 with h1 | h1
    · exact h1
    · have := Nat.pow_le_pow_right (n := 2) (by decide) h1
      omega
  refine Nat.eq_of_testBit_eq fun i => ?_
  have hs : 2 ^ (j + 1) * m + 2 ^ j = (2 ^ (j + 1) * m + (2 ^ j - 1)) + 1 := by omega
  rw [Nat.testBit_and]
  conv => lhs; arg 2; rw [hs]
  rw [Nat.testBit_two_pow_sub_succ (by omega), Nat.testBit_two_pow_mul_add _ (by rw [Nat.pow_succ]; omega), Nat.testBit_two_pow_mul_add _ (by rw [Nat.pow_succ]; omega), Nat.testBit_two_pow, Nat.testBit_two_pow_sub_one]
  by_cases h1 : i < j + 1
  · rw [if_pos h1, if_pos h1]
    by_cases h2 : j = i
    · subst h2; simp [hj]
    · simp [h2]
  · rw [if_neg h1, if_neg h1]
    have h2 : ¬ j = i := by omega
    simp only [decide_eq_false h2]
    cases m.testBit (i - (j + 1)) <;> simp
theorem low_bit {j m i : Nat} : (2 ^ (j + 1) * m + 2 ^ j).testBit j = true ∧ (i < j → (2 ^ (j + 1) * m + 2 ^ j).testBit i = false) := by
  have hp : 0 < 2 ^ j := Nat.two_pow_pos j
  refine ⟨?_, fun h => ?_⟩
  · rw [Nat.testBit_two_pow_mul_add _ (by rw [Nat.pow_succ]; omega), if_pos (by omega), Nat.testBit_two_pow]; simp
  · rw [Nat.testBit_two_pow_mul_add _ (by rw [Nat.pow_succ]; omega), if_pos (by omega), Nat.testBit_two_pow, decide_eq_false (by omega)]
end Go.Au

namespace Go.Au
open Go Go.RowKit

/-! ### a copy -/
/-- a set that is only read: wherever its words lie -/
structure SetR (w : World) (p n lo hi : Nat) (v : Value) (W : List Nat) : Prop where
  hdr : Own w p 67 [.int .i64 n, v]
  row : RowE (fun _ cs (x : Nat) => cs = fW x) 1 lo hi w v W
  pl : SetP n W
  nb : n ≤ 65536
theorem callCloneW : callable Proofs.Tryd.prog 33 = true := by kernel_rfl
theorem cloneW_c {w : World} {q : Nat} {W : List Nat} (h : Own w q 72 (W.flatMap fW)) (hl : W.length < 1000000) :
    Calls Proofs.Tryd.prog 33 [.slice (some ⟨q, 0, none⟩) W.length W.length].toArray w (Ret fun r w' => Kp w w' ∧ RowE (fun _ cs (x : Nat) => cs = fW x) 1 w.heap.size w'.heap.size w' r W) := by
  refine call agree Proofs.Tryd.func33 rfl Proofs.Tryd.ntmps33 (by kernel_rfl) ?_
  refine slNil agree rfl rfl rfl (by kernel_rfl) ?_
  refine ne (by decide) ?_
  refine nd fun b w1 e1 s1 k1 m1 => ?_
  have own0 : w1.ownsRow w.heap.size 72 1 (.slice (some ⟨b, 0, none⟩) 0 0) 0 [] := ⟨rfl, .inr ⟨b, 0, _, rfl, by omega, m1, by omega, by simp [maxLen], rfl, by simp⟩⟩
  refine apV (size := 1) agree rfl rfl rfl rfl rfl rfl rfl (by decide) own0 (fun _ => rfl) (own_row (f := fW) (l := W) (fun _ => rfl) (by decide) (k1.own h id) (by simp only [maxLen]; omega)) (fun _ => rfl) (by simp only [maxLen]; omega) (by show (_ + W.length) * 8 ≤ _; omega) (by omega) ?_
  intro v' w2 o2 c2
  refine ⟨k1.newS c2 fun j hj => ?_, ?_⟩
  · have : j = b := by have h2 : some j = some b := hj; injection h2
    omega
  · have o2 : w2.ownsRow w.heap.size 72 1 v' (0 + W.length) (W.flatMap fW) := o2
    rw [Nat.zero_add] at o2
    exact ownsRow_row (fun _ => rfl) o2 (by decide)
end Go.Au

namespace Go.Au
open Go Go.RowKit

/-- the table lies where the program has it -/
def Tab (w : World) : Prop := ∀ (j v : Nat), deB[j]? = some v → w.rangeAt 0 (0 + j * 1) [.int .u8 (v : Int)]
theorem Tab.kp {w w' : World} (h : Tab w) (k : Kp w w') : Tab w' := fun j v hv => k.range (h j v hv) id
theorem wrapMod (a : Nat) : IntKind.u64.wrap (a : Int) = ((a % 18446744073709551616 : Nat) : Int) := by
  show (if (false && decide ((a : Int) % 18446744073709551616 ≥ 9223372036854775808)) = true then (a : Int) % 18446744073709551616 - 18446744073709551616 else (a : Int) % 18446744073709551616) = _
  rw [if_neg (by simp)]; omega
theorem callTz : callable Proofs.Tryd.prog 34 = true := by kernel_rfl
theorem tz_c {w : World} (hT : Tab w) {x j m : Nat} (hx : x = 2 ^ (j + 1) * m + 2 ^ j) (hl : x < 18446744073709551616) :
    Calls Proofs.Tryd.prog 34 [.int .u64 x].toArray w (Ret fun r w' => r = .int .i64 j ∧ Kp w w') := by
  have hp : 0 < 2 ^ j := Nat.two_pow_pos j
  have hj : j < 64 := by
    rcases Nat.lt_or_ge j 64 with h1 | h1
    · exact h1
    · have := Nat.pow_le_pow_right (n := 2) (by decide) h1
      omega
  have hx0 : 0 < x := by omega
  have hneg : IntKind.u64.wrap (-(x : Int)) = ((2 ^ 64 - x : Nat) : Int) := by
    show (if (false && decide ((-(x : Int)) % 18446744073709551616 ≥ 9223372036854775808)) = true then (-(x : Int)) % 18446744073709551616 - 18446744073709551616 else (-(x : Int)) % 18446744073709551616) = _
    rw [if_neg (by simp)]; omega
  have hand : x &&& (2 ^ 64 - x) = 2 ^ j := by rw [hx]; exact low_and (by omega)
  have hmul : IntKind.u64.wrap (((2 ^ j : Nat) : Int) * 285870213051353865) = ((2 ^ j * 285870213051353865 % 18446744073709551616 : Nat) : Int) := by
    rw [← wrapMod]; congr 1
  have hlt : (2 ^ j * 285870213051353865 % 18446744073709551616) / 2 ^ 58 < 64 := by
    have := Nat.mod_lt (2 ^ j * 285870213051353865) (show 0 < 18446744073709551616 by decide)
    omega
  have hd := deB_at j hj
  refine call agree Proofs.Tryd.func34 rfl Proofs.Tryd.ntmps34 (by kernel_rfl) ?_
  refine spF (by omega) ?_
  refine arE hneg ?_
  refine arE ((bitsAnd hl (by omega)).trans (by rw [hand])) ?_
  refine arE hmul ?_
  refine ne (by decide) ?_
  refine arE (shr64 (r := 58) (by decide)) ?_
  refine ixArr agree rfl rfl rfl rfl rfl rfl hlt ?_
  refine ld (v := .int .u8 j) agree (hT _ _ hd) (by rfl) ?_
  refine arE (wrap64 (by omega) (by omega)) ?_
  exact ⟨rfl, Chg.refl _ _⟩
end Go.Au

namespace Go.Au
open Go Go.RowKit

abbrev RowW (lo hi : Nat) := RowE (fun _ cs (x : Nat) => cs = fW x) 1 lo hi
theorem rowW_kp {lo : Nat} {V V' : World} {v : Value} {W : List Nat} (h : RowW lo V.heap.size V v W) (k : Kp V V') : RowW lo V'.heap.size V' v W := by
  have h1 : RowW lo V.heap.size V' v W := RowE.chg h k (fun _ _ _ h => h) (fun _ _ h => h)
  exact RowE.mono h1 (fun _ _ h => h) (Nat.le_refl _) k.size
theorem callCopy : callable Proofs.Tryd.prog 19 = true := by kernel_rfl
theorem copy_c {w : World} {p q n : Nat} {W : List Nat} (h : SetV w p q n W) :
    Calls Proofs.Tryd.prog 19 [pt p 0].toArray w (Ret fun r w' => Kp w w' ∧ ∃ p' v, r = pt p' 0 ∧ SetR w' p' n w.heap.size w'.heap.size v W) := by
  have hlen := h.pl.len
  have hn := h.nb
  refine call agree Proofs.Tryd.func19 rfl Proofs.Tryd.ntmps19 (by kernel_rfl) ?_
  have hcl : ∀ V, Kp w V → Calls Proofs.Tryd.prog 33 [.slice (some ⟨q, 0, none⟩) W.length W.length].toArray V (Ret fun r w' => Kp V w' ∧ RowW V.heap.size w'.heap.size w' r W) := fun V hV => cloneW_c (Chg.own hV h.row id) (by omega)
  refine drawnK agree mixed 10 [4, 5, 6, 7, 8, 0, 1, 2, 3, 9] (by kernel_rfl) ?_
  conv => whnf
  refine ldk agree rfl rfl (fun V hV _ => Own.at_ (xs := [.slice (some ⟨q, 0, none⟩) W.length W.length]) (o := 1) (hV.own h.hdr id) rfl) (by rfl) fun _ => ?_
  conv => whnf
  refine callf (fun t : Option Addr × Nat => .slice t.1 W.length t.2) (fun t V => RowW w.heap.size V.heap.size V (.slice t.1 W.length t.2) W) rfl rfl rfl (fun t V V' hr k => rowW_kp hr k) callCloneW (fun V hV _ => (hcl V hV).mono fun en V' hr => ?_) fun t D hD => ?_
  · cases en with
    | returned v =>
      obtain ⟨k, a, c, rfl, hc, hx⟩ := hr
      have h1 : RowW V.heap.size V'.heap.size V' (.slice a W.length c) W := ⟨a, c, rfl, hc, hx⟩
      exact ⟨k, (a, c), rfl, RowE.mono h1 (fun _ _ h => h) hV.size (Nat.le_refl _)⟩
    | _ => exact hr.elim
  conv => whnf
  refine ldk (v := .int .i64 n) agree rfl rfl (fun V hV _ => Own.at_ (xs := [.int .i64 n]) (o := 0) (hV.own h.hdr id) rfl) (by rfl) fun _ => ?_
  conv => whnf
  intro V hV hd
  have hrow := hD V (hd 8)
  refine nd fun p' V2 e2 s2 k2 m2 => ?_
  exact ⟨hV.trans k2, p', _, rfl, m2, rowW_kp hrow k2, h.pl, hn⟩
end Go.Au

namespace Go.Au
open Go Go.RowKit

/-! ### the members of a set, rising -/
/-- z is the least member above i; -1: there is none -/
def AftP (W : List Nat) (i z : Int) : Prop := (z = -1 ∧ ∀ j : Nat, i < j → hasW W j = false) ∨ ∃ j : Nat, z = j ∧ i < j ∧ hasW W j = true ∧ ∀ k : Nat, i < k → k < j → hasW W k = false
def membW (n : Nat) (W : List Nat) : List Nat := (List.range n).filter (hasW W)
theorem membW_mem {n : Nat} {W : List Nat} (h : SetP n W) {j : Nat} : j ∈ membW n W ↔ hasW W j = true := by
  unfold membW
  rw [List.mem_filter, List.mem_range]
  exact ⟨fun h => h.2, fun h1 => ⟨h.top j h1, h1⟩⟩
theorem membW_sorted (n : Nat) (W : List Nat) : (membW n W).Pairwise (· < ·) := List.Pairwise.filter _ List.pairwise_lt_range
def nthI (L : List Nat) (k : Nat) : Int := match L[k]? with
  | some j => j
  | none => -1
def prvI (L : List Nat) : Nat → Int
  | 0 => -1
  | k + 1 => nthI L k
theorem nthI_lt {L : List Nat} {k : Nat} (h : k < L.length) : nthI L k = L[k] := by unfold nthI; rw [List.getElem?_eq_getElem h]
theorem nthI_ge {L : List Nat} {k : Nat} (h : L.length ≤ k) : nthI L k = -1 := by unfold nthI; rw [List.getElem?_eq_none h]
theorem prvI_lt {L : List Nat} (hs : L.Pairwise (· < ·)) {k m : Nat} (hk : k ≤ L.length) (hm : m < L.length) : prvI L k < (L[m] : Int) ↔ k ≤ m := by
  cases k with
  | zero => exact ⟨fun _ => Nat.zero_le _, fun _ => by show (-1 : Int) < _; omega⟩
  | succ k =>
    show nthI L k < _ ↔ _
    rw [nthI_lt (by omega)]
    rw [List.pairwise_iff_getElem] at hs
    constructor
    · intro h
      rcases Nat.lt_or_ge k m with h1 | h1
      · exact h1
      · rcases Nat.eq_or_lt_of_le h1 with h2 | h2
        · subst h2; omega
        · have := hs m k hm (by omega) h2; omega
    · intro h
      have := hs k m (by omega) hm h
      omega
theorem aft_next {n : Nat} {W : List Nat} (h : SetP n W) {k : Nat} {z : Int} (hk : k ≤ (membW n W).length) (hz : AftP W (prvI (membW n W) k) z) : z = nthI (membW n W) k := by
  have hs := membW_sorted n W
  obtain ⟨L, hL⟩ : ∃ L, L = membW n W := ⟨_, rfl⟩
  have hm : ∀ {j : Nat}, j ∈ L ↔ hasW W j = true := fun {j} => by rw [hL]; exact membW_mem h
  rw [← hL] at hk hz hs ⊢
  rcases hz with ⟨rfl, h1⟩ | ⟨j, rfl, h1, h2, h3⟩
  · rcases Nat.lt_or_ge k L.length with h4 | h4
    · have h5 := h1 L[k] ((prvI_lt hs hk h4).2 (Nat.le_refl _))
      rw [hm.1 (List.getElem_mem h4)] at h5
      cases h5
    · rw [nthI_ge h4]
  · obtain ⟨m, hml, rfl⟩ := List.mem_iff_getElem.1 (hm.2 h2)
    have h4 := (prvI_lt hs hk hml).1 h1
    rcases Nat.eq_or_lt_of_le h4 with h5 | h5
    · subst h5; rw [nthI_lt hml]
    · have h6 := h3 L[k] ((prvI_lt hs hk (by omega)).2 (Nat.le_refl _)) (List.pairwise_iff_getElem.1 hs k m (by omega) hml h5)
      rw [hm.1 (List.getElem_mem (by omega))] at h6
      cases h6

/-! ### the bits of a word from one on -/
theorem testBit_up (x r t : Nat) : (x / 2 ^ r * 2 ^ r).testBit t = (decide (r ≤ t) && x.testBit t) := by
  rw [Nat.testBit_mul_two_pow]
  by_cases h : r ≤ t
  · rw [decide_eq_true h, Bool.true_and, Bool.true_and, Nat.testBit_div_two_pow]
    congr 1; omega
  · rw [decide_eq_false h, Bool.false_and, Bool.false_and]
theorem up_le (x r : Nat) : x / 2 ^ r * 2 ^ r ≤ x := Nat.div_mul_le_self x (2 ^ r)
theorem shlW {a r : Nat} (h : r < 64) (ha : a * 2 ^ r < 18446744073709551616) : IntKind.u64.wrap ((a : Int) * 2 ^ (min ((r : Int)).toNat (IntKind.bits .u64))) = ((a * 2 ^ r : Nat) : Int) := by
  rw [Int.toNat_natCast, Nat.min_eq_left (by show r ≤ 64; omega), show ((2 : Int) ^ r) = ((2 ^ r : Nat) : Int) from (Int.natCast_pow 2 _).symm, ← Int.natCast_mul]
  exact wrapN ha
/-- one word, from place a on -/
def upW (W : List Nat) (a k : Nat) : Nat := if k = a / 64 then W.getD k 0 / 2 ^ (a % 64) * 2 ^ (a % 64) else W.getD k 0
theorem upW_bit {W : List Nat} {a k t : Nat} (hk : a / 64 ≤ k) (ht : t < 64) : (upW W a k).testBit t = (decide (a ≤ 64 * k + t) && hasW W (64 * k + t)) := by
  unfold upW hasW
  rw [show (64 * k + t) / 64 = k by omega, show (64 * k + t) % 64 = t by omega]
  split
  · rename_i h
    rw [testBit_up]
    congr 1
    by_cases h2 : a % 64 ≤ t
    · rw [decide_eq_true h2, decide_eq_true (by omega)]
    · rw [decide_eq_false h2, decide_eq_false (by omega)]
  · rename_i h
    rw [decide_eq_true (by omega), Bool.true_and]
theorem upW_lt {n : Nat} {W : List Nat} (h : SetP n W) (a k : Nat) : upW W a k < 18446744073709551616 := by
  have := h.word k
  have := up_le (W.getD k 0) (a % 64)
  unfold upW; split <;> omega
theorem upW_zero {n : Nat} {W : List Nat} (h : SetP n W) {a k : Nat} (hk : a / 64 ≤ k) (h0 : upW W a k = 0) {j : Nat} (hj : a ≤ j) (hj2 : j / 64 = k) : hasW W j = false := by
  have h1 := upW_bit (W := W) hk (t := j % 64) (Nat.mod_lt _ (by decide))
  rw [h0, Nat.zero_testBit, show 64 * k + j % 64 = j by omega, decide_eq_true hj, Bool.true_and] at h1
  exact h1.symm
end Go.Au

namespace Go.Au
open Go Go.RowKit

theorem aft_hit {n : Nat} {W : List Nat} (h : SetP n W) {a k j m : Nat} {i : Int} (hi : i + 1 = a) (hk : a / 64 ≤ k) (hno : ∀ t : Nat, a ≤ t → t / 64 < k → hasW W t = false) (hx : upW W a k = 2 ^ (j + 1) * m + 2 ^ j) (hj : j < 64) : AftP W i ((64 * k + j : Nat) : Int) := by
  have hb := low_bit (j := j) (m := m) (i := 0)
  rw [← hx, upW_bit hk hj] at hb
  have h1 := hb.1
  rw [Bool.and_eq_true, decide_eq_true_eq] at h1
  refine .inr ⟨_, rfl, by omega, h1.2, fun t h2 h3 => ?_⟩
  rcases Nat.lt_or_ge (t / 64) k with h4 | h4
  · exact hno t (by omega) h4
  · have h5 := (low_bit (j := j) (m := m) (i := t % 64)).2 (by omega)
    rw [← hx, upW_bit hk (by omega), show 64 * k + t % 64 = t by omega, decide_eq_true (show a ≤ t by omega), Bool.true_and] at h5
    exact h5

theorem callAfter : callable Proofs.Tryd.prog 22 = true := by kernel_rfl
theorem after_c {w : World} {p n lo hi : Nat} {v : Value} {W : List Nat} (h : SetR w p n lo hi v W) (hT : Tab w) {i : Int} (h1 : -1 ≤ i) :
    Calls Proofs.Tryd.prog 22 [pt p 0, .int .i64 i].toArray w (Ret fun r w' => ∃ z, r = .int .i64 z ∧ AftP W i z ∧ Kp w w') := by
  have hlen := h.pl.len
  have hnb := h.nb
  obtain ⟨sa, sc, rfl, hsc, hrow⟩ := id h.row
  refine call agree Proofs.Tryd.func22 rfl Proofs.Tryd.ntmps22 (by kernel_rfl) ?_
  refine ld agree (Own.at_ (xs := [.int .i64 n]) (o := 0) h.hdr rfl) (by rfl) ?_
  refine sp (fun h2 => ?_) (fun h2 => ?_)
  · refine ⟨-1, rfl, .inl ⟨rfl, fun j hj => ?_⟩, Chg.refl _ _⟩
    cases hh : hasW W j with
    | false => rfl
    | true => have := h.pl.top j hh; omega
  · obtain ⟨a, ha⟩ : ∃ a : Nat, i + 1 = a := ⟨(i + 1).toNat, by omega⟩
    have han : a ≤ n := by omega
    have hr : a % 64 < 64 := Nat.mod_lt _ (by decide)
    refine mxE (z := i) rfl rfl rfl (by split <;> omega) ?_
    refine arE (show _ = (a : Int) by rw [ha]; exact wrap64 (by omega) (by omega)) ?_
    refine ne (by decide) ?_
    refine arE (quo64 a (by omega)) ?_
    refine loop agree (σ := Nat) (fun k => [(0, pt p 0), (1, .int .i64 a), (5, .int .i64 k)]) (fun k V => Kp w V ∧ a / 64 ≤ k ∧ k ≤ W.length ∧ ∀ t : Nat, a ≤ t → t / 64 < k → hasW W t = false) (fun k => W.length - k) (a / 64)
      ⟨rfl, rfl, rfl, trivial⟩ ⟨Chg.refl _ _, Nat.le_refl _, by omega, fun t h3 h4 => by omega⟩ ?_
    rintro k e0 V ⟨kV, hka, hkl, hno⟩
    refine ld agree (Own.at_ (xs := [.slice sa W.length sc]) (o := 1) (kV.own h.hdr id) rfl) (by rfl) ?_
    refine sp (fun hlt => ?_) (fun hge => ?_)
    · have hlt : k < W.length := by omega
      obtain ⟨b, o, rfl, -, -, cs, -, hrd, rfl⟩ := hrow k _ (fwAt hlt)
      have hul := upW_lt h.pl a k
      have hlow := low_split (upW W a k)
      have hjm : Unit → ∀ j m, upW W a k = 2 ^ (j + 1) * m + 2 ^ j → j < 64 := fun _ j m hx => by
        rcases Nat.lt_or_ge j 64 with h1 | h1
        · exact h1
        · have := Nat.pow_le_pow_right (n := 2) (by decide) h1
          omega
      refine ld agree (Own.at_ (xs := [.slice (some ⟨b, o, none⟩) W.length sc]) (o := 1) (kV.own h.hdr id) rfl) (by rfl) ?_
      refine ne ⟨by omega, by omega⟩ ?_
      by_cases hk : k = a / 64
      · refine ld (v := .int .u64 (W.getD k 0 : Nat)) agree (by rw [Int.toNat_natCast]; exact kV.range hrd id) (by rfl) ?_
        refine ne (by decide) ?_
        refine arE (quo64 a (by omega)) ?_
        refine spT (by omega) ?_
        refine ne (by decide) ?_
        refine arE (rem64 a) ?_
        refine ne (by omega) ?_
        refine arE (shr64 hr) ?_
        refine ne (by decide) ?_
        refine arE (rem64 a) ?_
        refine ne (by omega) ?_
        refine arE (show _ = ((upW W a k : Nat) : Int) from (shlW hr (by have := upW_lt h.pl a k; unfold upW at this; rw [if_pos hk] at this; exact this)).trans (by unfold upW; rw [if_pos hk])) ?_
        refine sp (fun hx => ?_) (fun hx => ?_)
        · have hl2 := hlow (by omega)
          obtain ⟨j, m, hxj⟩ := hl2
          have hj := hjm () j m hxj
          refine aw (by omega) (by omega) ?_
          have htz := tz_c (hT.kp kV) hxj hul
          refine cl callTz htz ?_
          rintro _ V2 ⟨rfl, k2⟩
          refine aw (by omega) (by omega) ?_
          exact ⟨_, rfl, aft_hit h.pl ha hka hno hxj hj, kV.trans k2⟩
        · refine aw (by omega) (by omega) ?_
          refine again (k + 1) ⟨rfl, rfl, rfl, trivial⟩ ⟨kV, by omega, by omega, fun t h3 h4 => ?_⟩ (by omega)
          rcases Nat.lt_or_ge (t / 64) k with h5 | h5
          · exact hno t h3 h5
          · exact upW_zero h.pl hka (by omega) h3 (by omega)
      · have hrd' : w.rangeAt b (o + k * 1) [.int .u64 (upW W a k : Nat)] := by unfold upW; rw [if_neg hk]; exact hrd
        refine ld (v := .int .u64 (upW W a k : Nat)) agree (by rw [Int.toNat_natCast]; exact kV.range hrd' id) (by rfl) ?_
        refine ne (by decide) ?_
        refine arE (quo64 a (by omega)) ?_
        refine spF (by omega) ?_
        refine sp (fun hx => ?_) (fun hx => ?_)
        · have hl2 := hlow (by omega)
          obtain ⟨j, m, hxj⟩ := hl2
          have hj := hjm () j m hxj
          refine aw (by omega) (by omega) ?_
          have htz := tz_c (hT.kp kV) hxj hul
          refine cl callTz htz ?_
          rintro _ V2 ⟨rfl, k2⟩
          refine aw (by omega) (by omega) ?_
          exact ⟨_, rfl, aft_hit h.pl ha hka hno hxj hj, kV.trans k2⟩
        · refine aw (by omega) (by omega) ?_
          refine again (k + 1) ⟨rfl, rfl, rfl, trivial⟩ ⟨kV, by omega, by omega, fun t h3 h4 => ?_⟩ (by omega)
          rcases Nat.lt_or_ge (t / 64) k with h5 | h5
          · exact hno t h3 h5
          · exact upW_zero h.pl hka (by omega) h3 (by omega)
    · refine ⟨-1, rfl, .inl ⟨rfl, fun j hj => ?_⟩, kV⟩
      cases hh : hasW W j with
      | false => rfl
      | true =>
        have h5 := h.pl.top j hh
        have h6 := hno j (by omega) (by omega)
        rw [hh] at h6; cases h6

theorem callFirst : callable Proofs.Tryd.prog 21 = true := by kernel_rfl
theorem first_c {w : World} {p n lo hi : Nat} {v : Value} {W : List Nat} (h : SetR w p n lo hi v W) (hT : Tab w) :
    Calls Proofs.Tryd.prog 21 [pt p 0].toArray w (Ret fun r w' => ∃ z, r = .int .i64 z ∧ AftP W (-1) z ∧ Kp w w') := by
  refine call agree Proofs.Tryd.func21 rfl Proofs.Tryd.ntmps21 (by kernel_rfl) ?_
  have hcall := after_c h hT (i := -1) (by omega)
  refine cl callAfter hcall ?_
  rintro _ w1 ⟨z, rfl, hz, k1⟩
  exact ⟨z, rfl, hz, k1⟩
end Go.Au

namespace Go.Au
open Go Go.RowKit

theorem yieldMono {F : Fence} {m : Nat} {P : Program} {l : Nat} {args : Array Value} {W : World} {R R' : Ending → World → Prop} (h : YieldAt F m P l args W R) (hr : ∀ e w, R e w → R' e w) : YieldAt F m P l args W R' := by
  obtain ⟨fn, tmps, assign, body, hy, hR⟩ := h
  exact ⟨fn, tmps, assign, body, hy, hR.mono hr⟩
theorem setR_kp {w w' : World} {p n lo : Nat} {v : Value} {W : List Nat} (h : SetR w p n lo w.heap.size v W) (k : Kp w w') : SetR w' p n lo w'.heap.size v W := ⟨k.own h.hdr id, rowW_kp h.row k, h.pl, h.nb⟩
/-- what All hands back, reads -/
def AllC (b p n lo : Nat) (v : Value) (W : List Nat) (w : World) : Prop := Own w b 39 [pt p 0] ∧ SetR w p n lo w.heap.size v W ∧ Tab w
theorem AllC.kp {b p n lo : Nat} {v : Value} {W : List Nat} {w w' : World} (h : AllC b p n lo v W w) (k : Kp w w') : AllC b p n lo v W w' := ⟨k.own h.1 id, setR_kp h.2.1 k, h.2.2.kp k⟩
def fN (x : Nat) : List Value := [.int .i64 (x : Int)]
theorem allI (b p n lo : Nat) (v : Value) (W : List Nat) : IterC Proofs.Tryd.prog 20 [pt b 0] fN (membW n W) (AllC b p n lo v W) := by
  constructor
  intro l J Jx w hJ hJx hC hy h0
  refine call agree Proofs.Tryd.func20 rfl Proofs.Tryd.ntmps20 (by kernel_rfl) ?_
  have c0 := hC _ _ h0
  have hpl := c0.2.1.pl
  have hsrt := membW_sorted n W
  have haft := fun k (z : Int) => aft_next hpl (k := k) (z := z)
  have hnb := c0.2.1.nb
  have hlt : ∀ j ∈ membW n W, j < n := fun j hj => hpl.top j ((membW_mem hpl).1 hj)
  obtain ⟨L, hL⟩ : ∃ L, L = membW n W := ⟨_, rfl⟩
  rw [← hL] at hy haft hsrt hlt ⊢
  refine ld agree (Own.at_ (xs := [pt p 0]) (o := 0) c0.1 rfl) (by rfl) ?_
  have hf := first_c c0.2.1 c0.2.2
  refine cl callFirst hf ?_
  rintro _ w1 ⟨z, rfl, hz, k1⟩
  have hz0 := haft 0 z (Nat.zero_le _) hz
  subst hz0
  refine loop agree (σ := Nat) (fun k => [(0, .func (.yield l) #[] #[]), (1, pt b 0), (3, .int .i64 (nthI L k))]) (fun k V => k ≤ L.length ∧ J (L.take k) V) (fun k => L.length - k) 0
    ⟨rfl, rfl, rfl, trivial⟩ ⟨by omega, hJ _ _ _ h0 k1⟩ ?_
  rintro k e0 w2 ⟨hk, hj⟩
  refine sp (fun hge => ?_) (fun hno => ?_)
  · have hk' : k < L.length := by
      rcases Nat.lt_or_ge k L.length with h | h
      · exact h
      · rw [nthI_ge h] at hge; omega
    have hn := nthI_lt hk'
    have hs : L.take k ++ [L[k]] = L.take (k + 1) := by simp
    have hpre : L.take k ++ [L[k]] <+: L := by rw [hs]; exact List.take_prefix _ _
    have hyy := hy (L.take k) L[k] w2 hj hpre
    unfold fN at hyy
    rw [← hn] at hyy
    refine ⟨yieldMono hyy ?_⟩
    intro en w4 hr
    cases en with
    | returned v =>
      rcases hr with ⟨rfl, h⟩ | ⟨rfl, h⟩
      · rw [hs] at h
        have c4 := hC _ _ h
        refine ld agree (Own.at_ (xs := [pt p 0]) (o := 0) c4.1 rfl) (by rfl) ?_
        have hcall := after_c c4.2.1 c4.2.2 (i := nthI L k) (by rw [hn]; omega)
        refine cl callAfter hcall ?_
        rintro _ w5 ⟨z, rfl, hz, k5⟩
        have hz1 := haft (k + 1) z (by omega) hz
        subst hz1
        exact again (k + 1) ⟨rfl, rfl, rfl, trivial⟩ ⟨by omega, hJ _ _ _ h k5⟩ (by omega)
      · exact .inr ⟨_, h⟩
    | _ => exact hr.elim
  · have hkl : L.take k = L := List.take_of_length_le (by
      rcases Nat.lt_or_ge k L.length with h | h
      · rw [nthI_lt h] at hno; omega
      · exact h)
    rw [hkl] at hj
    exact .inl hj

theorem callAll1 : callable Proofs.Tryd.prog 20 = true := by kernel_rfl
theorem callAll : callable Proofs.Tryd.prog 11 = true := by kernel_rfl
theorem all_c {w : World} {p q n : Nat} {W : List Nat} (h : SetV w p q n W) (hT : Tab w) :
    Calls Proofs.Tryd.prog 11 [pt p 0].toArray w (Ret fun r w' => Kp w w' ∧ ∃ b p' v, r = .func (.func 20) #[] #[pt b 0] ∧ w.heap.size ≤ b ∧ AllC b p' n w.heap.size v W w') := by
  refine call agree Proofs.Tryd.func11 rfl Proofs.Tryd.ntmps11 (by kernel_rfl) ?_
  have hcall := copy_c h
  refine cl callCopy hcall ?_
  rintro _ w1 ⟨k1, p', v, rfl, hR⟩
  refine nd fun b w2 e2 s2 k2 m2 => ?_
  refine st agree m2 rfl (Nat.le_refl 1) rfl ?_
  intro w3 s3 k3 m3
  have m3 : Own w3 b 39 [pt p' 0] := m3
  have k13 : Kp w1 w3 := k2.newS k3 fun j hj => by omega
  have z1 := k1.size
  exact ⟨k1.trans k13, b, p', v, rfl, by omega, m3, setR_kp hR k13, (hT.kp k1).kp k13⟩
end Go.Au

namespace Go.Au
open Go Go.RowKit

/-! ### rows of letters -/
abbrev fL (x : Int) : List Value := [.int .u16 x]
theorem letters_mem {lo hi : Nat} {w : World} {v : Value} {xs : List Int} (h : Letters lo hi w v xs) : ∀ x ∈ xs, Let16 x := fun x hx => by
  obtain ⟨a, c, -, -, hr⟩ := h
  obtain ⟨i, hi⟩ := List.mem_iff_getElem?.1 hx
  obtain ⟨_, _, _, _, _, _, _, _, _, h2⟩ := hr i x hi
  exact h2
theorem letters_row {lo hi : Nat} {w : World} {v : Value} {xs : List Int} (h : Letters lo hi w v xs) : RowE (fun _ cs (x : Int) => cs = fL x) 1 lo hi w v xs := RowE.mono h (fun _ _ h => h.1) (Nat.le_refl _) (Nat.le_refl _)
theorem letters_of {lo hi : Nat} {w : World} {v : Value} {xs : List Int} (h : RowE (fun _ cs (x : Int) => cs = fL x) 1 lo hi w v xs) (hm : ∀ x ∈ xs, Let16 x) : Letters lo hi w v xs := by
  obtain ⟨a, c, hv, hc, hr⟩ := h
  refine ⟨a, c, hv, hc, fun i x hx => ?_⟩
  obtain ⟨b, o, h1, h2, h3, cs, h4, h5, h6⟩ := hr i x hx
  exact ⟨b, o, h1, h2, h3, cs, h4, h5, h6, hm x (List.mem_of_getElem? hx)⟩
theorem letters_kp {lo hi lo' hi' : Nat} {w w' : World} {v : Value} {xs : List Int} (h : Letters lo hi w v xs) (k : Kp w w') (h1 : lo' ≤ lo) (h2 : hi ≤ hi') : Letters lo' hi' w' v xs := (h.chg k (fun _ _ _ h => h) (fun _ _ h => h)).mono (fun _ _ h => h) h1 h2
theorem letters_nil (lo hi : Nat) (w : World) : Letters lo hi w (.slice none 0 0) [] := ⟨none, 0, rfl, Nat.le_refl _, fun i x hx => by simp at hx⟩

/-! ### Equal -/
theorem callEqU : callable Proofs.Tryd.prog 48 = true := by kernel_rfl
theorem eqU_c {w : World} {lo hi lo' hi' c c' : Nat} {a a' : Option Addr} {xs ys : List Int} (h : Letters lo hi w (.slice a xs.length c) xs) (h' : Letters lo' hi' w (.slice a' ys.length c') ys) (hl : xs.length < 4611686018427387904) (hl' : ys.length < 4611686018427387904) :
    Calls Proofs.Tryd.prog 48 [.slice a xs.length c, .slice a' ys.length c'].toArray w (Ret fun r w' => r = .bool (decide (xs = ys)) ∧ Kp w w') := by
  obtain ⟨_, _, e1, -, hr⟩ := h
  injection e1 with h1 _ h3
  subst h1 h3
  obtain ⟨_, _, e1, -, hr'⟩ := h'
  injection e1 with h1 _ h3
  subst h1 h3
  refine call agree Proofs.Tryd.func48 rfl Proofs.Tryd.ntmps48 (by kernel_rfl) ?_
  by_cases hlen : xs.length = ys.length
  · refine spF (by omega) ?_
    refine loop agree (σ := Nat) (fun i => [(0, .slice a xs.length c), (1, .slice a' ys.length c'), (12, .int .i64 xs.length), (13, .int .i64 i)]) (fun i w' => Kp w w' ∧ i ≤ xs.length ∧ xs.take i = ys.take i) (fun i => xs.length - i) 0
      ⟨rfl, rfl, rfl, rfl, trivial⟩ ⟨Chg.refl _ _, by omega, rfl⟩ ?_
    rintro i e0 w1 ⟨k, hi, htk⟩
    refine sp (fun hlt => ?_) (fun hge => ?_)
    · have hi' : i < xs.length := by omega
      obtain ⟨b, o, rfl, -, -, cs, -, hrd, rfl, -⟩ := hr i xs[i] (by simp [hi'])
      obtain ⟨b', o', rfl, -, -, cs', -, hrd', rfl, -⟩ := hr' i (ys[i]'(by omega)) (by simp [show i < ys.length by omega])
      refine drawn0 agree mixed 9 (by kernel_rfl) (fun _ => False) ?_
      conv => whnf
      refine ne ⟨by omega, by omega⟩ ?_
      conv => whnf
      refine ldk (v := .int .u16 xs[i]) agree rfl rfl (fun V hV _ => by rw [Int.toNat_natCast]; exact (k.trans hV).range hrd id) (by rfl) fun _ => ?_
      conv => whnf
      refine ne ⟨by omega, by omega⟩ ?_
      conv => whnf
      refine ldk (v := .int .u16 (ys[i]'(by omega))) agree rfl rfl (fun V hV _ => by rw [Int.toNat_natCast]; exact (k.trans hV).range hrd' id) (by rfl) fun _ => ?_
      conv => whnf
      by_cases he : xs[i] = ys[i]'(by omega)
      · refine spF (fun h => h he) ?_
        conv => whnf
        intro V hV _
        refine aw (by omega) (by omega) ?_
        refine again (i + 1) ⟨rfl, rfl, rfl, rfl, trivial⟩ ⟨k.trans hV, by omega, ?_⟩ (by omega)
        rw [List.take_succ_eq_append_getElem hi', List.take_succ_eq_append_getElem (show i < ys.length by omega), htk, he]
      · refine spT he ?_
        conv => whnf
        intro V hV _
        refine ⟨congrArg Value.bool ?_, k.trans hV⟩
        rw [decide_eq_false]
        rintro rfl
        exact he rfl
    · refine ⟨congrArg Value.bool ?_, k⟩
      have : i = xs.length := by omega
      subst this
      rw [List.take_length, hlen, List.take_length] at htk
      rw [decide_eq_true htk]
  · refine spT (by omega) ?_
    refine ⟨congrArg Value.bool ?_, Chg.refl _ _⟩
    rw [decide_eq_false]
    rintro rfl
    exact hlen rfl

/-! ### Clone -/
theorem callCloneU : callable Proofs.Tryd.prog 36 = true := by kernel_rfl
theorem cloneU_c {w : World} {lo hi c : Nat} {a : Option Addr} {xs : List Int} (h : Letters lo hi w (.slice a xs.length c) xs) (hl : xs.length < 1000000000000) :
    Calls Proofs.Tryd.prog 36 [.slice a xs.length c].toArray w (Ret fun r w' => Kp w w' ∧ Letters w.heap.size w'.heap.size w' r xs) := by
  have hm := letters_mem h
  refine call agree Proofs.Tryd.func36 rfl Proofs.Tryd.ntmps36 (by kernel_rfl) ?_
  refine slNil agree rfl rfl rfl (by kernel_rfl) ?_
  cases a with
  | none =>
    have : xs = [] := by
      cases xs with
      | nil => rfl
      | cons x r =>
        obtain ⟨_, _, e1, -, hr⟩ := h
        obtain ⟨b, o, h2, _⟩ := hr 0 x rfl
        injection e1 with h1 _ _
        rw [← h1] at h2
        cases h2
    subst this
    exact ⟨Chg.refl _ _, letters_nil _ _ _⟩
  | some a =>
    refine ne (by decide) ?_
    refine nd fun b w1 e1 s1 k1 m1 => ?_
    have own0 : w1.ownsRow w.heap.size 42 1 (.slice (some ⟨b, 0, none⟩) 0 0) 0 [] := ⟨rfl, .inr ⟨b, 0, _, rfl, by omega, m1, by omega, by simp [maxLen], rfl, by simp⟩⟩
    refine apV (f := fL) (size := 1) agree rfl rfl rfl rfl rfl rfl rfl (by decide) own0 (fun _ => rfl) (letters_row (letters_kp h k1 (Nat.le_refl _) (Nat.le_refl _))) (fun _ => rfl) (by simp only [maxLen]; omega) (by show (_ + xs.length) * 2 ≤ _; omega) (by omega) ?_
    intro v' w2 o2 c2
    refine ⟨k1.newS c2 fun j hj => ?_, ?_⟩
    · have : j = b := by have h2 : some j = some b := hj; injection h2
      omega
    · have o2 : w2.ownsRow w.heap.size 42 1 v' (0 + xs.length) (xs.flatMap fL) := o2
      rw [Nat.zero_add] at o2
      exact letters_of (ownsRow_row (fun _ => rfl) o2 (by decide)) hm

/-! ### Grow, of none; Concat -/
theorem callGrowU : callable Proofs.Tryd.prog 37 = true := by kernel_rfl
theorem growU_c (w : World) (n : Nat) (hn : n < 1000000000000) :
    Calls Proofs.Tryd.prog 37 [.slice none 0 0, .int .i64 n].toArray w (Ret fun r w' => Kp w w' ∧ w'.ownsRow w.heap.size 42 1 r 0 []) := by
  refine call agree Proofs.Tryd.func37 rfl Proofs.Tryd.ntmps37 (by kernel_rfl) ?_
  refine spF (by omega) ?_
  refine arE (show _ = (0 : Int) from wrap64 (by decide) (by decide)) ?_
  refine arE (show _ = (n : Int) by rw [Int.sub_zero]; exact wrap64 (by omega) (by omega)) ?_
  refine sp (fun h => ?_) (fun h => ?_)
  · refine ne (by decide) ?_
    refine apz agree rfl rfl rfl rfl rfl rfl rfl rfl rfl (by omega) (by simp only [maxLen]; omega) (by show n * 2 ≤ _; omega) ?_
    intro b c w1 hb hc k1 ho
    refine ne ⟨by decide, by decide, by omega⟩ ?_
    exact ⟨k1, ho _ (by omega)⟩
  · exact ⟨Chg.refl _ _, World.ownsRow_nil _ _ _ _⟩
end Go.Au

namespace Go.Au
open Go Go.RowKit

abbrev RowsU (lo hi lo2 hi2 : Nat) := RowE (fun w cs (l : List Int) => ∃ v, cs = [v] ∧ Letters lo hi w v l) 1 lo2 hi2
def lenTo (xss : List (List Int)) (i : Nat) : Nat := (xss.take i).flatten.length
theorem lenTo_le (xss : List (List Int)) (i : Nat) : lenTo xss i ≤ xss.flatten.length := by
  unfold lenTo
  conv => rhs; rw [← List.take_append_drop i xss, List.flatten_append, List.length_append]
  omega
theorem flat_take {xss : List (List Int)} {i : Nat} (hi : i < xss.length) : (xss.take (i + 1)).flatten = (xss.take i).flatten ++ xss[i] := by
  rw [List.take_succ_eq_append_getElem hi, List.flatten_append]
  simp
theorem lenTo_succ {xss : List (List Int)} {i : Nat} (hi : i < xss.length) : lenTo xss (i + 1) = lenTo xss i + xss[i].length := by
  unfold lenTo
  rw [flat_take hi, List.length_append]
theorem callConcatU : callable Proofs.Tryd.prog 24 = true := by kernel_rfl
theorem concatU_c {w : World} {lo hu lo2 hi2 : Nat} {u : Value} {xss : List (List Int)} (h : RowsU lo hu lo2 hi2 w u xss) (hl : xss.flatten.length < 1000000000000) (hn : xss.length < 1000000000000) :
    Calls Proofs.Tryd.prog 24 [u].toArray w (Ret fun r w' => Kp w w' ∧ Letters w.heap.size w'.heap.size w' r xss.flatten) := by
  obtain ⟨a, c, rfl, hc, hr⟩ := h
  have hmem : Unit → ∀ x ∈ xss.flatten, Let16 x := fun _ x hx => by
    obtain ⟨l, hl, hx⟩ := List.mem_flatten.1 hx
    obtain ⟨i, hi⟩ := List.mem_iff_getElem?.1 hl
    obtain ⟨_, _, _, _, _, _, _, _, v, _, hv⟩ := hr i l hi
    exact letters_mem hv x hx
  refine call agree Proofs.Tryd.func24 rfl Proofs.Tryd.ntmps24 (by kernel_rfl) ?_
  refine loop agree (σ := Nat) (fun i => [(0, .slice a xss.length c), (3, .int .i64 (lenTo xss i : Nat)), (9, .slice a xss.length c), (10, .int .i64 xss.length), (11, .int .i64 i)]) (fun i V => Kp w V ∧ i ≤ xss.length) (fun i => xss.length - i) 0
    ⟨rfl, rfl, rfl, rfl, rfl, trivial⟩ ⟨Chg.refl _ _, by omega⟩ ?_
  rintro i e0 w1 ⟨k1, hi⟩
  refine sp (fun hlt => ?_) (fun hge => ?_)
  · have hi' : i < xss.length := by omega
    obtain ⟨b, o, rfl, -, -, cs, -, hrd, v, rfl, hv⟩ := hr i xss[i] (by simp [hi'])
    have hsu := lenTo_succ hi'
    have hle := lenTo_le xss (i + 1)
    obtain ⟨va, vc, rfl, -⟩ := id hv
    refine ne ⟨by omega, by omega⟩ ?_
    refine ld (v := .slice va (xss[i]).length vc) agree (by rw [Int.toNat_natCast]; exact k1.range hrd id) (by rfl) ?_
    refine arE (show _ = ((lenTo xss (i + 1) : Nat) : Int) by rw [hsu, Int.natCast_add]; exact wrap64 (by omega) (by omega)) ?_
    refine spF (by omega) ?_
    refine aw (by omega) (by omega) ?_
    exact again (i + 1) ⟨rfl, rfl, rfl, rfl, rfl, trivial⟩ ⟨k1, by omega⟩ (by omega)
  · have hie : i = xss.length := by omega
    subst hie
    have hall : lenTo xss xss.length = xss.flatten.length := by unfold lenTo; rw [List.take_length]
    have hg := growU_c w1 (lenTo xss xss.length) (by omega)
    refine cl callGrowU hg ?_
    rintro _ w2 ⟨k2, o2⟩
    rename_i gv
    have z1 := k1.size
    have z2 := k2.size
    refine loop agree (σ := Nat × Value) (fun t => [(6, t.2), (25, .slice a xss.length c), (26, .int .i64 xss.length), (27, .int .i64 t.1)]) (fun t V => Kp w V ∧ w2.heap.size ≤ V.heap.size ∧ t.1 ≤ xss.length ∧ V.ownsRow w1.heap.size 42 1 t.2 (lenTo xss t.1) ((xss.take t.1).flatten.flatMap fL)) (fun t => xss.length - t.1) (0, gv)
      ⟨rfl, rfl, rfl, rfl, trivial⟩ ⟨k1.trans k2, Nat.le_refl _, Nat.zero_le _, o2⟩ ?_
    rintro ⟨i, rv⟩ e1 w3 ⟨k3, z3, hi, o3⟩
    simp only at hi o3
    refine sp (fun hlt => ?_) (fun hge => ?_)
    · have hi' : i < xss.length := by simp only at hlt; omega
      obtain ⟨b, o, rfl, -, -, cs, -, hrd, v, rfl, hv⟩ := hr i xss[i] (by simp [hi'])
      have hsu := lenTo_succ hi'
      have hle := lenTo_le xss (i + 1)
      have hrow := letters_row (letters_kp (hi' := hu) (lo' := lo) hv k3 (Nat.le_refl _) (Nat.le_refl _))
      obtain ⟨va, vc, rfl, -⟩ := id hv
      refine ne ⟨by simp only; omega, by simp only; omega⟩ ?_
      refine ld (v := .slice va (xss[i]).length vc) agree (by rw [Int.toNat_natCast]; exact k3.range hrd id) (by rfl) ?_
      refine apV (f := fL) (size := 1) agree rfl rfl rfl rfl rfl rfl rfl (by decide) o3 (fun _ => rfl) hrow (fun _ => rfl) (by simp only [maxLen]; omega) (by show (_ + (xss[i]).length) * 2 ≤ _; omega) (by omega) ?_
      intro v' w4 o4 c4
      refine aw (by simp only; omega) (by simp only; omega) ?_
      refine again (i + 1, v') ⟨rfl, rfl, rfl, rfl, trivial⟩ ⟨k3.newS c4 fun j hj => ?_, by have := c4.size; omega, by simp only; omega, ?_⟩ (by simp only; omega)
      · have := ownsRow_base o3 hj.symm
        omega
      · simp only
        rw [hsu, flat_take hi', List.flatMap_append]
        exact o4
    · have hie : i = xss.length := by simp only at hge; omega
      subst hie
      refine ⟨k3, letters_of ?_ (hmem ())⟩
      rw [List.take_length] at o3
      exact RowE.mono (ownsRow_row (f := fL) (fun _ => rfl) o3 (by decide)) (fun _ _ h => h) z1 (Nat.le_refl _)
end Go.Au

namespace Go.Au
open Go Go.RowKit

/-! ### the period -/
theorem callPeriod : callable Proofs.Tryd.prog 35 = true := by kernel_rfl
theorem quoRem (a n : Nat) (hn : 0 < n) : ((a : Int)).tmod (n : Int) = ((a % n : Nat) : Int) := by
  rw [Int.tmod_eq_emod_of_nonneg (by omega)]; rfl
theorem period_c {w : World} {lo hi c : Nat} {a : Option Addr} {l : List Int} (h : Letters lo hi w (.slice a l.length c) l) (hl : l.length < 1000000000000) :
    Calls Proofs.Tryd.prog 35 [.slice a l.length c].toArray w (Ret fun r w' => r = .int .i64 (perS l : Nat) ∧ Kp w w') := by
  have hcl : l.length ≤ c := by
    obtain ⟨_, _, e1, h2, _⟩ := h
    injection e1 with _ _ h3
    omega
  refine call agree Proofs.Tryd.func35 rfl Proofs.Tryd.ntmps35 (by kernel_rfl) ?_
  refine loop agree (σ := Nat) (fun n => [(0, .slice a l.length c), (3, .int .i64 n)]) (fun n V => Kp w V ∧ 1 ≤ n ∧ ∀ m, m < n → m < l.length → ¬ isPer l m) (fun n => l.length - n) 1
    ⟨rfl, rfl, trivial⟩ ⟨Chg.refl _ _, Nat.le_refl _, fun m hm _ hp => by have := hp.1; omega⟩ ?_
  rintro n e0 w1 ⟨k1, hn1, hno⟩
  refine sp (fun hlt => ?_) (fun hge => ?_)
  · have hlt : n < l.length := by omega
    have h1 := letters_kp h k1 (Nat.le_refl _) (Nat.le_refl _)
    by_cases hmod : l.length % n = 0
    · have hcall : ∀ V, Kp w1 V → Calls Proofs.Tryd.prog 48 [.slice (if c = n then a else a.map (·.add (n * 1))) (l.length - n) (c - n), .slice a (l.length - n) c].toArray V (Ret fun r w' => r = .bool (decide (l.drop n = l.take (l.length - n))) ∧ Kp V w') := fun V hV => by
        have hV1 := letters_kp h1 hV (Nat.le_refl _) (Nat.le_refl _)
        have hd := rowD hV1 (k := n) (by omega)
        have ht := rowT hV1 (k := l.length - n) (by omega)
        have hdl : (l.drop n).length = l.length - n := List.length_drop
        have htl : (l.take (l.length - n)).length = l.length - n := by rw [List.length_take]; omega
        rw [← hdl] at hd
        have := eqU_c hd (ys := l.take (l.length - n)) (a' := a) (c' := c) (by rw [htl]; exact ht) (by omega) (by omega)
        rw [hdl, htl] at this
        exact this
      refine drawn0 agree mixed 17 (by kernel_rfl) (fun _ => False) ?_
      conv => whnf
      refine ne (by omega) ?_
      conv => whnf
      refine arE (quoRem _ _ (by omega)) ?_
      conv => whnf
      refine spT (by omega) ?_
      conv => whnf
      refine ne ⟨by omega, by omega, by omega⟩ ?_
      conv => whnf
      refine arE (show _ = ((l.length - n : Nat) : Int) by rw [Int.ofNat_sub (by omega)]; exact wrap64 (by omega) (by omega)) ?_
      conv => whnf
      refine ne ⟨by omega, by omega, by omega⟩ ?_
      conv => whnf
      by_cases hp : l.drop n = l.take (l.length - n)
      · refine callk (v := .bool true) rfl rfl rfl callEqU (fun V hV _ => by have := hcall V hV; rw [decide_eq_true hp] at this; exact this) fun _ => ?_
        conv => whnf
        intro V hV _
        have hper : isPer l n := ⟨by omega, by omega, hmod, hp⟩
        exact ⟨congrArg (fun m : Nat => Value.int .i64 (m : Int)) (perS_first (fun m hm => hno m hm (by omega)) hper hlt).symm, k1.trans hV⟩
      · refine callk (v := .bool false) rfl rfl rfl callEqU (fun V hV _ => by have := hcall V hV; rw [decide_eq_false hp] at this; exact this) fun _ => ?_
        conv => whnf
        intro V hV _
        refine aw (by omega) (by omega) ?_
        refine again (n + 1) ⟨rfl, rfl, trivial⟩ ⟨k1.trans hV, by omega, fun m hm hml hpm => ?_⟩ (by omega)
        rcases Nat.lt_or_ge m n with h2 | h2
        · exact hno m h2 hml hpm
        · obtain rfl : m = n := by omega
          exact hp hpm.2.2.2
    · refine drawn0 agree mixed 17 (by kernel_rfl) (fun _ => False) ?_
      conv => whnf
      refine ne (by omega) ?_
      conv => whnf
      refine arE (quoRem _ _ (by omega)) ?_
      conv => whnf
      refine spF (by omega) ?_
      conv => whnf
      intro V hV _
      refine aw (by omega) (by omega) ?_
      refine again (n + 1) ⟨rfl, rfl, trivial⟩ ⟨k1.trans hV, by omega, fun m hm hml hpm => ?_⟩ (by omega)
      rcases Nat.lt_or_ge m n with h2 | h2
      · exact hno m h2 hml hpm
      · obtain rfl : m = n := by omega
        exact hmod hpm.2.2.1
  · exact ⟨congrArg (fun m : Nat => Value.int .i64 (m : Int)) (perS_none fun m hm => hno m (by omega) hm).symm, k1⟩
end Go.Au

namespace Go.Au
open Go Go.RowKit

theorem backS_succ {stem base : List Int} {s t : Nat} : backS stem base (s + 1) t = if stem.getD s 0 = base.getD ((t + base.length - 1) % base.length) 0 then backS stem base s ((t + base.length - 1) % base.length) else (s + 1, t) := rfl
theorem callNormal : callable Proofs.Tryd.prog 23 = true := by kernel_rfl
theorem letters_low {S : Nat → Prop} {lo hi lo' hi' : Nat} {w w' : World} {v : Value} {xs : List Int} (h : Letters lo hi w v xs) (k : Chg S w w') (hS : ∀ j, S j → j < lo) (h1 : lo' ≤ lo) (h2 : hi ≤ hi') : Letters lo' hi' w' v xs := by
  obtain ⟨a, c, rfl, hc, hr⟩ := h
  refine ⟨a, c, rfl, hc, fun i x hx => ?_⟩
  obtain ⟨b, o, rfl, h3, h4, cs, h5, h6, h7⟩ := hr i x hx
  exact ⟨b, o, rfl, by omega, by omega, cs, h5, k.range h6 fun hb => by have := hS b hb; omega, h7⟩
set_option maxHeartbeats 1000000 in
theorem normal_c {w : World} {lo hi : Nat} {sv lv : Value} {x : Word} (hv : WordV lo hi w sv lv x) (hs : x.stem.length < 100000000000) (hl : x.loop.length < 100000000000) (hhi : hi ≤ w.heap.size) :
    Calls Proofs.Tryd.prog 23 [.agg #[sv, lv]].toArray w (Ret fun r w' => Kp w w' ∧ ∃ sv' lv', r = .agg #[sv', lv'] ∧ WordV w.heap.size w'.heap.size w' sv' lv' (normS x)) := by
  obtain ⟨a1, c1, rfl, hc1, hS⟩ := id hv.stem
  obtain ⟨a2, c2, rfl, hc2, hL⟩ := id hv.loop
  refine call agree Proofs.Tryd.func23 rfl Proofs.Tryd.ntmps23 (by kernel_rfl) ?_
  refine nd fun b1 w1 e1 s1 k1 m1 => ?_
  have m1 : Own w1 b1 29 [.slice a1 x.stem.length c1, .slice a2 x.loop.length c2] := m1
  refine nd fun b2 w2 e2 s2 k2 m2 => ?_
  have m2 : Own w2 b2 29 [nilS, nilS] := m2
  have m1 := k2.own m1 id
  have k12 := k1.trans k2
  refine ld agree (Own.at_ (xs := [.slice a2 x.loop.length c2]) (o := 1) m1 rfl) (by rfl) ?_
  refine sp (fun h0 => ?_) (fun h0 => ?_)
  · have h0 : x.loop.length = 0 := by omega
    refine st agree m2 rfl (Nat.le_refl 2) rfl ?_
    intro w3 s3 k3 m3
    have m3 : Own w3 b2 29 [nilS, nilS] := m3
    refine ld agree (v := .agg #[nilS, nilS]) (Own.at_ (xs := [nilS, nilS]) (o := 0) m3 rfl) (by rfl) ?_
    have hn : normS x = ⟨[], []⟩ := by unfold normS; rw [if_pos h0]
    refine ⟨k1.trans (k2.new e2 k3), _, _, rfl, ?_⟩
    rw [hn]
    exact ⟨letters_nil _ _ _, letters_nil _ _ _, by show 0 < _; decide, by show 0 < _; decide⟩
  · have h0 : x.loop.length ≠ 0 := by omega
    have hper := perS_is h0
    obtain ⟨P, hP⟩ : ∃ P, P = perS x.loop := ⟨_, rfl⟩
    obtain ⟨base, hbase⟩ : ∃ base, base = x.loop.take P := ⟨_, rfl⟩
    rw [← hP] at hper
    have hP1 : 0 < P := hper.1
    have hP2 : P ≤ x.loop.length := hper.2.1
    have hbl : base.length = P := by rw [hbase, List.length_take]; omega
    have hpc : ∀ V, Kp w2 V → Calls Proofs.Tryd.prog 35 [.slice a2 x.loop.length c2].toArray V (Ret fun r w' => r = .int .i64 P ∧ Kp V w') := fun V hV => by
      rw [hP]
      exact period_c (letters_kp hv.loop (k12.trans hV) (Nat.le_refl _) (Nat.le_refl _)) (by omega)
    have hsz := k12.size
    have hclone : ∀ s, s ≤ x.stem.length → ∀ V, Kp w2 V → Calls Proofs.Tryd.prog 36 [.slice a1 s c1].toArray V (Ret fun r w' => Kp V w' ∧ ∃ y : Option Addr × Nat, r = .slice y.1 s y.2 ∧ Letters w2.heap.size w'.heap.size w' (.slice y.1 s y.2) (x.stem.take s)) := fun s hs' V hV => by
      have hrow := rowT (letters_kp hv.stem (k12.trans hV) (Nat.le_refl _) (Nat.le_refl _)) hs'
      have htl : (x.stem.take s).length = s := by rw [List.length_take]; omega
      have hc := cloneU_c (a := a1) (c := c1) (xs := x.stem.take s) (by rw [htl]; exact hrow) (by omega)
      rw [htl] at hc
      refine hc.mono fun en V' hr => ?_
      cases en with
      | returned v =>
        obtain ⟨k, hrow⟩ := hr
        obtain ⟨a3, c3, rfl, h1, h2⟩ := hrow
        have hrow : Letters V.heap.size V'.heap.size V' (.slice a3 (x.stem.take s).length c3) (x.stem.take s) := ⟨a3, c3, rfl, h1, h2⟩
        rw [htl] at hrow
        refine ⟨k, (a3, c3), by rw [htl], RowE.mono hrow (fun _ _ h => h) (by have := hV.size; omega) (Nat.le_refl _)⟩
      | _ => exact hr.elim
    have hconcat : ∀ t, t < P → ∀ V, Kp w2 V → ∀ q, V.heap[q]? = some (.cells #[.slice (if c2 = t then a2 else a2.map (·.add (t * 1))) (P - t) (c2 - t), .slice a2 t c2] 27 (0, 0)) → Calls Proofs.Tryd.prog 24 [.slice (some ⟨q, 0, none⟩) 2 2].toArray V (Ret fun r w' => Kp V w' ∧ ∃ y : Option Addr × Nat, r = .slice y.1 P y.2 ∧ Letters w2.heap.size w'.heap.size w' (.slice y.1 P y.2) (rotS base t)) := fun t ht V hV q hq => by
      have hB : Letters lo hi V (.slice a2 P c2) base := by rw [hbase]; exact rowT (letters_kp hv.loop (k12.trans hV) (Nat.le_refl _) (Nat.le_refl _)) hP2
      have hB' : Letters lo hi V (.slice a2 base.length c2) base := by rw [hbl]; exact hB
      have hd := rowD hB' (k := t) (by omega)
      have htk := rowT hB' (k := t) (by omega)
      rw [hbl] at hd
      have hrow : RowsU lo hi 0 V.heap.size V (.slice (some ⟨q, 0, none⟩) 2 2) [base.drop t, base.take t] := by
        refine ⟨_, _, rfl, Nat.le_refl _, fun i l hl => ?_⟩
        have hlq := lt_of_heap hq
        match i, hl with
        | 0, hl => obtain rfl : base.drop t = l := by simpa using hl
                   exact ⟨q, 0, rfl, Nat.zero_le _, hlq, [_], rfl, Own.at_ (xs := [.slice (if c2 = t then a2 else a2.map (·.add (t * 1))) (P - t) (c2 - t)]) (o := 0) (cs := [.slice (if c2 = t then a2 else a2.map (·.add (t * 1))) (P - t) (c2 - t), .slice a2 t c2]) hq rfl, _, rfl, hd⟩
        | 1, hl => obtain rfl : base.take t = l := by simpa using hl
                   exact ⟨q, 0, rfl, Nat.zero_le _, hlq, [_], rfl, Own.at_ (xs := [.slice a2 t c2]) (o := 1) (cs := [.slice (if c2 = t then a2 else a2.map (·.add (t * 1))) (P - t) (c2 - t), .slice a2 t c2]) hq rfl, _, rfl, htk⟩
        | i + 2, hl => simp at hl
      have hfl : [base.drop t, base.take t].flatten = rotS base t := by simp [rotS]
      have hrl : (rotS base t).length = P := by rw [rotS_len (by omega)]; exact hbl
      have hc := concatU_c hrow (by rw [hfl]; omega) (by simp)
      rw [hfl] at hc
      refine hc.mono fun en V' hr => ?_
      cases en with
      | returned v =>
        obtain ⟨k, hrow⟩ := hr
        obtain ⟨a3, c3, rfl, h1, h2⟩ := hrow
        have hrow : Letters V.heap.size V'.heap.size V' (.slice a3 (rotS base t).length c3) (rotS base t) := ⟨a3, c3, rfl, h1, h2⟩
        rw [hrl] at hrow
        refine ⟨k, (a3, c3), by rw [hrl], RowE.mono hrow (fun _ _ h => h) (by have := hV.size; omega) (Nat.le_refl _)⟩
      | _ => exact hr.elim
    have hb0 : base.length ≠ 0 := by omega
    have hBk := backS_le hb0 (stem := x.stem) x.stem.length 0 (by omega)
    have hnorm : normS x = ⟨x.stem.take (backS x.stem base x.stem.length 0).1, rotS base (backS x.stem base x.stem.length 0).2⟩ := by
      unfold normS; rw [if_neg h0, ← hP, ← hbase]
    obtain ⟨G, hG⟩ : ∃ G, G = backS x.stem base x.stem.length 0 := ⟨_, rfl⟩
    rw [← hG] at hnorm hBk
    have hfin : ∀ s t, s ≤ x.stem.length → t < P → G = (s, t) → ∀ V2 V3 v1 v2, Chg (fun k => k = b2) V2 V3 → Letters w2.heap.size V2.heap.size V2 v1 (x.stem.take s) → Letters w2.heap.size V2.heap.size V2 v2 (rotS base t) → WordV w.heap.size V3.heap.size V3 v1 v2 (normS x) := fun s t h1 h2 h3 V2 V3 v1 v2 h4 h5 h6 => by
      have hrl : (rotS base t).length = P := by rw [rotS_len (by omega)]; exact hbl
      rw [hnorm, h3]
      exact ⟨letters_low h5 h4 (fun j hj => by omega) hsz h4.size, letters_low h6 h4 (fun j hj => by omega) hsz h4.size, by show (x.stem.take s).length < _; rw [List.length_take]; omega, by show (rotS base t).length < _; omega⟩
    refine drawnK agree mixed 10 [4, 5, 6, 0, 1, 2, 3, 7, 8, 9] (by kernel_rfl) ?_
    conv => whnf
    refine ldk agree rfl rfl (fun V hV _ => Own.at_ (xs := [.slice a2 x.loop.length c2]) (o := 1) (hV.own m1 id) rfl) (by rfl) fun _ => ?_
    conv => whnf
    refine callk (v := .int .i64 P) rfl rfl rfl callPeriod (fun V hV _ => hpc V hV) fun _ => ?_
    conv => whnf
    refine ldk agree rfl rfl (fun V hV _ => Own.at_ (xs := [.slice a1 x.stem.length c1]) (o := 0) (hV.own m1 id) rfl) (by rfl) fun _ => ?_
    conv => whnf
    refine ldk agree rfl rfl (fun V hV _ => Own.at_ (xs := [.slice a2 x.loop.length c2]) (o := 1) (hV.own m1 id) rfl) (by rfl) fun _ => ?_
    conv => whnf
    refine ne ⟨by omega, by omega, by omega⟩ ?_
    conv => whnf
    intro V0 hV0 _
    refine loop agree (σ := Nat × Nat) (fun q => [(2, pt b2 0), (3, .slice a1 x.stem.length c1), (4, .slice a2 P c2), (5, .int .i64 q.1), (6, .int .i64 q.2)]) (fun q V => Kp w2 V ∧ q.1 ≤ x.stem.length ∧ q.2 < P ∧ G = backS x.stem base q.1 q.2) (fun q => q.1) (x.stem.length, 0)
      ⟨rfl, rfl, rfl, rfl, rfl, trivial⟩ ⟨hV0, Nat.le_refl _, by simp only; omega, hG⟩ ?_
    rintro ⟨s, t⟩ e0 V ⟨kV, hsl, htl, hGst⟩
    simp only at hsl htl hGst
    cases s with
    | zero =>
      refine drawn0 agree mixed 21 (by kernel_rfl) (fun _ => False) ?_
      conv => whnf
      refine spF (by simp only; omega) ?_
      conv => whnf
      intro V9 hV9 _
      replace kV := kV.trans hV9
      refine drawnK agree mixed 13 [0, 1, 2, 3, 4, 5, 6, 7, 8, 9, 10, 11, 12] (by kernel_rfl) ?_
      conv => whnf
      refine ne ⟨by omega, by omega, by omega⟩ ?_
      conv => whnf
      refine callf (fun q : Option Addr × Nat => .slice q.1 (0) q.2) (fun q V => Letters w2.heap.size V.heap.size V (.slice q.1 (0) q.2) (x.stem.take (0))) rfl rfl rfl (fun q V V' hr k => letters_kp hr k (Nat.le_refl _) k.size) callCloneU (fun V hV _ => (hclone (0) (by omega) V (kV.trans hV)).mono fun en V' hr => ?_) fun y1 D1 hD1 => ?_
      · cases en with
        | returned v => exact hr
        | _ => exact hr.elim
      conv => whnf
      refine ne ⟨by omega, by omega, by omega⟩ ?_
      conv => whnf
      refine ne ⟨by omega, by omega, by omega⟩ ?_
      conv => whnf
      refine bsk rfl rfl rfl rfl (by rfl) (by decide) fun q D2 hD2 => ?_
      conv => whnf
      refine callf (fun q : Option Addr × Nat => .slice q.1 P q.2) (fun q V => Letters w2.heap.size V.heap.size V (.slice q.1 P q.2) (rotS base t)) rfl rfl rfl (fun q V V' hr k => letters_kp hr k (Nat.le_refl _) k.size) callConcatU (fun V hV h2 => (hconcat t (by omega) V (kV.trans hV) q (hD2 V (h2 10 (by kernel_rfl))).1).mono fun en V' hr => ?_) fun y2 D3 hD3 => ?_
      · cases en with
        | returned v => exact hr
        | _ => exact hr.elim
      conv => whnf
      intro V2 hV2 hd
      have r1 := hD1 V2 (hd 3)
      have r2 := hD3 V2 (hd 11)
      obtain ⟨a3, c3⟩ := y1
      obtain ⟨a4, c4⟩ := y2
      have n2 : Own V2 b2 29 [nilS, nilS] := hV2.own (kV.own m2 id) id
      refine st agree n2 rfl (Nat.le_refl 2) rfl ?_
      intro V3 s5 k5 m5
      have m5 : Own V3 b2 29 [.slice a3 (0) c3, .slice a4 P c4] := m5
      refine ld agree (v := .agg #[.slice a3 (0) c3, .slice a4 P c4]) (Own.at_ (xs := [.slice a3 (0) c3, .slice a4 P c4]) (o := 0) m5 rfl) (by rfl) ?_
      have kall : Kp w1 V3 := (k2.trans (kV.trans hV2)).new e2 k5
      exact ⟨k1.trans kall, _, _, rfl, hfin (0) t (by omega) (by omega) hGst V2 V3 _ _ k5 r1 r2⟩
    | succ s =>
      have hsl' : s < x.stem.length := by omega
      have hT : (t + P - 1) % P < P := Nat.mod_lt _ hP1
      obtain ⟨T, hTe⟩ : ∃ T, T = (t + P - 1) % P := ⟨_, rfl⟩
      rw [← hTe] at hT
      have hexb : ∃ lc, x.loop[T]? = some lc := ⟨_, List.getElem?_eq_getElem (show T < x.loop.length by omega)⟩
      obtain ⟨lc, hgb⟩ := hexb
      have hexs : ∃ sc, x.stem[s]? = some sc := ⟨_, List.getElem?_eq_getElem hsl'⟩
      obtain ⟨sc, hgs⟩ := hexs
      have hgb2 : base[T]? = some lc := by rw [hbase, List.getElem?_take, if_pos hT, hgb]
      have hsc := backS_succ (stem := x.stem) (base := base) (s := s) (t := t)
      rw [hbl, ← hTe, List.getD_eq_getElem?_getD, hgs, List.getD_eq_getElem?_getD, hgb2] at hsc
      simp only [Option.getD_some] at hsc
      obtain ⟨sb, so, rfl, -, -, cs, -, hrd, rfl, -⟩ := hS s _ hgs
      obtain ⟨lb, lo', rfl, -, -, cs', -, hrd', rfl, -⟩ := hL T _ hgb
      refine drawn0 agree mixed 21 (by kernel_rfl) (fun _ => False) ?_
      conv => whnf
      refine spT (by omega) ?_
      conv => whnf
      refine arE (show _ = (s : Int) by rw [show (((s + 1 : Nat) : Int) - 1) = (s : Int) by omega]; exact wrap64 (by omega) (by omega)) ?_
      conv => whnf
      refine ne ⟨by omega, by omega⟩ ?_
      conv => whnf
      refine ldk (v := .int .u16 sc) agree rfl rfl (fun W hW _ => by rw [Int.toNat_natCast]; exact ((k12.trans kV).trans hW).range hrd id) (by rfl) fun _ => ?_
      conv => whnf
      refine arE (show _ = ((t + P : Nat) : Int) by rw [Int.natCast_add]; exact wrap64 (by omega) (by omega)) ?_
      conv => whnf
      refine arE (show _ = ((t + P - 1 : Nat) : Int) by rw [show (((t + P : Nat) : Int) - 1) = ((t + P - 1 : Nat) : Int) by omega]; exact wrap64 (by omega) (by omega)) ?_
      conv => whnf
      refine ne (by omega) ?_
      conv => whnf
      refine arE (show _ = (T : Int) by rw [hTe]; exact quoRem _ _ hP1) ?_
      conv => whnf
      refine ne ⟨by omega, by omega⟩ ?_
      conv => whnf
      refine ldk (v := .int .u16 lc) agree rfl rfl (fun W hW _ => by rw [Int.toNat_natCast]; exact ((k12.trans kV).trans hW).range hrd' id) (by rfl) fun _ => ?_
      conv => whnf
      by_cases he : sc = lc
      · rw [if_pos he] at hsc
        refine spT he ?_
        conv => whnf
        intro V9 hV9 _
        refine arE (show _ = (s : Int) by rw [show (((s + 1 : Nat) : Int) - 1) = (s : Int) by omega]; exact wrap64 (by omega) (by omega)) ?_
        refine arE (show _ = ((t + P : Nat) : Int) by rw [Int.natCast_add]; exact wrap64 (by omega) (by omega)) ?_
        refine arE (show _ = ((t + P - 1 : Nat) : Int) by rw [show (((t + P : Nat) : Int) - 1) = ((t + P - 1 : Nat) : Int) by omega]; exact wrap64 (by omega) (by omega)) ?_
        refine ne (by omega) ?_
        refine arE (show _ = (T : Int) by rw [hTe]; exact quoRem _ _ hP1) ?_
        exact again (s, T) ⟨rfl, rfl, rfl, rfl, rfl, trivial⟩ ⟨kV.trans hV9, by simp only; omega, hT, hGst.trans hsc⟩ (by simp only; omega)
      · rw [if_neg he] at hsc
        refine spF he ?_
        conv => whnf
        intro V9 hV9 _
        replace kV := kV.trans hV9
        refine drawnK agree mixed 13 [0, 1, 2, 3, 4, 5, 6, 7, 8, 9, 10, 11, 12] (by kernel_rfl) ?_
        conv => whnf
        refine ne ⟨by omega, by omega, by omega⟩ ?_
        conv => whnf
        refine callf (fun q : Option Addr × Nat => .slice q.1 (s + 1) q.2) (fun q V => Letters w2.heap.size V.heap.size V (.slice q.1 (s + 1) q.2) (x.stem.take (s + 1))) rfl rfl rfl (fun q V V' hr k => letters_kp hr k (Nat.le_refl _) k.size) callCloneU (fun V hV _ => (hclone (s + 1) (by omega) V (kV.trans hV)).mono fun en V' hr => ?_) fun y1 D1 hD1 => ?_
        · cases en with
          | returned v => exact hr
          | _ => exact hr.elim
        conv => whnf
        refine ne ⟨by omega, by omega, by omega⟩ ?_
        conv => whnf
        refine ne ⟨by omega, by omega, by omega⟩ ?_
        conv => whnf
        refine bsk rfl rfl rfl rfl (by rfl) (by decide) fun q D2 hD2 => ?_
        conv => whnf
        refine callf (fun q : Option Addr × Nat => .slice q.1 P q.2) (fun q V => Letters w2.heap.size V.heap.size V (.slice q.1 P q.2) (rotS base t)) rfl rfl rfl (fun q V V' hr k => letters_kp hr k (Nat.le_refl _) k.size) callConcatU (fun V hV h2 => (hconcat t (by omega) V (kV.trans hV) q (hD2 V (h2 10 (by kernel_rfl))).1).mono fun en V' hr => ?_) fun y2 D3 hD3 => ?_
        · cases en with
          | returned v => exact hr
          | _ => exact hr.elim
        conv => whnf
        intro V2 hV2 hd
        have r1 := hD1 V2 (hd 3)
        have r2 := hD3 V2 (hd 11)
        obtain ⟨a3, c3⟩ := y1
        obtain ⟨a4, c4⟩ := y2
        have n2 : Own V2 b2 29 [nilS, nilS] := hV2.own (kV.own m2 id) id
        refine st agree n2 rfl (Nat.le_refl 2) rfl ?_
        intro V3 s5 k5 m5
        have m5 : Own V3 b2 29 [.slice a3 (s + 1) c3, .slice a4 P c4] := m5
        refine ld agree (v := .agg #[.slice a3 (s + 1) c3, .slice a4 P c4]) (Own.at_ (xs := [.slice a3 (s + 1) c3, .slice a4 P c4]) (o := 0) m5 rfl) (by rfl) ?_
        have kall : Kp w1 V3 := (k2.trans (kV.trans hV2)).new e2 k5
        exact ⟨k1.trans kall, _, _, rfl, hfin (s + 1) t (by omega) (by omega) (hGst.trans hsc) V2 V3 _ _ k5 r1 r2⟩
end Go.Au

namespace Go.Au
open Go Go.RowKit

abbrev AC := Option Addr × Nat
theorem wordV_form {lo hi : Nat} {w : World} {sv lv : Value} {x : Word} (h : WordV lo hi w sv lv x) : ∃ y : AC × AC, sv = .slice y.1.1 x.stem.length y.1.2 ∧ lv = .slice y.2.1 x.loop.length y.2.2 := by
  obtain ⟨a, c, h1, -⟩ := h.stem
  obtain ⟨a', c', h2, -⟩ := h.loop
  exact ⟨((a, c), (a', c')), h1, h2⟩
abbrev agW (x : Word) (y : AC × AC) : Value := .agg #[.slice y.1.1 x.stem.length y.1.2, .slice y.2.1 x.loop.length y.2.2]
abbrev WvY (lo : Nat) (w : World) (x : Word) (y : AC × AC) : Prop := WordV lo w.heap.size w (.slice y.1.1 x.stem.length y.1.2) (.slice y.2.1 x.loop.length y.2.2) x
theorem wordV_low {S : Nat → Prop} {lo hi lo' hi' : Nat} {w w' : World} {s l : Value} {x : Word} (h : WordV lo hi w s l x) (k : Chg S w w') (hS : ∀ j, S j → j < lo) (h1 : lo' ≤ lo) (h2 : hi ≤ hi') : WordV lo' hi' w' s l x := ⟨letters_low h.stem k hS h1 h2, letters_low h.loop k hS h1 h2, h.ls, h.ll⟩
theorem normalY_c {w : World} {lo hi : Nat} {sv lv : Value} {x : Word} (hv : WordV lo hi w sv lv x) (hs : x.stem.length < 100000000000) (hl : x.loop.length < 100000000000) (hhi : hi ≤ w.heap.size) :
    Calls Proofs.Tryd.prog 23 [.agg #[sv, lv]].toArray w (Ret fun r w' => Kp w w' ∧ ∃ y, r = agW (normS x) y ∧ WvY w.heap.size w' (normS x) y) := by
  refine (normal_c hv hs hl hhi).mono fun en w' hr => ?_
  cases en with
  | returned v =>
    obtain ⟨k, sv', lv', rfl, h⟩ := hr
    have hf := wordV_form h
    obtain ⟨y, rfl, rfl⟩ := hf
    exact ⟨k, y, rfl, h⟩
  | _ => exact hr.elim
theorem callSuffix : callable Proofs.Tryd.prog 12 = true := by kernel_rfl
theorem suffix_c {w : World} {lo hi : Nat} {sv lv : Value} {x : Word} (hv : WordV lo hi w sv lv x) (hs : x.stem.length < 100000000000) (hl : x.loop.length < 100000000000) (hhi : hi ≤ w.heap.size) (n : Nat) (hn : n < 4611686018427387904) :
    Calls Proofs.Tryd.prog 12 [.agg #[sv, lv], .int .i64 n].toArray w (Ret fun r w' => Kp w w' ∧ ∃ y, r = agW (suffS x n) y ∧ WvY w.heap.size w' (suffS x n) y) := by
  obtain ⟨a1, c1, rfl, hc1, hS⟩ := id hv.stem
  obtain ⟨a2, c2, rfl, hc2, hL⟩ := id hv.loop
  refine call agree Proofs.Tryd.func12 rfl Proofs.Tryd.ntmps12 (by kernel_rfl) ?_
  refine nd fun b1 w1 e1 s1 k1 m1 => ?_
  have m1 : Own w1 b1 29 [.slice a1 x.stem.length c1, .slice a2 x.loop.length c2] := m1
  refine nd fun b2 w2 e2 s2 k2 m2 => ?_
  have m2 : Own w2 b2 29 [nilS, nilS] := m2
  have m1 := k2.own m1 id
  have k12 := k1.trans k2
  have hsz := k12.size
  refine ld agree (Own.at_ (xs := [.slice a2 x.loop.length c2]) (o := 1) m1 rfl) (by rfl) ?_
  refine sp (fun h0 => ?_) (fun h0 => ?_)
  · have h0 : x.loop.length = 0 := by omega
    refine st agree m2 rfl (Nat.le_refl 2) rfl ?_
    intro w3 s3 k3 m3
    have m3 : Own w3 b2 29 [nilS, nilS] := m3
    refine ld agree (v := .agg #[nilS, nilS]) (Own.at_ (xs := [nilS, nilS]) (o := 0) m3 rfl) (by rfl) ?_
    have hn : suffS x n = ⟨[], []⟩ := by unfold suffS; rw [if_pos h0]
    refine ⟨k1.trans (k2.new e2 k3), ((none, 0), (none, 0)), ?_, ?_⟩
    · rw [hn]; rfl
    · rw [hn]
      exact ⟨letters_nil _ _ _, letters_nil _ _ _, by show 0 < _; decide, by show 0 < _; decide⟩
  · have h0 : x.loop.length ≠ 0 := by omega
    refine mxE (z := (n : Int)) rfl rfl rfl (by split <;> omega) ?_
    refine ld agree (Own.at_ (xs := [.slice a1 x.stem.length c1]) (o := 0) m1 rfl) (by rfl) ?_
    refine sp (fun hlt => ?_) (fun hge => ?_)
    · have hlt : n < x.stem.length := by omega
      have hsf : suffS x n = normS ⟨x.stem.drop n, x.loop⟩ := by unfold suffS; rw [if_neg h0, if_pos hlt]
      have hdl : (x.stem.drop n).length = x.stem.length - n := List.length_drop
      have hnc : ∀ V, Kp w2 V → Calls Proofs.Tryd.prog 23 [.agg #[.slice (if c1 = n then a1 else a1.map (·.add (n * 1))) (x.stem.length - n) (c1 - n), .slice a2 x.loop.length c2]].toArray V (Ret fun r w' => Kp V w' ∧ ∃ y, r = agW (suffS x n) y ∧ WvY w2.heap.size w' (suffS x n) y) := fun V hV => by
        have hrow := rowD (letters_kp hv.stem (k12.trans hV) (Nat.le_refl _) (Nat.le_refl _)) (Nat.le_of_lt hlt)
        have hW : WordV lo hi V (.slice (if c1 = n then a1 else a1.map (·.add (n * 1))) (x.stem.length - n) (c1 - n)) (.slice a2 x.loop.length c2) ⟨x.stem.drop n, x.loop⟩ := ⟨hrow, letters_kp hv.loop (k12.trans hV) (Nat.le_refl _) (Nat.le_refl _), by show (x.stem.drop n).length < _; omega, hv.ll⟩
        have hs2 := hV.size
        rw [hsf]
        refine (normalY_c hW (by show (x.stem.drop n).length < _; omega) hl (by omega)).mono fun en w' hr => ?_
        cases en with
        | returned v =>
          obtain ⟨k, y, e, h⟩ := hr
          exact ⟨k, y, e, wordV_low h (Chg.refl (fun _ => False) _) (fun _ h => h.elim) hs2 (Nat.le_refl _)⟩
        | _ => exact hr.elim
      refine drawnK agree mixed 8 [0, 1, 2, 3, 4, 5, 6, 7] (by kernel_rfl) ?_
      conv => whnf
      refine ldk agree rfl rfl (fun V hV _ => Own.at_ (xs := [.slice a1 x.stem.length c1]) (o := 0) (hV.own m1 id) rfl) (by rfl) fun _ => ?_
      conv => whnf
      refine ne ⟨by omega, by omega, by omega⟩ ?_
      conv => whnf
      refine ldk agree rfl rfl (fun V hV _ => Own.at_ (xs := [.slice a2 x.loop.length c2]) (o := 1) (hV.own m1 id) rfl) (by rfl) fun _ => ?_
      conv => whnf
      refine callf (fun y : AC × AC => agW (suffS x n) y) (fun y V => WvY w2.heap.size V (suffS x n) y) rfl rfl rfl (fun q V V' hr k => wordV_low hr k (fun _ h => h.elim) (Nat.le_refl _) k.size) callNormal (fun V hV _ => (hnc V hV).mono fun en V' hr => ?_) fun y D hD => ?_
      · cases en with
        | returned v => exact hr
        | _ => exact hr.elim
      conv => whnf
      intro V hV hd
      have hy := hD V (hd 7)
      refine st agree (hV.own m2 id) rfl (Nat.le_refl 2) rfl ?_
      intro w3 s3 k3 m3
      have m3 : Own w3 b2 29 [.slice y.1.1 (suffS x n).stem.length y.1.2, .slice y.2.1 (suffS x n).loop.length y.2.2] := m3
      refine ld agree (v := agW (suffS x n) y) (Own.at_ (xs := [.slice y.1.1 (suffS x n).stem.length y.1.2, .slice y.2.1 (suffS x n).loop.length y.2.2]) (o := 0) m3 rfl) (by rfl) ?_
      exact ⟨k1.trans ((k2.trans hV).new e2 k3), y, rfl, wordV_low hy k3 (fun j hj => by omega) hsz k3.size⟩
    · have hge : ¬ n < x.stem.length := by omega
      obtain ⟨K, hK⟩ : ∃ K, K = (n - x.stem.length) % x.loop.length := ⟨_, rfl⟩
      have hKl : K < x.loop.length := by rw [hK]; exact Nat.mod_lt _ (by omega)
      have hsf : suffS x n = normS ⟨[], rotS x.loop K⟩ := by unfold suffS; rw [if_neg h0, if_neg hge, ← hK]
      have hrl : (rotS x.loop K).length = x.loop.length := rotS_len (by omega)
      refine ld agree (Own.at_ (xs := [.slice a1 x.stem.length c1]) (o := 0) m1 rfl) (by rfl) ?_
      refine arE (show _ = ((n - x.stem.length : Nat) : Int) by rw [Int.ofNat_sub (by omega)]; exact wrap64 (by omega) (by omega)) ?_
      refine ld agree (Own.at_ (xs := [.slice a2 x.loop.length c2]) (o := 1) m1 rfl) (by rfl) ?_
      refine ne (by omega) ?_
      refine arE (show _ = (K : Int) by rw [hK]; exact quoRem _ _ (by omega)) ?_
      have hcc : ∀ V, Kp w2 V → ∀ q, V.heap[q]? = some (.cells #[.slice (if c2 = K then a2 else a2.map (·.add (K * 1))) (x.loop.length - K) (c2 - K), .slice a2 K c2] 27 (0, 0)) → Calls Proofs.Tryd.prog 24 [.slice (some ⟨q, 0, none⟩) 2 2].toArray V (Ret fun r w' => Kp V w' ∧ ∃ y : AC, r = .slice y.1 x.loop.length y.2 ∧ Letters w2.heap.size w'.heap.size w' (.slice y.1 x.loop.length y.2) (rotS x.loop K)) := fun V hV q hq => by
        have hB := letters_kp hv.loop (k12.trans hV) (Nat.le_refl _) (Nat.le_refl _)
        have hd := rowD hB (k := K) (by omega)
        have htk := rowT hB (k := K) (by omega)
        have hrow : RowsU lo hi 0 V.heap.size V (.slice (some ⟨q, 0, none⟩) 2 2) [x.loop.drop K, x.loop.take K] := by
          refine ⟨_, _, rfl, Nat.le_refl _, fun i l hl => ?_⟩
          have hlq := lt_of_heap hq
          match i, hl with
          | 0, hl => obtain rfl : x.loop.drop K = l := by simpa using hl
                     exact ⟨q, 0, rfl, Nat.zero_le _, hlq, [_], rfl, Own.at_ (xs := [.slice (if c2 = K then a2 else a2.map (·.add (K * 1))) (x.loop.length - K) (c2 - K)]) (o := 0) (cs := [.slice (if c2 = K then a2 else a2.map (·.add (K * 1))) (x.loop.length - K) (c2 - K), .slice a2 K c2]) hq rfl, _, rfl, hd⟩
          | 1, hl => obtain rfl : x.loop.take K = l := by simpa using hl
                     exact ⟨q, 0, rfl, Nat.zero_le _, hlq, [_], rfl, Own.at_ (xs := [.slice a2 K c2]) (o := 1) (cs := [.slice (if c2 = K then a2 else a2.map (·.add (K * 1))) (x.loop.length - K) (c2 - K), .slice a2 K c2]) hq rfl, _, rfl, htk⟩
          | i + 2, hl => simp at hl
        have hfl : [x.loop.drop K, x.loop.take K].flatten = rotS x.loop K := by simp [rotS]
        have hc := concatU_c hrow (by rw [hfl]; omega) (by simp)
        rw [hfl] at hc
        refine hc.mono fun en V' hr => ?_
        cases en with
        | returned v =>
          obtain ⟨k, hrow⟩ := hr
          obtain ⟨a3, c3, rfl, h1, h2⟩ := hrow
          have hrow : Letters V.heap.size V'.heap.size V' (.slice a3 (rotS x.loop K).length c3) (rotS x.loop K) := ⟨a3, c3, rfl, h1, h2⟩
          rw [hrl] at hrow
          refine ⟨k, (a3, c3), by rw [hrl], RowE.mono hrow (fun _ _ h => h) (by have := hV.size; omega) (Nat.le_refl _)⟩
        | _ => exact hr.elim
      refine drawnK agree mixed 12 [0, 1, 2, 3, 4, 5, 6, 7, 8, 9, 10, 11] (by kernel_rfl) ?_
      conv => whnf
      refine ldk agree rfl rfl (fun V hV _ => Own.at_ (xs := [.slice a2 x.loop.length c2]) (o := 1) (hV.own m1 id) rfl) (by rfl) fun _ => ?_
      conv => whnf
      refine ne ⟨by omega, by omega, by omega⟩ ?_
      conv => whnf
      refine ldk agree rfl rfl (fun V hV _ => Own.at_ (xs := [.slice a2 x.loop.length c2]) (o := 1) (hV.own m1 id) rfl) (by rfl) fun _ => ?_
      conv => whnf
      refine ne ⟨by omega, by omega, by omega⟩ ?_
      conv => whnf
      refine bsk rfl rfl rfl rfl (by rfl) (by decide) fun q D2 hD2 => ?_
      conv => whnf
      refine callf (fun y : AC => .slice y.1 x.loop.length y.2) (fun y V => Letters w2.heap.size V.heap.size V (.slice y.1 x.loop.length y.2) (rotS x.loop K)) rfl rfl rfl (fun y V V' hr k => letters_kp hr k (Nat.le_refl _) k.size) callConcatU (fun V hV h2 => (hcc V hV q (hD2 V (h2 8 (by kernel_rfl))).1).mono fun en V' hr => ?_) fun z D3 hD3 => ?_
      · cases en with
        | returned v => exact hr
        | _ => exact hr.elim
      conv => whnf
      refine callf (fun y : AC × AC => agW (suffS x n) y) (fun y V => WvY w2.heap.size V (suffS x n) y) rfl rfl rfl (fun q V V' hr k => wordV_low hr k (fun _ h => h.elim) (Nat.le_refl _) k.size) callNormal (fun V hV h2 => ?_) fun y D hD => ?_
      · have hz := hD3 V (h2 9 (by kernel_rfl))
        have hs2 := hV.size
        have hW : WordV w2.heap.size V.heap.size V nilS (.slice z.1 x.loop.length z.2) ⟨[], rotS x.loop K⟩ := ⟨letters_nil _ _ _, hz, by show 0 < _; decide, by show (rotS x.loop K).length < _; omega⟩
        rw [hsf]
        refine (normalY_c hW (by show 0 < _; decide) (by show (rotS x.loop K).length < _; omega) (Nat.le_refl _)).mono fun en w' hr => ?_
        cases en with
        | returned v =>
          obtain ⟨k, y, e, h⟩ := hr
          exact ⟨k, y, e, wordV_low h (Chg.refl (fun _ => False) _) (fun _ h => h.elim) hs2 (Nat.le_refl _)⟩
        | _ => exact hr.elim
      conv => whnf
      intro V hV hd
      have hy := hD V (hd 11)
      refine st agree (hV.own m2 id) rfl (Nat.le_refl 2) rfl ?_
      intro w3 s3 k3 m3
      have m3 : Own w3 b2 29 [.slice y.1.1 (suffS x n).stem.length y.1.2, .slice y.2.1 (suffS x n).loop.length y.2.2] := m3
      refine ld agree (v := agW (suffS x n) y) (Own.at_ (xs := [.slice y.1.1 (suffS x n).stem.length y.1.2, .slice y.2.1 (suffS x n).loop.length y.2.2]) (o := 0) m3 rfl) (by rfl) ?_
      exact ⟨k1.trans ((k2.trans hV).new e2 k3), y, rfl, wordV_low hy k3 (fun j hj => by omega) hsz k3.size⟩
end Go.Au

namespace Go.Au
open Go Go.RowKit

/-! ### a word and its rest: the plain law -/
theorem hasI_nat {W : List Nat} (j : Nat) : hasI W (j : Int) = hasW W j := by unfold hasI; rw [decide_eq_true (by omega), Bool.true_and, Int.toNat_natCast]
theorem putI_ok {n : Nat} {W : List Nat} (h : SetP n W) (i : Int) : SetP n (putI n W i) := by
  unfold putI
  split
  · rename_i hi; exact h.put (by omega)
  · exact h
theorem hasI_put {n : Nat} {W : List Nat} (h : SetP n W) (i s : Int) : hasI (putI n W i) s = true ↔ (0 ≤ i ∧ i < n ∧ s = i) ∨ hasI W s = true := by
  unfold putI
  split
  · rename_i hi
    unfold hasI
    rw [hasW_put (h.idx (show i.toNat < n by omega))]
    simp only [Bool.and_eq_true, Bool.or_eq_true, decide_eq_true_eq]
    constructor
    · rintro ⟨h1, h2 | h2⟩
      · exact .inl ⟨by omega, by omega, by omega⟩
      · exact .inr ⟨h1, h2⟩
    · rintro (⟨h1, h2, h3⟩ | h1)
      · exact ⟨by omega, .inl (by omega)⟩
      · exact ⟨h1.1, .inr h1.2⟩
  · rename_i hi
    exact ⟨.inr, fun h => h.elim (fun h => absurd ⟨h.1, h.2.1⟩ hi) id⟩
theorem ofW_ok (n : Nat) : ∀ (l : List Int) (W : List Nat), SetP n W → SetP n (l.foldl (putI n) W) ∧ ∀ s, hasI (l.foldl (putI n) W) s = true ↔ (0 ≤ s ∧ s < n ∧ s ∈ l) ∨ hasI W s = true
  | [], W, h => ⟨h, fun s => by simp⟩
  | i :: l, W, h => by
    obtain ⟨h1, h2⟩ := ofW_ok n l (putI n W i) (putI_ok h i)
    refine ⟨h1, fun s => ?_⟩
    show hasI (l.foldl (putI n) (putI n W i)) s = true ↔ _
    rw [h2, hasI_put h]
    constructor
    · rintro (⟨h1, h2, h3⟩ | ⟨h4, h5, rfl⟩ | h1)
      · exact .inl ⟨h1, h2, List.mem_cons_of_mem _ h3⟩
      · exact .inl ⟨h4, h5, List.mem_cons_self⟩
      · exact .inr h1
    · rintro (⟨h4, h5, h3⟩ | h1)
      · rcases List.mem_cons.1 h3 with rfl | h3
        · exact .inr (.inl ⟨h4, h5, rfl⟩)
        · exact .inl ⟨h4, h5, h3⟩
      · exact .inr (.inr h1)
theorem hasI_new (n : Nat) (s : Int) : hasI (List.replicate ((n + 63) / 64) 0) s = false := by unfold hasI; rw [hasW_new, Bool.and_false]
theorem stepW_ok (n : Nat) (S : List Nat) (l : Int) : ∀ (es : List Edge) (W : List Nat), SetP n W → SetP n (es.foldl (fun A e => if stepG S l e = true then putI n A e.to else A) W) ∧ ∀ s, hasI (es.foldl (fun A e => if stepG S l e = true then putI n A e.to else A) W) s = true ↔ (0 ≤ s ∧ s < n ∧ ∃ e ∈ es, stepG S l e = true ∧ e.to = s) ∨ hasI W s = true
  | [], W, h => ⟨h, fun s => by simp⟩
  | e :: es, W, h => by
    by_cases hg : stepG S l e = true
    · obtain ⟨h1, h2⟩ := stepW_ok n S l es (putI n W e.to) (putI_ok h e.to)
      rw [List.foldl_cons, if_pos hg]
      refine ⟨h1, fun s => ?_⟩
      rw [h2, hasI_put h]
      constructor
      · rintro (⟨h1, h2, e', h3, h4⟩ | ⟨h1, h2, rfl⟩ | h1)
        · exact .inl ⟨h1, h2, e', List.mem_cons_of_mem _ h3, h4⟩
        · exact .inl ⟨h1, h2, e, List.mem_cons_self, hg, rfl⟩
        · exact .inr h1
      · rintro (⟨h1, h2, e', h3, h4, h5⟩ | h1)
        · rcases List.mem_cons.1 h3 with rfl | h3
          · exact .inr (.inl ⟨by omega, by omega, h5.symm⟩)
          · exact .inl ⟨h1, h2, e', h3, h4, h5⟩
        · exact .inr (.inr h1)
    · obtain ⟨h1, h2⟩ := stepW_ok n S l es W h
      rw [List.foldl_cons, if_neg hg]
      refine ⟨h1, fun s => ?_⟩
      rw [h2]
      constructor
      · rintro (⟨h1, h2, e', h3, h4⟩ | h1)
        · exact .inl ⟨h1, h2, e', List.mem_cons_of_mem _ h3, h4⟩
        · exact .inr h1
      · rintro (⟨h1, h2, e', h3, h4, h5⟩ | h1)
        · rcases List.mem_cons.1 h3 with rfl | h3
          · exact absurd h4 hg
          · exact .inl ⟨h1, h2, e', h3, h4, h5⟩
        · exact .inr h1

theorem rising_map {n : Int} : ∀ (L : List Nat) (p : Option Int), L.Pairwise (· < ·) → (∀ j ∈ L, (j : Int) < n) → (∀ y, p = some y → ∀ j ∈ L, y < (j : Int)) → risingFrom n p (L.map fun (j : Nat) => (j : Int)) = true
  | [], _, _, _, _ => by simp [risingFrom]
  | a :: L, p, h1, h2, h3 => by
    rw [List.pairwise_cons] at h1
    have h4 := rising_map L (some (a : Int)) h1.2 (fun j hj => h2 j (List.mem_cons_of_mem _ hj)) fun y hy j hj => by
      injection hy with hy; have := h1.1 j hj; omega
    have h5 := h2 a List.mem_cons_self
    simp only [List.map_cons, risingFrom, h4, Bool.and_true, Bool.not_eq_true', Bool.or_eq_false_iff, decide_eq_false_iff_not]
    refine ⟨⟨by omega, by omega⟩, ?_⟩
    cases p with
    | none => rfl
    | some y => have := h3 y rfl a List.mem_cons_self; simp only [decide_eq_false_iff_not]; omega

/-- where one step comes to, as a row -/
def nextL (n : Nat) (g : Buchi) (x : Word) : List Nat := membW n (stepW n g.edges (ofW n g.init) (x.at 0))
def restB (n : Nat) (g : Buchi) (x : Word) : Buchi := { g with init := (nextL n g x).map fun (j : Nat) => (j : Int) }
theorem step_set (n : Nat) (g : Buchi) (l : Int) : SetP n (stepW n g.edges (ofW n g.init) l) := (stepW_ok n _ l g.edges _ (SetP.new n)).1
theorem rest_law {n : Nat} {g : Buchi} {x : Word} (hn : g.states = n) (hc : checkS g.general = true) (hw : wordOk x g.props.length = true) :
    accS (restB n g x).general (suffS x 1) = (acceptsS g.general x, 0) := by
  have hx := wordOk_loop hw
  have hG := Good.of hc
  obtain ⟨s1, s2, s3, s4, s5, s6⟩ := suffS_ok hx 1
  have hS := stepW_ok n (ofW n g.init) (x.at 0) g.edges _ (SetP.new n)
  have hO := (ofW_ok n g.init _ (SetP.new n)).2
  have hmem : ∀ s, s ∈ (restB n g x).init ↔ ∃ e ∈ g.edges, e.frm ∈ g.init ∧ goesS e (x.at 0) = true ∧ e.to = s := fun s => by
    have hin : s ∈ (restB n g x).init ↔ hasI (stepW n g.edges (ofW n g.init) (x.at 0)) s = true := by
      show s ∈ (nextL n g x).map (fun (j : Nat) => (j : Int)) ↔ _
      rw [List.mem_map]
      constructor
      · rintro ⟨j, hj, rfl⟩
        rw [hasI_nat]
        exact (membW_mem hS.1).1 hj
      · intro h
        have h0 : 0 ≤ s := by unfold hasI at h; rw [Bool.and_eq_true, decide_eq_true_eq] at h; exact h.1
        refine ⟨s.toNat, (membW_mem hS.1).2 ?_, by omega⟩
        rw [← hasI_nat, show ((s.toNat : Nat) : Int) = s by omega]
        exact h
    rw [hin]
    show hasI (g.edges.foldl _ _) s = true ↔ _
    rw [hS.2, hasI_new]
    constructor
    · rintro (⟨h1, h2, e, h3, h4, h5⟩ | h)
      · unfold stepG at h4
        rw [Bool.and_eq_true] at h4
        have h6 := (hO e.frm).1 h4.1
        rw [hasI_new] at h6
        rcases h6 with h6 | h6
        · exact ⟨e, h3, h6.2.2, h4.2, h5⟩
        · cases h6
      · cases h
    · rintro ⟨e, h1, h2, h3, rfl⟩
      have he := hG.edges e h1
      have h5 : g.general.states = g.states := rfl
      refine .inl ⟨he.2.2.1, by omega, e, h1, ?_, rfl⟩
      unfold stepG
      rw [Bool.and_eq_true]
      exact ⟨(hO e.frm).2 (.inl ⟨he.1, by omega, h2⟩), h3⟩
  have hck : checkS (restB n g x).general = true := by
    have hc' := hc
    unfold checkS at hc ⊢
    simp only [Bool.and_eq_true] at hc ⊢
    obtain ⟨⟨⟨⟨⟨c1, c2⟩, c3⟩, c4⟩, c5⟩, c6⟩ := hc
    refine ⟨⟨⟨⟨⟨c1, c2⟩, c3⟩, ?_⟩, c5⟩, c6⟩
    show risingFrom g.states none ((nextL n g x).map fun (j : Nat) => (j : Int)) = true
    refine rising_map _ _ (membW_sorted _ _) (fun j hj => ?_) (fun y hy => by cases hy)
    have := hS.1.top j ((membW_mem hS.1).1 hj)
    omega
  have hwk : wordOk (suffS x 1) g.props.length = true := by
    unfold wordOk at hw ⊢
    simp only [Bool.and_eq_true, Bool.not_eq_true', decide_eq_false_iff_not, List.any_eq_false, decide_eq_true_eq] at hw ⊢
    exact ⟨⟨s1, fun c hc => hw.1.2 c (s3 c hc)⟩, fun c hc => hw.2 c (s4 c hc)⟩
  have hacc : AccP (restB n g x).general (suffS x 1) ↔ AccP g.general x := by
    rw [accP_run s1, accP_run hx]
    exact (acc_rest (g := g.general) (I := (restB n g x).init) hmem fun i => s2 i).symm
  unfold accS
  rw [if_pos hck, if_pos (show wordOk (suffS x 1) (restB n g x).general.props.length = true from hwk)]
  unfold acceptsS
  congr 1
  by_cases h : AccP g.general x
  · rw [@decide_eq_true _ (Classical.propDecidable _) h, @decide_eq_true _ (Classical.propDecidable _) (hacc.2 h)]
  · rw [@decide_eq_false _ (Classical.propDecidable _) h, @decide_eq_false _ (Classical.propDecidable _) fun h2 => h (hacc.1 h2)]
end Go.Au

namespace Go.Au
open Go Go.RowKit

theorem AllC.chg {b p n lo b9 : Nat} {v : Value} {W : List Nat} {w w' : World} (h : AllC b p n lo v W w) (k : Chg (fun k => k = b9) w w') (h1 : b ≠ b9) (h2 : p ≠ b9) (h3 : b9 < lo) (h4 : 0 < b9) : AllC b p n lo v W w' := by
  refine ⟨k.own h.1 h1, ⟨k.own h.2.1.hdr h2, ?_, h.2.1.pl, h.2.1.nb⟩, fun j x hx => k.range (h.2.2 j x hx) (by omega)⟩
  obtain ⟨a, c, hv, hc, hr⟩ := h.2.1.row
  refine ⟨a, c, hv, hc, fun i x hx => ?_⟩
  obtain ⟨q, o, h5, h6, h7, cs, h8, h9, h10⟩ := hr i x hx
  exact ⟨q, o, h5, h6, by have := k.size; omega, cs, h8, k.range h9 (by omega), h10⟩
theorem Tab.pos {w : World} (h : Tab w) : 0 < w.heap.size := by
  have := h 0 0 rfl
  exact World.block_lt_of_cell? w _ (this 0 _ rfl)

theorem at_mem {x : Word} (h : x.loop.length ≠ 0) (i : Nat) : x.at i ∈ x.stem ∨ x.at i ∈ x.loop := by
  unfold Word.at
  rw [if_neg h]
  split
  · rename_i hi
    refine .inl ?_
    rw [List.getD_eq_getElem?_getD, List.getElem?_eq_getElem hi]
    exact List.getElem_mem hi
  · refine .inr ?_
    have hm := Nat.mod_lt (i - x.stem.length) (show 0 < x.loop.length by omega)
    rw [List.getD_eq_getElem?_getD, List.getElem?_eq_getElem hm]
    exact List.getElem_mem hm

set_option maxHeartbeats 2000000 in
theorem lawRest_c {w : World} {pv iv ev fv sv lv : Value} {g : Buchi} {x : Word} (hB : Bin 0 w.heap.size w pv iv ev fv g) (hX : Win 0 w.heap.size w sv lv x) (hT : Tab w) :
    Calls Proofs.Tryd.prog 3 [.agg #[pv, .int .i64 g.states, iv, ev, fv], .agg #[sv, lv]].toArray w (Ret fun r w' => r = .bool true ∧ Kp w w') := by
  obtain ⟨lp, li, le, lf⟩ : g.props.length < 4611686018427387904 ∧ g.init.length < 4611686018427387904 ∧ g.edges.length < 4611686018427387904 ∧ g.final.length < 4611686018427387904 := by
    have := hB.lp; have := hB.li; have := hB.le; have := hB.ls; omega
  have hBV : BuchiV 0 w.heap.size w pv iv ev fv g := ⟨hB.props, hB.init, hB.edges, hB.final, lp, li, le, lf⟩
  have hWv : WordV 0 w.heap.size w sv lv x := ⟨hX.stem, hX.loop, by have := hX.ls; omega, by have := hX.ll; omega⟩
  have hxls := hX.ls
  have hxll := hX.ll
  obtain ⟨a1, c1, rfl, -⟩ := id hBV.props
  obtain ⟨a2, c2, rfl, -⟩ := id hBV.init
  obtain ⟨a3, c3, rfl, -⟩ := id hBV.edges
  obtain ⟨a4, c4, rfl, -⟩ := id hBV.final
  obtain ⟨s1, d1, rfl, -⟩ := id hWv.stem
  obtain ⟨s2, d2, rfl, -⟩ := id hWv.loop
  refine call agree Proofs.Tryd.func3 rfl Proofs.Tryd.ntmps3 (by kernel_rfl) ?_
  refine nd fun b2 w1 e1 z1 k1 m2 => ?_
  have m2 : Own w1 b2 26 [.slice a1 g.props.length c1, .int .i64 g.states, .slice a2 g.init.length c2, .slice a3 g.edges.length c3, .slice a4 g.final.length c4] := m2
  refine nd fun b3 w2 e2 z2 k2 m3 => ?_
  have m3 : Own w2 b3 29 [.slice s1 x.stem.length d1, .slice s2 x.loop.length d2] := m3
  have m2 := k2.own m2 id
  have K2 := k1.trans k2
  refine drawnK agree mixed 5 [0, 1, 2, 3, 4] (by kernel_rfl) ?_
  conv => whnf
  refine ldk (v := .agg #[.slice a1 g.props.length c1, .int .i64 g.states, .slice a2 g.init.length c2, .slice a3 g.edges.length c3, .slice a4 g.final.length c4]) agree rfl rfl (fun W h _ => Own.at_ (xs := [.slice a1 g.props.length c1, .int .i64 g.states, .slice a2 g.init.length c2, .slice a3 g.edges.length c3, .slice a4 g.final.length c4]) (o := 0) (h.own m2 id) rfl) (by rfl) fun _ => ?_
  conv => whnf
  refine callf (fun q : Nat => .agg #[.slice a1 g.props.length c1, .int .i64 g.states, .slice a2 g.init.length c2, .slice a3 g.edges.length c3, .slice (some ⟨q, 0, none⟩) 1 1]) (fun q W => True) rfl rfl rfl (fun q W W' h k => trivial) callRGeneral (fun W h _ => (rgeneral_c W a1 a2 a3 a4 _ c1 _ c2 _ c3 _ c4 g.states).mono fun en W' hr => ?_) fun q D hD => ?_
  · cases en with
    | returned v =>
      obtain ⟨k, q, h1, h2, h3, h4⟩ := hr
      exact ⟨k, q, h4, trivial⟩
    | _ => exact hr.elim
  conv => whnf
  refine ldk (v := .agg #[.slice s1 x.stem.length d1, .slice s2 x.loop.length d2]) agree rfl rfl (fun W h _ => Own.at_ (xs := [.slice s1 x.stem.length d1, .slice s2 x.loop.length d2]) (o := 0) (h.own m3 id) rfl) (by rfl) fun _ => ?_
  conv => whnf
  refine callf (fun b : Bool => .bool b) (fun b _ => b = true → Few g.general x) rfl rfl rfl (fun b W W' h k => h) callFew (fun W h _ => (few_c W (.slice a1 g.props.length c1) (.slice a2 g.init.length c2) a3 (some ⟨q, 0, none⟩) s1 s2 c3 1 d1 d2 g.general x hxls hxll).mono fun en W' hr => ?_) fun b D2 hD2 => ?_
  · cases en with
    | returned v => exact hr
    | _ => exact hr.elim
  cases b with
  | false =>
    conv => whnf
    intro W3 k3 _
    exact ⟨rfl, K2.trans k3⟩
  | true =>
    conv => whnf
    intro W3 k3 hd3
    have hF : Few g.general x := hD2 W3 (hd3 3) rfl
    have K3 := K2.trans k3
    have m2 := k3.own m2 id
    have m3 := k3.own m3 id
    have hkn := known_c W3
    refine cl callKnown hkn ?_
    rintro _ w4 ⟨rfl, k4⟩
    have m2 := k4.own m2 id
    have m3 := k4.own m3 id
    have K4 := K3.trans k4
    clear hD2 hd3 hD D D2
    have hpl : x.places ≤ 30 := by unfold Word.places; have := hF.pl; split <;> omega
    have hed : g.edges.length ≤ 300 := hF.ed
    have hst : g.states ≤ 60 := hF.st
    have hxp := hF.pl
    refine ld agree (v := .agg #[.slice a1 g.props.length c1, .int .i64 g.states, .slice a2 g.init.length c2, .slice a3 g.edges.length c3, .slice a4 g.final.length c4]) (Own.at_ (xs := [.slice a1 g.props.length c1, .int .i64 g.states, .slice a2 g.init.length c2, .slice a3 g.edges.length c3, .slice a4 g.final.length c4]) (o := 0) m2 rfl) (by rfl) ?_
    refine ld agree (v := .agg #[.slice s1 x.stem.length d1, .slice s2 x.loop.length d2]) (Own.at_ (xs := [.slice s1 x.stem.length d1, .slice s2 x.loop.length d2]) (o := 0) m3 rfl) (by rfl) ?_
    have hacc := acceptsB_c (hBV.chg K4 (Nat.le_refl _) K4.size) (hWv.chg K4 (Nat.le_refl _) K4.size) (by omega) (by omega)
    have hcase : (∃ e, accS g.general x = (false, e) ∧ ¬ e = 0) ∨ (checkS g.general = true ∧ wordOk x g.props.length = true ∧ accS g.general x = (acceptsS g.general x, 0)) := by
      unfold accS
      by_cases hc : checkS g.general = true
      · rw [if_pos hc]
        by_cases hw : wordOk x g.general.props.length = true
        · rw [if_pos hw]; exact .inr ⟨hc, hw, rfl⟩
        · rw [if_neg hw]; exact .inl ⟨101, rfl, by decide⟩
      · rw [if_neg hc]; exact .inl ⟨100, rfl, by decide⟩
    rcases hcase with ⟨er, her, hne⟩ | ⟨hck, hwk, hok⟩
    · rw [her] at hacc
      refine cl callAcceptsB hacc ?_
      rintro _ w5 ⟨rfl, k5⟩
      refine spT hne ?_
      exact ⟨rfl, K4.trans k5⟩
    · rw [hok] at hacc
      have hloop := wordOk_loop hwk
      have hgood := Good.of hck
      have hexn : ∃ n : Nat, g.states = n := ⟨g.states.toNat, by have := hgood.s0; have : g.general.states = g.states := rfl; omega⟩
      obtain ⟨n, hn⟩ := hexn
      have hlaw := rest_law hn hck hwk
      have hexb : ∃ bb, bb = acceptsS g.general x := ⟨_, rfl⟩
      obtain ⟨bb, hbb⟩ := hexb
      rw [← hbb] at hlaw hacc
      refine cl callAcceptsB hacc ?_
      rintro _ w5 ⟨rfl, k5⟩
      have K5 := K4.trans k5
      have m2 := k5.own m2 id
      have m3 := k5.own m3 id
      refine spF (fun h => h rfl) ?_
      have hn60 : n ≤ 60 := by omega
      have hset : ∀ V, Kp w5 V → Calls Proofs.Tryd.prog 9 [.int .i64 g.states, .slice a2 g.init.length c2].toArray V (Ret fun r w' => Kp V w' ∧ ∃ y : Nat × Nat, r = pt y.1 0 ∧ SetV w' y.1 y.2 n (ofW n g.init)) := fun V hV => by
        rw [hn]
        refine (set_c ((hBV.init.chg (K5.trans hV) (fun _ _ _ h => h) (fun _ _ h => h)) : Ints 0 w.heap.size V _ g.init) n (by omega) li).mono fun en w' hr => ?_
        cases en with
        | returned v =>
          obtain ⟨k, p, q, e, -, -, h⟩ := hr
          exact ⟨k, (p, q), e, h⟩
        | _ => exact hr.elim
      have hat : ∀ V, Kp w5 V → Calls Proofs.Tryd.prog 10 [.agg #[.slice s1 x.stem.length d1, .slice s2 x.loop.length d2], .int .i64 0].toArray V (Ret fun r w' => r = .int .u16 (x.at 0) ∧ Kp V w') := fun V hV => at_c (hWv.chg (K5.trans hV) (Nat.le_refl _) (K5.trans hV).size) 0 (by decide)
      have hl16 : Let16 (x.at 0) := (at_mem hloop 0).elim (letters_mem hX.stem _) (letters_mem hX.loop _)
      have hlt : x.at 0 < 2 ^ g.props.length := by
        have hwk' := hwk
        unfold wordOk at hwk'
        simp only [Bool.and_eq_true, Bool.not_eq_true', decide_eq_false_iff_not, List.any_eq_false, decide_eq_true_eq] at hwk'
        rcases at_mem hloop 0 with h | h
        · have := hwk'.1.2 _ h; omega
        · have := hwk'.2 _ h; omega
      have hstep : ∀ V, Kp w5 V → ∀ y : Nat × Nat, SetV V y.1 y.2 n (ofW n g.init) → Calls Proofs.Tryd.prog 8 [.agg #[.slice a1 g.props.length c1, .int .i64 g.states, .slice a2 g.init.length c2, .slice a3 g.edges.length c3, .slice a4 g.final.length c4], pt y.1 0, .int .u16 (x.at 0)].toArray V (Ret fun r w' => Kp V w' ∧ ∃ y : Nat × Nat, r = pt y.1 0 ∧ SetV w' y.1 y.2 n (stepW n g.edges (ofW n g.init) (x.at 0))) := fun V hV y hy => by
        refine (step_c (hBV.chg (K5.trans hV) (Nat.le_refl _) (K5.trans hV).size) hy (x.at 0) hl16).mono fun en w' hr => ?_
        cases en with
        | returned v =>
          obtain ⟨k, ⟨h1, -⟩ | ⟨-, p, q, e, -, -, h⟩⟩ := hr
          · exact (h1 ⟨hck, hn.symm, hlt⟩).elim
          · exact ⟨k, (p, q), e, h⟩
        | _ => exact hr.elim
      refine drawnK agree mixed 10 [1, 2, 3, 4, 5, 6, 7, 0, 8, 9] (by kernel_rfl) ?_
      conv => whnf
      refine ldk agree rfl rfl (fun W h _ => Own.at_ (xs := [.int .i64 g.states]) (o := 1) (h.own m2 id) rfl) (by rfl) fun _ => ?_
      conv => whnf
      refine ldk agree rfl rfl (fun W h _ => Own.at_ (xs := [.slice a2 g.init.length c2]) (o := 2) (h.own m2 id) rfl) (by rfl) fun _ => ?_
      conv => whnf
      refine callf (fun y : Nat × Nat => pt y.1 0) (fun y V => SetV V y.1 y.2 n (ofW n g.init)) rfl rfl rfl (fun y V V' h k => h.chg k id id) callSet (fun V hV _ => (hset V hV).mono fun en V' hr => ?_) fun y D hD => ?_
      · cases en with
        | returned v => exact hr
        | _ => exact hr.elim
      conv => whnf
      refine ldk (v := .agg #[.slice s1 x.stem.length d1, .slice s2 x.loop.length d2]) agree rfl rfl (fun W h _ => Own.at_ (xs := [.slice s1 x.stem.length d1, .slice s2 x.loop.length d2]) (o := 0) (h.own m3 id) rfl) (by rfl) fun _ => ?_
      conv => whnf
      refine callk (v := .int .u16 (x.at 0)) rfl rfl rfl callAt (fun V hV _ => hat V hV) fun _ => ?_
      conv => whnf
      refine ldk (v := .agg #[.slice a1 g.props.length c1, .int .i64 g.states, .slice a2 g.init.length c2, .slice a3 g.edges.length c3, .slice a4 g.final.length c4]) agree rfl rfl (fun W h _ => Own.at_ (xs := [.slice a1 g.props.length c1, .int .i64 g.states, .slice a2 g.init.length c2, .slice a3 g.edges.length c3, .slice a4 g.final.length c4]) (o := 0) (h.own m2 id) rfl) (by rfl) fun _ => ?_
      conv => whnf
      refine callf (fun y : Nat × Nat => pt y.1 0) (fun y V => SetV V y.1 y.2 n (stepW n g.edges (ofW n g.init) (x.at 0))) rfl rfl rfl (fun y V V' h k => h.chg k id id) callStep (fun V hV h2 => (hstep V hV y (hD V (h2 5 (by kernel_rfl)))).mono fun en V' hr => ?_) fun y2 D2 hD2 => ?_
      · cases en with
        | returned v => exact hr
        | _ => exact hr.elim
      conv => whnf
      intro w6 k6 hd6
      have hS6 := hD2 w6 (hd6 8)
      have K6 := K5.trans k6
      have m2 := k6.own m2 id
      have m3 := k6.own m3 id
      have m3lt : b3 < w6.heap.size := Own.lt m3
      clear hD hD2 hd6 D D2
      refine ptrNil agree rfl rfl rfl (by kernel_rfl) ?_
      refine ld agree (v := .agg #[.slice a1 g.props.length c1, .int .i64 g.states, .slice a2 g.init.length c2, .slice a3 g.edges.length c3, .slice a4 g.final.length c4]) (Own.at_ (xs := [.slice a1 g.props.length c1, .int .i64 g.states, .slice a2 g.init.length c2, .slice a3 g.edges.length c3, .slice a4 g.final.length c4]) (o := 0) m2 rfl) (by rfl) ?_
      refine nd fun b9 w7 e7 z7 k7 m9 => ?_
      refine st agree m9 rfl (Nat.le_refl 5) rfl ?_
      intro w8 z8 k8 m9
      have m9 : Own w8 b9 26 [.slice a1 g.props.length c1, .int .i64 g.states, .slice a2 g.init.length c2, .slice a3 g.edges.length c3, .slice a4 g.final.length c4] := m9
      refine st agree m9 rfl (show 3 ≤ 5 by decide) rfl ?_
      intro w9 z9 k9 m9
      have m9 : Own w9 b9 26 [.slice a1 g.props.length c1, .int .i64 g.states, nilS, .slice a3 g.edges.length c3, .slice a4 g.final.length c4] := m9
      have k69 : Kp w6 w9 := (k7.newS k8 fun j hj => by omega).newS k9 fun j hj => by omega
      have K9 := K6.trans k69
      have hT9 := hT.kp K9
      have hall := all_c (hS6.chg k69 id id) hT9
      refine cl callAll hall ?_
      rintro _ w0 ⟨k0, bf, ps, vs, rfl, hbf, hC⟩
      have K0 := K9.trans k0
      have m3 := (k69.trans k0).own m3 id
      have m9 := k0.own m9 id
      have m9lt : b9 < w9.heap.size := by omega
      have m9p : w.heap.size ≤ b9 := by have := K6.size; omega
      have hpos := hT.pos
      have hz0 := k0.size
      have hne1 : bf ≠ b9 := by omega
      have hne2 : ps ≠ b9 := own_ne hC.2.1.hdr m9 (by decide)
      have it := allI bf ps n w9.heap.size vs (stepW n g.edges (ofW n g.init) (x.at 0))
      have hL : ∃ L, L = nextL n g x := ⟨_, rfl⟩
      obtain ⟨L, hL⟩ := hL
      have it : IterC Proofs.Tryd.prog 20 [pt bf 0] fN L (AllC bf ps n w9.heap.size vs (stepW n g.edges (ofW n g.init) (x.at 0))) := by rw [hL]; exact it
      have hLn : L.length ≤ n := by
        rw [hL]
        exact Nat.le_trans (List.length_filter_le _ _) (by simp)
      refine rangeF agree (cap := #[pt bf 0]) (xs := L) (enc := fN)
        (fun pre W => Chg (fun k => k = b9) w0 W ∧ ∃ a c, Own W b9 26 [.slice a1 g.props.length c1, .int .i64 g.states, .slice a pre.length c, .slice a3 g.edges.length c3, .slice a4 g.final.length c4] ∧ W.ownsRow (w0.heap.size + 2) 3 1 (.slice a pre.length c) pre.length (pre.flatMap fN))
        (fun _ _ _ => False) rfl callAll1 it (fun _ => rfl)
        (fun pre W W' h hk => ⟨h.1.newT hk fun j hj => .inr hj.1, by
          obtain ⟨-, a, c, ho, hr⟩ := h
          exact ⟨a, c, hk.own ho (by omega), ownsRow_chg hr hk fun b hb => by have := ownsRow_base hr hb; omega⟩⟩)
        (fun _ _ _ _ h _ => h.elim)
        (fun pre W h => hC.chg h.1 hne1 hne2 m9lt (by omega)) ⟨Chg.refl _ _, none, 0, m9, World.ownsRow_nil _ _ _ _⟩ ?_ ?_ (fun _ _ _ _ _ h _ => h.elim)
      · intro l pre xx W hl hJ hpre hsz _
        obtain ⟨hc, a, c, ho, hr⟩ := hJ
        refine ⟨rfl, fun W2 hs2 hc2 _ => ?_⟩
        have ho2 := hc2.own ho (show ¬ b9 = l by omega)
        have hr2 := ownsRow_chg hr hc2 fun b hb => by have := ownsRow_base hr hb; omega
        have hpl2 : pre.length + 1 ≤ L.length := by
          have := hpre.length_le
          rw [List.length_append] at this
          exact this
        refine ld agree (Own.at_ (xs := [.slice a pre.length c]) (o := 2) ho2 rfl) (by rfl) ?_
        refine ne (by decide) ?_
        refine nd fun q W3 e3 s3 k3 m3 => ?_
        have m3 : Own W3 q 3 [.int .i64 xx] := m3
        have hr3 := ownsRow_chg hr2 k3 fun b _ => id
        refine ap (m := 1) (news := [.int .i64 xx]) agree rfl rfl rfl rfl rfl rfl rfl (by decide) hr3 rfl (Own.at_ (xs := [.int .i64 xx]) (o := 0) m3 rfl) rfl (by simp only [maxLen]; omega) (by show (_ + 1) * 8 ≤ _; omega) (by omega) fun v' W4 hown hc4 => ?_
        have hfm := ownsRow_form hown
        obtain ⟨a', c', rfl⟩ := hfm
        have hb9 : ∀ j, some j = (Value.slice a pre.length c).ownBlock → w0.heap.size + 2 ≤ j := fun j hj => ownsRow_base hr2 hj.symm
        have ho4 := hc4.own (k3.own ho2 id) fun hj => by have := hb9 _ hj; omega
        refine st agree ho4 rfl (show 3 ≤ 5 by decide) rfl ?_
        intro W5 s5 k5 ho5
        have ho5 : Own W5 b9 26 [.slice a1 g.props.length c1, .int .i64 g.states, .slice a' (pre.length + 1) c', .slice a3 g.edges.length c3, .slice a4 g.final.length c4] := ho5
        have hll : (pre ++ [xx]).length = pre.length + 1 := by simp
        have hbn : ∀ b, (Value.slice a' (pre.length + 1) c').ownBlock = some b → ¬ b = b9 := fun b hb => by have := ownsRow_base hown hb; omega
        have hown5 := ownsRow_chg hown k5 hbn
        refine ⟨⟨(((hc.newT hc2 fun j hj => .inr (by omega)).newT k3 fun j hj => hj.elim).newT hc4 fun j hj => .inr (by have := hb9 j hj; omega)).trans k5, a', c', ?_⟩, fun k h1 h2 => ?_⟩
        · rw [hll, List.flatMap_append]
          exact ⟨ho5, hown5⟩
        · have z3 := k3.size
          rw [k5.block k (by have := hc4.size; omega) (by omega), hc4.block k (by omega) fun hj => by have := hb9 _ hj; omega]
          exact k3.block k (by omega) id
      · intro Dm W hDm hJ hdef
        obtain ⟨hc, a, c, ho, hr⟩ := hJ
        have KW : Kp w W := K0.newS hc fun j hj => by omega
        have m3 := hc.own m3 (by omega)
        have hrow := ownsRow_row (f := fN) (l := L) (fun _ => rfl) hr (by decide)
        have hints : Ints 0 W.heap.size W (.slice a (L.map fun (j : Nat) => (j : Int)).length c) (L.map fun (j : Nat) => (j : Int)) := by
          obtain ⟨aa, cc, e1, hcc, hx⟩ := hrow
          injection e1 with h1 _ h3
          subst h1 h3
          refine ⟨a, c, rfl, by rw [List.length_map]; exact hcc, fun i y hy => ?_⟩
          rw [List.getElem?_map] at hy
          cases hli : L[i]? with
          | none => rw [hli] at hy; cases hy
          | some j =>
            rw [hli] at hy
            injection hy with hy
            subst hy
            obtain ⟨b, o, q1, q2, q3, cs, q4, q5, rfl⟩ := hx i j hli
            exact ⟨b, o, q1, Nat.zero_le _, q3, _, q4, q5, rfl⟩
        rw [List.length_map] at hints
        obtain ⟨C, hCd⟩ : ∃ C : Buchi, C = restB n g x := ⟨_, rfl⟩
        obtain ⟨Y, hYd⟩ : ∃ Y : Word, Y = suffS x 1 := ⟨_, rfl⟩
        have hCi : C.init = L.map fun (j : Nat) => (j : Int) := by rw [hCd, hL]; rfl
        have hCl : C.init.length = L.length := by rw [hCi, List.length_map]
        have hCV : BuchiV 0 W.heap.size W (.slice a1 g.props.length c1) (.slice a L.length c) (.slice a3 g.edges.length c3) (.slice a4 g.final.length c4) C := by
          have hb := hBV.chg KW (Nat.le_refl _) KW.size
          refine ⟨by rw [hCd]; exact hb.props, by rw [hCi]; exact hints, by rw [hCd]; exact hb.edges, by rw [hCd]; exact hb.final, by rw [hCd]; exact lp, by rw [hCl]; omega, by rw [hCd]; exact le, by rw [hCd]; exact lf⟩
        have hCs : C.states = g.states := by rw [hCd]; rfl
        have hsu := suffS_ok hloop 1
        rw [← hYd] at hsu
        rw [← hCd, ← hYd] at hlaw
        have hYp : Y.places < 1048576 := by
          have h5 := hsu.2.2.2.2
          unfold Word.places
          split <;> omega
        have hsuf : ∀ V, Kp W V → Calls Proofs.Tryd.prog 12 [.agg #[.slice s1 x.stem.length d1, .slice s2 x.loop.length d2], .int .i64 1].toArray V (Ret fun r w' => Kp V w' ∧ ∃ y, r = agW Y y ∧ WvY 0 w' Y y) := fun V hV => by
          rw [hYd]
          refine (suffix_c (hWv.chg (KW.trans hV) (Nat.le_refl _) (KW.trans hV).size) (by omega) (by omega) (Nat.le_refl _) 1 (by decide)).mono fun en w' hr => ?_
          cases en with
          | returned v =>
            obtain ⟨k, y, e, h⟩ := hr
            exact ⟨k, y, e, wordV_low h (Chg.refl (fun _ => False) _) (fun _ h => h.elim) (Nat.zero_le _) (Nat.le_refl _)⟩
          | _ => exact hr.elim
        have hac : ∀ V, Kp W V → ∀ y, WvY 0 V Y y → Calls Proofs.Tryd.prog 7 [.agg #[.slice a1 g.props.length c1, .int .i64 g.states, .slice a L.length c, .slice a3 g.edges.length c3, .slice a4 g.final.length c4], agW Y y].toArray V (Ret fun r w' => r = .tuple #[.bool bb, .int .i64 0] ∧ Kp V w') := fun V hV y hy => by
          have := acceptsB_c (hCV.chg hV (Nat.le_refl _) hV.size) hy (by rw [hCd]; show g.edges.length < _; omega) hYp
          rw [hCs, hlaw] at this
          exact this
        refine drawnK agree mixed 9 [1, 2, 0, 3, 4, 5, 6, 7, 8] (by kernel_rfl) ?_
        conv => whnf
        refine ldk (v := .agg #[.slice s1 x.stem.length d1, .slice s2 x.loop.length d2]) agree rfl rfl (fun V h _ => Own.at_ (xs := [.slice s1 x.stem.length d1, .slice s2 x.loop.length d2]) (o := 0) (h.own m3 id) rfl) (by rfl) fun _ => ?_
        conv => whnf
        refine callf (fun y : AC × AC => agW Y y) (fun y V => WvY 0 V Y y) rfl rfl rfl (fun y V V' hr k => wordV_low hr k (fun _ h => h.elim) (Nat.le_refl _) k.size) callSuffix (fun V hV _ => (hsuf V hV).mono fun en V' hr => ?_) fun y D hD => ?_
        · cases en with
          | returned v => exact hr
          | _ => exact hr.elim
        conv => whnf
        refine ldk (v := .agg #[.slice a1 g.props.length c1, .int .i64 g.states, .slice a L.length c, .slice a3 g.edges.length c3, .slice a4 g.final.length c4]) agree rfl rfl (fun V h _ => Own.at_ (xs := [.slice a1 g.props.length c1, .int .i64 g.states, .slice a L.length c, .slice a3 g.edges.length c3, .slice a4 g.final.length c4]) (o := 0) (h.own ho id) rfl) (by rfl) fun _ => ?_
        conv => whnf
        refine callk (v := .tuple #[.bool bb, .int .i64 0]) rfl rfl rfl callAcceptsB (fun V hV h2 => hac V hV y (hD V (h2 2 (by kernel_rfl)))) fun _ => ?_
        conv => whnf
        intro V hV hd
        refine spT rfl ?_
        refine spT rfl ?_
        have hmk : Dm = w0.heap.size := hDm
        refine ⟨fun z hz => ?_, by simp, fun V9 hsz9 hc9 => ⟨rfl, ?_⟩⟩
        · obtain rfl : z = Dm := by simpa using hz
          exact (hV.block z (Array.getElem?_eq_some_iff.1 hdef).1 id).trans hdef
        · refine (KW.trans hV).newS hc9 fun j hj => ?_
          obtain rfl : j = Dm := by simpa using hj
          have := K0.size
          omega
end Go.Au
