/- Own text of this workplace: a part of the proofs of this place's statements. -/
import Derived.Test.YtjibhchnhkjgkaaB25
import Derived.Test.YtjibhchnhkjgkaaA17
set_option linter.unusedVariables false
set_option linter.unusedSimpArgs false
set_option linter.unusedSectionVars false
namespace Go.Au
open Go Go.RowKit

/-! ### words of 64 bits -/
theorem wrapU64 {z : Int} (h1 : 0 ≤ z) (h2 : z < 18446744073709551616) : IntKind.u64.wrap z = z := by
  show (if (false && decide (z % 18446744073709551616 ≥ 9223372036854775808)) = true then z % 18446744073709551616 - 18446744073709551616 else z % 18446744073709551616) = z
  rw [if_neg (by simp)]; omega
theorem ofInt64 {a : Nat} (h : a < 18446744073709551616) : (BitVec.ofInt (IntKind.bits .u64) (a : Int)).toNat = a := by
  rw [BitVec.toNat_ofInt]
  show (((a : Int) % 18446744073709551616)).toNat = a
  omega
theorem wrapN {a : Nat} (h : a < 18446744073709551616) : IntKind.u64.wrap (a : Int) = a := wrapU64 (by omega) (by omega)
theorem bitsAnd {a b : Nat} (ha : a < 18446744073709551616) (hb : b < 18446744073709551616) : bits .and .u64 a b = ((a &&& b : Nat) : Int) := by
  have h : bits .and .u64 a b = IntKind.u64.wrap (((BitVec.ofInt (IntKind.bits .u64) (a : Int) &&& BitVec.ofInt (IntKind.bits .u64) (b : Int)).toNat : Nat) : Int) := rfl
  rw [h, BitVec.toNat_and, ofInt64 ha, ofInt64 hb]
  exact wrapN (Nat.lt_of_le_of_lt Nat.and_le_left ha)
theorem bitsOr {a b : Nat} (ha : a < 18446744073709551616) (hb : b < 18446744073709551616) : bits .or .u64 a b = ((a ||| b : Nat) : Int) := by
  have h : bits .or .u64 a b = IntKind.u64.wrap (((BitVec.ofInt (IntKind.bits .u64) (a : Int) ||| BitVec.ofInt (IntKind.bits .u64) (b : Int)).toNat : Nat) : Int) := rfl
  rw [h, BitVec.toNat_or, ofInt64 ha, ofInt64 hb]
  exact wrapN (Nat.or_lt_two_pow (n := 64) ha hb)
def cutB (a b : Nat) : Nat := a &&& (2 ^ 64 - (b + 1))
theorem bitsCut {a b : Nat} (ha : a < 18446744073709551616) (hb : b < 18446744073709551616) : bits .andNot .u64 a b = ((cutB a b : Nat) : Int) := by
  have h : bits .andNot .u64 a b = IntKind.u64.wrap (((BitVec.ofInt (IntKind.bits .u64) (a : Int) &&& ~~~ BitVec.ofInt (IntKind.bits .u64) (b : Int)).toNat : Nat) : Int) := rfl
  rw [h, BitVec.toNat_and, BitVec.toNat_not, ofInt64 ha, ofInt64 hb]
  have h2 : 2 ^ (IntKind.bits .u64) - 1 - b = 2 ^ 64 - (b + 1) := by show 2 ^ 64 - 1 - b = _; omega
  rw [h2]
  exact wrapN (Nat.lt_of_le_of_lt Nat.and_le_left ha)
theorem bit_lt {r : Nat} (h : r < 64) : 2 ^ r < 18446744073709551616 := Nat.pow_lt_pow_right (a := 2) (by decide) h
theorem shl64 {r : Nat} (h : r < 64) : IntKind.u64.wrap ((1 : Int) * 2 ^ (min ((r : Int)).toNat (IntKind.bits .u64))) = ((2 ^ r : Nat) : Int) := by
  rw [Int.toNat_natCast, Nat.min_eq_left (by show r ≤ 64; omega), Int.one_mul, show ((2 : Int) ^ r) = ((2 ^ r : Nat) : Int) from (Int.natCast_pow 2 _).symm]
  exact wrapN (bit_lt h)
theorem shr64 {a r : Nat} (h : r < 64) : ((a : Int)).fdiv (2 ^ (min ((r : Int)).toNat (IntKind.bits .u64))) = ((a / 2 ^ r : Nat) : Int) := by
  rw [Int.toNat_natCast, Nat.min_eq_left (by show r ≤ 64; omega), show ((2 : Int) ^ r) = ((2 ^ r : Nat) : Int) from (Int.natCast_pow 2 _).symm, Int.fdiv_eq_ediv_of_nonneg _ (Int.natCast_nonneg _)]
  rfl
theorem quo64 (i : Nat) (h : i < 4611686018427387904) : IntKind.i64.wrap (((i : Int)).tdiv 64) = ((i / 64 : Nat) : Int) := by
  rw [Int.tdiv_eq_ediv_of_nonneg (by omega), wrap64 (by omega) (by omega)]
  rfl
theorem rem64 (i : Nat) : ((i : Int)).tmod 64 = ((i % 64 : Nat) : Int) := by
  rw [Int.tmod_eq_emod_of_nonneg (by omega)]
  rfl

/-! ### a set's words -/
def hasW (W : List Nat) (i : Nat) : Bool := (W.getD (i / 64) 0).testBit (i % 64)
def putW (W : List Nat) (i : Nat) : List Nat := W.set (i / 64) (W.getD (i / 64) 0 ||| 2 ^ (i % 64))
def cutW (W : List Nat) (i : Nat) : List Nat := W.set (i / 64) (cutB (W.getD (i / 64) 0) (2 ^ (i % 64)))
structure SetP (n : Nat) (W : List Nat) : Prop where
  len : W.length = (n + 63) / 64
  lt : ∀ x ∈ W, x < 18446744073709551616
  top : ∀ i, hasW W i = true → i < n
theorem getD_set (W : List Nat) (a k v : Nat) (ha : a < W.length) : (W.set a v).getD k 0 = if a = k then v else W.getD k 0 := by
  rw [List.getD_eq_getElem?_getD, List.getElem?_set]
  split
  · rename_i h; subst h; simp [ha]
  · rw [List.getD_eq_getElem?_getD]
theorem SetP.word {n : Nat} {W : List Nat} (h : SetP n W) (k : Nat) : W.getD k 0 < 18446744073709551616 := by
  rw [List.getD_eq_getElem?_getD]
  cases hk : W[k]? with
  | none => simp
  | some x => exact h.lt x (List.mem_of_getElem? hk)
theorem hasW_put {W : List Nat} {i : Nat} (hi : i / 64 < W.length) (j : Nat) : hasW (putW W i) j = (decide (j = i) || hasW W j) := by
  unfold hasW putW
  rw [getD_set _ _ _ _ hi]
  split
  · rename_i h
    rw [Nat.testBit_or, Nat.testBit_two_pow, Bool.or_comm, h]
    congr 1
    by_cases hji : j = i
    · subst hji; simp
    · rw [decide_eq_false hji, decide_eq_false (by omega)]
  · rename_i h
    rw [decide_eq_false (show ¬ j = i by rintro rfl; exact h rfl)]
    rfl
theorem hasW_cut {n : Nat} {W : List Nat} {i : Nat} (hi : i / 64 < W.length) (j : Nat) : hasW (cutW W i) j = (!decide (j = i) && hasW W j) := by
  unfold hasW cutW
  rw [getD_set _ _ _ _ hi]
  split
  · rename_i h
    unfold cutB
    rw [Nat.testBit_and, Nat.testBit_two_pow_sub_succ (bit_lt (Nat.mod_lt _ (by decide))), Nat.testBit_two_pow, Bool.and_comm, h]
    congr 1
    rw [decide_eq_true (Nat.mod_lt _ (by decide)), Bool.true_and]
    by_cases hji : j = i
    · subst hji; simp
    · rw [decide_eq_false hji, decide_eq_false (by omega)]
  · rename_i h
    rw [decide_eq_false (show ¬ j = i by rintro rfl; exact h rfl)]
    rfl
theorem SetP.idx {n : Nat} {W : List Nat} (h : SetP n W) {i : Nat} (hi : i < n) : i / 64 < W.length := by rw [h.len]; omega
theorem SetP.put {n : Nat} {W : List Nat} (h : SetP n W) {i : Nat} (hi : i < n) : SetP n (putW W i) := by
  refine ⟨by unfold putW; rw [List.length_set]; exact h.len, fun x hx => ?_, fun j hj => ?_⟩
  · rcases List.mem_or_eq_of_mem_set hx with h1 | rfl
    · exact h.lt x h1
    · exact Nat.or_lt_two_pow (n := 64) (h.word _) (bit_lt (Nat.mod_lt _ (by decide)))
  · rw [hasW_put (h.idx hi)] at hj
    simp only [Bool.or_eq_true, decide_eq_true_eq] at hj
    rcases hj with rfl | hj
    · exact hi
    · exact h.top j hj
theorem SetP.cut {n : Nat} {W : List Nat} (h : SetP n W) {i : Nat} (hi : i < n) : SetP n (cutW W i) := by
  refine ⟨by unfold cutW; rw [List.length_set]; exact h.len, fun x hx => ?_, fun j hj => ?_⟩
  · rcases List.mem_or_eq_of_mem_set hx with h1 | rfl
    · exact h.lt x h1
    · exact Nat.lt_of_le_of_lt Nat.and_le_left (h.word _)
  · rw [hasW_cut (n := n) (h.idx hi)] at hj
    simp only [Bool.and_eq_true] at hj
    exact h.top j hj.2
theorem hasW_new (n j : Nat) : hasW (List.replicate n 0) j = false := by
  unfold hasW
  rw [List.getD_eq_getElem?_getD, List.getElem?_replicate]
  split <;> simp
theorem SetP.new (n : Nat) : SetP n (List.replicate ((n + 63) / 64) 0) :=
  ⟨by simp, fun x hx => by rw [(List.mem_replicate.1 hx).2]; decide, fun i hi => by rw [hasW_new] at hi; cases hi⟩
theorem SetP.zero {n : Nat} {W : List Nat} (h : SetP n W) (h0 : ∀ i, hasW W i = false) : ∀ x ∈ W, x = 0 := by
  intro x hx
  obtain ⟨k, hk⟩ := List.mem_iff_getElem?.1 hx
  refine Nat.eq_of_testBit_eq fun j => ?_
  rw [Nat.zero_testBit]
  rcases Nat.lt_or_ge j 64 with hj | hj
  · have := h0 (k * 64 + j)
    unfold hasW at this
    rwa [show (k * 64 + j) / 64 = k by omega, show (k * 64 + j) % 64 = j by omega, List.getD_eq_getElem?_getD, hk] at this
  · exact Nat.testBit_lt_two_pow (Nat.lt_of_lt_of_le (h.lt x hx) (Nat.pow_le_pow_right (n := 2) (by decide) hj))

/-! ### sets in memory -/
abbrev fW (x : Nat) : List Value := [.int .u64 (x : Int)]
structure SetV (w : World) (p q n : Nat) (W : List Nat) : Prop where
  hdr : Own w p 105 [.int .i64 n, .slice (some ⟨q, 0, none⟩) W.length W.length]
  row : Own w q 107 (W.flatMap fW)
  pl : SetP n W
  nb : n ≤ 65536
theorem SetV.chg {w w' : World} {p q n : Nat} {W : List Nat} {S : Nat → Prop} (h : SetV w p q n W) (k : Chg S w w') (hp : ¬ S p) (hq : ¬ S q) : SetV w' p q n W := ⟨k.own h.hdr hp, k.own h.row hq, h.pl, h.nb⟩
theorem SetV.ne {w : World} {p q n : Nat} {W : List Nat} (h : SetV w p q n W) : p ≠ q := own_ne h.hdr h.row (by decide)
theorem fwAt {W : List Nat} {k : Nat} (h : k < W.length) : W[k]? = some (W.getD k 0) := by rw [List.getD_eq_getElem?_getD]; simp [h]

theorem callIn : callable Proofs.Try.prog 79 = true := by kernel_rfl
theorem in_c {w : World} {p q n : Nat} {W : List Nat} (h : SetV w p q n W) (i : Int) : Calls Proofs.Try.prog 79 [pt p 0, .int .i64 i].toArray w (Ret fun r w' => r = .bool (decide (0 ≤ i ∧ i < n)) ∧ Kp w w') := by
  refine call agree Proofs.Try.func79 rfl Proofs.Try.ntmps79 (by kernel_rfl) ?_
  refine sp (fun h1 => ?_) (fun h1 => ?_)
  · refine ld agree (Own.at_ (xs := [.int .i64 n]) (o := 0) h.hdr rfl) (by rfl) ?_
    refine sp (fun h2 => ?_) (fun h2 => ?_)
    · exact ⟨congrArg Value.bool (by rw [decide_eq_true ⟨h1, h2⟩]), Chg.refl _ _⟩
    · exact ⟨congrArg Value.bool (by rw [decide_eq_false fun h => h2 h.2]), Chg.refl _ _⟩
  · exact ⟨congrArg Value.bool (by rw [decide_eq_false fun h => h1 h.1]), Chg.refl _ _⟩

theorem callWidth : callable Proofs.Try.prog 36 = true := by kernel_rfl
theorem width_c {w : World} {p q n : Nat} {W : List Nat} (h : SetV w p q n W) : Calls Proofs.Try.prog 36 [pt p 0].toArray w (Ret fun r w' => r = .int .i64 n ∧ Kp w w') := by
  refine call agree Proofs.Try.func36 rfl Proofs.Try.ntmps36 (by kernel_rfl) ?_
  refine ld agree (Own.at_ (xs := [.int .i64 n]) (o := 0) h.hdr rfl) (by rfl) ?_
  exact ⟨rfl, Chg.refl _ _⟩

def hasI (W : List Nat) (i : Int) : Bool := decide (0 ≤ i) && hasW W i.toNat
theorem callHas : callable Proofs.Try.prog 34 = true := by kernel_rfl
theorem has_c {w : World} {p q n : Nat} {W : List Nat} (h : SetV w p q n W) (i : Int) : Calls Proofs.Try.prog 34 [pt p 0, .int .i64 i].toArray w (Ret fun r w' => r = .bool (hasI W i) ∧ Kp w w') := by
  refine call agree Proofs.Try.func34 rfl Proofs.Try.ntmps34 (by kernel_rfl) ?_
  refine cl callIn (in_c h i) ?_
  rintro _ w1 ⟨rfl, k1⟩
  by_cases hi : 0 ≤ i ∧ i < n
  · rw [decide_eq_true hi]
    obtain ⟨j, rfl⟩ : ∃ j : Nat, i = j := ⟨i.toNat, by omega⟩
    have hj : j < n := by omega
    have hk := h.pl.idx hj
    have hn := h.nb
    have hr : j % 64 < 64 := Nat.mod_lt _ (by decide)
    have hw := h.pl.word (j / 64)
    refine ld agree (Own.at_ (xs := [.slice (some ⟨q, 0, none⟩) W.length W.length]) (o := 1) (k1.own h.hdr id) rfl) (by rfl) ?_
    refine ne (by decide) ?_
    refine arE (quo64 j (by omega)) ?_
    refine ne ⟨by omega, by omega⟩ ?_
    refine ld (v := .int .u64 (W.getD (j / 64) 0 : Nat)) agree (by rw [Int.toNat_natCast]; exact flat_range (f := fW) (cs := []) (fun _ => rfl) (fwAt hk) (by rw [List.append_nil]; exact Own.all (k1.own h.row id))) (by rfl) ?_
    refine ne (by decide) ?_
    refine arE (rem64 j) ?_
    refine ne (by omega) ?_
    refine arE (shr64 hr) ?_
    refine arE (bitsAnd (b := 1) (Nat.lt_of_le_of_lt (Nat.div_le_self _ _) hw) (by decide)) ?_
    have hb : hasI W (j : Int) = decide (W.getD (j / 64) 0 / 2 ^ (j % 64) &&& 1 = 1) := by
      unfold hasI hasW
      rw [decide_eq_true (by omega), Bool.true_and, Int.toNat_natCast, Nat.testBit_eq_decide_div_mod_eq, Nat.and_one_is_mod]
    refine sp (fun h1 => ?_) (fun h1 => ?_)
    · exact ⟨congrArg Value.bool (by rw [hb, decide_eq_true (by omega)]), k1⟩
    · exact ⟨congrArg Value.bool (by rw [hb, decide_eq_false (by omega)]), k1⟩
  · rw [decide_eq_false hi]
    refine ⟨congrArg Value.bool ?_, k1⟩
    unfold hasI
    by_cases h0 : 0 ≤ i
    · rw [decide_eq_true h0, Bool.true_and]
      cases hh : hasW W i.toNat with
      | false => rfl
      | true => have := h.pl.top _ hh; omega
    · rw [decide_eq_false h0]; rfl
end Go.Au
