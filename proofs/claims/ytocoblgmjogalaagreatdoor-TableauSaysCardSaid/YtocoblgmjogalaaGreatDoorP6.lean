/- Own text of this workplace: a part of the proofs of this place's statements. -/
import Derived.Lib.Small
import Derived.Lib.BitFns
import Derived.DeepKeys4
import Derived.Test.YtocoblgmjogalaaGreatDoorP0
import Derived.Test.YtocoblgmjogalaaGreatDoorG
import Derived.Test.YtocoblgmjogalaaGreatDoorP2
import Derived.Test.YtocoblgmjogalaaGreatDoorP3
import Derived.Test.YtocoblgmjogalaaGreatDoorP4
import Derived.Test.YtocoblgmjogalaaGreatDoorV64
set_option maxRecDepth 40000
set_option linter.unusedVariables false
set_option linter.unusedSimpArgs false
set_option linter.unusedSectionVars false
namespace Go.Au
open Go Go.RowKit

/-! ### words of 64 bits -/
theorem wrapU64 {z : Int} (h1 : 0 ≤ z) (h2 : z < 18446744073709551616) : IntKind.u64.wrap z = z := by
  show (if (false && decide (z % 18446744073709551616 ≥ 9223372036854775808)) = true then z % 18446744073709551616 - 18446744073709551616 else z % 18446744073709551616) = z
  rw [if_neg (by simp)]; omega
theorem ofInt64 {a : Nat} (h : a < 18446744073709551616) : (BitVec.ofInt (IntKind.bits .u64) (a : Int)).toNat = a := by
  rw [BitVec.toNat_ofInt]
  show (((a : Int) % 18446744073709551616)).toNat = a
  omega
theorem wrapN {a : Nat} (h : a < 18446744073709551616) : IntKind.u64.wrap (a : Int) = a := wrapU64 (by omega) (by omega)
theorem bitsAnd {a b : Nat} (ha : a < 18446744073709551616) (hb : b < 18446744073709551616) : bits .and .u64 a b = ((a &&& b : Nat) : Int) := by
  have h : bits .and .u64 a b = IntKind.u64.wrap (((BitVec.ofInt (IntKind.bits .u64) (a : Int) &&& BitVec.ofInt (IntKind.bits .u64) (b : Int)).toNat : Nat) : Int) := rfl
  rw [h, BitVec.toNat_and, ofInt64 ha, ofInt64 hb]
  exact wrapN (Nat.lt_of_le_of_lt Nat.and_le_left ha)
theorem bitsOr {a b : Nat} (ha : a < 18446744073709551616) (hb : b < 18446744073709551616) : bits .or .u64 a b = ((a ||| b : Nat) : Int) := by
  have h : bits .or .u64 a b = IntKind.u64.wrap (((BitVec.ofInt (IntKind.bits .u64) (a : Int) ||| BitVec.ofInt (IntKind.bits .u64) (b : Int)).toNat : Nat) : Int) := rfl
  rw [h, BitVec.toNat_or, ofInt64 ha, ofInt64 hb]
  exact wrapN (Nat.or_lt_two_pow (n := 64) ha hb)
def cutB (a b : Nat) : Nat := a &&& (2 ^ 64 - (b + 1))
theorem bitsCut {a b : Nat} (ha : a < 18446744073709551616) (hb : b < 18446744073709551616) : bits .andNot .u64 a b = ((cutB a b : Nat) : Int) := by
  have h : bits .andNot .u64 a b = IntKind.u64.wrap (((BitVec.ofInt (IntKind.bits .u64) (a : Int) &&& ~~~ BitVec.ofInt (IntKind.bits .u64) (b : Int)).toNat : Nat) : Int) := rfl
  rw [h, BitVec.toNat_and, BitVec.toNat_not, ofInt64 ha, ofInt64 hb]
  have h2 : 2 ^ (IntKind.bits .u64) - 1 - b = 2 ^ 64 - (b + 1) := by show 2 ^ 64 - 1 - b = _; omega
  rw [h2]
  exact wrapN (Nat.lt_of_le_of_lt Nat.and_le_left ha)
theorem bit_lt {r : Nat} (h : r < 64) : 2 ^ r < 18446744073709551616 := Nat.pow_lt_pow_right (a := 2) (by decide) h
theorem shl64 {r : Nat} (h : r < 64) : IntKind.u64.wrap ((1 : Int) * 2 ^ (min ((r : Int)).toNat (IntKind.bits .u64))) = ((2 ^ r : Nat) : Int) := by
  rw [Int.toNat_natCast, Nat.min_eq_left (by show r ≤ 64; omega), Int.one_mul, show ((2 : Int) ^ r) = ((2 ^ r : Nat) : Int) from (Int.natCast_pow 2 _).symm]
  exact wrapN (bit_lt h)
theorem shr64 {a r : Nat} (h : r < 64) : ((a : Int)).fdiv (2 ^ (min ((r : Int)).toNat (IntKind.bits .u64))) = ((a / 2 ^ r : Nat) : Int) := by
  rw [Int.toNat_natCast, Nat.min_eq_left (by show r ≤ 64; omega), show ((2 : Int) ^ r) = ((2 ^ r : Nat) : Int) from (Int.natCast_pow 2 _).symm, Int.fdiv_eq_ediv_of_nonneg _ (Int.natCast_nonneg _)]
  rfl
theorem quo64 (i : Nat) (h : i < 4611686018427387904) : IntKind.i64.wrap (((i : Int)).tdiv 64) = ((i / 64 : Nat) : Int) := by
  rw [Int.tdiv_eq_ediv_of_nonneg (by omega), wrap64 (by omega) (by omega)]
  rfl
theorem rem64 (i : Nat) : ((i : Int)).tmod 64 = ((i % 64 : Nat) : Int) := by
  rw [Int.tmod_eq_emod_of_nonneg (by omega)]
  rfl

/-! ### a set's words -/

/-! ### trailing zeros -/
def deB : List Nat := [0, 1, 56, 2, 57, 49, 28, 3, 61, 58, 42, 50, 38, 29, 17, 4, 62, 47, 59, 36, 45, 43, 51, 22, 53, 39, 33, 30, 24, 18, 12, 5, 63, 55, 48, 27, 60, 41, 37, 16, 46, 35, 44, 21, 52, 32, 23, 11, 54, 26, 40, 15, 34, 20, 31, 10, 25, 14, 19, 9, 13, 8, 7, 6]
theorem deB_at : ∀ j, j < 64 → deB[(2 ^ j * 285870213051353865 % 18446744073709551616) / 2 ^ 58]? = some j := by decide +kernel
theorem low_split (x : Nat) (hx : x ≠ 0) : ∃ j m, x = 2 ^ (j + 1) * m + 2 ^ j := by
  induction x using Nat.strongRecOn with
  | _ x ih =>
    rcases Nat.mod_two_eq_zero_or_one x with h | h
    · obtain ⟨j, m, hj⟩ := ih (x / 2) (by omega) (by omega)
      refine ⟨j + 1, m, ?_⟩
      have h2 : x = 2 * (x / 2) := by omega
      rw [hj] at h2
      rw [h2, Nat.mul_add, ← Nat.mul_assoc, Nat.pow_succ 2 (j + 1), Nat.pow_succ 2 j]
      simp only [Nat.mul_comm, Nat.mul_left_comm, Nat.mul_assoc]
    · exact ⟨0, x / 2, by omega⟩
theorem low_and {j m : Nat} (h : 2 ^ (j + 1) * m + 2 ^ j < 18446744073709551616) : (2 ^ (j + 1) * m + 2 ^ j) &&& (2 ^ 64 - (2 ^ (j + 1) * m + 2 ^ j)) = 2 ^ j := by
  have hp : 0 < 2 ^ j := Nat.two_pow_pos j
  have hj : j < 64 := by
    rcases Nat.lt_or_ge j 64 with h1 | h1
    · exact h1
    · have := Nat.pow_le_pow_right (n := 2) (by decide) h1
      omega
  refine Nat.eq_of_testBit_eq fun i => ?_
  have hs : 2 ^ (j + 1) * m + 2 ^ j = (2 ^ (j + 1) * m + (2 ^ j - 1)) + 1 := by omega
  rw [Nat.testBit_and]
  conv => lhs; arg 2; rw [hs]
  rw [Nat.testBit_two_pow_sub_succ (by omega), Nat.testBit_two_pow_mul_add _ (by rw [Nat.pow_succ]; omega), Nat.testBit_two_pow_mul_add _ (by rw [Nat.pow_succ]; omega), Nat.testBit_two_pow, Nat.testBit_two_pow_sub_one]
  by_cases h1 : i < j + 1
  · rw [if_pos h1, if_pos h1]
    by_cases h2 : j = i
    · subst h2; simp [hj]
    · simp [h2]
  · rw [if_neg h1, if_neg h1]
    have h2 : ¬ j = i := by omega
    simp only [decide_eq_false h2]
    cases m.testBit (i - (j + 1)) <;> simp
theorem low_bit {j m i : Nat} : (2 ^ (j + 1) * m + 2 ^ j).testBit j = true ∧ (i < j → (2 ^ (j + 1) * m + 2 ^ j).testBit i = false) := by
  have hp : 0 < 2 ^ j := Nat.two_pow_pos j
  refine ⟨?_, fun h => ?_⟩
  · rw [Nat.testBit_two_pow_mul_add _ (by rw [Nat.pow_succ]; omega), if_pos (by omega), Nat.testBit_two_pow]; simp
  · rw [Nat.testBit_two_pow_mul_add _ (by rw [Nat.pow_succ]; omega), if_pos (by omega), Nat.testBit_two_pow, decide_eq_false (by omega)]
/-- the table lies where the program has it -/
def Tab (w : World) : Prop := ∀ (j v : Nat), deB[j]? = some v → w.rangeAt 0 (0 + j * 1) [.int .u8 (v : Int)]
theorem Tab.kp {w w' : World} (h : Tab w) (k : Kp w w') : Tab w' := fun j v hv => k.range (h j v hv) id
theorem wrapMod (a : Nat) : IntKind.u64.wrap (a : Int) = ((a % 18446744073709551616 : Nat) : Int) := by
  show (if (false && decide ((a : Int) % 18446744073709551616 ≥ 9223372036854775808)) = true then (a : Int) % 18446744073709551616 - 18446744073709551616 else (a : Int) % 18446744073709551616) = _
  rw [if_neg (by simp)]; omega
theorem callTz : callable Proofs.Tryz.prog 154 = true := by kernel_rfl
theorem tz_c {w : World} (hT : Tab w) {x j m : Nat} (hx : x = 2 ^ (j + 1) * m + 2 ^ j) (hl : x < 18446744073709551616) :
    Calls Proofs.Tryz.prog 154 [.int .u64 x].toArray w (Ret fun r w' => r = .int .i64 j ∧ Kp w w') := by
  have hp : 0 < 2 ^ j := Nat.two_pow_pos j
  have hj : j < 64 := by
    rcases Nat.lt_or_ge j 64 with h1 | h1
    · exact h1
    · have := Nat.pow_le_pow_right (n := 2) (by decide) h1
      omega
  have hx0 : 0 < x := by omega
  have hneg : IntKind.u64.wrap (-(x : Int)) = ((2 ^ 64 - x : Nat) : Int) := by
    show (if (false && decide ((-(x : Int)) % 18446744073709551616 ≥ 9223372036854775808)) = true then (-(x : Int)) % 18446744073709551616 - 18446744073709551616 else (-(x : Int)) % 18446744073709551616) = _
    rw [if_neg (by simp)]; omega
  have hand : x &&& (2 ^ 64 - x) = 2 ^ j := by rw [hx]; exact low_and (by omega)
  have hmul : IntKind.u64.wrap (((2 ^ j : Nat) : Int) * 285870213051353865) = ((2 ^ j * 285870213051353865 % 18446744073709551616 : Nat) : Int) := by
    rw [← wrapMod]; congr 1
  have hlt : (2 ^ j * 285870213051353865 % 18446744073709551616) / 2 ^ 58 < 64 := by
    have := Nat.mod_lt (2 ^ j * 285870213051353865) (show 0 < 18446744073709551616 by decide)
    omega
  have hd := deB_at j hj
  refine call agree Proofs.Tryz.func154 rfl Proofs.Tryz.ntmps154 (by kernel_rfl) ?_
  refine spF (by omega) ?_
  refine arE hneg ?_
  refine arE ((bitsAnd hl (by omega)).trans (by rw [hand])) ?_
  refine arE hmul ?_
  refine ne (by decide) ?_
  refine arE (shr64 (r := 58) (by decide)) ?_
  refine ixArr agree rfl rfl rfl rfl rfl rfl hlt ?_
  refine ld (v := .int .u8 j) agree (hT _ _ hd) (by rfl) ?_
  refine arE (wrap64 (by omega) (by omega)) ?_
  exact ⟨rfl, Chg.refl _ _⟩

/-! ### leading zeros -/
theorem callLen64 : callable Proofs.Tryz.prog 204 = true := by kernel_rfl
theorem callLz : callable Proofs.Tryz.prog 223 = true := by kernel_rfl
theorem bitLen_log {x : Nat} (h0 : x ≠ 0) (h : x < 18446744073709551616) : Lib.bitLen x = Nat.log2 x + 1 := by
  have h1 : 2 ^ Nat.log2 x ≤ x := Nat.log2_self_le h0
  have h2 : x < 2 ^ (Nat.log2 x + 1) := Nat.lt_log2_self
  rw [Lib.bitLen_shift (Nat.log2 x) x h1 h]
  have h3 : x / 2 ^ Nat.log2 x = 1 := by
    have hp : 0 < 2 ^ Nat.log2 x := Nat.two_pow_pos _
    have h4 : 1 ≤ x / 2 ^ Nat.log2 x := (Nat.le_div_iff_mul_le hp).2 (by omega)
    have h5 : x / 2 ^ Nat.log2 x < 2 := Nat.div_lt_of_lt_mul (by rw [Nat.pow_succ] at h2; omega)
    omega
  rw [h3]
  rfl
theorem lz_c (w : World) {x : Nat} (h0 : x ≠ 0) (h : x < 18446744073709551616) : Calls Proofs.Tryz.prog 223 [.int .u64 x].toArray w (Ret fun r w' => r = .int .i64 (63 - Nat.log2 x : Int) ∧ Kp w w') := by
  have hlt : Nat.log2 x < 64 := by rw [Nat.log2_lt h0]; exact h
  refine call agree Proofs.Tryz.func223 rfl Proofs.Tryz.ntmps223 (by kernel_rfl) ?_
  have hc : Calls Proofs.Tryz.prog 204 [.int .u64 x].toArray w (Ret fun r w' => r = .int .i64 (Nat.log2 x + 1 : Nat) ∧ Kp w w') := by
    refine (Proofs.len64_0 (x : Int) w (by omega) (by omega)).mono ?_
    rintro e w' ⟨rfl, rfl⟩
    exact ⟨by rw [Int.toNat_natCast, bitLen_log h0 h], Chg.refl _ _⟩
  refine cl callLen64 hc ?_
  rintro _ w1 ⟨rfl, k1⟩
  refine arE (z' := 63 - (Nat.log2 x : Int)) ?_ ?_
  · rw [wrap64 (by omega) (by omega)]; omega
  · exact ⟨rfl, k1⟩
end Go.Au

namespace Go.Au
open Go
/-! ### sets by their words, plain -/
theorem mem_word {s i : Nat} (hs : s < cap) (hi : i < 1024) : (wordN s (i / 64)).testBit (i % 64) = s.testBit i := by
  rw [wordN_bit hs _ _ (by omega), decide_eq_true (by omega), Bool.true_and, show 64 * (i / 64) + i % 64 = i by omega]
theorem setC_set {s t i x : Nat} (hs : s < cap) (ht : t < cap) (hi : i < 1024) (hx : x < 18446744073709551616) (h1 : ∀ j, j < 64 → x.testBit j = t.testBit (64 * (i / 64) + j)) (h2 : ∀ k j, k < 16 → k ≠ i / 64 → j < 64 → s.testBit (64 * k + j) = t.testBit (64 * k + j)) :
    (setC s).set (i / 64) (.int .u64 (x : Int)) = setC t := by
  refine setC_of ht (by rw [List.length_set, setC_len]) fun k hk => ?_
  by_cases hki : k = i / 64
  · subst hki
    exact ⟨x, by rw [List.getElem?_set_self (by rw [setC_len]; omega)], hx, h1⟩
  · refine ⟨wordN s k, by rw [List.getElem?_set_ne (Ne.symm hki), setC_get s k hk], wordN_lt hs k hk, fun j hj => ?_⟩
    rw [wordN_bit hs k j hk, decide_eq_true hj, Bool.true_and]
    exact h2 k j hk hki hj
namespace Tb
theorem putS_capN {s i n : Nat} (h : s < capN n) (hi : i < 64 * n) : putS s i < capN n := putS_lt h hi
theorem putS_cap {s i : Nat} (h : s < cap) (hi : i < 1024) : putS s i < cap := putS_capN h (by omega)
theorem cutS_cap {s : Nat} (i : Nat) (h : s < cap) : cutS s i < cap := Nat.lt_of_le_of_lt (cutS_le s i) h
def lastS (s : Nat) : Int := if s = 0 then -1 else (Nat.log2 s : Int)
def bitsL (n s : Nat) : List Nat := (List.range n).filter s.testBit
theorem bitsL_succ (n s : Nat) : bitsL (n + 1) s = bitsL n s ++ if s.testBit n = true then [n] else [] := by
  unfold bitsL
  rw [List.range_succ, List.filter_append]
  congr 1
  rw [List.filter_cons, List.filter_nil]
theorem bitsL_up {n s : Nat} (h : s < 2 ^ n) : ∀ m, n ≤ m → bitsL m s = bitsL n s
  | 0, hm => by rw [show n = 0 by omega]
  | m + 1, hm => by
    rcases Nat.lt_or_ge m n with h1 | h1
    · rw [show n = m + 1 by omega]
    · rw [bitsL_succ, Nat.testBit_lt_two_pow (Nat.lt_of_lt_of_le h (Nat.pow_le_pow_right (by decide) h1)), bitsL_up h m h1]
      simp
theorem bitsL_len (n s : Nat) : (bitsL n s).length ≤ n := by
  unfold bitsL
  have := List.length_filter_le s.testBit (List.range n)
  rwa [List.length_range] at this
theorem mem_bitsL {n s i : Nat} : i ∈ bitsL n s ↔ i < n ∧ s.testBit i = true := by simp [bitsL]
/-- the greatest word that is not nothing -/
theorem log_word {s k : Nat} (h : s < 2 ^ (64 * (k + 1))) (hw : s / 2 ^ (64 * k) ≠ 0) : s ≠ 0 ∧ Nat.log2 s = 64 * k + Nat.log2 (s / 2 ^ (64 * k)) := by
  have hp : 0 < 2 ^ (64 * k) := Nat.two_pow_pos _
  have hs : s ≠ 0 := fun h0 => hw (by rw [h0, Nat.zero_div])
  refine ⟨hs, ?_⟩
  obtain ⟨h1, h2⟩ := (Nat.log2_eq_iff hw).1 rfl
  rw [Nat.log2_eq_iff hs]
  generalize Nat.log2 (s / 2 ^ (64 * k)) = l at h1 h2
  constructor
  · rw [Nat.pow_add, Nat.mul_comm]
    exact (Nat.le_div_iff_mul_le hp).1 h1
  · rw [Nat.add_assoc, Nat.pow_add]
    exact (Nat.div_lt_iff_lt_mul hp).1 h2 |> fun h => by rw [Nat.mul_comm]; exact h
theorem word_top {s k : Nat} (hk : k < 16) (h : s < 2 ^ (64 * (k + 1))) : wordN s k = s / 2 ^ (64 * k) := by
  have hs : s < cap := capN_le h (by omega)
  rw [wordN_eq hs k hk, Nat.shiftRight_eq_div_pow]
  refine Nat.mod_eq_of_lt (Nat.div_lt_of_lt_mul ?_)
  rw [← Nat.pow_add]
  exact Nat.lt_of_lt_of_le h (Nat.pow_le_pow_right (by decide) (by omega))
theorem word_down {s k : Nat} (h : s < 2 ^ (64 * (k + 1))) (hw : s / 2 ^ (64 * k) = 0) : s < 2 ^ (64 * k) := by
  have hp : 0 < 2 ^ (64 * k) := Nat.two_pow_pos _
  rcases Nat.lt_or_ge s (2 ^ (64 * k)) with h1 | h1
  · exact h1
  · exact absurd (Nat.div_pos h1 hp) (by omega)
/-- words decide the order, from the greatest one on -/
theorem cmp_words {a b k : Nat} (ha : a < cap) (hb : b < cap) (hk : k < 16) (h : a / 2 ^ (64 * (k + 1)) = b / 2 ^ (64 * (k + 1))) :
    (wordN a k = wordN b k → a / 2 ^ (64 * k) = b / 2 ^ (64 * k)) ∧ (wordN a k < wordN b k → a < b) ∧ (wordN b k < wordN a k → b < a) := by
  have hp : 0 < 2 ^ (64 * k) := Nat.two_pow_pos _
  have e : ∀ s, s < cap → s / 2 ^ (64 * k) = 18446744073709551616 * (s / 2 ^ (64 * (k + 1))) + wordN s k := fun s hs => by
    rw [wordN_eq hs k hk, Nat.shiftRight_eq_div_pow, show 64 * (k + 1) = 64 * k + 64 by omega, Nat.pow_add, ← Nat.div_div_eq_div_mul]
    exact (Nat.div_add_mod _ _).symm
  have ea := e a ha
  have eb := e b hb
  rw [h] at ea
  refine ⟨fun hw => by rw [ea, eb, hw], fun hw => ?_, fun hw => ?_⟩
  · have : a / 2 ^ (64 * k) < b / 2 ^ (64 * k) := by omega
    rcases Nat.lt_or_ge a b with h1 | h1
    · exact h1
    · exact absurd (Nat.div_le_div_right (c := 2 ^ (64 * k)) h1) (by omega)
  · have : b / 2 ^ (64 * k) < a / 2 ^ (64 * k) := by omega
    rcases Nat.lt_or_ge b a with h1 | h1
    · exact h1
    · exact absurd (Nat.div_le_div_right (c := 2 ^ (64 * k)) h1) (by omega)
end Tb
end Go.Au

namespace Go.Au
open Go Go.RowKit

/-! ### sets in memory -/
abbrev setA (s : Nat) : Value := .agg (setC s).toArray
theorem bit_and {a r : Nat} : ((a / 2 ^ r &&& 1 : Nat) = 1) ↔ a.testBit r = true := by
  rw [Nat.and_one_is_mod, Nat.testBit_eq_decide_div_mod_eq, decide_eq_true_eq]
theorem callHas : callable Proofs.Tryz.prog 61 = true := by kernel_rfl
theorem has_c (w : World) {s i : Nat} (hs : s < cap) (hi : i < 1024) : Calls Proofs.Tryz.prog 61 [setA s, .int .i64 i].toArray w (Ret fun r w' => r = .bool (s.testBit i) ∧ Kp w w') := by
  have hw := wordN_lt hs (i / 64) (by omega)
  have hr : i % 64 < 64 := Nat.mod_lt _ (by decide)
  refine call agree Proofs.Tryz.func61 rfl Proofs.Tryz.ntmps61 (by kernel_rfl) ?_
  refine nd fun p w1 e1 s1 k1 m1 => ?_
  have m1 : Own w1 p 118 (setC s) := m1
  refine ne (by decide) ?_
  refine arE (quo64 i (by omega)) ?_
  refine ixArr agree rfl rfl rfl rfl rfl rfl (show i / 64 < 16 by omega) ?_
  refine ld (v := .int .u64 (wordN s (i / 64) : Nat)) agree (m1.one (i := i / 64) (setC_get s _ (by omega)) (by show 0 + i / 64 * 1 = _; omega)) (by rfl) ?_
  refine ne (by decide) ?_
  refine arE (rem64 i) ?_
  refine ne (by omega) ?_
  refine arE (shr64 hr) ?_
  refine arE (bitsAnd (a := wordN s (i / 64) / 2 ^ (i % 64)) (b := 1) (Nat.lt_of_le_of_lt (Nat.div_le_self _ _) hw) (by decide)) ?_
  have hm := mem_word hs hi
  refine sp (fun h => ?_) (fun h => ?_)
  · refine ⟨congrArg Value.bool ?_, k1⟩
    rw [← hm]
    exact (bit_and.1 (Int.ofNat.inj h)).symm
  · refine ⟨congrArg Value.bool ?_, k1⟩
    rw [← hm]
    cases hb : (wordN s (i / 64)).testBit (i % 64) with
    | false => rfl
    | true => exact absurd (congrArg Int.ofNat (bit_and.2 hb)) h
theorem lay_one (A S B : List Value) (k o : Nat) (v : Value) (hk : k < S.length) (ho : o = A.length + k) : lay (A ++ S ++ B) o [v] = A ++ S.set k v ++ B := by
  subst ho
  show (A ++ S ++ B).set (A.length + k) v = _
  rw [List.set_append, if_pos (by rw [List.length_append]; omega), List.set_append, if_neg (by omega), Nat.add_sub_cancel_left]
theorem callPut : callable Proofs.Tryz.prog 142 = true := by kernel_rfl
theorem put_c {w : World} {b o s i : Nat} {t : TypeId} {A B : List Value} (h : Own w b t (A ++ setC s ++ B)) (ho : o = A.length) (hs : s < cap) (hi : i < 1024) :
    Calls Proofs.Tryz.prog 142 [pt b o, .int .i64 i].toArray w (Ret fun _ w' => Chg (fun k => k = b) w w' ∧ Own w' b t (A ++ setC (Tb.putS s i) ++ B) ) := by
  have hw := wordN_lt hs (i / 64) (by omega)
  have hr : i % 64 < 64 := Nat.mod_lt _ (by decide)
  have hrd : ∀ W, Kp w W → W.rangeAt b (o + i / 64 * 1) [.int .u64 (wordN s (i / 64) : Nat)] := fun W k => by
    refine (k.own h id).one (i := A.length + i / 64) ?_ (by omega)
    rw [List.append_assoc, List.getElem?_append_right (by omega), Nat.add_sub_cancel_left, List.getElem?_append_left (by rw [setC_len]; omega), setC_get s _ (by omega)]
  refine call agree Proofs.Tryz.func142 rfl Proofs.Tryz.ntmps142 (by kernel_rfl) ?_
  refine drawn0 agree mixed 12 (by kernel_rfl) (fun _ => False) ?_
  conv => whnf
  refine ne (by decide) ?_
  conv => whnf
  refine arE (quo64 i (by omega)) ?_
  conv => whnf
  refine ixArr agree rfl rfl rfl rfl rfl rfl (show i / 64 < 16 by omega) ?_
  conv => whnf
  refine ldk (v := .int .u64 (wordN s (i / 64) : Nat)) agree rfl rfl (fun W k _ => hrd W k) (by rfl) fun _ => ?_
  conv => whnf
  refine ne (by decide) ?_
  conv => whnf
  refine arE (rem64 i) ?_
  conv => whnf
  refine ne (by omega) ?_
  conv => whnf
  refine arE (shl64 hr) ?_
  conv => whnf
  refine arE (bitsOr hw (bit_lt hr)) ?_
  conv => whnf
  refine ixArr agree rfl rfl rfl rfl rfl rfl (show i / 64 < 16 by omega) ?_
  conv => whnf
  intro W hW _
  refine st agree (hW.own h id) rfl (by show o + i / 64 * 1 + 1 ≤ _; rw [List.length_append, List.length_append, setC_len]; omega) rfl fun w' e' k' m' => ?_
  have m' : Own w' b t (lay (A ++ setC s ++ B) (o + i / 64 * 1) [.int .u64 (wordN s (i / 64) ||| 2 ^ (i % 64) : Nat)]) := m'
  rw [lay_one A (setC s) B (i / 64) _ _ (by rw [setC_len]; omega) (by omega)] at m'
  have hset : (setC s).set (i / 64) (.int .u64 (wordN s (i / 64) ||| 2 ^ (i % 64) : Nat)) = setC (Tb.putS s i) := by
    refine setC_set hs (Tb.putS_cap hs hi) hi (Nat.or_lt_two_pow (n := 64) hw (Nat.pow_lt_pow_right (by decide) hr)) (fun j hj => ?_) (fun k j hk hki hj => ?_)
    · rw [Nat.testBit_or, wordN_bit hs _ _ (by omega), decide_eq_true hj, Bool.true_and, Nat.testBit_two_pow, Tb.putS_bit]
      congr 1
      exact decide_eq_decide.2 (by omega)
    · rw [Tb.putS_bit, decide_eq_false (by omega), Bool.or_false]
  rw [hset] at m'
  exact ⟨k'.mono (fun _ h => h) |> fun k => (hW.mono (fun _ hf => hf.elim)).trans k, m'⟩
theorem callCut : callable Proofs.Tryz.prog 175 = true := by kernel_rfl
theorem cut_c {w : World} {b o s i : Nat} {t : TypeId} {A B : List Value} (h : Own w b t (A ++ setC s ++ B)) (ho : o = A.length) (hs : s < cap) (hi : i < 1024) :
    Calls Proofs.Tryz.prog 175 [pt b o, .int .i64 i].toArray w (Ret fun _ w' => Chg (fun k => k = b) w w' ∧ Own w' b t (A ++ setC (Tb.cutS s i) ++ B) ) := by
  have hw := wordN_lt hs (i / 64) (by omega)
  have hr : i % 64 < 64 := Nat.mod_lt _ (by decide)
  have hrd : ∀ W, Kp w W → W.rangeAt b (o + i / 64 * 1) [.int .u64 (wordN s (i / 64) : Nat)] := fun W k => by
    refine (k.own h id).one (i := A.length + i / 64) ?_ (by omega)
    rw [List.append_assoc, List.getElem?_append_right (by omega), Nat.add_sub_cancel_left, List.getElem?_append_left (by rw [setC_len]; omega), setC_get s _ (by omega)]
  refine call agree Proofs.Tryz.func175 rfl Proofs.Tryz.ntmps175 (by kernel_rfl) ?_
  refine drawn0 agree mixed 12 (by kernel_rfl) (fun _ => False) ?_
  conv => whnf
  refine ne (by decide) ?_
  conv => whnf
  refine arE (quo64 i (by omega)) ?_
  conv => whnf
  refine ixArr agree rfl rfl rfl rfl rfl rfl (show i / 64 < 16 by omega) ?_
  conv => whnf
  refine ldk (v := .int .u64 (wordN s (i / 64) : Nat)) agree rfl rfl (fun W k _ => hrd W k) (by rfl) fun _ => ?_
  conv => whnf
  refine ne (by decide) ?_
  conv => whnf
  refine arE (rem64 i) ?_
  conv => whnf
  refine ne (by omega) ?_
  conv => whnf
  refine arE (shl64 hr) ?_
  conv => whnf
  refine arE (bitsCut hw (bit_lt hr)) ?_
  conv => whnf
  refine ixArr agree rfl rfl rfl rfl rfl rfl (show i / 64 < 16 by omega) ?_
  conv => whnf
  intro W hW _
  refine st agree (hW.own h id) rfl (by show o + i / 64 * 1 + 1 ≤ _; rw [List.length_append, List.length_append, setC_len]; omega) rfl fun w' e' k' m' => ?_
  have m' : Own w' b t (lay (A ++ setC s ++ B) (o + i / 64 * 1) [.int .u64 (cutB (wordN s (i / 64)) (2 ^ (i % 64)) : Nat)]) := m'
  rw [lay_one A (setC s) B (i / 64) _ _ (by rw [setC_len]; omega) (by omega)] at m'
  have hcb : ∀ j, j < 64 → (cutB (wordN s (i / 64)) (2 ^ (i % 64))).testBit j = ((wordN s (i / 64)).testBit j && !decide (i % 64 = j)) := fun j hj => by
    unfold cutB
    rw [Nat.testBit_and, Nat.testBit_two_pow_sub_succ (Nat.pow_lt_pow_right (by decide) hr), decide_eq_true hj, Bool.true_and, Nat.testBit_two_pow]
  have hset : (setC s).set (i / 64) (.int .u64 (cutB (wordN s (i / 64)) (2 ^ (i % 64)) : Nat)) = setC (Tb.cutS s i) := by
    refine setC_set hs (Tb.cutS_cap i hs) hi (Nat.lt_of_le_of_lt Nat.and_le_left hw) (fun j hj => ?_) (fun k j hk hki hj => ?_)
    · rw [hcb j hj, wordN_bit hs _ _ (by omega), decide_eq_true hj, Bool.true_and, Tb.cutS_bit]
      congr 2
      exact decide_eq_decide.2 (by omega)
    · rw [Tb.cutS_bit, decide_eq_false (by omega)]
      simp
  rw [hset] at m'
  exact ⟨k'.mono (fun _ h => h) |> fun k => (hW.mono (fun _ hf => hf.elim)).trans k, m'⟩
theorem callLast : callable Proofs.Tryz.prog 174 = true := by kernel_rfl
theorem last_c (w : World) {s : Nat} (hs : s < cap) : Calls Proofs.Tryz.prog 174 [setA s].toArray w (Ret fun r w' => r = .int .i64 (Tb.lastS s) ∧ Kp w w') := by
  refine call agree Proofs.Tryz.func174 rfl Proofs.Tryz.ntmps174 (by kernel_rfl) ?_
  refine nd fun p w1 e1 s1 k1 m1 => ?_
  have m1 : Own w1 p 118 (setC s) := m1
  refine loop agree (σ := Nat) (fun k => [(1, pt p 0), (3, .int .i64 ((k : Int) - 1))]) (fun k W => Kp w W ∧ Own W p 118 (setC s) ∧ k ≤ 16 ∧ s < capN k) (fun k => k) 16 ⟨rfl, rfl, trivial⟩ ⟨k1, m1, by omega, hs⟩ ?_
  rintro k e0 W ⟨hk, mp, hk16, hsk⟩
  replace hsk := capN_lt.1 hsk
  refine sp (fun h1 => ?_) (fun h1 => ?_)
  · obtain ⟨j, rfl⟩ : ∃ j, k = j + 1 := ⟨k - 1, by omega⟩
    have hj : ((j + 1 : Nat) : Int) - 1 = (j : Nat) := by omega
    rw [hj]
    have hw := Tb.word_top (by omega) hsk
    have hwl := wordN_lt hs j (by omega)
    have hrd : W.rangeAt p (0 + j * 1) [.int .u64 (wordN s j : Nat)] := mp.one (i := j) (setC_get s _ (by omega)) (by omega)
    refine ixArr agree rfl rfl rfl rfl rfl rfl (show j < 16 by omega) ?_
    refine ld (v := .int .u64 (wordN s j : Nat)) agree hrd (by rfl) ?_
    refine sp (fun h2 => ?_) (fun h2 => ?_)
    · have hne : wordN s j ≠ 0 := fun h => h2 (by rw [h]; rfl)
      obtain ⟨hs0, hlog⟩ := Tb.log_word hsk (by rw [← hw]; exact hne)
      rw [← hw] at hlog
      refine arE (z' := 64 * (j : Int)) (wrap64 (by omega) (by omega)) ?_
      refine arE (z' := 64 * (j : Int) + 63) (wrap64 (by omega) (by omega)) ?_
      refine ixArr agree rfl rfl rfl rfl rfl rfl (show j < 16 by omega) ?_
      refine ld (v := .int .u64 (wordN s j : Nat)) agree hrd (by rfl) ?_
      refine cl callLz (lz_c W hne hwl) ?_
      rintro _ w5 ⟨rfl, k5⟩
      have hl64 : Nat.log2 (wordN s j) < 64 := by rw [Nat.log2_lt hne]; exact hwl
      refine arE (z' := Tb.lastS s) ?_ ⟨rfl, hk.trans k5⟩
      unfold Tb.lastS
      rw [if_neg hs0, hlog, wrap64 (by omega) (by omega)]
      omega
    · have h0 : wordN s j = 0 := Classical.byContradiction fun h => h2 (fun h3 => h (Int.ofNat.inj h3))
      refine aw (by omega) (by omega) ?_
      exact again j ⟨rfl, rfl, trivial⟩ ⟨hk, mp, by omega, capN_lt.2 (Tb.word_down hsk (by rw [← hw]; exact h0))⟩ (by omega)
  · have hk0 : k = 0 := by omega
    subst hk0
    have hs0 : s = 0 := by
      have : s < 2 ^ 0 := hsk
      simp at this; exact this
    exact ⟨congrArg (Value.int .i64) (by rw [hs0]; rfl), hk⟩
theorem callCompS : callable Proofs.Tryz.prog 140 = true := by kernel_rfl
theorem compS_c (w : World) {a b : Nat} (ha : a < cap) (hb : b < cap) : Calls Proofs.Tryz.prog 140 [setA a, setA b].toArray w (Ret fun r w' => r = .int .i64 (Fm.sgn3 a b) ∧ Kp w w') := by
  refine call agree Proofs.Tryz.func140 rfl Proofs.Tryz.ntmps140 (by kernel_rfl) ?_
  refine nd fun p w1 e1 s1 k1 m1 => ?_
  have m1 : Own w1 p 118 (setC a) := m1
  refine nd fun q w2 e2 s2 k2 m2 => ?_
  have m2 : Own w2 q 118 (setC b) := m2
  have m1 := k2.own m1 id
  refine loop agree (σ := Nat) (fun k => [(2, pt p 0), (3, pt q 0), (5, .int .i64 ((k : Int) - 1))]) (fun k W => Kp w W ∧ Own W p 118 (setC a) ∧ Own W q 118 (setC b) ∧ k ≤ 16 ∧ a / 2 ^ (64 * k) = b / 2 ^ (64 * k)) (fun k => k) 16 ⟨rfl, rfl, rfl, trivial⟩
    ⟨k1.trans k2, m1, m2, by omega, by rw [Nat.div_eq_of_lt (capN_lt.1 ha), Nat.div_eq_of_lt (capN_lt.1 hb)]⟩ ?_
  rintro k e0 W ⟨hk, mp, mq, hk16, hab⟩
  refine sp (fun h1 => ?_) (fun h1 => ?_)
  · obtain ⟨j, rfl⟩ : ∃ j, k = j + 1 := ⟨k - 1, by omega⟩
    have hj : ((j + 1 : Nat) : Int) - 1 = (j : Nat) := by omega
    rw [hj]
    obtain ⟨c1, c2, c3⟩ := Tb.cmp_words ha hb (show j < 16 by omega) hab
    have hra : ∀ V, Kp W V → V.rangeAt p (0 + j * 1) [.int .u64 (wordN a j : Nat)] := fun V k => (k.own mp id).one (i := j) (setC_get a _ (by omega)) (by omega)
    have hrb : ∀ V, Kp W V → V.rangeAt q (0 + j * 1) [.int .u64 (wordN b j : Nat)] := fun V k => (k.own mq id).one (i := j) (setC_get b _ (by omega)) (by omega)
    refine drawn0 agree mixed 8 (by kernel_rfl) (fun _ => False) ?_
    conv => whnf
    refine ixArr agree rfl rfl rfl rfl rfl rfl (show j < 16 by omega) ?_
    conv => whnf
    refine ldk (v := .int .u64 (wordN a j : Nat)) agree rfl rfl (fun V k _ => hra V k) (by rfl) fun _ => ?_
    conv => whnf
    refine ixArr agree rfl rfl rfl rfl rfl rfl (show j < 16 by omega) ?_
    conv => whnf
    refine ldk (v := .int .u64 (wordN b j : Nat)) agree rfl rfl (fun V k _ => hrb V k) (by rfl) fun _ => ?_
    conv => whnf
    refine callk rfl rfl rfl callCompw (fun V _ _ => compw_c V (wordN a j : Nat) (wordN b j : Nat)) fun _ => ?_
    conv => whnf
    intro V hV _
    rw [cmp3_nat]
    refine sp (fun h2 => ?_) (fun h2 => ?_)
    · refine ⟨congrArg (Value.int .i64) ?_, hk.trans hV⟩
      unfold Fm.sgn3 at h2 ⊢
      by_cases h3 : wordN a j < wordN b j
      · rw [if_pos h3, if_pos (c2 h3)]
      · by_cases h4 : wordN b j < wordN a j
        · have := c3 h4
          rw [if_neg h3, if_pos h4, if_neg (by omega), if_pos this]
        · rw [if_neg h3, if_neg h4] at h2
          exact absurd rfl h2
    · have h3 : wordN a j = wordN b j := Fm.sgn3_eq.1 (Classical.byContradiction h2)
      refine aw (by omega) (by omega) ?_
      exact again j ⟨rfl, rfl, rfl, trivial⟩ ⟨hk.trans hV, hV.own mp id, hV.own mq id, by omega, c1 h3⟩ (by omega)
  · have hk0 : k = 0 := by omega
    subst hk0
    have hab' : a = b := by simpa using hab
    exact ⟨congrArg (Value.int .i64) (by rw [hab']; exact (Fm.sgn3_eq.2 rfl).symm), hk⟩
end Go.Au

namespace Go.Au
open Go Go.RowKit

/-! ### sides -/
def rowC (r : TRow) : List Value := [.int .u8 r.op, .int .i64 r.a, .int .i64 r.b, .int .i64 r.neg]
abbrev RowsE := RowE (fun _ cs (r : TRow) => cs = rowC r) 4
def partC (p : Part) : List Value := setC p.old ++ setC p.due ++ setC p.todo
abbrev partA (p : Part) : Value := .agg (partC p).toArray
theorem partC_len (p : Part) : (partC p).length = 48 := by unfold partC; rw [List.length_append, List.length_append, setC_len, setC_len, setC_len]
theorem Own.mid {w : World} {b o : Nat} {t : TypeId} {A S B : List Value} (h : Own w b t (A ++ S ++ B)) (ho : o = A.length) : w.rangeAt b o S := by
  refine Own.at_ (cs := A ++ S ++ B) h ?_
  rw [ho, List.append_assoc, List.drop_left, List.take_left]
theorem Own.old {w : World} {b : Nat} {t : TypeId} {p : Part} (h : Own w b t (partC p)) : w.rangeAt b 0 (setC p.old) :=
  Own.mid (A := []) (B := setC p.due ++ setC p.todo) (by rw [List.nil_append, ← List.append_assoc]; exact h) rfl
theorem Own.due {w : World} {b : Nat} {t : TypeId} {p : Part} (h : Own w b t (partC p)) : w.rangeAt b 16 (setC p.due) := Own.mid (A := setC p.old) h (by rw [setC_len])
theorem Own.todo {w : World} {b : Nat} {t : TypeId} {p : Part} (h : Own w b t (partC p)) : w.rangeAt b 32 (setC p.todo) :=
  Own.mid (A := setC p.old ++ setC p.due) (B := []) (by rw [List.append_nil]; exact h) (by rw [List.length_append, setC_len, setC_len])
structure PartS (p : Part) : Prop where
  old : p.old < cap
  due : p.due < cap
  todo : p.todo < cap
theorem putOld_c {w : World} {b i : Nat} {t : TypeId} {p : Part} (h : Own w b t (partC p)) (hp : PartS p) (hi : i < 1024) :
    Calls Proofs.Tryz.prog 142 [pt b 0, .int .i64 i].toArray w (Ret fun _ w' => Chg (fun k => k = b) w w' ∧ Own w' b t (partC ⟨Tb.putS p.old i, p.due, p.todo⟩)) := by
  have h' : Own w b t ([] ++ setC p.old ++ (setC p.due ++ setC p.todo)) := by rw [List.nil_append, ← List.append_assoc]; exact h
  refine Calls.mono (put_c h' rfl hp.old hi) fun e w' he => ?_
  cases e with
  | returned v => exact ⟨he.1, by have := he.2; rw [List.nil_append, ← List.append_assoc] at this; exact this⟩
  | _ => exact he
theorem putDue_c {w : World} {b i : Nat} {t : TypeId} {p : Part} (h : Own w b t (partC p)) (hp : PartS p) (hi : i < 1024) :
    Calls Proofs.Tryz.prog 142 [pt b 16, .int .i64 i].toArray w (Ret fun _ w' => Chg (fun k => k = b) w w' ∧ Own w' b t (partC ⟨p.old, Tb.putS p.due i, p.todo⟩)) := by
  refine Calls.mono (put_c (A := setC p.old) (B := setC p.todo) h (by rw [setC_len]) hp.due hi) fun e w' he => ?_
  cases e with
  | returned v => exact he
  | _ => exact he
theorem putTodo_c {w : World} {b i : Nat} {t : TypeId} {p : Part} (h : Own w b t (partC p)) (hp : PartS p) (hi : i < 1024) :
    Calls Proofs.Tryz.prog 142 [pt b 32, .int .i64 i].toArray w (Ret fun _ w' => Chg (fun k => k = b) w w' ∧ Own w' b t (partC ⟨p.old, p.due, Tb.putS p.todo i⟩)) := by
  have h' : Own w b t ((setC p.old ++ setC p.due) ++ setC p.todo ++ []) := by rw [List.append_nil]; exact h
  refine Calls.mono (put_c h' (by rw [List.length_append, setC_len, setC_len]) hp.todo hi) fun e w' he => ?_
  cases e with
  | returned v => exact ⟨he.1, by have := he.2; rw [List.append_nil] at this; exact this⟩
  | _ => exact he
theorem cutTodo_c {w : World} {b i : Nat} {t : TypeId} {p : Part} (h : Own w b t (partC p)) (hp : PartS p) (hi : i < 1024) :
    Calls Proofs.Tryz.prog 175 [pt b 32, .int .i64 i].toArray w (Ret fun _ w' => Chg (fun k => k = b) w w' ∧ Own w' b t (partC ⟨p.old, p.due, Tb.cutS p.todo i⟩)) := by
  have h' : Own w b t ((setC p.old ++ setC p.due) ++ setC p.todo ++ []) := by rw [List.append_nil]; exact h
  refine Calls.mono (cut_c h' (by rw [List.length_append, setC_len, setC_len]) hp.todo hi) fun e w' he => ?_
  cases e with
  | returned v => exact ⟨he.1, by have := he.2; rw [List.append_nil] at this; exact this⟩
  | _ => exact he
abbrev PartsE := RowE (fun _ cs (p : Part) => cs = partC p) 48
theorem parts0 {lo hi : Nat} {w : World} : PartsE lo hi w nilS [] := ⟨none, 0, rfl, Nat.le_refl _, fun i x hx => by cases hx⟩
theorem partsOwn {w : World} {b : Nat} {t : TypeId} {L : List Part} {n : Nat} (h : Own w b t (L.flatMap partC)) (hn : n = L.length) {lo hi : Nat} (h1 : lo ≤ b) (h2 : b < hi) : PartsE lo hi w (.slice (some ⟨b, 0, none⟩) n n) L := by
  subst hn
  refine ⟨_, _, rfl, Nat.le_refl _, fun i x hx => ⟨b, 0, rfl, h1, h2, partC x, partC_len x, ?_, rfl⟩⟩
  have := flat_range (f := partC) (size := 48) (cs := []) partC_len hx (by rw [List.append_nil]; exact Own.all h)
  exact this
theorem lay_full {cs vs : List Value} (h : vs.length = cs.length) : lay cs 0 vs = vs := by
  have := lay_left [] vs cs [] h
  simpa using this
theorem lay_rep1 {z vs : List Value} (h : vs.length = z.length) : lay (rep z 1) 0 vs = vs := lay_full (by show vs.length = (z ++ []).length; rw [List.append_nil]; exact h)
theorem lay_rep2 {z v1 v2 : List Value} {n : Nat} (h1 : v1.length = z.length) (h2 : v2.length = z.length) (hn : n = z.length) : lay (lay (rep z 2) 0 v1) n v2 = v1 ++ v2 := by
  have e1 := lay_left z v1 z [] h1
  have e2 := lay_left [] v2 z v1 h2
  have h0 : rep z 2 = [] ++ (z ++ z) := by show z ++ (z ++ []) = _; rw [List.append_nil, List.nil_append]
  rw [h0, show (0 : Nat) = ([] : List Value).length from rfl, e1, List.nil_append, hn, ← h1]
  rw [List.append_nil] at e2
  rw [e2, List.append_nil]
theorem partZ (p : Part) : (partC p).length = (cellsL ti243.zero).length := by rw [partC_len]; rfl
theorem cellsPart (p : Part) : cellsL (partA p) = partC p := rfl
theorem sides2 {r : TRow} {i : Nat} {p : Part} (h : r.op = 2) : Tb.sides r i p = [] := by unfold Tb.sides; rw [h]; rfl
theorem sides34 {r : TRow} {i : Nat} {p : Part} (h : r.op = 3 ∨ r.op = 4) : Tb.sides r i p = if 0 ≤ r.neg ∧ p.old.testBit r.neg.toNat = true then [] else [p] := by
  unfold Tb.sides; rcases h with h | h <;> (rw [h]; rfl)
theorem sides5 {r : TRow} {i : Nat} {p : Part} (h : r.op = 5) : Tb.sides r i p = [⟨p.old, p.due, Tb.putS (Tb.putS p.todo r.a.toNat) r.b.toNat⟩] := by unfold Tb.sides; rw [h]; rfl
theorem sides6 {r : TRow} {i : Nat} {p : Part} (h : r.op = 6) : Tb.sides r i p = [⟨p.old, p.due, Tb.putS p.todo r.a.toNat⟩, ⟨p.old, p.due, Tb.putS p.todo r.b.toNat⟩] := by unfold Tb.sides; rw [h]; rfl
theorem sides9 {r : TRow} {i : Nat} {p : Part} (h : r.op = 9) : Tb.sides r i p = [⟨p.old, Tb.putS p.due r.a.toNat, p.todo⟩] := by unfold Tb.sides; rw [h]; rfl
theorem sides12 {r : TRow} {i : Nat} {p : Part} (h : r.op = 12) : Tb.sides r i p = [⟨p.old, p.due, Tb.putS p.todo r.b.toNat⟩, ⟨p.old, Tb.putS p.due i, Tb.putS p.todo r.a.toNat⟩] := by unfold Tb.sides; rw [h]; rfl
theorem sides13 {r : TRow} {i : Nat} {p : Part} (h : r.op = 13) : Tb.sides r i p = [⟨p.old, p.due, Tb.putS (Tb.putS p.todo r.a.toNat) r.b.toNat⟩, ⟨p.old, Tb.putS p.due i, Tb.putS p.todo r.b.toNat⟩] := by unfold Tb.sides; rw [h]; rfl
theorem sidesE {r : TRow} {i : Nat} {p : Part} (h2 : r.op ≠ 2) (h3 : r.op ≠ 3) (h4 : r.op ≠ 4) (h5 : r.op ≠ 5) (h6 : r.op ≠ 6) (h9 : r.op ≠ 9) (h12 : r.op ≠ 12) (h13 : r.op ≠ 13) : Tb.sides r i p = [p] := by
  unfold Tb.sides
  split <;> first | rfl | contradiction
theorem callSides : callable Proofs.Tryz.prog 176 = true := by kernel_rfl
set_option maxHeartbeats 2000000 in
theorem sides_c {w : World} {tb i lo hi : Nat} {p : Part} {rs : List TRow} {r : TRow} {v0 v1 v2 v3 v4 v5 : Value} (ht : Own w tb 110 [v0, v1, v2, v3, v4, v5]) (hrs : RowsE lo hi w v1 rs) (hr : rs[i]? = some r) (hw : Tb.WfR rs) (hl : rs.length ≤ 1000) (hp : PartS p) :
    Calls Proofs.Tryz.prog 176 [pt tb 0, .int .i64 i, partA p].toArray w (Ret fun v w' => Kp w w' ∧ PartsE w.heap.size w'.heap.size w' v (Tb.sides r i p)) := by
  have hi : i < rs.length := (List.getElem?_eq_some_iff.1 hr).1
  obtain ⟨hz, hw2, hw1, hwn⟩ := hw i r hr
  obtain ⟨ra, rc, rfl, hcap, hx⟩ := hrs
  obtain ⟨rb, ro, rfl, -, -, cs, -, hrd, rfl⟩ := hx i r hr
  refine call agree Proofs.Tryz.func176 rfl Proofs.Tryz.ntmps176 (by kernel_rfl) ?_
  refine nd fun b5 w1 e1 s1 k1 m1 => ?_
  have m1 : Own w1 b5 243 (partC p) := m1
  refine ld agree (Own.at_ (xs := [.slice (some ⟨rb, ro, none⟩) rs.length rc]) (k1.own ht id) rfl) (by rfl) ?_
  refine ne ⟨by omega, by omega⟩ ?_
  refine ld agree (k1.range hrd id) (by rfl) ?_
  refine nd fun b7 w2 e2 s2 k2 m2 => ?_
  refine st agree m2 rfl (Nat.le_refl 4) rfl fun w3 e3 k3 m3 => ?_
  have m3 : Own w3 b7 115 (rowC r) := m3
  have k13 : Kp w1 w3 := k2.newS k3 (fun j hj => by subst hj; omega)
  have m1 := k13.own m1 id
  refine drawn0 agree mixed 8 (by kernel_rfl) (fun _ => False) ?_
  conv => whnf
  refine ixArr (j := 0) agree rfl rfl rfl rfl rfl rfl (by decide) ?_
  conv => whnf
  refine ldk agree rfl rfl (fun W h _ => Own.at_ (xs := [.int .i64 r.a]) (h.own m3 id) rfl) (by rfl) fun _ => ?_
  conv => whnf
  refine ixArr (j := 1) agree rfl rfl rfl rfl rfl rfl (by decide) ?_
  conv => whnf
  refine ldk agree rfl rfl (fun W h _ => Own.at_ (xs := [.int .i64 r.b]) (h.own m3 id) rfl) (by rfl) fun _ => ?_
  conv => whnf
  intro w4 k4 _
  have m1 := k4.own m1 id
  have m3 := k4.own m3 id
  refine ld agree (Own.all m1) (by rfl) ?_
  refine nd fun b10 w5 e5 s5 k5 m5 => ?_
  refine st agree m5 rfl (Nat.le_refl 48) rfl fun w6 e6 k6 m6 => ?_
  have m6 : Own w6 b10 243 (lay (cellsL ti243.zero) 0 (cellsL (partA p))) := m6
  rewrite [cellsPart, lay_full (partZ p)] at m6
  have k46 : Kp w4 w6 := k5.newS k6 (fun j hj => by subst hj; omega)
  have m1 := k46.own m1 id
  have m3 := k46.own m3 id
  have kw : Kp w w6 := ((k1.trans k13).trans k4).trans k46
  have hb5 : w.heap.size ≤ b5 ∧ b5 < b10 := by have := k13.size; have := k4.size; omega
  have hb10 : w.heap.size ≤ b10 := by omega
  refine ld agree (Own.at_ (xs := [.int .u8 r.op]) m3 rfl) (by rfl) ?_
  refine sp (fun h2 => ?_) (fun h2 => ?_)
  · exact ⟨kw, by rw [sides2 (by omega)]; exact parts0⟩
  refine sp (fun h3 => ?_) (fun h3 => ?_)
  · skip
    refine ld agree (Own.at_ (xs := [.int .i64 r.neg]) m3 rfl) (by rfl) ?_
    have h34 := sides34 (r := r) (i := i) (p := p) (by omega)
    refine sp (fun hn => ?_) (fun hn => ?_)
    · refine ld agree (Own.old m1) (by rfl) ?_
      refine ld agree (Own.at_ (xs := [.int .i64 r.neg]) m3 rfl) (by rfl) ?_
      have hni : r.neg = (r.neg.toNat : Int) := by omega
      generalize hm : r.neg.toNat = ng at hni h34
      rewrite [hni]
      have hcall := has_c w6 hp.old (i := ng) (by omega)
      cases hb : p.old.testBit ng with
      | true =>
        rewrite [hb] at hcall
        refine cl callHas hcall ?_
        rintro _ w7 ⟨rfl, k7⟩
        refine ⟨kw.trans k7, ?_⟩
        rw [h34, if_pos ⟨hn, hb⟩]; exact parts0
      | false =>
        rewrite [hb] at hcall
        refine cl callHas hcall ?_
        rintro _ w7 ⟨rfl, k7⟩
        have m1 := k7.own m1 id
        replace kw := kw.trans k7
        rw [if_neg (fun hh => by rw [hb] at hh; cases hh.2)] at h34
        refine ld agree (Own.all m1) (by rfl) ?_
        refine ne (by decide) ?_
        refine nd fun bz wz ez sz kz mz => ?_
        have mz : Own wz bz 243 (lay (rep (cellsL ti243.zero) 1) 0 (cellsL (partA p))) := mz
        rewrite [cellsPart, lay_rep1 (partZ _)] at mz
        exact ⟨kw.trans kz, by rw [h34]; exact partsOwn (t := 243) (L := [p]) (by rw [List.flatMap_cons, List.flatMap_nil, List.append_nil]; exact mz) rfl (by have := kw.size; omega) (by omega)⟩
    · rw [if_neg (fun hh => hn hh.1)] at h34
      refine ld agree (Own.all m1) (by rfl) ?_
      refine ne (by decide) ?_
      refine nd fun bz wz ez sz kz mz => ?_
      have mz : Own wz bz 243 (lay (rep (cellsL ti243.zero) 1) 0 (cellsL (partA p))) := mz
      rewrite [cellsPart, lay_rep1 (partZ _)] at mz
      exact ⟨kw.trans kz, by rw [h34]; exact partsOwn (t := 243) (L := [p]) (by rw [List.flatMap_cons, List.flatMap_nil, List.append_nil]; exact mz) rfl (by have := kw.size; omega) (by omega)⟩

  refine sp (fun h4 => ?_) (fun h4 => ?_)
  · skip
    refine ld agree (Own.at_ (xs := [.int .i64 r.neg]) m3 rfl) (by rfl) ?_
    have h34 := sides34 (r := r) (i := i) (p := p) (by omega)
    refine sp (fun hn => ?_) (fun hn => ?_)
    · refine ld agree (Own.old m1) (by rfl) ?_
      refine ld agree (Own.at_ (xs := [.int .i64 r.neg]) m3 rfl) (by rfl) ?_
      have hni : r.neg = (r.neg.toNat : Int) := by omega
      generalize hm : r.neg.toNat = ng at hni h34
      rewrite [hni]
      have hcall := has_c w6 hp.old (i := ng) (by omega)
      cases hb : p.old.testBit ng with
      | true =>
        rewrite [hb] at hcall
        refine cl callHas hcall ?_
        rintro _ w7 ⟨rfl, k7⟩
        refine ⟨kw.trans k7, ?_⟩
        rw [h34, if_pos ⟨hn, hb⟩]; exact parts0
      | false =>
        rewrite [hb] at hcall
        refine cl callHas hcall ?_
        rintro _ w7 ⟨rfl, k7⟩
        have m1 := k7.own m1 id
        replace kw := kw.trans k7
        rw [if_neg (fun hh => by rw [hb] at hh; cases hh.2)] at h34
        refine ld agree (Own.all m1) (by rfl) ?_
        refine ne (by decide) ?_
        refine nd fun bz wz ez sz kz mz => ?_
        have mz : Own wz bz 243 (lay (rep (cellsL ti243.zero) 1) 0 (cellsL (partA p))) := mz
        rewrite [cellsPart, lay_rep1 (partZ _)] at mz
        exact ⟨kw.trans kz, by rw [h34]; exact partsOwn (t := 243) (L := [p]) (by rw [List.flatMap_cons, List.flatMap_nil, List.append_nil]; exact mz) rfl (by have := kw.size; omega) (by omega)⟩
    · rw [if_neg (fun hh => hn hh.1)] at h34
      refine ld agree (Own.all m1) (by rfl) ?_
      refine ne (by decide) ?_
      refine nd fun bz wz ez sz kz mz => ?_
      have mz : Own wz bz 243 (lay (rep (cellsL ti243.zero) 1) 0 (cellsL (partA p))) := mz
      rewrite [cellsPart, lay_rep1 (partZ _)] at mz
      exact ⟨kw.trans kz, by rw [h34]; exact partsOwn (t := 243) (L := [p]) (by rw [List.flatMap_cons, List.flatMap_nil, List.append_nil]; exact mz) rfl (by have := kw.size; omega) (by omega)⟩

  refine sp (fun h5 => ?_) (fun h5 => ?_)
  · have ha := hw2 (.inl (by omega))
    have hai : r.a = (r.a.toNat : Int) := by omega
    have hbi : r.b = (r.b.toNat : Int) := by omega
    have hsd := sides5 (r := r) (i := i) (p := p) (by omega)
    generalize r.a.toNat = na at *
    generalize r.b.toNat = nb at *
    rewrite [hai, hbi]
    refine cl callPut (putTodo_c m1 hp (i := na) (by omega)) ?_
    rintro _ u1 ⟨c1, m1⟩
    have m6 := c1.own m6 (by omega)
    replace kw := kw.newS c1 (fun j hj => by omega)
    refine cl callPut (putTodo_c m1 (p := ⟨p.old, p.due, Tb.putS p.todo na⟩) ⟨hp.old, hp.due, Tb.putS_cap hp.todo (by omega)⟩ (i := nb) (by omega)) ?_
    rintro _ u2 ⟨c2, m1⟩
    have m6 := c2.own m6 (by omega)
    replace kw := kw.newS c2 (fun j hj => by omega)
    refine ld agree (Own.all m1) (by rfl) ?_
    refine ne (by decide) ?_
    refine nd fun bz wz ez sz kz mz => ?_
    have mz : Own wz bz 243 (lay (rep (cellsL ti243.zero) 1) 0 (cellsL (partA ⟨p.old, p.due, Tb.putS (Tb.putS p.todo na) nb⟩))) := mz
    rewrite [cellsPart, lay_rep1 (partZ _)] at mz
    exact ⟨kw.trans kz, by rw [hsd]; exact partsOwn (t := 243) (L := [⟨p.old, p.due, Tb.putS (Tb.putS p.todo na) nb⟩]) (by rw [List.flatMap_cons, List.flatMap_nil, List.append_nil]; exact mz) rfl (by have := kw.size; omega) (by omega)⟩
  refine sp (fun h6 => ?_) (fun h6 => ?_)
  · have ha := hw2 (.inr (.inl (by omega)))
    have hai : r.a = (r.a.toNat : Int) := by omega
    have hbi : r.b = (r.b.toNat : Int) := by omega
    have hsd := sides6 (r := r) (i := i) (p := p) (by omega)
    generalize r.a.toNat = na at *
    generalize r.b.toNat = nb at *
    rewrite [hai, hbi]
    refine cl callPut (putTodo_c m1 hp (i := na) (by omega)) ?_
    rintro _ u3 ⟨c3, m1⟩
    have m6 := c3.own m6 (by omega)
    replace kw := kw.newS c3 (fun j hj => by omega)
    refine cl callPut (putTodo_c m6 hp (i := nb) (by omega)) ?_
    rintro _ u4 ⟨c4, m6⟩
    have m1 := c4.own m1 (by omega)
    replace kw := kw.newS c4 (fun j hj => by omega)
    refine ld agree (Own.all m1) (by rfl) ?_
    refine ld agree (Own.all m6) (by rfl) ?_
    refine ne (by decide) ?_
    refine nd fun bz wz ez sz kz mz => ?_
    have mz : Own wz bz 243 (lay (lay (rep (cellsL ti243.zero) 2) 0 (cellsL (partA ⟨p.old, p.due, Tb.putS p.todo na⟩))) (1 * ti243.size) (cellsL (partA ⟨p.old, p.due, Tb.putS p.todo nb⟩))) := mz
    rewrite [cellsPart, cellsPart, lay_rep2 (n := 1 * ti243.size) (partZ _) (partZ _) rfl] at mz
    exact ⟨kw.trans kz, by rw [hsd]; exact partsOwn (t := 243) (L := [⟨p.old, p.due, Tb.putS p.todo na⟩, ⟨p.old, p.due, Tb.putS p.todo nb⟩]) (by rw [List.flatMap_cons, List.flatMap_cons, List.flatMap_nil, List.append_nil]; exact mz) rfl (by have := kw.size; omega) (by omega)⟩
  refine sp (fun h9 => ?_) (fun h9 => ?_)
  · have ha := hw1 (by omega)
    have hai : r.a = (r.a.toNat : Int) := by omega
    have hsd := sides9 (r := r) (i := i) (p := p) (by omega)
    generalize r.a.toNat = na at *
    rewrite [hai]
    refine cl callPut (putDue_c m1 hp (i := na) (by omega)) ?_
    rintro _ u5 ⟨c5, m1⟩
    have m6 := c5.own m6 (by omega)
    replace kw := kw.newS c5 (fun j hj => by omega)
    refine ld agree (Own.all m1) (by rfl) ?_
    refine ne (by decide) ?_
    refine nd fun bz wz ez sz kz mz => ?_
    have mz : Own wz bz 243 (lay (rep (cellsL ti243.zero) 1) 0 (cellsL (partA ⟨p.old, Tb.putS p.due na, p.todo⟩))) := mz
    rewrite [cellsPart, lay_rep1 (partZ _)] at mz
    exact ⟨kw.trans kz, by rw [hsd]; exact partsOwn (t := 243) (L := [⟨p.old, Tb.putS p.due na, p.todo⟩]) (by rw [List.flatMap_cons, List.flatMap_nil, List.append_nil]; exact mz) rfl (by have := kw.size; omega) (by omega)⟩
  refine sp (fun h12 => ?_) (fun h12 => ?_)
  · have ha := hw2 (.inr (.inr (.inl (by omega))))
    have hai : r.a = (r.a.toNat : Int) := by omega
    have hbi : r.b = (r.b.toNat : Int) := by omega
    have hsd := sides12 (r := r) (i := i) (p := p) (by omega)
    generalize r.a.toNat = na at *
    generalize r.b.toNat = nb at *
    rewrite [hai, hbi]
    refine cl callPut (putTodo_c m1 hp (i := nb) (by omega)) ?_
    rintro _ u6 ⟨c6, m1⟩
    have m6 := c6.own m6 (by omega)
    replace kw := kw.newS c6 (fun j hj => by omega)
    refine cl callPut (putTodo_c m6 hp (i := na) (by omega)) ?_
    rintro _ u7 ⟨c7, m6⟩
    have m1 := c7.own m1 (by omega)
    replace kw := kw.newS c7 (fun j hj => by omega)
    refine cl callPut (putDue_c m6 (p := ⟨p.old, p.due, Tb.putS p.todo na⟩) ⟨hp.old, hp.due, Tb.putS_cap hp.todo (by omega)⟩ (i := i) (by omega)) ?_
    rintro _ u8 ⟨c8, m6⟩
    have m1 := c8.own m1 (by omega)
    replace kw := kw.newS c8 (fun j hj => by omega)
    refine ld agree (Own.all m1) (by rfl) ?_
    refine ld agree (Own.all m6) (by rfl) ?_
    refine ne (by decide) ?_
    refine nd fun bz wz ez sz kz mz => ?_
    have mz : Own wz bz 243 (lay (lay (rep (cellsL ti243.zero) 2) 0 (cellsL (partA ⟨p.old, p.due, Tb.putS p.todo nb⟩))) (1 * ti243.size) (cellsL (partA ⟨p.old, Tb.putS p.due i, Tb.putS p.todo na⟩))) := mz
    rewrite [cellsPart, cellsPart, lay_rep2 (n := 1 * ti243.size) (partZ _) (partZ _) rfl] at mz
    exact ⟨kw.trans kz, by rw [hsd]; exact partsOwn (t := 243) (L := [⟨p.old, p.due, Tb.putS p.todo nb⟩, ⟨p.old, Tb.putS p.due i, Tb.putS p.todo na⟩]) (by rw [List.flatMap_cons, List.flatMap_cons, List.flatMap_nil, List.append_nil]; exact mz) rfl (by have := kw.size; omega) (by omega)⟩
  refine sp (fun h13 => ?_) (fun h13 => ?_)
  · have ha := hw2 (.inr (.inr (.inr (by omega))))
    have hai : r.a = (r.a.toNat : Int) := by omega
    have hbi : r.b = (r.b.toNat : Int) := by omega
    have hsd := sides13 (r := r) (i := i) (p := p) (by omega)
    generalize r.a.toNat = na at *
    generalize r.b.toNat = nb at *
    rewrite [hai, hbi]
    refine cl callPut (putTodo_c m1 hp (i := na) (by omega)) ?_
    rintro _ u9 ⟨c9, m1⟩
    have m6 := c9.own m6 (by omega)
    replace kw := kw.newS c9 (fun j hj => by omega)
    refine cl callPut (putTodo_c m1 (p := ⟨p.old, p.due, Tb.putS p.todo na⟩) ⟨hp.old, hp.due, Tb.putS_cap hp.todo (by omega)⟩ (i := nb) (by omega)) ?_
    rintro _ u10 ⟨c10, m1⟩
    have m6 := c10.own m6 (by omega)
    replace kw := kw.newS c10 (fun j hj => by omega)
    refine cl callPut (putTodo_c m6 hp (i := nb) (by omega)) ?_
    rintro _ u11 ⟨c11, m6⟩
    have m1 := c11.own m1 (by omega)
    replace kw := kw.newS c11 (fun j hj => by omega)
    refine cl callPut (putDue_c m6 (p := ⟨p.old, p.due, Tb.putS p.todo nb⟩) ⟨hp.old, hp.due, Tb.putS_cap hp.todo (by omega)⟩ (i := i) (by omega)) ?_
    rintro _ u12 ⟨c12, m6⟩
    have m1 := c12.own m1 (by omega)
    replace kw := kw.newS c12 (fun j hj => by omega)
    refine ld agree (Own.all m1) (by rfl) ?_
    refine ld agree (Own.all m6) (by rfl) ?_
    refine ne (by decide) ?_
    refine nd fun bz wz ez sz kz mz => ?_
    have mz : Own wz bz 243 (lay (lay (rep (cellsL ti243.zero) 2) 0 (cellsL (partA ⟨p.old, p.due, Tb.putS (Tb.putS p.todo na) nb⟩))) (1 * ti243.size) (cellsL (partA ⟨p.old, Tb.putS p.due i, Tb.putS p.todo nb⟩))) := mz
    rewrite [cellsPart, cellsPart, lay_rep2 (n := 1 * ti243.size) (partZ _) (partZ _) rfl] at mz
    exact ⟨kw.trans kz, by rw [hsd]; exact partsOwn (t := 243) (L := [⟨p.old, p.due, Tb.putS (Tb.putS p.todo na) nb⟩, ⟨p.old, Tb.putS p.due i, Tb.putS p.todo nb⟩]) (by rw [List.flatMap_cons, List.flatMap_cons, List.flatMap_nil, List.append_nil]; exact mz) rfl (by have := kw.size; omega) (by omega)⟩
  have hsd := sidesE (r := r) (i := i) (p := p) (by omega) (by omega) (by omega) (by omega) (by omega) (by omega) (by omega) (by omega)
  refine ld agree (Own.all m1) (by rfl) ?_
  refine ne (by decide) ?_
  refine nd fun bz wz ez sz kz mz => ?_
  have mz : Own wz bz 243 (lay (rep (cellsL ti243.zero) 1) 0 (cellsL (partA p))) := mz
  rewrite [cellsPart, lay_rep1 (partZ _)] at mz
  exact ⟨kw.trans kz, by rw [hsd]; exact partsOwn (t := 243) (L := [p]) (by rw [List.flatMap_cons, List.flatMap_nil, List.append_nil]; exact mz) rfl (by have := kw.size; omega) (by omega)⟩
end Go.Au

namespace Go.Au
open Go Go.RowKit Go.MapKept
open Go.Maps (Keyed)

/-! ### parts and pairs as keys -/
theorem laidT : laidOutB Proofs.Tryz.prog = true := by kernel_rfl
theorem partKeyed : Keyed Proofs.Tryz.prog 243 := Maps.Keyed.of_law (deep_law_laid (P := Proofs.Tryz.prog) laidT (m := 3) (by decide) (of_decide_eq_true (by kernel_rfl)) (by kernel_rfl) (by rw [Proofs.Tryz.underlying243]))
theorem pairKeyed : Keyed Proofs.Tryz.prog 120 := Maps.Keyed.of_law (deep_law_laid (P := Proofs.Tryz.prog) laidT (m := 3) (by decide) (of_decide_eq_true (by kernel_rfl)) (by kernel_rfl) (by rw [Proofs.Tryz.underlying120]))
theorem partType : Proofs.Tryz.prog.keyType 243 = true := by kernel_rfl
theorem pairType : Proofs.Tryz.prog.keyType 120 = true := by kernel_rfl
theorem typesTwo : ∃ m, Proofs.Tryz.prog.types.size = m + 2 := ⟨Proofs.Tryz.prog.types.size - 2, by
  have : 1 < Proofs.Tryz.prog.types.size := of_decide_eq_true (by kernel_rfl)
  omega⟩
theorem mapM_some {α β : Type} {f : α → Option β} : ∀ {l : List α}, (∀ x ∈ l, ∃ y, f x = some y) → ∃ r, l.mapM f = some r
  | [], _ => ⟨[], rfl⟩
  | a :: l, h => by
    obtain ⟨y, hy⟩ := h a (by simp)
    obtain ⟨r, hr⟩ := mapM_some (l := l) fun x hx => h x (by simp [hx])
    exact ⟨y :: r, by rw [List.mapM_cons, hy, hr]; rfl⟩
theorem cellsSet : Proofs.Tryz.prog.cellsOf 118 = 16 := by kernel_rfl
theorem cellsU64 : Proofs.Tryz.prog.cellsOf 116 = 1 := by kernel_rfl
theorem wfU64 {x : Nat} (h : x < 18446744073709551616) : (Lit.int .u64 (x : Int)).wf = true := by
  show (decide ((0 : Int) ≤ x) && decide ((x : Int) ≤ 18446744073709551615)) = true
  rw [decide_eq_true (by omega), decide_eq_true (by omega)]; rfl
theorem setLits {s : Nat} (hs : s < cap) (d : Nat) : ∃ ls, Proofs.Tryz.prog.keyLits (d + 2) 118 (setC s) = some ls := by
  unfold Program.keyLits
  simp only [Proofs.Tryz.underlying118]
  rw [if_pos (by rw [setC_len, cellsSet]), cellsU64]
  have h : ∀ i ∈ List.range 16, ∃ y, Proofs.Tryz.prog.keyLits (d + 1) 116 (((setC s).drop (i * 1)).take 1) = some y := fun i hi => by
    have hi : i < 16 := by simpa using hi
    have hc : ((setC s).drop (i * 1)).take 1 = [.int .u64 (wordN s i : Nat)] := by
      apply List.ext_getElem?
      intro j
      rw [List.getElem?_take, Nat.mul_one]
      cases j with
      | zero => rw [if_pos (by omega), List.getElem?_drop, Nat.add_zero, setC_get s i hi]; rfl
      | succ j => rw [if_neg (by omega)]; rfl
    rw [hc]
    unfold Program.keyLits
    simp only [Proofs.Tryz.underlying116]
    rw [if_pos ⟨trivial, wfU64 (wordN_lt hs i hi)⟩]
    exact ⟨_, rfl⟩
  obtain ⟨r, hr⟩ := mapM_some h
  rw [hr]
  exact ⟨_, rfl⟩
theorem take_left' {A B : List Value} {n : Nat} (h : A.length = n) : (A ++ B).take n = A := by subst h; exact List.take_left
theorem drop_left' {A B : List Value} {n : Nat} (h : A.length = n) : (A ++ B).drop n = B := by subst h; exact List.drop_left
theorem partKey {p : Part} (hp : PartS p) : ∃ lit, keyOf Proofs.Tryz.prog 243 (partA p) = some lit := by
  obtain ⟨m, hm⟩ := typesTwo
  unfold keyOf
  simp only [Proofs.Tryz.underlying243]
  rw [if_pos (by simp only [partType, Value.formed, Proofs.Tryz.underlying243, Bool.true_and]; rw [List.size_toArray, partC_len]; kernel_rfl), hm]
  unfold Program.keyLits
  simp only [Proofs.Tryz.underlying243, Value.cells]
  rw [if_pos ⟨by rw [partC_len]; kernel_rfl, by kernel_rfl⟩]
  have e1 : ((partC p).drop 0).take 16 = setC p.old := by
    unfold partC
    rw [List.drop_zero, List.append_assoc, take_left' (setC_len _)]
  have e2 : ((partC p).drop 16).take 16 = setC p.due := by
    unfold partC
    rw [List.append_assoc, drop_left' (setC_len _), take_left' (setC_len _)]
  have e3 : ((partC p).drop 32).take 16 = setC p.todo := by
    unfold partC
    rw [drop_left' (by rw [List.length_append, setC_len, setC_len]), List.take_of_length_le (by rw [setC_len]; exact Nat.le_refl _)]
  obtain ⟨l1, h1⟩ := setLits hp.old m
  obtain ⟨l2, h2⟩ := setLits hp.due m
  obtain ⟨l3, h3⟩ := setLits hp.todo m
  simp only [List.mapM_cons, List.mapM_nil, cellsSet, e1, e2, e3, h1, h2, h3]
  exact ⟨_, rfl⟩
def pairC (p : Nat × Nat) : List Value := setC p.1 ++ setC p.2
abbrev pairA (p : Nat × Nat) : Value := .agg (pairC p).toArray
theorem pairC_len (p : Nat × Nat) : (pairC p).length = 32 := by unfold pairC; rw [List.length_append, setC_len, setC_len]
theorem pairKey {p : Nat × Nat} (h1 : p.1 < cap) (h2 : p.2 < cap) : ∃ lit, keyOf Proofs.Tryz.prog 120 (pairA p) = some lit := by
  obtain ⟨m, hm⟩ := typesTwo
  unfold keyOf
  simp only [Proofs.Tryz.underlying120]
  rw [if_pos (by simp only [pairType, Value.formed, Proofs.Tryz.underlying120, Bool.true_and]; rw [List.size_toArray, pairC_len]; kernel_rfl), hm]
  unfold Program.keyLits
  simp only [Proofs.Tryz.underlying120, Value.cells]
  rw [if_pos ⟨by rw [pairC_len]; kernel_rfl, by kernel_rfl⟩]
  have e1 : ((pairC p).drop 0).take 16 = setC p.1 := by
    unfold pairC
    rw [List.drop_zero, take_left' (setC_len _)]
  have e2 : ((pairC p).drop 16).take 16 = setC p.2 := by
    unfold pairC
    rw [drop_left' (setC_len _), List.take_of_length_le (by rw [setC_len]; exact Nat.le_refl _)]
  obtain ⟨l1, h1⟩ := setLits h1 m
  obtain ⟨l2, h2⟩ := setLits h2 m
  simp only [List.mapM_cons, List.mapM_nil, cellsSet, e1, e2, h1, h2]
  exact ⟨_, rfl⟩
theorem append_inj16 {a b c d : Nat} (h : setC a ++ setC b = setC c ++ setC d) : a = c ∧ b = d := by
  have h1 := congrArg (List.take 16) h
  have h2 := congrArg (List.drop 16) h
  rw [take_left' (setC_len _), take_left' (setC_len _)] at h1
  rw [drop_left' (setC_len _), drop_left' (setC_len _)] at h2
  exact ⟨setC_inj h1, setC_inj h2⟩
theorem pairA_inj (x y : Nat × Nat) (h : pairA x = pairA y) : x = y := by
  injection h with h
  have h := congrArg Array.toList h
  obtain ⟨h1, h2⟩ := append_inj16 (show setC x.1 ++ setC x.2 = setC y.1 ++ setC y.2 from h)
  exact Prod.ext h1 h2
theorem partA_inj (x y : Part) (h : partA x = partA y) : x = y := by
  injection h with h
  have h := congrArg Array.toList h
  have h : (setC x.old ++ setC x.due) ++ setC x.todo = (setC y.old ++ setC y.due) ++ setC y.todo := h
  have h1 := congrArg (List.take 32) h
  have h2 := congrArg (List.drop 32) h
  rw [take_left' (by rw [List.length_append, setC_len, setC_len]), take_left' (by rw [List.length_append, setC_len, setC_len])] at h1
  rw [drop_left' (by rw [List.length_append, setC_len, setC_len]), drop_left' (by rw [List.length_append, setC_len, setC_len])] at h2
  obtain ⟨a, b⟩ := append_inj16 h1
  obtain ⟨o, d, t⟩ := x
  obtain ⟨o', d', t'⟩ := y
  simp only at a b h2
  rw [a, b, setC_inj h2]
instance : DecidableEq Part := fun x y => decidable_of_iff (x.old = y.old ∧ x.due = y.due ∧ x.todo = y.todo) (by
  obtain ⟨o, d, t⟩ := x
  obtain ⟨o', d', t'⟩ := y
  simp)
end Go.Au

namespace Go.Au
open Go Go.RowKit Go.MapKept
open Go.Maps (Keyed)

/-! ### expand -/
theorem alook_one {α : Type} [DecidableEq α] {l : List α} {s : α} (h : s ∈ l) : alook (l.map fun s => (s, (1 : Int))) s = some 1 := by
  induction l with
  | nil => simp at h
  | cons a r ih =>
    simp only [List.map_cons, alook]
    by_cases h' : a = s
    · rw [if_pos h']
    · rw [if_neg h', ih ((List.mem_cons.1 h).resolve_left (Ne.symm h'))]
theorem alook_zero {α : Type} [DecidableEq α] {l : List α} {s : α} (h : s ∉ l) : alook (l.map fun s => (s, (1 : Int))) s = none :=
  alook_none fun p hp he => by
    obtain ⟨x, hx, rfl⟩ := List.mem_map.1 hp
    exact h (he ▸ hx)
theorem aput_one {α : Type} [DecidableEq α] {l : List α} {s : α} (h : s ∉ l) : aput (l.map fun s => (s, (1 : Int))) s 1 = (l ++ [s]).map fun s => (s, (1 : Int)) := by
  rw [aput_new (fun p hp he => by
    obtain ⟨x, hx, rfl⟩ := List.mem_map.1 hp
    exact h (he ▸ hx)), List.map_append]
  rfl
abbrev iV (n : Int) : Value := .int .i64 n
abbrev clE (bs bf bl bm be bt : Nat) : Value := .func (.func 173) #[] #[pt bs 0, pt bf 0, pt bl 0, pt bm 0, pt be 0, pt bt 0]
/-- what expand reads and never turns -/
structure FitE (base lo hi : Nat) (w : World) (bs bf bl bm be bt tb ms mf : Nat) (most : Int) (tv : List Value) (rv : Value) (rs : List TRow) : Prop where
  cs : Own w bs 240 [.map (some ms)]
  cf : Own w bf 192 [.map (some mf)]
  cm : Own w bm 3 [iV most]
  ce : Own w be 241 [clE bs bf bl bm be bt]
  ct : Own w bt 34 [pt tb 0]
  tbl : Own w tb 110 tv
  rows : RowsE lo hi w rv rs
  apart : ∀ g ∈ [bs, bf, bm, be, bt, tb], g ≠ ms ∧ g ≠ mf ∧ g ≠ bl ∧ g < base
  lt : bl < base ∧ ms < base ∧ mf < base ∧ hi ≤ base
  ne : ms ≠ mf ∧ ms ≠ bl ∧ mf ≠ bl
  up : hi ≤ ms ∧ hi ≤ mf ∧ hi ≤ bl
variable {base lo hi : Nat} {w w' : World} {bs bf bl bm be bt tb ms mf : Nat} {most : Int} {tv : List Value} {rv : Value} {rs : List TRow}
theorem FitE.chg {S : Nat → Prop} (h : FitE base lo hi w bs bf bl bm be bt tb ms mf most tv rv rs) (hc : Chg S w w') (hS : ∀ g, S g → g = ms ∨ g = mf ∨ g = bl ∨ base ≤ g) : FitE base lo hi w' bs bf bl bm be bt tb ms mf most tv rv rs := by
  have key : ∀ g ∈ [bs, bf, bm, be, bt, tb], ¬ S g := fun g hg hs => by
    obtain ⟨a1, a2, a3, a4⟩ := h.apart g hg
    rcases hS g hs with e | e | e | e
    · exact a1 e
    · exact a2 e
    · exact a3 e
    · omega
  refine ⟨hc.own h.cs (key _ (by simp)), hc.own h.cf (key _ (by simp)), hc.own h.cm (key _ (by simp)), hc.own h.ce (key _ (by simp)), hc.own h.ct (key _ (by simp)), hc.own h.tbl (key _ (by simp)), RowE.chg h.rows hc (fun k k1 k2 hk => ?_) fun _ _ h => h, h.apart, h.lt, h.ne, h.up⟩
  have u := h.up
  have l := h.lt
  rcases hS k hk with e | e | e | e <;> omega
theorem FitE.kp (h : FitE base lo hi w bs bf bl bm be bt tb ms mf most tv rv rs) (hc : Kp w w') : FitE base lo hi w' bs bf bl bm be bt tb ms mf most tv rv rs := h.chg hc fun _ hf => hf.elim
/-- what it turns: keys seen, pairs found -/
structure FitS (base : Nat) (w : World) (bl ms mf : Nat) (vl : Value) (K : List Part) (l : List (Nat × Nat)) : Prop where
  cl : Own w bl 108 [vl]
  row : w.ownsRow base 120 32 vl l.length (l.flatMap pairC)
  seen : MapE Proofs.Tryz.prog 243 partA iV w ms (K.map fun s => (s, (1 : Int)))
  found : MapE Proofs.Tryz.prog 120 pairA iV w mf (l.map fun s => (s, (1 : Int)))
  nil : l = [] → vl = nilS
theorem FitS.chg {S : Nat → Prop} {vl : Value} {K : List Part} {l : List (Nat × Nat)} (h : FitS base w bl ms mf vl K l) (hc : Chg S w w') (h1 : ¬ S bl) (h2 : ¬ S ms) (h3 : ¬ S mf) (h4 : ∀ g, vl.ownBlock = some g → ¬ S g) : FitS base w' bl ms mf vl K l :=
  ⟨hc.own h.cl h1, ownsRow_chg h.row hc h4, h.seen.chg hc h2, h.found.chg hc h3, h.nil⟩
theorem FitS.kp {vl : Value} {K : List Part} {l : List (Nat × Nat)} (h : FitS base w bl ms mf vl K l) (hc : Kp w w') : FitS base w' bl ms mf vl K l := h.chg hc id id id fun _ _ => id
def turnE (ms mf bl : Nat) (vl : Value) (g : Nat) : Prop := g = ms ∨ g = mf ∨ g = bl ∨ some g = vl.ownBlock
abbrev Rn (rs : List TRow) (p : Part) : List (Nat × Nat) := Tb.run rs rs.length p
structure FitP (rs : List TRow) (All : List (Nat × Nat)) (most : Int) (K : List Part) (l : List (Nat × Nat)) : Prop where
  nd : l.Nodup
  all : ∀ x ∈ l, x ∈ All
  len : (l.length : Int) ≤ most ∨ l = []
  keys : ∀ q ∈ K, PartS q
  cap : ∀ x ∈ l, x.1 < cap ∧ x.2 < cap
/-- all went well -/
structure FitT (rs : List TRow) (p : Part) (K K' : List Part) (l l' : List (Nat × Nat)) : Prop where
  old : ∀ x ∈ l, x ∈ l'
  new : ∀ x ∈ Rn rs p, x ∈ l'
  mem : ∀ x ∈ l', x ∈ l ∨ x ∈ Rn rs p
  sub : ∀ q ∈ K', q ∈ K ∨ (q.todo ≤ p.todo ∧ ∀ x ∈ Rn rs q, x ∈ l')
/-- there are too many -/
structure FitF (rs : List TRow) (most : Int) (p : Part) (l l' : List (Nat × Nat)) : Prop where
  nd : l'.Nodup
  mem : ∀ x ∈ l', x ∈ l ∨ x ∈ Rn rs p
  ne : l' ≠ []
  many : most < (l'.length : Int)
theorem callExpand : callable Proofs.Tryz.prog 173 = true := by kernel_rfl
theorem turn_base {vl : Value} {n : Nat} {cs : List Value} (h : w.ownsRow base 120 32 vl n cs) {g : Nat} (hg : turnE ms mf bl vl g) : g = ms ∨ g = mf ∨ g = bl ∨ base ≤ g := by
  rcases hg with h1 | h1 | h1 | h1
  · exact .inl h1
  · exact .inr (.inl h1)
  · exact .inr (.inr (.inl h1))
  · exact .inr (.inr (.inr (ownsRow_base h h1.symm)))
theorem todo_last {p : Part} {k : Nat} (h0 : p.todo ≠ 0) (hk : p.todo < 2 ^ k) : ∃ i : Nat, Tb.lastS p.todo = i ∧ i < k ∧ p.todo.testBit i = true ∧ p.todo < 2 ^ (i + 1) ∧ 2 ^ i ≤ p.todo := by
  refine ⟨Nat.log2 p.todo, by unfold Tb.lastS; rw [if_neg h0], (Nat.log2_lt h0).2 hk, Nat.testBit_log2 h0, Nat.lt_log2_self, Nat.log2_self_le h0⟩
end Go.Au

namespace Go.Au
open Go Go.RowKit Go.MapKept
open Go.Maps (Keyed)

/-! ### expand, walked -/
variable {base lo hi : Nat} {bs bf bl bm be bt tb ms mf : Nat} {most : Int} {v0 rv v2 v3 v4 v5 : Value} {rs : List TRow}
theorem pairZ (p : Nat × Nat) : (pairC p).length = (cellsL ti120.zero).length := by rw [pairC_len]; rfl
theorem cellsPair (p : Nat × Nat) : cellsL (pairA p) = pairC p := rfl
theorem lay_both {Z a b : List Value} {n : Nat} (h : Z.length = a.length + b.length) (hn : n = a.length) : lay (lay Z 0 a) n b = a ++ b := by
  have e1 := lay_left (Z.drop a.length) a (Z.take a.length) [] (by rw [List.length_take]; omega)
  have e2 := lay_left [] b (Z.drop a.length) a (by rw [List.length_drop]; omega)
  rw [List.nil_append, List.take_append_drop] at e1
  rw [show ([] : List Value).length = 0 from rfl] at e1
  rw [e1, List.nil_append, hn]
  rw [List.append_nil, List.append_nil] at e2
  exact e2
/-- a pair as it is built -/
def pairX (o d : Nat) : Value := .agg (lay (lay (cellsL ti120.zero) 0 (cellsL (setA o))) 16 (cellsL (setA d))).toArray
theorem cellsSetA (s : Nat) : cellsL (setA s) = setC s := rfl
theorem pairX_eq (o d : Nat) : pairX o d = pairA (o, d) := by
  unfold pairX
  rw [cellsSetA, cellsSetA, lay_both (by rw [setC_len, setC_len]; rfl) (by rw [setC_len])]
  rfl
theorem oneSet (s : Nat) : (setC s).all (·.oneCell') = true := by
  rw [List.all_eq_true]
  intro v hv
  unfold setC at hv
  obtain ⟨k, -, rfl⟩ := List.mem_map.1 hv
  rfl
theorem onePair (p : Nat × Nat) : (pairC p).all (·.oneCell') = true := by unfold pairC; rw [List.all_append, oneSet, oneSet]; rfl
theorem onePart (p : Part) : (partC p).all (·.oneCell') = true := by unfold partC; rw [List.all_append, List.all_append, oneSet, oneSet, oneSet]; rfl
theorem szPair (p : Nat × Nat) : szOf G 120 = some (cellsL (pairA p)).length := by rw [cellsPair, pairC_len]; rfl
theorem setZ (s : Nat) : (setC s).length = 16 := setC_len s
theorem fill_len {All : List (Nat × Nat)} {K : List Part} {l : List (Nat × Nat)} (h : FitP rs All most K l) (hB : most < 274877906944 ∨ All.length < 274877906944) : l.length < 274877906944 := by
  rcases hB with hB | hB
  · rcases h.len with h1 | h1
    · omega
    · rw [h1]; decide
  · have := nodup_sub h.nd h.all
    omega
theorem szPart (p : Part) : szOf G 243 = some (cellsL (partA p)).length := by rw [cellsPart, partC_len]; rfl
theorem step_todo {rs : List TRow} (hw : Tb.WfR rs) {i : Nat} (hi : i < rs.length) {p q : Part} (hp : p.todo < 2 ^ (i + 1)) (hq : q ∈ Tb.step rs i p) : q.todo < 2 ^ i := by
  unfold Tb.step at hq
  split at hq
  · simp only [List.mem_singleton] at hq; subst hq; exact Tb.cutS_lt hp
  · rw [List.getElem?_eq_getElem hi] at hq
    have hle : ∀ (m : Nat), p.old < 2 ^ m → p.due < 2 ^ m → i < m → rs.length ≤ m → q.todo < 2 ^ i := fun m h1 h2 h3 h4 =>
      (Tb.sides_ok hw (List.getElem?_eq_getElem hi) h4 (p := ⟨Tb.putS p.old i, p.due, Tb.cutS p.todo i⟩) ⟨Tb.putS_lt h1 h3, h2, Tb.cutS_lt hp⟩ q hq).todo
    refine hle (p.old + p.due + i + rs.length + 1) ?_ ?_ (by omega) (by omega)
    · exact Nat.lt_of_lt_of_le (Nat.lt_two_pow_self) (Nat.pow_le_pow_right (by decide) (by omega))
    · exact Nat.lt_of_lt_of_le (Nat.lt_two_pow_self) (Nat.pow_le_pow_right (by decide) (by omega))
theorem sides_S {rs : List TRow} (hw : Tb.WfR rs) {i : Nat} {r : TRow} (hr : rs[i]? = some r) (hl : rs.length ≤ 1000) {p : Part} (hp : PartS p) : ∀ q ∈ Tb.sides r i p, PartS q := by
  obtain ⟨-, h2, h3, -⟩ := hw i r hr
  have hi : i < rs.length := (List.getElem?_eq_some_iff.1 hr).1
  have pu : ∀ {s j : Nat}, s < cap → j < 1024 → Tb.putS s j < cap := fun h1 h2 => Tb.putS_cap h1 h2
  intro q hq
  by_cases o2 : r.op = 2
  · rw [sides2 o2] at hq; cases hq
  by_cases o34 : r.op = 3 ∨ r.op = 4
  · rw [sides34 o34] at hq
    split at hq
    · cases hq
    · simp only [List.mem_singleton] at hq; subst hq; exact hp
  by_cases o5 : r.op = 5
  · have := h2 (.inl o5)
    rw [sides5 o5] at hq
    simp only [List.mem_singleton] at hq; subst hq
    exact ⟨hp.old, hp.due, pu (pu hp.todo (by omega)) (by omega)⟩
  by_cases o6 : r.op = 6
  · have := h2 (.inr (.inl o6))
    rw [sides6 o6] at hq
    simp only [List.mem_cons, List.not_mem_nil, or_false] at hq
    rcases hq with rfl | rfl
    · exact ⟨hp.old, hp.due, pu hp.todo (by omega)⟩
    · exact ⟨hp.old, hp.due, pu hp.todo (by omega)⟩
  by_cases o9 : r.op = 9
  · have := h3 o9
    rw [sides9 o9] at hq
    simp only [List.mem_singleton] at hq; subst hq
    exact ⟨hp.old, pu hp.due (by omega), hp.todo⟩
  by_cases o12 : r.op = 12
  · have := h2 (.inr (.inr (.inl o12)))
    rw [sides12 o12] at hq
    simp only [List.mem_cons, List.not_mem_nil, or_false] at hq
    rcases hq with rfl | rfl
    · exact ⟨hp.old, hp.due, pu hp.todo (by omega)⟩
    · exact ⟨hp.old, pu hp.due (by omega), pu hp.todo (by omega)⟩
  by_cases o13 : r.op = 13
  · have := h2 (.inr (.inr (.inr o13)))
    rw [sides13 o13] at hq
    simp only [List.mem_cons, List.not_mem_nil, or_false] at hq
    rcases hq with rfl | rfl
    · exact ⟨hp.old, hp.due, pu (pu hp.todo (by omega)) (by omega)⟩
    · exact ⟨hp.old, pu hp.due (by omega), pu hp.todo (by omega)⟩
  · rw [sidesE o2 (fun h => o34 (.inl h)) (fun h => o34 (.inr h)) o5 o6 o9 o12 o13] at hq
    simp only [List.mem_singleton] at hq; subst hq; exact hp
theorem sides_len (r : TRow) (i : Nat) (p : Part) : (Tb.sides r i p).length ≤ 2 := by
  unfold Tb.sides
  repeat' split
  all_goals simp
set_option maxHeartbeats 4000000 in
theorem expand_c (hw : Tb.WfR rs) (hrl : rs.length ≤ 1000) {All : List (Nat × Nat)} (hB : most < 274877906944 ∨ All.length < 274877906944) : ∀ (k : Nat) (p : Part) (w : World) (vl : Value) (K : List Part) (l : List (Nat × Nat)), p.todo < 2 ^ k → k ≤ rs.length → PartS p → (∀ x ∈ Rn rs p, x ∈ All) →
    FitE base lo hi w bs bf bl bm be bt tb ms mf most [v0, rv, v2, v3, v4, v5] rv rs → base ≤ w.heap.size → FitS base w bl ms mf vl K l → FitP rs All most K l → (∀ q ∈ K, q.todo ≤ p.todo → ∀ x ∈ Rn rs q, x ∈ l) →
    Calls Proofs.Tryz.prog 173 [partA p, pt bs 0, pt bf 0, pt bl 0, pt bm 0, pt be 0, pt bt 0].toArray w (Ret fun r w' => ∃ (b : Bool) (vl' : Value) (K' : List Part) (l' : List (Nat × Nat)), r = .bool b ∧ Chg (turnE ms mf bl vl) w w' ∧ FitS base w' bl ms mf vl' K' l' ∧
      (∀ g, vl'.ownBlock = some g → vl.ownBlock = some g ∨ w.heap.size ≤ g) ∧ (if b = true then FitP rs All most K' l' ∧ FitT rs p K K' l l' else FitF rs most p l l')) := by
  intro k
  induction k using Nat.strongRecOn with
  | ind k ih =>
    intro p w vl K l hk hkl hp hall hE hbz hS hP hK
    refine call agree Proofs.Tryz.func173 rfl Proofs.Tryz.ntmps173 (by kernel_rfl) ?_
    refine nd fun b7 w1 e1 s1 k1 m7 => ?_
    have m7 : Own w1 b7 243 (partC p) := m7
    have hE1 := hE.kp k1
    have hS1 := hS.kp k1
    refine ld agree (Own.at_ (xs := [.map (some ms)]) hE1.cs rfl) (by rfl) ?_
    refine ld agree (Own.all m7) (by rfl) ?_
    have hlk := MapE.lookup agree partKeyed (t := 240) rfl rfl rfl hS1.seen p (partKey hp) false
    have hvb : ∀ g, vl.ownBlock = some g → base ≤ g ∧ g < w.heap.size := fun g hg => by
      have hrg := row_slice hS.row
      obtain ⟨a, c, -, -, hb⟩ := hrg
      exact hb g hg
    have hlt := hE.lt
    by_cases hin : p ∈ K
    · rewrite [alook_one hin] at hlk
      refine lk hlk ?_
      refine spT (by decide) ?_
      refine ⟨true, vl, K, l, rfl, k1.mono fun _ hf => hf.elim, hS1, fun g hg => .inl hg, ?_⟩
      rw [if_pos rfl]
      exact ⟨hP, fun x hx => hx, hK p hin (Nat.le_refl _), fun x hx => .inl hx, fun q hq => .inl hq⟩
    · rewrite [alook_zero hin] at hlk
      refine lk hlk ?_
      refine spF (by decide) ?_
      refine ld agree (Own.at_ (xs := [.map (some ms)]) hE1.cs rfl) (by rfl) ?_
      refine ld agree (Own.all m7) (by rfl) ?_
      refine mu (MapE.update agree partKeyed (t := 240) rfl rfl hS1.seen p 1 (partKey hp)) ?_
      rintro w2 ⟨hm2, z2, c2⟩
      rewrite [aput_one hin] at hm2
      have hb7 : b7 ≠ ms ∧ b7 ≠ mf ∧ b7 ≠ bl ∧ base ≤ b7 := by omega
      have hE2 := hE1.chg c2 fun g hg => .inl hg
      have m7 := c2.own m7 hb7.1
      have hS2 : FitS base w2 bl ms mf vl (K ++ [p]) l := ⟨c2.own hS1.cl (Ne.symm hE.ne.2.1), ownsRow_chg hS1.row c2 fun g hg => by have := (hvb g hg).1; omega, hm2, hS1.found.chg c2 (Ne.symm hE.ne.1), hS1.nil⟩
      have c02 : Chg (turnE ms mf bl vl) w w2 := (k1.mono fun _ hf => hf.elim).trans (c2.mono fun g hg => .inl hg)
      refine ld agree (Own.todo m7) (by rfl) ?_
      refine cl callLast (last_c w2 hp.todo) ?_
      rintro _ w3 ⟨rfl, k3⟩
      have hE3 := hE2.kp k3
      have hS3 := hS2.kp k3
      have m7 := k3.own m7 id
      have c03 := c02.newT k3 fun _ hf => hf.elim
      by_cases h0 : p.todo = 0
      · have hl0 : Tb.lastS p.todo = -1 := by unfold Tb.lastS; rw [if_pos h0]
        rewrite [hl0]
        refine spT (by decide) ?_
        refine ld agree (Own.old m7) (by rfl) ?_
        refine ld agree (Own.due m7) (by rfl) ?_
        refine nd fun b10 w4 e4 s4 k4 m10 => ?_
        refine st agree m10 (show szOf G 120 = some (cellsL (pairX p.old p.due)).length by rw [pairX_eq]; exact szPair _) (show 0 + (cellsL (pairX p.old p.due)).length ≤ (cellsL ti120.zero).length by rw [pairX_eq, cellsPair, pairZ]; omega) (show (cellsL (pairX p.old p.due)).all (·.oneCell') = true by rw [pairX_eq, cellsPair]; exact onePair _) fun w5 e5 k5 m10 => ?_
        have m10 : Own w5 b10 120 (lay (cellsL ti120.zero) 0 (cellsL (pairX p.old p.due))) := m10
        rewrite [pairX_eq, cellsPair, lay_full (pairZ _)] at m10
        have k35 : Kp w3 w5 := k4.newS k5 (fun j hj => by subst hj; omega)
        have hE5 := hE3.kp k35
        have hS5 := hS3.kp k35
        have c05 := c03.newT k35 fun _ hf => hf.elim
        have hR : Rn rs p = [(p.old, p.due)] := Tb.run_zero rs h0 _
        have hvb5 : b10 ≠ mf ∧ b10 ≠ bl ∧ ∀ g, vl.ownBlock = some g → g < b10 := ⟨by have := c03.size; omega, by have := c03.size; omega, fun g hg => by have := (hvb g hg).2; have := c03.size; omega⟩
        have hKp : ∀ q ∈ K ++ [p], PartS q := fun q hq => by
          rcases List.mem_append.1 hq with hq | hq
          · exact hP.keys q hq
          · simp only [List.mem_singleton] at hq; subst hq; exact hp
        refine ld agree (Own.at_ (xs := [.map (some mf)]) hE5.cf rfl) (by rfl) ?_
        refine ld agree (Own.all m10) (by rfl) ?_
        have hlk2 := MapE.lookup agree pairKeyed (t := 192) rfl rfl rfl hS5.found (p.old, p.due) (pairKey hp.old hp.due) false
        have hcx : ∀ x ∈ l ++ [(p.old, p.due)], x.1 < cap ∧ x.2 < cap := fun x hx => by
          rcases List.mem_append.1 hx with hx | hx
          · exact hP.cap x hx
          · simp only [List.mem_singleton] at hx; subst hx; exact ⟨hp.old, hp.due⟩
        have hrg := row_slice hS5.row
        obtain ⟨va, vc, rfl, -, -⟩ := hrg
        by_cases hin2 : (p.old, p.due) ∈ l
        · rewrite [alook_one hin2] at hlk2
          refine lk hlk2 ?_
          refine spF (by decide) ?_
          refine ld agree (Own.at_ (xs := [.slice va l.length vc]) hS5.cl rfl) (by rfl) ?_
          refine ld agree (Own.at_ (xs := [iV most]) hE5.cm rfl) (by rfl) ?_
          have hle : (l.length : Int) ≤ most := hP.len.resolve_right fun h => by rw [h] at hin2; cases hin2
          refine spT hle ?_
          refine ⟨true, _, K ++ [p], l, rfl, c05, hS5, fun g hg => .inl hg, ?_⟩
          rw [if_pos rfl]
          refine ⟨⟨hP.nd, hP.all, hP.len, hKp, hP.cap⟩, fun x hx => hx, fun x hx => ?_, fun x hx => .inl hx, fun q hq => ?_⟩
          · rw [hR] at hx; simp only [List.mem_singleton] at hx; rw [hx]; exact hin2
          · rcases List.mem_append.1 hq with hq | hq
            · exact .inl hq
            · simp only [List.mem_singleton] at hq; subst hq
              refine .inr ⟨Nat.le_refl _, fun x hx => ?_⟩
              rw [hR] at hx; simp only [List.mem_singleton] at hx; rw [hx]; exact hin2
        · rewrite [alook_zero hin2] at hlk2
          refine lk hlk2 ?_
          refine spT (by decide) ?_
          refine ld agree (Own.at_ (xs := [.map (some mf)]) hE5.cf rfl) (by rfl) ?_
          refine ld agree (Own.all m10) (by rfl) ?_
          refine mu (MapE.update agree pairKeyed (t := 192) rfl rfl hS5.found (p.old, p.due) 1 (pairKey hp.old hp.due)) ?_
          rintro w6 ⟨hm6, z6, c6⟩
          rewrite [aput_one hin2] at hm6
          have hE6 := hE5.chg c6 fun g hg => .inr (.inl hg)
          have m10 := c6.own m10 hvb5.1
          have hcl6 := c6.own hS5.cl (Ne.symm hE.ne.2.2)
          have hrow6 := ownsRow_chg hS5.row c6 fun g hg => by have := (hvb g hg).1; omega
          have hseen6 := hS5.seen.chg c6 hE.ne.1
          refine ld agree (Own.at_ (xs := [.slice va l.length vc]) hcl6 rfl) (by rfl) ?_
          refine ld agree (Own.all m10) (by rfl) ?_
          refine ne (by decide) ?_
          refine nd fun bq w7 e7 s7 k7 mq => ?_
          have mq : Own w7 bq 120 (lay (rep (cellsL ti120.zero) 1) 0 (cellsL (pairA (p.old, p.due)))) := mq
          rewrite [cellsPair, lay_rep1 (pairZ _)] at mq
          have hll := fill_len hP hB
          refine apP (m := 1) (size := 32) (news := pairC (p.old, p.due)) agree rfl rfl rfl rfl rfl rfl rfl (by decide) (ownsRow_chg hrow6 k7 fun _ _ => id) (by rw [pairC_len]) (Own.all mq) (onePair _) (by simp only [maxLen]; omega) (by show (_ + 1) * 256 ≤ _; omega) (by have := c05.size; have := c6.size; omega) fun v' w8 hrow8 hc8 hnew8 _ => ?_
          have hvb2 : ∀ j, some j = (Value.slice va l.length vc).ownBlock → base ≤ j := fun j hj => (hvb j hj.symm).1
          have hE8 := (hE6.kp k7).chg hc8 fun g hg => .inr (.inr (.inr (hvb2 g hg)))
          have hcl8 := hc8.own (k7.own hcl6 id) fun hj => by have := hvb2 _ hj; omega
          have hseen8 := (hseen6.chg k7 id).chg hc8 fun hj => by have := hvb2 _ hj; omega
          have hfound8 := (hm6.chg k7 id).chg hc8 fun hj => by have := hvb2 _ hj; omega
          have hrg := row_slice hrow8
          obtain ⟨ua, uc, rfl, -, hub⟩ := hrg
          refine st agree hcl8 rfl (Nat.le_refl 1) rfl fun w9 e9 k9 m9 => ?_
          have m9 : Own w9 bl 108 [.slice ua (l.length + 1) uc] := m9
          have hE9 := hE8.chg k9 fun g hg => .inr (.inr (.inl hg))
          have hS9 : FitS base w9 bl ms mf (.slice ua (l.length + 1) uc) (K ++ [p]) (l ++ [(p.old, p.due)]) := by
            refine ⟨m9, ?_, hseen8.chg k9 hE.ne.2.1, hfound8.chg k9 hE.ne.2.2, fun h => absurd h (by simp)⟩
            rw [List.length_append, List.flatMap_append]
            have := ownsRow_chg hrow8 k9 fun g hg => by have := (hub g hg).1; omega
            simpa using this
          have c09 : Chg (turnE ms mf bl (.slice va l.length vc)) w w9 := (((c05.trans (c6.mono fun g hg => .inr (.inl hg))).newT k7 fun _ hf => hf.elim).trans (hc8.mono fun g hg => .inr (.inr (.inr hg)))).trans (k9.mono fun g hg => .inr (.inr (.inl hg)))
          have hhn : ∀ g, (Value.slice ua (l.length + 1) uc).ownBlock = some g → (Value.slice va l.length vc).ownBlock = some g ∨ w.heap.size ≤ g := fun g hg => (hnew8 g hg).imp id fun h => by have := c05.size; have := c6.size; have := k7.size; omega
          have hnd : (l ++ [(p.old, p.due)]).Nodup := by
            rw [List.nodup_append]
            refine ⟨hP.nd, by simp, fun x hx y hy he => ?_⟩
            simp only [List.mem_singleton] at hy
            exact hin2 (hy ▸ he ▸ hx)
          have hmem : ∀ x ∈ l ++ [(p.old, p.due)], x ∈ l ∨ x ∈ Rn rs p := fun x hx => by
            rw [hR]; exact List.mem_append.1 hx
          refine ld agree (Own.at_ (xs := [.slice ua (l.length + 1) uc]) m9 rfl) (by rfl) ?_
          refine ld agree (Own.at_ (xs := [iV most]) hE9.cm rfl) (by rfl) ?_
          have hln : (l ++ [(p.old, p.due)]).length = l.length + 1 := by simp
          refine sp (fun hle => ?_) (fun hle => ?_)
          · refine ⟨true, _, K ++ [p], l ++ [(p.old, p.due)], rfl, c09, hS9, hhn, ?_⟩
            rw [if_pos rfl]
            refine ⟨⟨hnd, fun x hx => ?_, .inl (by rw [hln]; exact hle), hKp, hcx⟩, fun x hx => List.mem_append_left _ hx, fun x hx => ?_, hmem, fun q hq => ?_⟩
            · rcases hmem x hx with h | h
              · exact hP.all x h
              · exact hall x h
            · rw [hR] at hx; exact List.mem_append_right _ hx
            · rcases List.mem_append.1 hq with hq | hq
              · exact .inl hq
              · simp only [List.mem_singleton] at hq; subst hq
                exact .inr ⟨Nat.le_refl _, fun x hx => by rw [hR] at hx; exact List.mem_append_right _ hx⟩
          · refine ⟨false, _, K ++ [p], l ++ [(p.old, p.due)], rfl, c09, hS9, hhn, ?_⟩
            rw [if_neg (by decide)]
            refine ⟨hnd, hmem, by simp, ?_⟩
            rw [hln]
            have hle' : ¬ (((l.length + 1 : Nat) : Int) ≤ most) := hle
            omega
      · obtain ⟨i, hieq, hik, hbit, hi1, hi2⟩ := todo_last h0 hk
        rewrite [hieq]
        refine spF (by omega) ?_
        have hirs : i < rs.length := by omega
        refine cl callCut (cutTodo_c m7 hp (i := i) (by omega)) ?_
        rintro _ w4 ⟨c4, m7⟩
        have hb7n : b7 ≠ bl := hb7.2.2.1
        have hE4 := hE3.chg c4 fun g hg => .inr (.inr (.inr (by omega)))
        have hvb3 : ∀ g, vl.ownBlock = some g → g < b7 := fun g hg => by have := (hvb g hg).2; omega
        have hS4 := hS3.chg c4 (Ne.symm hb7n) (Ne.symm hb7.1) (Ne.symm hb7.2.1) fun g hg he => by have := hvb3 g hg; omega
        have c04 : Chg (turnE ms mf bl vl) w w4 := c03.newT c4 fun g hg => .inr (by omega)
        have hp4 : PartS ⟨p.old, p.due, Tb.cutS p.todo i⟩ := ⟨hp.old, hp.due, Tb.cutS_cap i hp.todo⟩
        have hRl := Tb.run_last hw hirs hi1 hbit hirs
        have hchild : ∀ q ∈ Tb.step rs i p, ∀ x ∈ Rn rs q, x ∈ Rn rs p := fun q hq x hx => by
          show x ∈ Tb.run rs rs.length p
          rw [hRl]; exact List.mem_flatMap.2 ⟨q, hq, hx⟩
        have hKp : ∀ q ∈ K ++ [p], PartS q := fun q hq => by
          rcases List.mem_append.1 hq with hq | hq
          · exact hP.keys q hq
          · simp only [List.mem_singleton] at hq; subst hq; exact hp
        have hP1 : FitP rs All most (K ++ [p]) l := ⟨hP.nd, hP.all, hP.len, hKp, hP.cap⟩
        have hK1 : ∀ t, t < 2 ^ i → ∀ q ∈ K ++ [p], q.todo ≤ t → ∀ x ∈ Rn rs q, x ∈ l := fun t ht q hq hqt => by
          rcases List.mem_append.1 hq with hq | hq
          · exact hK q hq (by omega)
          · simp only [List.mem_singleton] at hq; subst hq; omega
        refine ld agree (Own.old m7) (by rfl) ?_
        have hcall := has_c w4 hp.old (i := i) (by omega)
        cases hb : p.old.testBit i with
        | true =>
          rewrite [hb] at hcall
          refine cl callHas hcall ?_
          rintro _ w5 ⟨rfl, k5⟩
          have m7 := k5.own m7 id
          have hE5 := hE4.kp k5
          have hst : Tb.step rs i p = [⟨p.old, p.due, Tb.cutS p.todo i⟩] := by unfold Tb.step; rw [if_pos hb]
          refine ld agree (Own.at_ (xs := [clE bs bf bl bm be bt]) hE5.ce rfl) (by rfl) ?_
          refine ld agree (Own.all m7) (by rfl) ?_
          have htd := step_todo hw hirs hi1 (q := ⟨p.old, p.due, Tb.cutS p.todo i⟩) (by rw [hst]; simp)
          have hch := hchild ⟨p.old, p.due, Tb.cutS p.todo i⟩ (by rw [hst]; simp)
          refine cl callExpand (ih i hik ⟨p.old, p.due, Tb.cutS p.todo i⟩ w5 vl (K ++ [p]) l htd (by omega) hp4 (fun x hx => hall x (hch x hx)) hE5 (by have := c04.size; have := k5.size; omega) (hS4.kp k5) hP1 (hK1 _ htd)) ?_
          rintro _ w6 ⟨b, vl', K', l', rfl, c6, hS6, hn6, hpost⟩
          have c05 := c04.newT k5 fun _ hf => hf.elim
          have hR1 : Rn rs p = Rn rs ⟨p.old, p.due, Tb.cutS p.todo i⟩ := by
            show Tb.run rs rs.length p = _
            rw [hRl, hst, List.flatMap_cons, List.flatMap_nil, List.append_nil]
          refine ⟨b, vl', K', l', rfl, c05.trans c6, hS6, fun g hg => (hn6 g hg).imp id fun h => by have := c05.size; omega, ?_⟩
          cases b with
          | true =>
            rw [if_pos rfl] at hpost ⊢
            obtain ⟨hP6, t1, t2, t3, t4⟩ := hpost
            refine ⟨hP6, t1, by rw [hR1]; exact t2, by rw [hR1]; exact t3, fun q hq => ?_⟩
            rcases t4 q hq with h | ⟨h, h'⟩
            · rcases List.mem_append.1 h with h | h
              · exact .inl h
              · simp only [List.mem_singleton] at h; subst h
                exact .inr ⟨Nat.le_refl _, by rw [hR1]; exact t2⟩
            · exact .inr ⟨by have : Tb.cutS p.todo i ≤ p.todo := Tb.cutS_le _ _; exact Nat.le_trans h this, h'⟩
          | false =>
            rw [if_neg (by decide)] at hpost ⊢
            obtain ⟨f1, f2, f3, f4⟩ := hpost
            exact ⟨f1, by rw [hR1]; exact f2, f3, f4⟩
        | false =>
          rewrite [hb] at hcall
          refine cl callHas hcall ?_
          rintro _ w5 ⟨rfl, k5⟩
          have m7 := k5.own m7 id
          refine cl callPut (putOld_c m7 hp4 (i := i) (by omega)) ?_
          rintro _ w6 ⟨c6, m7⟩
          have hE6 := (hE4.kp k5).chg c6 fun g hg => .inr (.inr (.inr (by omega)))
          have hS6 := (hS4.kp k5).chg c6 (Ne.symm hb7n) (Ne.symm hb7.1) (Ne.symm hb7.2.1) fun g hg he => by have := hvb3 g hg; omega
          have c06 : Chg (turnE ms mf bl vl) w w6 := (c04.newT k5 fun _ hf => hf.elim).newT c6 fun g hg => .inr (by omega)
          have hp6 : PartS ⟨Tb.putS p.old i, p.due, Tb.cutS p.todo i⟩ := ⟨Tb.putS_cap hp.old (by omega), hp.due, hp4.todo⟩
          obtain ⟨r, hr⟩ : ∃ r, rs[i]? = some r := ⟨_, List.getElem?_eq_getElem hirs⟩
          have hst : Tb.step rs i p = Tb.sides r i ⟨Tb.putS p.old i, p.due, Tb.cutS p.todo i⟩ := by unfold Tb.step; rw [if_neg (by rw [hb]; decide), hr]
          refine ld agree (Own.at_ (xs := [pt tb 0]) hE6.ct rfl) (by rfl) ?_
          refine ld agree (Own.all m7) (by rfl) ?_
          refine cl callSides (sides_c hE6.tbl hE6.rows hr hw hrl hp6) ?_
          rintro vs w7 ⟨k7, hvs⟩
          rewrite [← hst] at hvs
          have hsS : ∀ q ∈ Tb.step rs i p, PartS q := by rw [hst]; exact sides_S hw hr hrl hp6
          have hql : (Tb.step rs i p).length ≤ 2 := by rw [hst]; exact sides_len _ _ _
          have hsT : ∀ q ∈ Tb.step rs i p, q.todo < 2 ^ i := fun q hq => step_todo hw hirs hi1 hq
          obtain ⟨qs, hqs⟩ : ∃ qs, qs = Tb.step rs i p := ⟨_, rfl⟩
          rewrite [← hqs] at hvs hsS hsT hchild hRl hql
          clear hqs hst
          have hvs0 := hvs
          obtain ⟨sa, sc, rfl, hsc, hsx⟩ := hvs0
          have hE7 := hE6.kp k7
          have hS7 := hS6.kp k7
          have c07 := c06.newT k7 fun _ hf => hf.elim
          refine loop agree (σ := Nat × Value × List Part × List (Nat × Nat)) (fun s => [(5, pt be 0), (59, .slice sa qs.length sc), (60, .int .i64 qs.length), (61, .int .i64 s.1)])
            (fun s W => s.1 ≤ qs.length ∧ Chg (turnE ms mf bl vl) w W ∧ FitE base lo hi W bs bf bl bm be bt tb ms mf most [v0, rv, v2, v3, v4, v5] rv rs ∧ FitS base W bl ms mf s.2.1 s.2.2.1 s.2.2.2 ∧ FitP rs All most s.2.2.1 s.2.2.2 ∧ PartsE w6.heap.size w7.heap.size W (.slice sa qs.length sc) qs ∧ w7.heap.size ≤ W.heap.size ∧
              (∀ g, s.2.1.ownBlock = some g → vl.ownBlock = some g ∨ w7.heap.size ≤ g) ∧ (∀ x ∈ l, x ∈ s.2.2.2) ∧ (∀ x ∈ s.2.2.2, x ∈ l ∨ x ∈ Rn rs p) ∧ (∀ q ∈ qs.take s.1, ∀ x ∈ Rn rs q, x ∈ s.2.2.2) ∧ (∀ q ∈ s.2.2.1, q ∈ K ++ [p] ∨ (q.todo ≤ p.todo ∧ ∀ x ∈ Rn rs q, x ∈ s.2.2.2))) (fun s => qs.length - s.1) (0, vl, K ++ [p], l)
            ⟨rfl, rfl, rfl, rfl, trivial⟩ ⟨Nat.zero_le _, c07, hE7, hS7, hP1, hvs, Nat.le_refl _, fun g hg => .inl hg, fun x hx => hx, fun x hx => .inl hx, fun q hq => by (cases hq), fun q hq => .inl hq⟩ ?_
          rintro ⟨j, vj, Kj, lj⟩ e0 W ⟨hj, cW, hEW, hSW, hPW, hvW, hzW, hoW, i1, i2, i3, i4⟩
          simp only at hj hSW hPW hoW i1 i2 i3 i4
          refine sp (fun h1 => ?_) (fun h1 => ?_)
          · have h1' : j < qs.length := by
              have h1 : ((j : Nat) : Int) < qs.length := h1
              omega
            have hq := List.getElem?_eq_getElem h1'
            obtain ⟨q, hqd⟩ : ∃ q, q = qs[j] := ⟨_, rfl⟩
            rewrite [← hqd] at hq
            have hqm := List.mem_of_getElem? hq
            have hvW0 := hvW
            obtain ⟨sa', sc', he, -, hsx'⟩ := hvW0
            injection he with he _ _
            subst he
            have hob := hsx' j q hq
            obtain ⟨b, o, rfl, -, -, cs, -, hrd, rfl⟩ := hob
            refine ne ⟨by omega, h1⟩ ?_
            refine ld (v := partA q) agree hrd (by rfl) ?_
            refine nd fun b12 x1 y1 z1 n1 m12 => ?_
            refine st agree m12 (szPart q) (show 0 + (cellsL (partA q)).length ≤ (cellsL ti243.zero).length by rw [cellsPart, partZ]; omega) (show (cellsL (partA q)).all (·.oneCell') = true by rw [cellsPart]; exact onePart _) fun x2 y2 n2 m12 => ?_
            have m12 : Own x2 b12 243 (lay (cellsL ti243.zero) 0 (cellsL (partA q))) := m12
            rewrite [cellsPart, lay_full (partZ q)] at m12
            have kx : Kp W x2 := n1.newS n2 (fun j hj => by subst hj; omega)
            have hEx := hEW.kp kx
            refine ld agree (Own.at_ (xs := [clE bs bf bl bm be bt]) hEx.ce rfl) (by rfl) ?_
            refine ld agree (Own.all m12) (by rfl) ?_
            have htq := hsT q hqm
            have hKj : ∀ q' ∈ Kj, q'.todo ≤ q.todo → ∀ x ∈ Rn rs q', x ∈ lj := fun q' hq' hle x hx => by
              rcases i4 q' hq' with h | ⟨-, h⟩
              · exact i1 x (hK1 q.todo htq q' h hle x hx)
              · exact h x hx
            refine cl callExpand (ih i hik q x2 vj Kj lj htq (by omega) (hsS q hqm) (fun x hx => hall x (hchild q hqm x hx)) hEx (by have := kx.size; have := c07.size; omega) (hSW.kp kx) hPW hKj) ?_
            rintro _ x3 ⟨bb, vl', K', l', rfl, c3x, hS3x, hn3x, hpost⟩
            have hvj : ∀ g, some g = vj.ownBlock → some g = vl.ownBlock ∨ w7.heap.size ≤ g := fun g hg => (hoW g hg.symm).imp Eq.symm id
            have cX : Chg (turnE ms mf bl vl) w x3 := (cW.newT kx fun _ hf => hf.elim).newT c3x fun g hg => by
              rcases hg with h | h | h | h
              · exact .inl (.inl h)
              · exact .inl (.inr (.inl h))
              · exact .inl (.inr (.inr (.inl h)))
              · rcases hvj g h with h5 | h5
                · exact .inl (.inr (.inr (.inr h5)))
                · exact .inr (by have := c07.size; omega)
            have hoX : ∀ g, vl'.ownBlock = some g → vl.ownBlock = some g ∨ w7.heap.size ≤ g := fun g hg => by
              rcases hn3x g hg with h | h
              · exact hoW g h
              · exact .inr (by have := kx.size; omega)
            have i2' : ∀ x ∈ l', (x ∈ lj ∨ x ∈ Rn rs q) → x ∈ l ∨ x ∈ Rn rs p := fun x _ hx => hx.elim (i2 x) fun h => .inr (hchild q hqm x h)
            cases bb with
            | true =>
              rw [if_pos rfl] at hpost
              obtain ⟨hP3, t1, t2, t3, t4⟩ := hpost
              refine aw (by simp only; omega) (by simp only; omega) ?_
              refine again (j + 1, vl', K', l') ⟨rfl, rfl, rfl, rfl, trivial⟩ ⟨by simp only; omega, cX, hEx.chg c3x fun g hg => turn_base (hSW.kp kx).row hg, hS3x, hP3, (hvW.chg kx (fun _ _ _ => id) fun _ _ h => h).chg c3x (fun g g1 g2 hg => ?_) fun _ _ h => h, by have := kx.size; have := c3x.size; omega, hoX, fun x hx => t1 x (i1 x hx), fun x hx => i2' x hx (t3 x hx), fun q' hq' x hx => ?_, fun q' hq' => ?_⟩ (by simp only; omega)
              · have hz6 := c06.size
                rcases hg with h | h | h | h
                · omega
                · omega
                · omega
                · rcases hvj g h with h5 | h5
                  · have := (hvb g h5.symm).2; omega
                  · omega
              · have htk : qs.take (j + 1) = qs.take j ++ [q] := by rw [List.take_succ_eq_append_getElem h1', hqd]
                simp only at hq'
                rw [htk] at hq'
                rcases List.mem_append.1 hq' with h | h
                · exact t1 x (i3 q' h x hx)
                · simp only [List.mem_singleton] at h; subst h; exact t2 x hx
              · rcases t4 q' hq' with h | ⟨h, h'⟩
                · rcases i4 q' h with h2 | ⟨h2, h3⟩
                  · exact .inl h2
                  · exact .inr ⟨h2, fun x hx => t1 x (h3 x hx)⟩
                · exact .inr ⟨by omega, h'⟩
            | false =>
              rw [if_neg (by decide)] at hpost
              obtain ⟨f1, f2, f3, f4⟩ := hpost
              refine ⟨false, vl', K', l', rfl, cX, hS3x, fun g hg => (hoX g hg).imp id fun h => by have := c07.size; omega, ?_⟩
              rw [if_neg (by decide)]
              exact ⟨f1, fun x hx => i2' x hx (f2 x hx), f3, f4⟩
          · have hjl : j = qs.length := by
              have h1 : ¬ ((j : Nat) : Int) < qs.length := h1
              omega
            subst hjl
            rewrite [List.take_length] at i3
            have hnew : ∀ x ∈ Rn rs p, x ∈ lj := fun x hx => by
              have hx : x ∈ Tb.run rs rs.length p := hx
              rw [hRl] at hx
              obtain ⟨q, hq, hx⟩ := List.mem_flatMap.1 hx
              exact i3 q hq x hx
            refine ⟨true, vj, Kj, lj, rfl, cW, hSW, fun g hg => (hoW g hg).imp id fun h => by have := c07.size; omega, ?_⟩
            rw [if_pos rfl]
            refine ⟨hPW, i1, hnew, i2, fun q hq => ?_⟩
            rcases i4 q hq with h | h
            · rcases List.mem_append.1 h with h | h
              · exact .inl h
              · simp only [List.mem_singleton] at h; subst h
                exact .inr ⟨Nat.le_refl _, hnew⟩
            · exact .inr h
end Go.Au

namespace Go.Au
open Go Go.RowKit Go.MapKept
open Go.Maps (Keyed)

/-! ### fits -/
theorem capN_pos (n : Nat) : 0 < capN n := Nat.two_pow_pos _
theorem cap_pos : 0 < cap := capN_pos 16
theorem partZero : cellsL ti243.zero = (setC 0 ++ setC 0) ++ setC 0 := by kernel_rfl
/-- a part as it is built -/
def partX (s : Nat) : Value := .agg (lay (cellsL ti243.zero) 32 (cellsL (setA s))).toArray
theorem partX_eq (s : Nat) : partX s = partA ⟨0, 0, s⟩ := by
  unfold partX
  rw [cellsSetA, partZero]
  have := lay_left [] (setC s) (setC 0) (setC 0 ++ setC 0) (by rw [setC_len, setC_len])
  rw [List.append_nil, List.append_nil] at this
  rw [show (setC 0 ++ setC 0).length = 32 by rw [List.length_append, setC_len]] at this
  rw [this]
  rfl
theorem over_no {rs : List TRow} {s : Nat} {most : Int} {l : List (Nat × Nat)} (hn : l.Nodup) (h : ∀ x, x ∈ l ↔ x ∈ Rn rs ⟨0, 0, s⟩) (hl : (l.length : Int) ≤ most ∨ l = []) : Tb.over most (Tb.fits rs s) = false := by
  rw [← Tb.sortN_fits hn h]
  unfold Tb.over
  rcases hl with hl | hl
  · rw [Tb.sortN_len, decide_eq_false (by omega), Bool.and_false]
  · subst hl
    have : Tb.sortN [] = [] := List.eq_nil_of_length_eq_zero (by rw [Tb.sortN_len]; rfl)
    rw [this]; rfl
theorem over_yes {rs : List TRow} {s : Nat} {most : Int} {l : List (Nat × Nat)} (hn : l.Nodup) (h : ∀ x ∈ l, x ∈ Rn rs ⟨0, 0, s⟩) (h0 : l ≠ []) (hl : most < (l.length : Int)) : Tb.over most (Tb.fits rs s) = true := by
  have hle := nodup_sub hn (r := Tb.fits rs s) fun x hx => Tb.mem_fits.2 (h x hx)
  have hpos : 0 < l.length := List.length_pos_iff.2 h0
  unfold Tb.over
  rw [decide_eq_true (by omega), Bool.and_true]
  cases hf : Tb.fits rs s with
  | nil => rw [hf] at hle; simp only [List.length_nil] at hle; omega
  | cons => rfl
theorem callFits : callable Proofs.Tryz.prog 143 = true := by kernel_rfl
/-- what fits hands back -/
def FitsV (rs : List TRow) (s : Nat) (most : Int) (b : Nat) (w' : World) (r : Value) : Prop :=
  ∃ (ok : Bool) (vl : Value), r = .tuple #[vl, .bool ok] ∧ Tb.over most (Tb.fits rs s) = !ok ∧ (∃ a n c, vl = .slice a n c) ∧
    (ok = true → ∃ l : List (Nat × Nat), w'.ownsRow b 120 32 vl l.length (l.flatMap pairC) ∧ l.Nodup ∧ (∀ x, x ∈ l ↔ x ∈ Rn rs ⟨0, 0, s⟩) ∧ (∀ x ∈ l, x.1 < cap ∧ x.2 < cap) ∧ (l = [] → vl = nilS))
set_option maxHeartbeats 1000000 in
theorem fits_c {w : World} {tb lo hi s : Nat} {most : Int} {v0 rv v2 v3 v4 v5 : Value} {rs : List TRow} (ht : Own w tb 110 [v0, rv, v2, v3, v4, v5]) (hrs : RowsE lo hi w rv rs) (hhi : hi ≤ w.heap.size) (hw : Tb.WfR rs) (hrl : rs.length ≤ 1000) (hs : s < cap) (hsn : s < 2 ^ rs.length)
    (hB : most < 274877906944 ∨ (Rn rs ⟨0, 0, s⟩).length < 274877906944) :
    Calls Proofs.Tryz.prog 143 [pt tb 0, setA s, iV most].toArray w (Ret fun r w' => Kp w w' ∧ FitsV rs s most w.heap.size w' r) := by
  have htl := lt_of_heap ht
  refine call agree Proofs.Tryz.func143 rfl Proofs.Tryz.ntmps143 (by kernel_rfl) ?_
  refine nd fun bt w1 e1 s1 k1 m1 => ?_
  have m1 : Own w1 bt 34 [pt tb 0] := m1
  refine nd fun b4 w2 e2 s2 k2 m2 => ?_
  have m2 : Own w2 b4 118 (setC s) := m2
  refine nd fun bm w3 e3 s3 k3 m3 => ?_
  have m3 : Own w3 bm 3 [iV most] := m3
  refine nd fun ms w4 e4 s4 k4 hms => ?_
  refine nd fun bs w5 e5 s5 k5 m5 => ?_
  refine st agree m5 rfl (Nat.le_refl 1) rfl fun w6 e6 k6 m6 => ?_
  have m6 : Own w6 bs 240 [.map (some ms)] := m6
  refine nd fun mf w7 e7 s7 k7 hmf => ?_
  refine nd fun bf w8 e8 s8 k8 m8 => ?_
  refine st agree m8 rfl (Nat.le_refl 1) rfl fun w9 e9 k9 m9 => ?_
  have m9 : Own w9 bf 192 [.map (some mf)] := m9
  refine nd fun bl wa ea sa ka ma => ?_
  have ma : Own wa bl 108 [nilS] := ma
  refine nd fun be wb eb sb kb mb => ?_
  refine st agree mb rfl (Nat.le_refl 1) rfl fun wc ec kc mc => ?_
  have mc : Own wc be 241 [clE bs bf bl bm be bt] := mc
  have k46 : Kp w4 w6 := k5.newS k6 (fun j hj => by subst hj; omega)
  have k79 : Kp w7 w9 := k8.newS k9 (fun j hj => by subst hj; omega)
  have kac : Kp wa wc := kb.newS kc (fun j hj => by subst hj; omega)
  have k9c : Kp w9 wc := ka.trans kac
  have k6c : Kp w6 wc := (k7.trans k79).trans k9c
  have k4c : Kp w4 wc := k46.trans k6c
  have k3c : Kp w3 wc := k4.trans k4c
  have k0c : Kp w wc := ((k1.trans k2).trans k3).trans k3c
  have hseen : MapE Proofs.Tryz.prog 243 partA iV wc ms (([] : List Part).map fun s => (s, (1 : Int))) := (MapE.made hms partA_inj).chg k4c id
  have hfound : MapE Proofs.Tryz.prog 120 pairA iV wc mf (([] : List (Nat × Nat)).map fun s => (s, (1 : Int))) := (MapE.made hmf pairA_inj).chg (k79.trans k9c) id
  have hE : FitE wc.heap.size lo hi wc bs bf bl bm be bt tb ms mf most [v0, rv, v2, v3, v4, v5] rv rs := by
    refine ⟨k6c.own m6 id, k9c.own m9 id, k3c.own m3 id, mc, ((k2.trans k3).trans k3c).own m1 id, k0c.own ht id, RowE.chg hrs k0c (fun _ _ _ => id) fun _ _ h => h, fun g hg => ?_, ⟨by omega, by omega, by omega, by omega⟩, ⟨by omega, by omega, by omega⟩, ⟨by omega, by omega, by omega⟩⟩
    simp only [List.mem_cons, List.not_mem_nil, or_false] at hg
    rcases hg with rfl | rfl | rfl | rfl | rfl | rfl
    all_goals exact ⟨by omega, by omega, by omega, by omega⟩
  have hS : FitS wc.heap.size wc bl ms mf nilS [] [] := ⟨kac.own ma id, ⟨rfl, .inl ⟨rfl, rfl⟩⟩, hseen, hfound, fun _ => rfl⟩
  have hP : FitP rs (Rn rs ⟨0, 0, s⟩) most [] [] := ⟨List.nodup_nil, fun x hx => (by cases hx), .inr rfl, fun x hx => (by cases hx), fun x hx => (by cases hx)⟩
  refine ld agree (Own.at_ (xs := [clE bs bf bl bm be bt]) mc rfl) (by rfl) ?_
  refine ld agree (Own.all ((k3.trans k3c).own m2 id)) (by rfl) ?_
  have hcall := expand_c (v0 := v0) (v2 := v2) (v3 := v3) (v4 := v4) (v5 := v5) hw hrl hB rs.length ⟨0, 0, s⟩ wc nilS [] [] hsn (Nat.le_refl _) ⟨cap_pos, cap_pos, hs⟩ (fun x hx => hx) hE (Nat.le_refl _) hS hP (fun q hq => by cases hq)
  rewrite [← partX_eq] at hcall
  refine cl callExpand hcall ?_
  rintro _ wd ⟨b, vl, K, l, rfl, cd, hSd, hnd, hpost⟩
  have kd : Kp wc wd ∨ True := .inr trivial
  have k0d : Kp w wd := k0c.newS cd fun g hg => by
    rcases hg with h | h | h | h
    · omega
    · omega
    · omega
    · cases h
  have hrg := row_slice hSd.row
  obtain ⟨va, vc, rfl, -, -⟩ := hrg
  refine ld agree (Own.at_ (xs := [.slice va l.length vc]) hSd.cl rfl) (by rfl) ?_
  refine ⟨k0d, b, _, rfl, ?_, ⟨_, _, _, rfl⟩, fun hb => ?_⟩
  · cases b with
    | true =>
      rw [if_pos rfl] at hpost
      exact over_no hpost.1.nd (fun x => ⟨fun hx => (hpost.2.mem x hx).elim (fun h => by cases h) id, hpost.2.new x⟩) hpost.1.len
    | false =>
      rw [if_neg (by decide)] at hpost
      exact over_yes hpost.nd (fun x hx => (hpost.mem x hx).elim (fun h => by cases h) id) hpost.ne hpost.many
  · subst hb
    rw [if_pos rfl] at hpost
    exact ⟨l, ownsRow_lo hSd.row k0c.size, hpost.1.nd, fun x => ⟨fun hx => (hpost.2.mem x hx).elim (fun h => by cases h) id, hpost.2.new x⟩, hpost.1.cap, hSd.nil⟩
end Go.Au

namespace Go.Au
open Go Go.RowKit Go.Sort Go.Lib Go.Proofs

/-! ### the library's sort, at pairs -/
theorem Own.fst {w : World} {b : Nat} {t : TypeId} {p : Nat × Nat} (h : Own w b t (pairC p)) : w.rangeAt b 0 (setC p.1) := Own.mid (A := []) (B := setC p.2) (by rw [List.nil_append]; exact h) rfl
theorem Own.snd {w : World} {b : Nat} {t : TypeId} {p : Nat × Nat} (h : Own w b t (pairC p)) : w.rangeAt b 16 (setC p.2) := Own.mid (A := setC p.1) (B := []) (by rw [List.append_nil]; exact h) (by rw [setC_len])
def ordN (a b : Nat × Nat) : Int := Fm.orI (Fm.sgn3 a.1 b.1) (Fm.sgn3 a.2 b.2)
theorem ordN_lt {a b : Nat × Nat} : ordN a b < 0 ↔ Tb.ltN a b = true := by
  rw [Tb.ltN_iff]
  unfold ordN Fm.orI
  split
  · rename_i h
    rw [Fm.sgn3_eq] at h
    rw [Fm.sgn3_lt]
    omega
  · rename_i h
    rw [Fm.sgn3_lt]
    have : ¬ a.1 = b.1 := fun h2 => h (Fm.sgn3_eq.2 h2)
    omega
theorem callOrdN : callable Proofs.Tryz.prog 139 = true := by kernel_rfl
theorem ordN_c (w : World) {a b : Nat × Nat} (ha : a.1 < cap ∧ a.2 < cap) (hb : b.1 < cap ∧ b.2 < cap) :
    Calls Proofs.Tryz.prog 139 [pairA a, pairA b].toArray w (Ret fun r w' => r = .int .i64 (ordN a b) ∧ Kp w w') := by
  refine call agree Proofs.Tryz.func139 rfl Proofs.Tryz.ntmps139 (by kernel_rfl) ?_
  refine nd fun p w1 e1 s1 k1 m1 => ?_
  refine nd fun q w2 e2 s2 k2 m2 => ?_
  have A : ∀ W, Kp w2 W → Own W p 120 (pairC a) := fun W h => h.heap (k2.heap m1 id) id
  have B : ∀ W, Kp w2 W → Own W q 120 (pairC b) := fun W h => h.heap m2 id
  refine drawn0 agree mixed 13 (by kernel_rfl) (fun _ => False) ?_
  conv => whnf
  refine ldk (v := setA a.1) agree rfl rfl (fun W h _ => Own.fst (A W h)) (by rfl) fun _ => ?_
  conv => whnf
  refine ldk (v := setA b.1) agree rfl rfl (fun W h _ => Own.fst (B W h)) (by rfl) fun _ => ?_
  conv => whnf
  refine callk rfl rfl rfl callCompS (fun W _ _ => compS_c W ha.1 hb.1) fun _ => ?_
  conv => whnf
  refine ldk (v := setA a.2) agree rfl rfl (fun W h _ => Own.snd (A W h)) (by rfl) fun _ => ?_
  conv => whnf
  refine ldk (v := setA b.2) agree rfl rfl (fun W h _ => Own.snd (B W h)) (by rfl) fun _ => ?_
  conv => whnf
  refine callk rfl rfl rfl callCompS (fun W _ _ => compS_c W ha.2 hb.2) fun _ => ?_
  conv => whnf
  refine bsk rfl rfl rfl rfl (by rfl) (by decide) fun q' D hD => ?_
  conv => whnf
  refine callk rfl rfl rfl callOr (fun W h1 h2 => or_c (xs := [Fm.sgn3 a.1 b.1, Fm.sgn3 a.2 b.2]) (lo := q') (hi := q' + 1) (row1 (hD W (h2 10 (by kernel_rfl))).1 rfl rfl (by decide) (by omega) (by omega)) (by simp)) fun D2 => ?_
  conv => whnf
  intro W hW _
  rw [firstOf2]
  exact ⟨rfl, k1.trans (k2.trans hW)⟩
abbrev NdIn : Type := { p : Nat × Nat // p.1 < cap ∧ p.2 < cap }
instance : Inhabited NdIn := ⟨⟨(0, 0), cap_pos, cap_pos⟩⟩
theorem ordNLt (x y : NdIn) : ltOf (fun x y : NdIn => ordN x.1 y.1) x y = Tb.ltN x.1 y.1 := by
  show decide (ordN x.1 y.1 < 0) = _
  cases h : Tb.ltN x.1 y.1 with
  | true => exact decide_eq_true (ordN_lt.2 h)
  | false => exact decide_eq_false fun h2 => by rw [ordN_lt.1 h2] at h; cases h
theorem ordN_swo : SWO (ltOf (fun x y : NdIn => ordN x.1 y.1)) where
  irrefl x := by rw [ordNLt, Tb.ltN_irr]
  trans x y z h1 h2 := by
    rw [ordNLt] at *
    exact Tb.ltN_trans h1 h2
  ntrans x y z h1 h2 := by
    rw [ordNLt] at *
    rw [← Bool.not_eq_true, Tb.ltN_iff] at *
    omega
theorem callSortN : callable Proofs.Tryz.prog 138 = true := by kernel_rfl
theorem sortN_c {base : Nat} {w : World} {v : Value} {L : List (Nat × Nat)} (h : w.ownsRow base 120 32 v L.length (L.flatMap pairC)) (hl : L.length < 4611686018427387904) (hn : L.Nodup) (hk : ∀ p ∈ L, p.1 < cap ∧ p.2 < cap) :
    Calls Proofs.Tryz.prog 138 [v, .func (.func 139) #[] #[]].toArray w (Ret fun _ w' => Chg (fun j => some j = v.ownBlock) w w' ∧ w'.ownsRow base 120 32 v L.length ((Tb.sortN L).flatMap pairC)) := by
  have h' := h
  rcases h'.2 with ⟨rfl, h0⟩ | ⟨g, cap', cur, rfl, hg0, h2, -⟩
  · have hx : L = [] := List.eq_nil_of_length_eq_zero h0
    subst hx
    have hc := AnyF.slices_SortFunc_none Proofs.Tryz.sortPairs none 0 (.func (.func 139) #[] #[]) w
    refine Calls.mono hc fun e w' ⟨he, hw⟩ => ?_
    subst he hw
    have : Tb.sortN [] = [] := List.eq_nil_of_length_eq_zero (by rw [Tb.sortN_len]; rfl)
    exact ⟨Chg.refl _ _, by rw [this]; exact h⟩
  · obtain ⟨xs, hxs⟩ : ∃ xs : List NdIn, xs.map (·.1) = L := sub_list hk
    have hfl : L.flatMap pairC = xs.flatMap (fun x => pairC x.1) := by rw [← hxs, List.flatMap_map]
    have hln : L.length = xs.length := by rw [← hxs, List.length_map]
    rw [hfl, hln] at h
    rw [hln]
    have hk4 : ∀ x : NdIn, (pairC x.1).length = 32 := fun x => pairC_len x.1
    have hf : flatK (fun x : NdIn => pairC x.1) 32 xs.toArray = (xs.flatMap fun x => pairC x.1).toArray := by
      apply Array.toList_inj.1
      rw [flatK_list hk4]
    have hH : HoldsK (fun x : NdIn => pairC x.1) 32 w g 0 xs.toArray := by
      unfold HoldsK
      rw [hf]
      exact row_holds h
    have eg : ∀ args w, (callFunc 139 args).run Proofs.Tryz.prog w = .ok (.enter 139 args) w := fun args w => run_callFunc callOrdN args w
    have hlay : CmpLays Proofs.Tryz.prog 139 #[] (fun x : NdIn => pairC x.1) 32 (fun x y => ordN x.1 y.1) g 0 xs.toArray.size w := fun m os dk hdk x y => by
      refine Calls.mono (ordN_c _ x.2 y.2) fun e w' he => ?_
      cases e with
      | returned v =>
        obtain ⟨rfl, k⟩ := he
        exact ⟨rfl, kp_grow k⟩
      | _ => exact he.elim
    have hc := AnyQ.slices_SortFunc Proofs.Tryz.sortPairs 32 Proofs.Tryz.isAgg120 Proofs.Tryz.sizeOf120 (fun x : NdIn => pairC x.1) hk4 (fun x u hu => List.all_eq_true.1 (onePair x.1) u hu) (fun x y => ordN x.1 y.1) ordN_swo 139 #[] g 0 cap' xs.toArray w eg hlay hH (lt_of_heap h2) (by simpa using (hln ▸ hl))
    refine Calls.mono hc fun e w' ⟨he, d', m, os, hP, hS, hw⟩ => ?_
    subst he
    have hds : d'.size = xs.length := by simpa using hP.1
    have hs := sort_world h (flatK (fun x : NdIn => pairC x.1) 32 d') (by
        have := congrArg List.length (flatK_list hk4 d')
        rw [flat_len hk4, Array.length_toList, Array.length_toList, hds] at this
        rw [this]) m os
    have hw : w' = grow (putRow id (Sort.ahead w m) g 0 (flatK (fun x : NdIn => pairC x.1) 32 d')) os := hw
    rw [← hw] at hs
    refine ⟨hs.1.mono fun j hj => by subst hj; rfl, ?_⟩
    have hperm : (d'.toList.map (·.1)).Perm L := by
      have hp := hP.2.2
      rw [show xs.toArray.size = xs.length by simp] at hp
      have e1 : d'.extract 0 xs.length = d' := by rw [← hds]; simp
      have e2 : xs.toArray.extract 0 xs.length = xs.toArray := by simp
      rw [e1, e2] at hp
      have := hp.map (·.1)
      rw [← hxs]
      simpa using this
    have hsort : Tb.SortedN (d'.toList.map (·.1)) := by
      have hnd : (d'.toList.map (·.1)).Nodup := hperm.nodup_iff.2 hn
      have hpw : (d'.toList.map (·.1)).Pairwise fun a b => Tb.ltN b a = false := by
        rw [List.pairwise_map, List.pairwise_iff_getElem]
        intro i j hi hj hij
        have hi' : i < d'.size := by simpa using hi
        have hj' : j < d'.size := by simpa using hj
        have := hS i j (Nat.zero_le _) hij (by simpa [hds] using hj')
        rw [getElem!_pos d' i hi', getElem!_pos d' j hj', ordNLt] at this
        simpa using this
      exact (hpw.and hnd).imp fun {a b} h => Tb.ltN_or h.1 (Ne.symm h.2)
    have heq : d'.toList.map (·.1) = Tb.sortN L := Tb.sortedN_eq hsort (Tb.sortN_sorted hn) fun x => by rw [Tb.sortN_mem]; exact hperm.mem_iff
    have h4 := hs.2
    rw [flatK_list hk4] at h4
    rw [← heq, List.flatMap_map]
    exact h4
end Go.Au

namespace Go.Au
open Go Go.RowKit Go.MapKept
open Go.Maps (Keyed)
open Fm (idx)

/-! ### add -/
theorem asvPair (p : Nat × Nat) : asV G 120 (pairC p) = some (pairA p) := by
  unfold asV
  rw [show look G 120 = some ti120 from rfl]
  show cond (Nat.beq (pairC p).length 32) (some (pairA p)) none = _
  rw [pairC_len]
  rfl
def numE : Nat → List (Nat × Nat) → List ((Nat × Nat) × Int)
  | _, [] => []
  | i, p :: r => (p, (i : Int)) :: numE (i + 1) r
theorem numE_snoc (p : Nat × Nat) : ∀ (l : List (Nat × Nat)) (i : Nat), numE i (l ++ [p]) = numE i l ++ [(p, ((i + l.length : Nat) : Int))]
  | [], i => rfl
  | a :: r, i => by
    simp only [List.cons_append, numE, numE_snoc p r (i + 1), List.length_cons]
    rw [show i + 1 + r.length = i + (r.length + 1) by omega]
theorem numE_keys : ∀ (l : List (Nat × Nat)) (i : Nat), (numE i l).map (·.1) = l
  | [], _ => rfl
  | a :: r, i => by simp only [numE, List.map_cons, numE_keys r (i + 1)]
theorem numE_look {p : Nat × Nat} : ∀ (l : List (Nat × Nat)) (i : Nat), alook (numE i l) p = if idx l p < 0 then none else some (i + idx l p)
  | [], i => by simp [numE, alook, idx]
  | a :: r, i => by
    simp only [numE, alook]
    by_cases h : a = p
    · have e : idx (a :: r) p = 0 := by simp only [idx]; rw [if_pos h]
      rw [if_pos h, e]; simp
    · have e : idx (a :: r) p = if idx r p < 0 then -1 else idx r p + 1 := by simp only [idx]; rw [if_neg h]
      rw [if_neg h, e, numE_look r (i + 1)]
      rcases Fm.idx_range (x := p) r with ⟨h1, -⟩ | ⟨j, h1, -, -⟩
      · rw [h1]; simp
      · rw [h1]
        have h2 : ¬ (j : Int) < 0 := by omega
        have h3 : ¬ (j : Int) + 1 < 0 := by omega
        simp only [if_neg h2, if_neg h3]
        congr 1
        omega
structure GrowS (base : Nat) (w : World) (bn bt tb mn : Nat) (v0 rv v2 v4 v5 nv : Value) (nodes : List (Nat × Nat)) : Prop where
  cn : Own w bn 192 [.map (some mn)]
  ct : Own w bt 34 [pt tb 0]
  tbl : Own w tb 110 [v0, rv, v2, nv, v4, v5]
  row : w.ownsRow base 120 32 nv nodes.length (nodes.flatMap pairC)
  num : MapE Proofs.Tryz.prog 120 pairA iV w mn (numE 0 nodes)
  ne : bn ≠ tb ∧ bt ≠ tb ∧ bn ≠ mn ∧ bt ≠ mn ∧ tb ≠ mn
  lt : bn < base ∧ bt < base ∧ tb < base ∧ mn < base
variable {base bn bt tb mn : Nat} {v0 rv v2 v4 v5 nv : Value} {nodes : List (Nat × Nat)} {w w' : World}
theorem GrowS.chg {S : Nat → Prop} (h : GrowS base w bn bt tb mn v0 rv v2 v4 v5 nv nodes) (hc : Chg S w w') (h1 : ¬ S bn) (h2 : ¬ S bt) (h3 : ¬ S tb) (h4 : ¬ S mn) (h5 : ∀ g, nv.ownBlock = some g → ¬ S g) : GrowS base w' bn bt tb mn v0 rv v2 v4 v5 nv nodes :=
  ⟨hc.own h.cn h1, hc.own h.ct h2, hc.own h.tbl h3, ownsRow_chg h.row hc h5, h.num.chg hc h4, h.ne, h.lt⟩
theorem GrowS.kp (h : GrowS base w bn bt tb mn v0 rv v2 v4 v5 nv nodes) (hc : Kp w w') : GrowS base w' bn bt tb mn v0 rv v2 v4 v5 nv nodes := h.chg hc id id id id fun _ _ => id
theorem callAdd : callable Proofs.Tryz.prog 137 = true := by kernel_rfl
/-- what add turns: ne: it has something to add -/
def turnA (ne : Prop) (tb mn : Nat) (nv lv : Value) (g : Nat) : Prop := (ne ∧ (g = mn ∨ g = tb ∨ some g = nv.ownBlock)) ∨ some g = lv.ownBlock
set_option maxHeartbeats 2000000 in
theorem add_c {lv : Value} {l : List (Nat × Nat)} {lb : Nat} (hG : GrowS base w bn bt tb mn v0 rv v2 v4 v5 nv nodes) (hbz : base ≤ w.heap.size) (hl : w.ownsRow lb 120 32 lv l.length (l.flatMap pairC)) (hlb : base ≤ lb) (hne : ∀ g, lv.ownBlock = some g → nv.ownBlock ≠ some g) (hn : l.Nodup) (hc : ∀ p ∈ l, p.1 < cap ∧ p.2 < cap) (hnd : nodes.Nodup)
    (hz : nodes.length + l.length < 274877906944) :
    Calls Proofs.Tryz.prog 137 [lv, pt bn 0, pt bt 0].toArray w (Ret fun r w' => ∃ nv', Chg (turnA (0 < l.length) tb mn nv lv) w w' ∧ GrowS base w' bn bt tb mn v0 rv v2 v4 v5 nv' (Tb.addN nodes (Tb.sortN l)).1 ∧ (∀ g, nv'.ownBlock = some g → nv.ownBlock = some g ∨ w.heap.size ≤ g) ∧
      w'.ownsRow w.heap.size 3 1 r (Tb.addN nodes (Tb.sortN l)).2.length (((Tb.isort (Tb.addN nodes (Tb.sortN l)).2).map fun (n : Nat) => (n : Int)).flatMap fN1)) := by
  have hlg : ∀ g, lv.ownBlock = some g → lb ≤ g ∧ g < w.heap.size := fun g hg => by
    have hrg := row_slice hl
    obtain ⟨a, c, -, -, hb⟩ := hrg
    exact hb g hg
  have hng : ∀ g, nv.ownBlock = some g → base ≤ g ∧ g < w.heap.size := fun g hg => by
    have hrg := row_slice hG.row
    obtain ⟨a, c, -, -, hb⟩ := hrg
    exact hb g hg
  have hlt := hG.lt
  have hrl := row_slice hl
  obtain ⟨la, lc, rfl, -, -⟩ := hrl
  refine call agree Proofs.Tryz.func137 rfl Proofs.Tryz.ntmps137 (by kernel_rfl) ?_
  refine cl callSortN (sortN_c hl (by omega) hn hc) ?_
  rintro _ w1 ⟨c1, hl1⟩
  have hG1 := hG.chg c1 (fun h => by have := (hlg _ h.symm).1; omega) (fun h => by have := (hlg _ h.symm).1; omega) (fun h => by have := (hlg _ h.symm).1; omega) (fun h => by have := (hlg _ h.symm).1; omega) fun g hg h => hne g h.symm hg
  have hsl : (Tb.sortN l).length = l.length := Tb.sortN_len l
  have hsm : ∀ p ∈ Tb.sortN l, p.1 < cap ∧ p.2 < cap := fun p hp => hc p (Tb.sortN_mem.1 hp)
  obtain ⟨L, hL⟩ : ∃ L, L = Tb.sortN l := ⟨_, rfl⟩
  rewrite [← hL] at hl1 hsm hsl ⊢
  have hrow := ownsRow_row (f := pairC) pairC_len hl1 (by decide)
  obtain ⟨la', lc', he, -, hLx⟩ := hrow
  rewrite [hsl] at he
  injection he with he _ _
  subst he
  have hLn : L.Nodup := by rw [hL]; exact Tb.sortedN_nodup (Tb.sortN_sorted hn)
  refine loop agree (σ := Nat × Value × List (Nat × Nat) × Value × List Nat) (fun s => [(1, pt bn 0), (2, pt bt 0), (5, s.2.2.2.1), (12, .slice la l.length lc), (13, .int .i64 l.length), (14, .int .i64 s.1)])
    (fun s W => s.1 ≤ l.length ∧ Chg (turnA (0 < l.length) tb mn nv (.slice la l.length lc)) w W ∧ GrowS base W bn bt tb mn v0 rv v2 v4 v5 s.2.1 s.2.2.1 ∧ (s.2.2.1, s.2.2.2.2) = (L.take s.1).foldl Tb.add1 (nodes, []) ∧ (∀ g, s.2.1.ownBlock = some g → nv.ownBlock = some g ∨ w1.heap.size ≤ g) ∧
      W.ownsRow w1.heap.size 3 1 s.2.2.2.1 s.2.2.2.2.length ((s.2.2.2.2.map fun (n : Nat) => (n : Int)).flatMap fN1) ∧ w1.heap.size ≤ W.heap.size ∧ (∀ g, some g = (Value.slice la l.length lc).ownBlock → W.heap[g]? = w1.heap[g]?)) (fun s => l.length - s.1) (0, nv, nodes, nilS, [])
    ⟨rfl, rfl, rfl, rfl, rfl, rfl, trivial⟩ ⟨Nat.zero_le _, c1.mono fun g hg => .inr hg, hG1, rfl, fun g hg => .inl hg, ⟨rfl, .inl ⟨rfl, rfl⟩⟩, Nat.le_refl _, fun g hg => rfl⟩ ?_
  rintro ⟨j, nvj, nj, ov, out⟩ e0 W ⟨hj, cW, hGW, hst, hnvj, hov, hzW, hlW⟩
  simp only at hj hGW hst hnvj hov
  have hz1 := c1.size
  have hsp := Tb.addF_spec (L.take j) (nodes, []) hnd
  rewrite [← hst] at hsp
  obtain ⟨hjnd, hjpre, hjm, hjl⟩ := hsp
  simp only at hjnd hjpre hjm hjl
  have hjb := Tb.addF_length (L.take j) (nodes, [])
  rewrite [← hst] at hjb
  simp only [List.length_take, List.length_nil] at hjb hjl
  refine sp (fun h1 => ?_) (fun h1 => ?_)
  · have h1' : j < l.length := by
      have h1 : ((j : Nat) : Int) < l.length := h1
      omega
    have hjL : j < L.length := by omega
    have hp := List.getElem?_eq_getElem hjL
    have htk : L.take (j + 1) = L.take j ++ [L[j]] := List.take_succ_eq_append_getElem hjL
    obtain ⟨p, hpd⟩ : ∃ p, p = L[j] := ⟨_, rfl⟩
    rewrite [← hpd] at hp htk
    have hpm := hsm p (List.mem_of_getElem? hp)
    have hob := hLx j p hp
    obtain ⟨b, o, rfl, -, -, cs, -, hrd, rfl⟩ := hob
    have hgl : (Value.slice (some ⟨b, o, none⟩) l.length lc).ownBlock = some b := rfl
    have hrdW : W.rangeAt b (o + j * 32) (pairC p) := rangeAt_congr (hlW b hgl.symm) hrd
    refine ne ⟨by simp only; omega, h1⟩ ?_
    refine ld (v := pairA p) agree (by simp only [Int.toNat_natCast]; exact hrdW) (asvPair p) ?_
    refine nd fun b7 x1 y1 z1 n1 m7a => ?_
    refine st agree m7a (szPair p) (show 0 + (cellsL (pairA p)).length ≤ (cellsL ti120.zero).length by rw [cellsPair, pairZ]; omega) (show (cellsL (pairA p)).all (·.oneCell') = true by rw [cellsPair]; exact onePair _) fun x2 y2 n2 m7b => ?_
    have m7c : Own x2 b7 120 (lay (cellsL ti120.zero) 0 (cellsL (pairA p))) := m7b
    rewrite [cellsPair, lay_full (pairZ p)] at m7c
    have m7 := m7c
    clear m7a m7b m7c
    have kx : Kp W x2 := n1.newS n2 (fun j hj => by subst hj; omega)
    have hb7e : W.heap.size = b7 := y1
    have hGx := hGW.kp kx
    have hovx := ownsRow_chg hov kx fun _ _ => id
    refine ld agree (Own.at_ (xs := [.map (some mn)]) hGx.cn rfl) (by rfl) ?_
    refine ld agree (Own.all m7) (asvPair p) ?_
    have hlk := MapE.lookup agree pairKeyed (t := 192) rfl rfl rfl hGx.num p (pairKey hpm.1 hpm.2) true
    rewrite [numE_look] at hlk
    by_cases hix : idx nj p < 0
    · rewrite [if_pos hix] at hlk
      refine lk hlk ?_
      have hpn : p ∉ nj := Fm.idx_neg.1 hix
      have hrg := row_slice hGW.row
      obtain ⟨na, nc, rfl, -, hnb⟩ := hrg
      have hb7W : W.heap.size ≤ b7 := by omega
      refine ld agree (Own.at_ (xs := [pt tb 0]) hGx.ct rfl) (by rfl) ?_
      refine ld agree (Own.at_ (xs := [.slice na nj.length nc]) hGx.tbl rfl) (by rfl) ?_
      refine ld agree (Own.at_ (xs := [.map (some mn)]) hGx.cn rfl) (by rfl) ?_
      refine ld agree (Own.all m7) (asvPair p) ?_
      refine mu (MapE.update agree pairKeyed (t := 192) rfl rfl hGx.num p (nj.length : Int) (pairKey hpm.1 hpm.2)) ?_
      rintro x3 ⟨hm3, z3, c3⟩
      rewrite [aput_new (fun q hq he => hpn (by rw [← numE_keys nj 0, ← he]; exact List.mem_map.2 ⟨q, hq, rfl⟩))] at hm3
      have hb7 : b7 ≠ mn ∧ b7 ≠ tb ∧ b7 ≠ bn ∧ b7 ≠ bt ∧ base ≤ b7 := by have := kx.size; omega
      have m7 := c3.own m7 hb7.1
      have hct := c3.own hGx.ct hG.ne.2.2.2.1
      have hcn := c3.own hGx.cn hG.ne.2.2.1
      have htb := c3.own hGx.tbl hG.ne.2.2.2.2
      have hrow3 := ownsRow_chg hGx.row c3 fun g hg => by have := (hnb g hg).1; omega
      have hov3 := ownsRow_chg hovx c3 fun g hg h => by
        have := ownsRow_base hovx hg
        omega
      have hnb4 : ∀ j, some j = (Value.slice na nj.length nc).ownBlock → base ≤ j ∧ j < W.heap.size := fun j hj => hnb j hj.symm
      have hne_bt : some bt ≠ (Value.slice na nj.length nc).ownBlock := fun h => by have := hnb4 _ h; omega
      have hne_tb : some tb ≠ (Value.slice na nj.length nc).ownBlock := fun h => by have := hnb4 _ h; omega
      have hne_b7 : some b7 ≠ (Value.slice na nj.length nc).ownBlock := fun h => by have := hnb4 _ h; omega
      have hpre := preAppR x3 (.slice na nj.length nc) (nj.length * 32) (pairC p)
      refine drawnR agree mixed 10 (by kernel_rfl) _ hpre ?_
      conv => whnf
      refine ldr hpre agree rfl rfl (fun V h _ => h.chg.range (Own.at_ (xs := [pt tb 0]) (o := 0) hct rfl) hne_bt) (by rfl) fun _ => ?_
      conv => whnf
      refine ldr hpre agree rfl rfl (fun V h _ => h.chg.range (Own.at_ (xs := [pt tb 0]) (o := 0) hct rfl) hne_bt) (by rfl) fun _ => ?_
      conv => whnf
      refine ldr hpre agree rfl rfl (fun V h _ => h.chg.range (Own.at_ (xs := [.slice na nj.length nc]) (o := 3) htb rfl) hne_tb) (by rfl) fun _ => ?_
      conv => whnf
      refine ldr (v := pairA p) hpre agree rfl rfl (fun V h _ => h.chg.range (Own.all m7) hne_b7) (asvPair p) fun _ => ?_
      conv => whnf
      refine bsr hpre rfl rfl rfl rfl (by rfl) (by decide) (fun b o V V' hb ho hS => hS.chg.heap ho fun hc => by have := hnb4 _ hc; have := kx.size; omega) (fun V hS => hS.chg.size) fun bq D hD => ?_
      conv => whnf
      have hq : ∀ V, D V → Own V bq 120 (pairC p) := fun V hV => by
        have hq1 : Own V bq 120 (lay (rep (cellsL ti120.zero) 1) 0 (cellsL (pairA p))) := (hD V hV).1
        rw [cellsPair, lay_rep1 (pairZ _)] at hq1
        exact hq1
      refine apr (m := 1) (size := 32) (news := pairC p) agree rfl rfl rfl rfl rfl rfl rfl (by decide) hrow3 (by rw [pairC_len]) (fun V hS hDn => Own.all (hq V (hDn 6 (by kernel_rfl)))) (onePair _) (by simp only [maxLen]; omega) (by show (_ + 1) * 256 ≤ _; omega) (by have := kx.size; omega) fun nv' D2 hD2 => ?_
      conv => whnf
      intro x4 hS4 hd4
      have hD4 := hD2 x4 (hd4 7)
      obtain ⟨hrow4, hnew4⟩ := hD4
      have htb4 := hS4.chg.own htb hne_tb
      have hct4 := hS4.chg.own hct hne_bt
      have hcn4 := hS4.chg.own hcn fun hh => by have := hnb4 _ hh; omega
      have hm4 := hm3.chg hS4.chg fun hh => by have := hnb4 _ hh; omega
      have hov4 := ownsRow_chg hov3 hS4.chg fun g hg hh => rows_sep2 hov3 hrow3 (by decide) g hg hh.symm
      have hrg := row_slice hrow4
      obtain ⟨ua, uc, rfl, -, hub⟩ := hrg
      refine st agree htb4 rfl (by show (3 : Nat) + 1 ≤ 6; decide) rfl fun x5 e5 k5 m5 => ?_
      have m5 : Own x5 tb 110 [v0, rv, v2, .slice ua (nj.length + 1) uc, v4, v5] := m5
      have hG5 : GrowS base x5 bn bt tb mn v0 rv v2 v4 v5 (.slice ua (nj.length + 1) uc) (nj ++ [p]) := by
        refine ⟨k5.own hcn4 hG.ne.1, k5.own hct4 hG.ne.2.1, m5, ?_, ?_, hG.ne, hG.lt⟩
        · rw [List.length_append, List.flatMap_append]
          have := ownsRow_chg hrow4 k5 fun g hg => by have := (hub g hg).1; omega
          simpa using this
        · rw [numE_snoc, Nat.zero_add]
          exact hm4.chg k5 (Ne.symm hG.ne.2.2.2.2)
      have hov5 := ownsRow_chg hov4 k5 fun g hg h => by have := ownsRow_base hov4 hg; omega
      have cX : Chg (fun g => g = mn ∨ g = tb ∨ some g = (Value.slice na nj.length nc).ownBlock) x2 x5 := ((c3.mono fun g hg => .inl hg).trans (hS4.chg.mono fun g hg => .inr (.inr hg))).trans (k5.mono fun g hg => .inr (.inl hg))
      have cW5 : Chg (turnA (0 < l.length) tb mn nv (.slice (some ⟨b, o, none⟩) l.length lc)) w x5 := (cW.newT kx fun _ hf => hf.elim).newT cX fun g hg => by
        rcases hg with h | h | h
        · exact .inl (.inl ⟨by omega, .inl h⟩)
        · exact .inl (.inl ⟨by omega, .inr (.inl h)⟩)
        · rcases hnvj g h.symm with h5 | h5
          · exact .inl (.inl ⟨by omega, .inr (.inr h5.symm)⟩)
          · exact .inr (by omega)
      have hnv5 : ∀ g, (Value.slice ua (nj.length + 1) uc).ownBlock = some g → nv.ownBlock = some g ∨ w1.heap.size ≤ g := fun g hg => (hnew4 g hg).elim (hnvj g) fun h => .inr (by have := kx.size; omega)
      have hz5 : x2.heap.size ≤ x5.heap.size := cX.size
      have lW5 : ∀ g, some g = (Value.slice (some ⟨b, o, none⟩) l.length lc).ownBlock → x5.heap[g]? = w1.heap[g]? := fun g hg => by
        have hgb := hlg g hg.symm
        refine (cX.block g (by have := kx.size; omega) fun hh => ?_).trans ((kx.block g (by omega) id).trans (hlW g hg))
        rcases hh with h | h | h
        · omega
        · omega
        · rcases hnvj g h.symm with h5 | h5
          · exact hne g hg.symm h5
          · omega
      refine ne (by decide) ?_
      refine nd fun bo q1 f1 g1 r1 mo => ?_
      have mo : Own q1 bo 3 [.int .i64 (nj.length : Int)] := mo
      have hrg := row_slice hov5
      obtain ⟨oa, oc, rfl, -, hob2⟩ := hrg
      refine apP (m := 1) (news := [.int .i64 (nj.length : Int)]) agree rfl rfl rfl rfl rfl rfl rfl (by decide) (ownsRow_chg hov5 r1 fun _ _ => id) rfl (Own.at_ (o := 0) mo rfl) rfl (by simp only [maxLen]; omega) (by show (_ + 1) * 8 ≤ _; omega) (by have := cX.size; have := r1.size; omega) fun ov' q2 hrow2 hc2 hnew2 _ => ?_
      refine aw (by simp only; omega) (by simp only; omega) ?_
      have hob3 : ∀ j, some j = (Value.slice oa out.length oc).ownBlock → w1.heap.size ≤ j := fun j hj => (hob2 j hj.symm).1
      have cY : Chg (turnA (0 < l.length) tb mn nv (.slice (some ⟨b, o, none⟩) l.length lc)) w q2 := (cW5.newT r1 fun _ hf => hf.elim).newT hc2 fun g hg => .inr (by have := hob3 g hg; omega)
      refine again (j + 1, Value.slice ua (nj.length + 1) uc, nj ++ [p], ov', out ++ [nj.length]) ⟨rfl, rfl, rfl, rfl, rfl, rfl, trivial⟩ ⟨by simp only; omega, cY, (hG5.kp r1).chg hc2 (fun h => by have := hob3 _ h; omega) (fun h => by have := hob3 _ h; omega) (fun h => by have := hob3 _ h; omega) (fun h => by have := hob3 _ h; omega) (fun g hg h => ?_), ?_, hnv5, ?_, ?_, fun g hg => ?_⟩ (by simp only; omega)
      · exact rows_sep2 (ownsRow_chg hov5 r1 fun _ _ => id) (hG5.kp r1).row (by decide) g h.symm hg
      · simp only
        rw [htk, List.foldl_append, ← hst]
        simp only [List.foldl_cons, List.foldl_nil]
        unfold Tb.add1
        rw [if_pos hix]
      · rw [List.length_append, List.map_append, List.flatMap_append]
        exact hrow2
      · skip
        have := cX.size
        have := r1.size
        have := hc2.size
        omega
      · have hbl : g < w1.heap.size := by
          have := (hlg g hg.symm).2
          omega
        exact (hc2.block g (by have := cX.size; have := r1.size; omega) fun hh => by have := hob3 g hh; omega).trans ((r1.block g (by have := cX.size; omega) id).trans (lW5 g hg))

    · rewrite [if_neg hix] at hlk
      refine lk hlk ?_
      obtain ⟨ii, hii, hpi⟩ := Fm.idx_mem (Classical.byContradiction fun hh => hix (Fm.idx_neg.2 hh) : p ∈ nj)
      have hiil := (List.getElem?_eq_some_iff.1 hpi).1
      rewrite [hii, show ((0 : Nat) : Int) + (ii : Int) = (ii : Int) by omega]
      have cW5 : Chg (turnA (0 < l.length) tb mn nv (.slice (some ⟨b, o, none⟩) l.length lc)) w x2 := cW.newT kx fun _ hf => hf.elim
      have lW5 : ∀ g, some g = (Value.slice (some ⟨b, o, none⟩) l.length lc).ownBlock → x2.heap[g]? = w1.heap[g]? := fun g hg => (kx.block g (by have := hlg g hg.symm; omega) id).trans (hlW g hg)
      refine ne (by decide) ?_
      refine nd fun bo q1 f1 g1 r1 mo => ?_
      have mo : Own q1 bo 3 [.int .i64 (ii : Int)] := mo
      have hrg := row_slice hovx
      obtain ⟨oa, oc, rfl, -, hob2⟩ := hrg
      refine apP (m := 1) (news := [.int .i64 (ii : Int)]) agree rfl rfl rfl rfl rfl rfl rfl (by decide) (ownsRow_chg hovx r1 fun _ _ => id) rfl (Own.at_ (o := 0) mo rfl) rfl (by simp only [maxLen]; omega) (by show (_ + 1) * 8 ≤ _; omega) (by have := kx.size; have := r1.size; omega) fun ov' q2 hrow2 hc2 hnew2 _ => ?_
      refine aw (by simp only; omega) (by simp only; omega) ?_
      have hob3 : ∀ j, some j = (Value.slice oa out.length oc).ownBlock → w1.heap.size ≤ j := fun j hj => (hob2 j hj.symm).1
      have cY : Chg (turnA (0 < l.length) tb mn nv (.slice (some ⟨b, o, none⟩) l.length lc)) w q2 := (cW5.newT r1 fun _ hf => hf.elim).newT hc2 fun g hg => .inr (by have := hob3 g hg; omega)
      refine again (j + 1, nvj, nj, ov', out ++ [ii]) ⟨rfl, rfl, rfl, rfl, rfl, rfl, trivial⟩ ⟨by simp only; omega, cY, (hGx.kp r1).chg hc2 (fun h => by have := hob3 _ h; omega) (fun h => by have := hob3 _ h; omega) (fun h => by have := hob3 _ h; omega) (fun h => by have := hob3 _ h; omega) (fun g hg h => ?_), ?_, hnvj, ?_, ?_, fun g hg => ?_⟩ (by simp only; omega)
      · exact rows_sep2 (ownsRow_chg hovx r1 fun _ _ => id) (hGx.kp r1).row (by decide) g h.symm hg
      · simp only
        rw [htk, List.foldl_append, ← hst]
        simp only [List.foldl_cons, List.foldl_nil]
        unfold Tb.add1
        rw [if_neg hix, hii]; rfl
      · rw [List.length_append, List.map_append, List.flatMap_append]
        exact hrow2
      · skip
        have := kx.size
        have := r1.size
        have := hc2.size
        omega
      · have hbl : g < w1.heap.size := by
          have := (hlg g hg.symm).2
          omega
        exact (hc2.block g (by have := kx.size; have := r1.size; omega) fun hh => by have := hob3 g hh; omega).trans ((r1.block g (by have := kx.size; omega) id).trans (lW5 g hg))

  · have hjl' : j = l.length := by
      have h1 : ¬ ((j : Nat) : Int) < l.length := h1
      omega
    rewrite [List.take_of_length_le (by omega)] at hst
    have hadd : Tb.addN nodes L = (nj, out) := by unfold Tb.addN; exact hst.symm
    rewrite [hadd]
    have hov' : W.ownsRow w1.heap.size 3 1 ov (out.map fun (n : Nat) => (n : Int)).length ((out.map fun (n : Nat) => (n : Int)).flatMap fN1) := by rw [List.length_map]; exact hov
    refine cl callSortInts (sortInts_c hov' (by rw [List.length_map]; omega)) ?_
    rintro _ w9 ⟨c9, hr9⟩
    rewrite [Tb.sort_ints, List.length_map] at hr9
    have hob3 : ∀ g, some g = ov.ownBlock → w1.heap.size ≤ g := fun g hg => ownsRow_base hov hg.symm
    refine ⟨nvj, cW.newT c9 fun g hg => .inr (by have := hob3 g hg; omega), hGW.chg c9 (fun h => by have := hob3 _ h; omega) (fun h => by have := hob3 _ h; omega) (fun h => by have := hob3 _ h; omega) (fun h => by have := hob3 _ h; omega) (fun g hg h => rows_sep2 hov hGW.row (by decide) g h.symm hg), fun g hg => (hnvj g hg).imp id fun h => by omega, ownsRow_lo hr9 (by omega)⟩
end Go.Au

namespace Go.Au
open Go Go.RowKit

/-! ### an order of one's own, where one operation (the x0-th) breaks U, and what depends on it needs not keep U -/
def oprX (P : Program) (Γ : List (Nat × TI)) (S : World → World → Prop) (U : World → Prop) (bh px xx : Bool) (w0 : World) (Dn : World → Prop) (e : Env) (o : Oper) (K : Value → Option DP → Prop) : Prop := match isPure o.op with
  | true => opP P Γ e o False fun v => K v none
  | false => match bh with
    | true => (∀ W W', S w0 W → Dn W → S W W' → U W → U W') ∧ Mk S w0 Dn (op1 P Γ e o) fun v D => K v (some D)
    | false => MkU S U px xx w0 Dn (op1 P Γ e o) fun v D => K v (some D)
noncomputable def VCx (P : Program) (Γ : List (Nat × TI)) (S : World → World → Prop) (U : World → Prop) (x0 : Nat) (w0 : World) (ops : List Oper) (ms : List Nat) (Q : Env → List (Nat × DP) → Prop) (l : List Nat) : List (Nat × DP) → Env → Prop :=
  List.rec (motive := fun _ => List (Nat × DP) → Env → Prop) (fun Ds e => Q e Ds)
    (fun i _ ih Ds e => match nthO ops i with
      | some o => grd ops e o (oprX P Γ S U (((ms[i]?).getD 0).testBit x0) (pxOf ms x0 i) (Nat.beq i x0) w0 (DnF ((ms[i]?).getD 0) Ds) e o fun v D => ih (addD Ds i D) (putE e o.dst v)) (ih Ds (putE e o.dst undef))
      | none => False) l
section
variable {P : Program} {Γ : List (Nat × TI)} {n : Nat} {ds : List Deferred} {rd : Option Nat}
theorem VCx_to (hG : Agree P Γ) {S : World → World → Prop} {U : World → Prop} {x0 : Nat} {w0 : World} {ops : List Oper} {ms : List Nat} {Q : Env → List (Nat × DP) → Prop} : ∀ (l : List Nat) (Ds : List (Nat × DP)) (e : Env), VCx P Γ S U x0 w0 ops ms Q l Ds e → VCs P Γ S U x0 w0 ops ms Q ((nodes ops l).map fun p => (p.1, p.2, none)) Ds e
  | [], Ds, e, h => h
  | i :: r, Ds, e, h => by
    change (match nthO ops i with
      | some o => grd ops e o (oprX P Γ S U (((ms[i]?).getD 0).testBit x0) (pxOf ms x0 i) (Nat.beq i x0) w0 (DnF ((ms[i]?).getD 0) Ds) e o fun v D => VCx P Γ S U x0 w0 ops ms Q r (addD Ds i D) (putE e o.dst v)) (VCx P Γ S U x0 w0 ops ms Q r Ds (putE e o.dst undef))
      | none => False) at h
    simp only [nodes, List.map_cons, VCs]
    split at h
    · rename_i o ho
      rw [nthO_eq] at ho
      rw [ho, Option.getD_some]
      refine grd_mono h ?_ (fun h => VCx_to hG r _ _ h)
      intro h
      unfold oprX at h
      split at h
      · rename_i hi
        rcases opP_spec (P := P) hG h with h | ⟨v, hk, hp⟩
        · exact h.elim
        · exact .inl ⟨hi, v, hp, VCx_to hG r _ _ hk⟩
      · rename_i hi
        split at h
        · obtain ⟨hU, τ, hn, f, F, h1, h2, h3⟩ := h
          exact .inr ⟨hi, τ, hn, f, F, h1, fun W a b _ => (op1_does hG (h2 W a b)).mono fun v W' ⟨s, d⟩ => ⟨⟨s, fun _ hu => hU W W' a b s hu⟩, d⟩, fun y D hD => VCx_to hG r _ _ (h3 y D hD)⟩
        · obtain ⟨τ, hn, f, F, h1, h2, h3⟩ := h
          exact .inr ⟨hi, τ, hn, f, F, h1, fun W a b c => op1_does hG (h2 W a b c), fun y D hD => VCx_to hG r _ _ (h3 y D hD)⟩
    · exact h.elim
/-- A REGION IN WHATEVER ORDER, in which one operation (the x0-th) breaks U, and others stand behind it. -/
theorem drawnX (hG : Agree P Γ) (hm : P.follows .mixedOrders = true) {id : Nat} {ops : Array Oper} (m : Nat) (ord : List Nat) (hreg : regOk ops.toList m ord = true) (S : World → World → Prop) (hS : Pre S) (U : World → Prop) (x0 : Nat) {K : Exit → Env → World → Prop} {e : Env} {w : World} (hU : U w.drew)
    (h : VCx P Γ S U x0 w ops.toList (masks ops.toList) (fun E Ds => ∀ W, S w W → (∀ j, getDs Ds j W) → VCl P Γ ops.toList (K .normal) (ops.toList.drop m) E W) ord [] e) :
    Piece P n ds rd (.region id ops true) K e w := drawnV hG hm m ord hreg S hS U x0 hU (VCx_to hG _ _ _ h)
end
section
variable {P : Program} {Γ : List (Nat × TI)}
/-- the call that breaks U, whose answer is one of some -/
theorem calluv {S : World → World → Prop} {U : World → Prop} {e : Env} {w0 : World} {Dn : World → Prop} {op : Oper} {K : Value → DP → Prop} {c : Go.Call} {τ : Type} [hne : Nonempty τ] (f : τ → Value) (F : τ → World → Prop) (ho : op.op = .call c) {fo : Operand} {g : FuncId} {first cap : Array Value} (hc : c.callee = .value fo) (hf : ev e fo = .func (.func g) first cap)
    (hst : ∀ y W W', F y W → S W W' → F y W') (hcall : callable P g = true) (h : ∀ W, S w0 W → Dn W → U W → Calls P g (first.toList ++ c.args.toList.map (ev e) ++ cap.toList).toArray W (Ret fun r W' => S W W' ∧ ∃ y, r = f y ∧ F y W'))
    (hk : ∀ y D, (∀ W, D W → F y W) → K (f y) D) : MkU S U true true w0 Dn (op1 P Γ e op) K :=
  ⟨τ, hne, f, F, hst, fun W h1 h2 h3 => by
    unfold op1
    rw [ho]
    simp only [isPure, hc, hf]
    exact ⟨hcall, Calls.mono (h W h1 h2 (h3 rfl)) fun en w' hr => by
      cases en with
      | returned r =>
        obtain ⟨hs, y, hy, hF⟩ := hr
        exact ⟨⟨hs, fun hh => by cases hh⟩, y, hy, hF⟩
      | _ => exact hr.elim⟩, fun y D hD => hk y D hD⟩
end

/-! ### a call that writes, beside an append of something that is made there -/
structure COnce (T : Nat → Prop) (w0 : World) (v : Value) (W W' : World) : Prop where
  chg : Chg (fun g => T g ∨ some g = v.ownBlock) W W'
  once : (∀ g, T g → g < W.heap.size → W'.heap[g]? = W.heap[g]?) ∨ W.heap.size ≤ w0.heap.size
theorem preCOnce (T : Nat → Prop) (w0 : World) (v : Value) : Pre (COnce T w0 v) :=
  ⟨fun h => ⟨h.mono fun _ hf => hf.elim, .inl fun g _ hl => h.block g hl id⟩, fun h g => ⟨h.chg.trans g.chg, by
    have hs := h.chg.size
    rcases h.once with a | a
    · rcases g.once with c | c
      · exact .inl fun x hx hl => (c x hx (Nat.lt_of_lt_of_le hl hs)).trans (a x hx hl)
      · exact .inr (Nat.le_trans hs c)
    · exact .inr a⟩⟩
def PostA (w0 : World) (base : Nat) (el : TypeId) (v : Value) (n : Nat) (xs : List Value) (Q : Value → World → Prop) (v' : Value) (W : World) : Prop :=
  ∃ r, Q r W ∧ W.ownsRow base el 1 v' (n + 1) (xs ++ [r]) ∧ ∀ g, v'.ownBlock = some g → v.ownBlock = some g ∨ w0.heap.size ≤ g
structure EAppR (H : World → Prop) (T : Nat → Prop) (w0 : World) (base : Nat) (el : TypeId) (v : Value) (n : Nat) (xs : List Value) (Q : Value → World → Prop) (W W' : World) : Prop where
  c : COnce T w0 v W W'
  row : W.ownsRow base el 1 v n xs → W'.ownsRow base el 1 v n xs
  post : ∀ v', PostA w0 base el v n xs Q v' W → PostA w0 base el v n xs Q v' W'
  hdr : H W → H W'
section
variable {H : World → Prop} {T : Nat → Prop} {w0 : World} {base : Nat} {el : TypeId} {v : Value} {n : Nat} {xs : List Value} {Q : Value → World → Prop} {W W' : World}
theorem preEAppR (hQ : ∀ r W W', Kp W W' → Q r W → Q r W') (hH : ∀ W W', Kp W W' → H W → H W') : Pre (EAppR H T w0 base el v n xs Q) :=
  ⟨fun h => ⟨(preCOnce T w0 v).kp h, fun ho => ownsRow_chg ho h fun _ _ => id, fun v' ⟨r, h1, h2, h3⟩ => ⟨r, hQ r _ _ h h1, ownsRow_chg h2 h fun _ _ => id, h3⟩, hH _ _ h⟩,
   fun h g => ⟨(preCOnce T w0 v).trans h.c g.c, fun ho => g.row (h.row ho), fun v' hp => g.post v' (h.post v' hp), fun hh => g.hdr (h.hdr hh)⟩⟩
theorem EAppR.ofCall (c : COnce T w0 v W W') (hc : Chg T W W') (hT : ∀ g, T g → g < w0.heap.size ∧ v.ownBlock ≠ some g) (hQ : ∀ r, Q r W → Q r W') (hdr : H W → H W') : EAppR H T w0 base el v n xs Q W W' :=
  ⟨c, fun ho => ownsRow_chg ho hc fun g hg hh => (hT g hh).2 hg, fun v' ⟨r, h1, h2, h3⟩ => ⟨r, hQ r h1, ownsRow_chg h2 hc fun g hg hh => by
    have := hT g hh
    rcases h3 g hg with h4 | h4
    · exact this.2 h4
    · omega, h3⟩, hdr⟩
/-- what stood in a row stands there behind an append to it -/
theorem row_app {w w' : World} {v : Value} {n : Nat} {xs : List Value} {r : Value} (ho : w.ownsRow base el 1 v n xs) (ha : AppR w v (n * 1) [r] w w') : w'.ownsRow base el 1 v n xs := by
  refine ⟨ho.1, ho.2.imp id fun ⟨g, cap, cur, a1, a2, a3, a4, a5, a6, a7⟩ => ?_⟩
  subst a1
  have ha1 : app1 w (.slice (some ⟨g, 0, none⟩) n cap) = some (.cells cur el (0, 0)) := a3
  rcases ha.row g rfl (lt_of_heap a3) with h | ⟨-, h⟩
  · exact ⟨g, cap, cur, rfl, a2, h.trans a3, a4, a5, a6, a7⟩
  · rw [ha1] at h
    simp only [app2] at h
    by_cases hf : n * 1 + [r].length ≤ cur.size
    · rw [if_pos hf] at h
      refine ⟨g, cap, _, rfl, a2, h, a4, a5, ?_, ?_⟩
      · simp only [lay2, List.size_toArray, List.length_append, List.length_take, List.length_drop, Array.length_toList]
        omega
      · simp only [lay2]
        rw [List.append_assoc, List.take_append_of_le_length (by simp only [List.length_take, Array.length_toList]; omega), List.take_take, Nat.min_self]
        exact a7
    · rw [if_neg hf] at h
      exact ⟨g, cap, cur, rfl, a2, h, a4, a5, a6, a7⟩
/-- .. and one that was appended there stands there, or the new one does -/
theorem post_app {w w' : World} {v v1 : Value} {n : Nat} {xs : List Value} {r r1 : Value} (ho : w.ownsRow base el 1 v n xs) (ha : AppR w v (n * 1) [r] w w') (h1 : w.ownsRow base el 1 v1 (n + 1) (xs ++ [r1])) : w'.ownsRow base el 1 v1 (n + 1) (xs ++ [r1]) ∨ w'.ownsRow base el 1 v1 (n + 1) (xs ++ [r]) := by
  obtain ⟨b0, b⟩ := h1
  rcases b with ⟨-, h0⟩ | ⟨g, cap, cur, rfl, a2, a3, a4, a5, a6, a7⟩
  · omega
  by_cases hg : v.ownBlock = some g
  · have ha1 : app1 w v = some (.cells cur el (0, 0)) := by unfold app1; rw [hg]; exact a3
    rcases ha.row g hg (lt_of_heap a3) with h | ⟨-, h⟩
    · exact .inl ⟨b0, .inr ⟨g, cap, cur, rfl, a2, h.trans a3, a4, a5, a6, a7⟩⟩
    · rw [ha1] at h
      simp only [app2] at h
      have hf : n * 1 + [r].length ≤ cur.size := by rw [a6]; simp only [List.length_cons, List.length_nil]; omega
      rw [if_pos hf] at h
      have htk : cur.toList.take n = xs := by
        have h7 := congrArg (List.take n) a7
        rw [List.take_take, show min n ((n + 1) * 1) = n by omega] at h7
        rw [h7]
        have hxl : xs.length = n := by
          have := b0
          simp only [List.length_append, List.length_cons, List.length_nil] at this
          omega
        rw [List.take_append_of_le_length (by omega), List.take_of_length_le (by omega)]
      refine .inr ⟨by have := b0; simp only [List.length_append, List.length_cons, List.length_nil] at this ⊢; omega, .inr ⟨g, cap, _, rfl, a2, h, a4, a5, ?_, ?_⟩⟩
      · simp only [lay2, List.size_toArray, List.length_append, List.length_take, List.length_drop, Array.length_toList, List.length_cons, List.length_nil] at hf ⊢
        omega
      · simp only [lay2, Nat.mul_one]
        rw [htk]
        have hxl : xs.length = n := by rw [← htk, List.length_take, Array.length_toList]; simp only [List.length_cons, List.length_nil] at hf; omega
        rw [List.take_append_of_le_length (by simp only [List.length_append, List.length_cons, List.length_nil]; omega), List.take_of_length_le (by simp only [List.length_append, List.length_cons, List.length_nil]; omega)]
  · exact .inl ⟨b0, .inr ⟨g, cap, cur, rfl, a2, (ha.chg.block g (lt_of_heap a3) fun hh => hg hh.symm).trans a3, a4, a5, a6, a7⟩⟩
/-- an append of what is made there -/
theorem aprE {P : Program} {Γ : List (Nat × TI)} {c b o : Nat} {t : TypeId} {ti tj : TI} {r : Value} (hG : Agree P Γ) {e : Env} {Dn : World → Prop} {op : Oper} {s x : Operand} {K : Value → DP → Prop} (hQ : ∀ r W W', Chg (fun g => some g = v.ownBlock) W W' → Q r W → Q r W')
    (ho : op.op = .call { callee := .builtin .append, args := #[s, x], argTypes := #[t, t] }) (hs : ev e s = v) (hx : ev e x = .slice (some ⟨b, o, none⟩) 1 c) (hl : look Γ t = some ti) (hd : ti.desc = .slice el) (hj : look Γ el = some tj) (hsz : tj.size = 1) (hown : w0.ownsRow base el 1 v n xs)
    (hr : ∀ W, EAppR H T w0 base el v n xs Q w0 W → Dn W → W.rangeAt b o [r] ∧ Q r W) (h1 : r.oneCell' = true) (h63 : n + 1 ≤ maxLen) (hby : (n + 1) * tj.bytes ≤ 140737488355328) (hb : base ≤ w0.heap.size) (hT : ∀ g, T g → v.ownBlock ≠ some g) (hH : ∀ W W', Chg (fun g => some g = v.ownBlock) W W' → H W → H W')
    (hk : ∀ v' D, (∀ W, D W → PostA w0 base el v n xs Q v' W) → K v' D) : Mk (EAppR H T w0 base el v n xs Q) w0 Dn (op1 P Γ e op) K :=
  ⟨Value, ⟨undef⟩, id, fun v' W => PostA w0 base el v n xs Q v' W, fun v' W W' hp hS => hS.post v' hp, fun W h1' h2' => by
    unfold op1
    rw [ho]
    simp only [isPure]
    have hoW := h1'.row hown
    have hz := h1'.c.chg.size
    obtain ⟨hrr, hQr⟩ := hr W h1' h2'
    obtain ⟨v', W', hrun, q1, q2, q3⟩ := appR_run (c := c) (w := W) (w0 := W) (m := 1) (news := [r]) hG hl hd hj hsz (by decide) hoW rfl (Nat.le_refl _) (fun g _ _ => .inl rfl) hrr (by simp [h1]) h63 hby (Nat.le_trans hb hz) op.type
    have hnew : ∀ g, v'.ownBlock = some g → v.ownBlock = some g ∨ w0.heap.size ≤ g := fun g hg => (q3 g hg).imp (·.1) fun h => Nat.le_trans hz h
    refine ⟨v', W', ?_, ⟨⟨q1.chg.mono fun g hg => .inr hg, .inl fun g hg hlt => q1.chg.block g hlt fun hh => hT g hg hh.symm⟩, fun h => row_app h q1, fun v1 ⟨r1, p1, p2, p3⟩ => ?_, hH _ _ q1.chg⟩, v', rfl, r, hQ r _ _ q1.chg hQr, q2, hnew⟩
    · unfold execOp
      simp only [ho, resolve, invoke, builtin, Sem.run_bind, Sem.run_pure, Result.andThen_ok, List.map_toArray, List.map_cons, List.map_nil, hs, hx, hrun]
    · rcases post_app hoW q1 p2 with h | h
      · exact ⟨r1, hQ r1 _ _ q1.chg p1, h, p3⟩
      · exact ⟨r, hQ r _ _ q1.chg hQr, h, p3⟩, fun v' D hD => hk v' D hD⟩
end
end Go.Au

namespace Go.Au
open Go Go.RowKit Go.MapKept
open Go.Maps (Keyed)
open Fm (idx)

theorem ownsRow_same {w w' : World} {base size n : Nat} {el : TypeId} {v : Value} {xs : List Value} (h : w.ownsRow base el size v n xs) (hs : ∀ g, v.ownBlock = some g → w'.heap[g]? = w.heap[g]?) : w'.ownsRow base el size v n xs := by
  refine ⟨h.1, h.2.imp id fun ⟨g, cap, cur, a1, a2, a3, a4⟩ => ⟨g, cap, cur, a1, a2, ?_, a4⟩⟩
  rw [hs g (by rw [a1]; rfl)]
  exact a3
theorem mapE_same {α β : Type} {P : Program} {k : TypeId} {ek : α → Value} {ev : β → Value} {w w' : World} {b : Nat} {xs : List (α × β)} (h : MapE P k ek ev w b xs) (hs : w'.heap[b]? = w.heap[b]?) : MapE P k ek ev w' b xs := by
  obtain ⟨⟨es, clock, h1, h2⟩, h3⟩ := h
  exact ⟨⟨es, clock, hs.trans h1, h2⟩, h3⟩
/-! ### grow -/
section
variable {base bn bt tb mn : Nat} {v0 rv v2 v4 v5 nv nv' lv : Value} {nodes : List (Nat × Nat)} {w w' : World}
theorem GrowS.once {W W' w0 : World} {v : Value} {ne : Prop} (h : GrowS base W bn bt tb mn v0 rv v2 v4 v5 nv' nodes) (hS : COnce (turnA ne tb mn nv lv) w0 v W W') (hz : ne → w0.heap.size < W.heap.size) (hlv : ¬ ne → lv.ownBlock = none) (hL : ∀ g, nv'.ownBlock = some g → nv.ownBlock = some g ∨ w0.heap.size ≤ g)
    (hT : ∀ g, g = mn ∨ g = tb ∨ some g = nv.ownBlock ∨ some g = lv.ownBlock → g < w0.heap.size ∧ v.ownBlock ≠ some g) (hv : ∀ g, v.ownBlock = some g → g < w0.heap.size) (h1 : ∀ g, g = bn ∨ g = bt → some g ≠ nv.ownBlock ∧ some g ≠ lv.ownBlock ∧ v.ownBlock ≠ some g) : GrowS base W' bn bt tb mn v0 rv v2 v4 v5 nv' nodes := by
  have hne := h.ne
  have hb := h1 bn (.inl rfl)
  have hb' := h1 bt (.inr rfl)
  by_cases hn : ne
  · have honce := hS.once.resolve_right (by have := hz hn; omega)
    have hoff : ∀ g, (g = bn ∨ g = bt) → ¬ (turnA ne tb mn nv lv g ∨ some g = v.ownBlock) := fun g hg hh => by
      have hk := h1 g hg
      rcases hh with (⟨-, hh⟩ | hh) | hh
      · rcases hh with hh | hh | hh
        · rcases hg with rfl | rfl
          · exact hne.2.2.1 hh
          · exact hne.2.2.2.1 hh
        · rcases hg with rfl | rfl
          · exact hne.1 hh
          · exact hne.2.1 hh
        · exact hk.1 hh
      · exact hk.2.1 hh
      · exact hk.2.2 hh.symm
    refine ⟨hS.chg.own h.cn (hoff _ (.inl rfl)), hS.chg.own h.ct (hoff _ (.inr rfl)), (honce tb (.inl ⟨hn, .inr (.inl rfl)⟩) h.tbl.lt).trans h.tbl, ownsRow_same h.row fun g hg => ?_, mapE_same h.num (honce mn (.inl ⟨hn, .inl rfl⟩) h.num.lt), h.ne, h.lt⟩
    rcases hL g hg with h1 | h1
    · exact honce g (.inl ⟨hn, .inr (.inr h1.symm)⟩) (h.row.lt g hg).2
    · refine hS.chg.block g (h.row.lt g hg).2 fun hh => ?_
      rcases hh with (⟨-, hh⟩ | hh) | hh
      · have := (hT g (by rcases hh with hh | hh | hh <;> simp [hh])).1; omega
      · have := (hT g (by simp [hh])).1; omega
      · have := hv g hh.symm; omega
  · have hc : Chg (fun g => some g = v.ownBlock) W W' := hS.chg.mono fun g hg => by
      rcases hg with (⟨hh, -⟩ | hh) | hh
      · exact absurd hh hn
      · rw [hlv hn] at hh; cases hh
      · exact hh
    refine h.chg hc (fun hh => hb.2.2 hh.symm) (fun hh => hb'.2.2 hh.symm) (fun hh => (hT tb (by simp)).2 hh.symm) (fun hh => (hT mn (by simp)).2 hh.symm) fun g hg hh => ?_
    rcases hL g hg with h1 | h1
    · exact (hT g (by simp [h1])).2 hh.symm
    · have := hv g hh.symm; omega
/-- what add turns lies apart from rows of other types -/
theorem turnA_off {ne : Prop} {lb m : Nat} {ys : List Value} (hG : GrowS base w bn bt tb mn v0 rv v2 v4 v5 nv nodes) (hl : w.ownsRow lb 120 32 lv m ys) {el size base' n : Nat} {v : Value} {xs : List Value} (ho : w.ownsRow base' el size v n xs) (h1 : el ≠ 110) (h2 : el ≠ 120) :
    ∀ g, v.ownBlock = some g → ¬ turnA ne tb mn nv lv g := fun g hg hh => by
  rcases hh with ⟨-, rfl | rfl | hh⟩ | hh
  · have hm := hG.num.h
    obtain ⟨es, clk, hm, -⟩ := hm
    exact ownsRow_ne ho hm (fun cs fr he => by cases he) hg
  · exact ownsRow_ne ho hG.tbl (fun cs fr he => by injection he with _ he; exact h1 he.symm) hg
  · exact rows_sep2 ho hG.row h2 g hg hh.symm
  · exact rows_sep2 ho hl h2 g hg hh.symm
end
/-- rows of numbers, each a row of its own -/
structure NextS (base : Nat) (w : World) (xv : Value) (xs : List Value) (L : List (List Nat)) : Prop where
  row : w.ownsRow base 38 1 xv L.length xs
  len : xs.length = L.length
  each : ∀ (i : Nat) r, L[i]? = some r → ∃ x, xs[i]? = some x ∧ w.ownsRow base 3 1 x r.length ((r.map fun (n : Nat) => (n : Int)).flatMap fN1)
theorem NextS.chg {S : Nat → Prop} {base : Nat} {w w' : World} {xv : Value} {xs : List Value} {L : List (List Nat)} (h : NextS base w xv xs L) (c : Chg S w w') (h1 : ∀ g, xv.ownBlock = some g → ¬ S g) (h2 : ∀ v n ys, w.ownsRow base 3 1 v n ys → ∀ g, v.ownBlock = some g → ¬ S g) : NextS base w' xv xs L :=
  ⟨ownsRow_chg h.row c h1, h.len, fun i r hr => by
    have hx := h.each i r hr
    obtain ⟨x, hx, ho⟩ := hx
    exact ⟨x, hx, ownsRow_chg ho c (h2 _ _ _ ho)⟩⟩
theorem NextS.kp {base : Nat} {w w' : World} {xv : Value} {xs : List Value} {L : List (List Nat)} (h : NextS base w xv xs L) (c : Kp w w') : NextS base w' xv xs L := h.chg c (fun _ _ => id) fun _ _ _ _ _ _ => id
namespace Tb
theorem giter_succ (rs : List TRow) : ∀ (k : Nat) (s : GS), giter rs (k + 1) s = gstep rs (giter rs k s)
  | 0, s => rfl
  | k + 1, s => by
    show giter rs (k + 1) (gstep rs s) = _
    rw [giter_succ rs k (gstep rs s)]
    rfl
theorem fits_lt {rs : List TRow} (hw : WfR rs) {s : Nat} (hs : s < 2 ^ rs.length) : ∀ x ∈ fits rs s, x.1 < 2 ^ rs.length ∧ x.2 < 2 ^ rs.length := fun x hx => by
  rw [mem_fits] at hx
  exact run_ok hw (Nat.le_refl _) rs.length (Nat.le_refl _) (p := ⟨0, 0, s⟩) ⟨Nat.two_pow_pos _, Nat.two_pow_pos _, hs⟩ x hx
def Bnd (rs : List TRow) (most : Int) (S0 : Nat) : Prop := most < 137438953472 ∨ ((∀ s, (run rs rs.length ⟨0, 0, s⟩).length < 137438953472) ∧ ∀ k, (giter rs k (start rs S0)).nodes.length < 137438953472)
def NodesOk (n : Nat) (l : List Node) : Prop := l.Nodup ∧ ∀ p ∈ l, p.1 < 2 ^ n ∧ p.2 < 2 ^ n
theorem NodesOk.add {n : Nat} {l m : List Node} (h : NodesOk n l) (hm : ∀ p ∈ m, p.1 < 2 ^ n ∧ p.2 < 2 ^ n) : NodesOk n (addN l m).1 := by
  have h1 := addF_spec m (l, []) h.1
  refine ⟨h1.1, fun p hp => ?_⟩
  rcases (h1.2.2.1 p).1 hp with h2 | h2
  · exact h.2 p h2
  · exact hm p h2
theorem gloop_end {rs : List TRow} {most : Int} {k : Nat} {s : GS} (h : s.nodes.length ≤ s.next.length) : gloop rs most (k + 1) s = if (s.nodes.length : Int) ≤ most then some s else none := by
  simp only [gloop]
  rw [List.getElem?_eq_none h]
theorem gloop_over {rs : List TRow} {most : Int} {k : Nat} {s : GS} (h : most < (s.nodes.length : Int)) : gloop rs most (k + 1) s = none := by
  simp only [gloop]
  split
  · rw [if_neg (by omega)]
  · rw [if_neg (by omega)]
theorem gloop_step {rs : List TRow} {most : Int} {k : Nat} {s : GS} {p : Node} (h : s.nodes[s.next.length]? = some p) (h2 : (s.nodes.length : Int) ≤ most) : gloop rs most (k + 1) s = if over most (fits rs p.2) = true then none else gloop rs most k (gstep rs s) := by
  simp only [gloop]
  rw [h]
  simp only
  rw [if_pos h2]
theorem gstep_eq {rs : List TRow} {s : GS} {p : Node} (h : s.nodes[s.next.length]? = some p) : gstep rs s = ⟨(addN s.nodes (fits rs p.2)).1, s.next ++ [isort (addN s.nodes (fits rs p.2)).2]⟩ := by
  unfold gstep
  rw [h]
end Tb
theorem cap_of {s n : Nat} (h : s < 2 ^ n) (hn : n ≤ 1000) : s < cap := capN_le (Nat.lt_of_lt_of_le h (Nat.pow_le_pow_right (by decide) (by omega : n ≤ 64 * 16))) (Nat.le_refl 16)
theorem pair_due {W : World} {b o : Nat} {p : Nat × Nat} (h : W.rangeAt b o (pairC p)) : W.rangeAt b (o + 16) (setC p.2) := fun j v hv => by
  have := h (16 + j) v (by
    unfold pairC
    rw [List.getElem?_append_right (by rw [setC_len]; omega), setC_len, show 16 + j - 16 = j by omega]
    exact hv)
  rw [show o + 16 + j = o + (16 + j) by omega]
  exact this
theorem pair_old {W : World} {b o : Nat} {p : Nat × Nat} (h : W.rangeAt b o (pairC p)) : W.rangeAt b o (setC p.1) := fun j v hv => h j v (by
  have hj := (List.getElem?_eq_some_iff.1 hv).1
  unfold pairC
  rw [List.getElem?_append_left hj]
  exact hv)
/-- what fits hands back, told of its two parts -/
def FitsQ (rs : List TRow) (s : Nat) (most : Int) (b : Nat) (y : Bool × Value) (w' : World) : Prop :=
  Tb.over most (Tb.fits rs s) = !y.1 ∧ (∃ a n c, y.2 = .slice a n c) ∧
    (y.1 = true → ∃ l : List (Nat × Nat), w'.ownsRow b 120 32 y.2 l.length (l.flatMap pairC) ∧ l.Nodup ∧ (∀ x, x ∈ l ↔ x ∈ Rn rs ⟨0, 0, s⟩) ∧ (∀ x ∈ l, x.1 < cap ∧ x.2 < cap) ∧ (l = [] → y.2 = nilS))
theorem FitsQ.kp {rs : List TRow} {s : Nat} {most : Int} {b : Nat} {y : Bool × Value} {w w' : World} (h : FitsQ rs s most b y w) (hc : Kp w w') : FitsQ rs s most b y w' :=
  ⟨h.1, h.2.1, fun hy => by
    have hl := h.2.2 hy
    obtain ⟨l, h1, h2⟩ := hl
    exact ⟨l, ownsRow_chg h1 hc fun _ _ => id, h2⟩⟩
theorem FitsQ.lo {rs : List TRow} {s : Nat} {most : Int} {b b' : Nat} {y : Bool × Value} {w : World} (h : FitsQ rs s most b y w) (hb : b' ≤ b) : FitsQ rs s most b' y w :=
  ⟨h.1, h.2.1, fun hy => by
    have hl := h.2.2 hy
    obtain ⟨l, h1, h2⟩ := hl
    exact ⟨l, ownsRow_lo h1 hb, h2⟩⟩
theorem fits_len {rs : List TRow} {s : Nat} {l : List (Nat × Nat)} (hn : l.Nodup) (h : ∀ x, x ∈ l ↔ x ∈ Rn rs ⟨0, 0, s⟩) : (Tb.fits rs s).length = l.length := by
  rw [← Tb.sortN_fits hn h, Tb.sortN_len]
theorem row_pos {w : World} {base size n : Nat} {el : TypeId} {v : Value} {xs : List Value} (h : w.ownsRow base el size v n xs) (hn : 0 < n) : base < w.heap.size := by
  rcases h.2 with ⟨-, h0⟩ | ⟨g, cap, cur, h1, h2, h3, -⟩
  · omega
  · have := lt_of_heap h3
    omega
/-- what add has done -/
def AddF (base bn bt tb mn : Nat) (v0 rv v2 v4 v5 nv : Value) (N : List (Nat × Nat)) (O : List Nat) (ne : Prop) (w0 : World) (y : Value × Value) (W : World) : Prop :=
  GrowS base W bn bt tb mn v0 rv v2 v4 v5 y.1 N ∧ (∀ g, y.1.ownBlock = some g → nv.ownBlock = some g ∨ w0.heap.size ≤ g) ∧ W.ownsRow w0.heap.size 3 1 y.2 O.length ((O.map fun (n : Nat) => (n : Int)).flatMap fN1) ∧ (ne → w0.heap.size < W.heap.size)
/-- where all lies, ahead of an add -/
structure AddAt (w0 : World) (bn bt tb mn : Nat) (nv lv v : Value) (ne : Prop) : Prop where
  lv0 : ¬ ne → lv = nilS
  T : ∀ g, g = mn ∨ g = tb ∨ some g = nv.ownBlock ∨ some g = lv.ownBlock → g < w0.heap.size ∧ v.ownBlock ≠ some g
  vlt : ∀ g, v.ownBlock = some g → g < w0.heap.size
  off : ∀ g, g = bn ∨ g = bt → some g ≠ nv.ownBlock ∧ some g ≠ lv.ownBlock ∧ v.ownBlock ≠ some g
section
variable {base bn bt tb mn : Nat} {v0 rv v2 v4 v5 nv lv v : Value} {nodes N : List (Nat × Nat)} {O : List Nat} {w0 W W' : World} {ne : Prop}
theorem AddAt.lvT (hA : AddAt w0 bn bt tb mn nv lv v ne) {g : Nat} (h : turnA ne tb mn nv lv g) : g < w0.heap.size ∧ v.ownBlock ≠ some g := hA.T g (by
  rcases h with ⟨-, h | h | h⟩ | h <;> simp [h])
theorem AddF.keep {y : Value × Value} (h : AddF base bn bt tb mn v0 rv v2 v4 v5 nv N O ne w0 y W) (hS : COnce (turnA ne tb mn nv lv) w0 v W W') (hA : AddAt w0 bn bt tb mn nv lv v ne) : AddF base bn bt tb mn v0 rv v2 v4 v5 nv N O ne w0 y W' := by
  obtain ⟨h1, h2, h3, h4⟩ := h
  refine ⟨h1.once hS h4 (fun hn => by rw [hA.lv0 hn]; rfl) h2 hA.T hA.vlt hA.off, h2, ownsRow_chg h3 hS.chg fun g hg hh => ?_, fun hn => by have := h4 hn; have := hS.chg.size; omega⟩
  have hlo := ownsRow_base h3 hg
  rcases hh with hh | hh
  · have := (hA.lvT hh).1; omega
  · have := hA.vlt g hh.symm; omega
theorem add_S {l : List (Nat × Nat)} {lb : Nat} (hG : GrowS base w0 bn bt tb mn v0 rv v2 v4 v5 nv nodes) (hbz : base ≤ w0.heap.size) (hl : w0.ownsRow lb 120 32 lv l.length (l.flatMap pairC)) (hlb : base ≤ lb) (hne : ∀ g, lv.ownBlock = some g → nv.ownBlock ≠ some g) (hn : l.Nodup) (hc : ∀ p ∈ l, p.1 < cap ∧ p.2 < cap) (hnd : nodes.Nodup)
    (hz : nodes.length + l.length < 274877906944) (hA : AddAt w0 bn bt tb mn nv lv v (0 < l.length)) (hS : COnce (turnA (0 < l.length) tb mn nv lv) w0 v w0 W) (hU : 0 < l.length → W.heap.size = w0.heap.size ∧ Kp w0 W) :
    Calls Proofs.Tryz.prog 137 [lv, pt bn 0, pt bt 0].toArray W (Ret fun r W' => COnce (turnA (0 < l.length) tb mn nv lv) w0 v W W' ∧ Chg (turnA (0 < l.length) tb mn nv lv) W W' ∧ ∃ y : Value × Value, r = y.2 ∧
      AddF base bn bt tb mn v0 rv v2 v4 v5 nv (Tb.addN nodes (Tb.sortN l)).1 (Tb.isort (Tb.addN nodes (Tb.sortN l)).2) (0 < l.length) w0 y W') := by
  have hWs := hS.chg.size
  have hlv : ¬ 0 < l.length → lv.ownBlock = none := fun h => by rw [hA.lv0 h]; rfl
  have hGW : GrowS base W bn bt tb mn v0 rv v2 v4 v5 nv nodes ∧ W.ownsRow lb 120 32 lv l.length (l.flatMap pairC) := by
    by_cases h0 : 0 < l.length
    · exact ⟨hG.kp (hU h0).2, ownsRow_chg hl (hU h0).2 fun _ _ => id⟩
    · have hc' : Chg (fun g => some g = v.ownBlock) w0 W := hS.chg.mono fun g hg => by
        rcases hg with (⟨hh, -⟩ | hh) | hh
        · exact absurd hh h0
        · rw [hlv h0] at hh; cases hh
        · exact hh
      exact ⟨hG.chg hc' (fun hh => (hA.off bn (.inl rfl)).2.2 hh.symm) (fun hh => (hA.off bt (.inr rfl)).2.2 hh.symm) (fun hh => (hA.T tb (by simp)).2 hh.symm) (fun hh => (hA.T mn (by simp)).2 hh.symm) (fun g hg hh => (hA.T g (by simp [hg])).2 hh.symm), ownsRow_chg hl hc' fun g hg hh => (hA.T g (by simp [hg])).2 hh.symm⟩
  refine (add_c hGW.1 (by omega) hGW.2 hlb hne hn hc hnd hz).mono fun en W' hr => ?_
  cases en with
  | returned r =>
    obtain ⟨nv', hch, hG', hnv', hro⟩ := hr
    refine ⟨⟨hch.mono fun g hg => .inl hg, ?_⟩, hch, (nv', r), rfl, hG', fun g hg => (hnv' g hg).imp id fun h => by omega, by rw [Tb.isort_len]; exact ownsRow_lo hro hWs, fun h0 => ?_⟩
    · by_cases h0 : 0 < l.length
      · exact .inr (by have := (hU h0).1; omega)
      · exact .inl fun g hg => by
          rcases hg with ⟨hh, -⟩ | hh
          · exact absurd hh h0
          · rw [hlv h0] at hh; cases hh
    · have h3 := (Tb.addF_spec (Tb.sortN l) (nodes, []) hnd).2.2.2
      have h4 := row_pos hro (by
        show 0 < ((Tb.sortN l).foldl Tb.add1 (nodes, [])).2.length
        rw [h3, Tb.sortN_len]
        omega)
      omega
  | _ => exact hr.elim
end
theorem callGrow : callable Proofs.Tryz.prog 60 = true := by kernel_rfl
abbrev clA (bn bt : Nat) : Value := .func (.func 137) #[] #[pt bn 0, pt bt 0]
/-- what grow leaves -/
def GrowV (rs : List TRow) (S0 : Nat) (most : Int) (b tb : Nat) (v0 rv v2 : Value) (w' : World) (ok : Bool) : Prop :=
  (ok = false → Tb.over most (Tb.fits rs S0) = true ∨ Tb.gloop rs most (most.toNat + 2) (Tb.start rs S0) = none) ∧
  (ok = true → Tb.over most (Tb.fits rs S0) = false ∧ ∃ gs nv iv xv xs, Tb.gloop rs most (most.toNat + 2) (Tb.start rs S0) = some gs ∧ Own w' tb 110 [v0, rv, v2, nv, iv, xv] ∧ w'.ownsRow b 120 32 nv gs.nodes.length (gs.nodes.flatMap pairC) ∧
    w'.ownsRow b 3 1 iv (Tb.inits rs S0).length (((Tb.inits rs S0).map fun (n : Nat) => (n : Int)).flatMap fN1) ∧ NextS b w' xv xs gs.next ∧ Tb.NodesOk rs.length gs.nodes)
set_option maxHeartbeats 4000000 in
theorem grow_c {w : World} {tb lo hi : Nat} {most : Int} {rv v2 : Value} {a0 : Option Addr} {c0 : Nat} {rs : List TRow} (ht : Own w tb 110 [.slice a0 rs.length c0, rv, v2, nilS, nilS, nilS]) (hrs : RowsE lo hi w rv rs) (hhi : hi ≤ w.heap.size) (hnt : ¬ (lo ≤ tb ∧ tb < hi)) (hw : Tb.WfR rs) (hrl : rs.length ≤ 1000) (hpos : 0 < rs.length)
    (hB : Tb.Bnd rs most (Tb.putS 0 (rs.length - 1))) :
    Calls Proofs.Tryz.prog 60 [pt tb 0, iV most].toArray w (Ret fun r w' => Chg (fun g => g = tb) w w' ∧ ∃ ok, r = .bool ok ∧ GrowV rs (Tb.putS 0 (rs.length - 1)) most w.heap.size tb (.slice a0 rs.length c0) rv v2 w' ok) := by
  have htl := lt_of_heap ht
  refine call agree Proofs.Tryz.func60 rfl Proofs.Tryz.ntmps60 (by kernel_rfl) ?_
  refine nd fun bt w1 e1 s1 k1 m1 => ?_
  have m1 : Own w1 bt 34 [pt tb 0] := m1
  refine nd fun mn w2 e2 s2 k2 hmn => ?_
  refine nd fun bn w3 e3 s3 k3 m3 => ?_
  refine st agree m3 rfl (Nat.le_refl 1) rfl fun w4 e4 k4 m4 => ?_
  have m4 : Own w4 bn 192 [.map (some mn)] := m4
  refine nd fun b7 w5 e5 s5 k5 m5 => ?_
  have m5 : Own w5 b7 118 (setC 0) := m5
  have k34 : Kp w2 w4 := k3.newS k4 (fun j hj => by subst hj; omega)
  have k45 : Kp w w5 := (k1.trans (k2.trans k34)).trans k5
  refine ld agree (Own.at_ (xs := [pt tb 0]) (((k2.trans k34).trans k5).own m1 id) rfl) (by rfl) ?_
  refine ld agree (Own.at_ (xs := [.slice a0 rs.length c0]) (o := 0) (k45.own ht id) rfl) (by rfl) ?_
  refine aw (by omega) (by omega) ?_
  have hpi : ((rs.length : Nat) : Int) - 1 = ((rs.length - 1 : Nat) : Int) := by omega
  rewrite [hpi]
  refine cl callPut (put_c (A := []) (B := []) (i := rs.length - 1) (by rw [List.nil_append, List.append_nil]; exact m5) rfl cap_pos (by omega)) ?_
  rintro _ w6 ⟨k6, m6⟩
  obtain ⟨S0, hS0⟩ : ∃ S0, S0 = Tb.putS 0 (rs.length - 1) := ⟨_, rfl⟩
  rewrite [List.nil_append, List.append_nil, ← hS0] at m6
  rewrite [← hS0] at hB ⊢
  have hS0n : S0 < 2 ^ rs.length := by rw [hS0]; exact Tb.putS_lt (Nat.two_pow_pos _) (by omega)
  have k56 : Kp w4 w6 := k5.newS k6 (fun j hj => by subst hj; omega)
  have k06 : Kp w w6 := (k1.trans (k2.trans k34)).trans k56
  have k46 : Kp w1 w4 := k2.trans k34
  refine ld agree (Own.at_ (xs := [pt tb 0]) ((k46.trans k56).own m1 id) rfl) (by rfl) ?_
  refine ld agree (Own.all m6) (by rfl) ?_
  have hBs : most < 274877906944 ∨ (Rn rs ⟨0, 0, S0⟩).length < 274877906944 := hB.imp (fun h => by omega) fun h => Nat.lt_trans (h.1 S0) (by decide)
  have hcall := fits_c (most := most) (k06.own ht id) (RowE.chg hrs k06 (fun _ _ _ => id) fun _ _ h => h) (by have := k06.size; omega) hw hrl (cap_of hS0n hrl) hS0n hBs
  refine cl callFits hcall ?_
  rintro _ w7 ⟨k7, ok, vl, rfl, hov, hsl, hfl⟩
  have k07 : Kp w w7 := k06.trans k7
  cases ok with
  | false => exact ⟨k07.mono fun _ h => h.elim, false, rfl, fun _ => .inl hov, fun h => by cases h⟩
  | true =>
  have hll := hfl rfl
  obtain ⟨l, hlr, hln, hlm, hlc, hl0⟩ := hll
  have hov0 : Tb.over most (Tb.fits rs S0) = false := hov
  have k47 : Kp w4 w7 := k56.trans k7
  obtain ⟨V0, hV0⟩ : ∃ V0, V0 = Value.slice a0 rs.length c0 := ⟨_, rfl⟩
  have ht' : Own w tb 110 [V0, rv, v2, nilS, nilS, nilS] := by rw [hV0]; exact ht
  rewrite [← hV0]
  have hG7 : GrowS w4.heap.size w7 bn bt tb mn V0 rv v2 nilS nilS nilS [] :=
    ⟨k47.own m4 id, (k46.trans k47).own m1 id, k07.own ht' id, World.ownsRow_nil _ _ _ _, (MapE.made hmn pairA_inj).chg (k34.trans k47) id, ⟨by omega, by omega, by omega, by omega, by omega⟩, ⟨by omega, by omega, by omega, by omega⟩⟩
  have hz47 := k47.size
  have hz67 := k7.size
  have hz46 := k56.size
  have hlb : ∀ g, vl.ownBlock = some g → w6.heap.size ≤ g ∧ g < w7.heap.size := fun g hg => ⟨ownsRow_base hlr hg, (hlr.lt g hg).2⟩
  have hcl : (l.length : Int) ≤ most ∨ l = [] := by
    have hfl := fits_len hln hlm
    unfold Tb.over at hov0
    rw [hfl] at hov0
    rcases Bool.and_eq_false_iff.1 hov0 with h | h
    · refine .inr (List.eq_nil_of_length_eq_zero ?_)
      rw [← hfl]
      cases hq : Tb.fits rs S0 with
      | nil => rfl
      | cons => rw [hq] at h; cases h
    · have h := of_decide_eq_false h
      omega
  have hll : l.length < 137438953472 := by
    rcases hB with h | h
    · rcases hcl with h2 | h2
      · omega
      · rw [h2]; decide
    · exact Nat.lt_of_le_of_lt (nodup_sub hln fun x hx => (hlm x).1 hx) (h.1 S0)
  have hA7 : AddAt w7 bn bt tb mn nilS vl nilS (0 < l.length) := ⟨fun h => hl0 (List.eq_nil_of_length_eq_zero (by omega)), (fun g hg => by
    refine ⟨?_, fun h => by cases h⟩
    rcases hg with h | h | h | h
    · omega
    · omega
    · cases h
    · exact (hlb g h.symm).2), (fun g hg => by cases hg), (fun g hg => ⟨(fun h => by cases h), (fun h => by have := (hlb g h.symm).1; rcases hg with h | h <;> omega), (fun h => by cases h)⟩)⟩
  refine drawnX agree mixed 4 [1, 2, 3, 0] (by kernel_rfl) (COnce (turnA (0 < l.length) tb mn nilS vl) w7 nilS) (preCOnce _ _ _) (fun W => 0 < l.length → W.heap.size = w7.heap.size ∧ Kp w7 W) 3 (fun _ => ⟨rfl, (Chg.refl _ _).drew⟩) ?_
  conv => whnf
  refine calluv (τ := Value × Value) (hne := ⟨(undef, undef)⟩) (fun y => y.2) (AddF w4.heap.size bn bt tb mn V0 rv v2 nilS nilS nilS (Tb.addN [] (Tb.sortN l)).1 (Tb.isort (Tb.addN [] (Tb.sortN l)).2) (0 < l.length) w7) rfl rfl rfl (fun y W W' hF hS => hF.keep hS hA7) callAdd (fun W hS _ hU => ?_) fun y8 D hD => ?_
  · refine (add_S hG7 (by omega) hlr (by omega) (fun g hg hh => by cases hh) hln hlc List.nodup_nil (by show 0 + l.length < _; omega) hA7 hS hU).mono fun en W' hr => ?_
    cases en with
    | returned r => exact ⟨hr.1, hr.2.2⟩
    | _ => exact hr.elim
  conv => whnf
  refine ldu (preCOnce _ _ _) agree rfl rfl (fun W h _ _ => h.chg.range (Own.at_ (xs := [pt tb 0]) (o := 0) hG7.ct rfl) fun hh => ?_) (by rfl) fun _ => ?_
  · rcases hh with (⟨-, hh⟩ | hh) | hh
    · rcases hh with hh | hh | hh
      · exact hG7.ne.2.2.2.1 hh
      · exact hG7.ne.2.1 hh
      · cases hh
    · have := (hlb _ hh.symm).1; omega
    · cases hh
  conv => whnf
  intro w8 hS8 hd8
  have hF8 := hD w8 (hd8 3)
  obtain ⟨nv8, iv8⟩ := y8
  obtain ⟨hG8, hnv8, hiv8, hsz8⟩ := hF8
  simp only at hG8 hnv8 hiv8
  have hlf := Tb.sortN_fits hln hlm
  rewrite [hlf] at hG8 hiv8
  change w8.ownsRow _ _ _ _ (Tb.inits rs S0).length (((Tb.inits rs S0).map fun (n : Nat) => (n : Int)).flatMap fN1) at hiv8
  obtain ⟨In, hIn⟩ : ∃ In, In = Tb.inits rs S0 := ⟨_, rfl⟩
  rewrite [← hIn] at hiv8
  have hst0 : Tb.start rs S0 = ⟨(Tb.addN [] (Tb.fits rs S0)).1, []⟩ := rfl
  obtain ⟨G0, hG0⟩ : ∃ G0, G0 = Tb.start rs S0 := ⟨_, rfl⟩
  have hG0n : (Tb.addN [] (Tb.fits rs S0)).1 = G0.nodes := by rw [hG0]; rfl
  have hG0x : G0.next = [] := by rw [hG0]; rfl
  have hN0 : Tb.NodesOk rs.length G0.nodes := by rw [← hG0n]; exact Tb.NodesOk.add ⟨List.nodup_nil, fun p hp => by cases hp⟩ (Tb.fits_lt hw hS0n)
  rewrite [hG0n] at hG8
  have hiform := ownsRow_form hiv8
  obtain ⟨ia, ic, rfl⟩ := hiform
  have hz78 := hS8.chg.size
  have hc78 : Chg (fun g => w.heap.size ≤ g ∨ g = tb) w7 w8 := hS8.chg.mono fun g hg => by
    have := k07.size
    rcases hg with (⟨-, hg⟩ | hg) | hg
    · rcases hg with hg | hg | hg
      · exact .inl (by omega)
      · exact .inr hg
      · cases hg
    · exact .inl (by have := (hlb _ hg.symm).1; omega)
    · cases hg
  refine st agree hG8.tbl rfl (by show (4 : Nat) + 1 ≤ 6; decide) rfl fun w9 e9 k9 m9 => ?_
  have m9 : Own w9 tb 110 [V0, rv, v2, nv8, .slice ia In.length ic, nilS] := m9
  have htbase : tb < w.heap.size := htl
  have hG9 : GrowS w4.heap.size w9 bn bt tb mn V0 rv v2 (.slice ia In.length ic) nilS nv8 G0.nodes :=
    ⟨k9.own hG8.cn hG8.ne.1, k9.own hG8.ct hG8.ne.2.1, m9, ownsRow_chg hG8.row k9 fun g hg hh => ownsRow_ne hG8.row hG8.tbl (fun cs fr he => by injection he with _ he; exact absurd he (by decide)) (by rw [hh] at hg; exact hg), hG8.num.chg k9 (Ne.symm hG8.ne.2.2.2.2), hG8.ne, hG8.lt⟩
  have hiv9 := ownsRow_lo (ownsRow_chg hiv8 k9 fun g hg hh => by have := ownsRow_base hiv8 hg; omega) (by omega : w4.heap.size ≤ w7.heap.size)
  have hc09 : Chg (fun g => g = tb) w w9 := ((k07.mono fun _ h => h.elim).newT hc78 fun g hg => hg.elim .inr .inl).trans k9
  refine loop agree (σ := Value × Value × List Value × Tb.GS) (fun s => [(1, iV most), (2, pt bt 0), (6, clA bn bt), (10, iV (s.2.2.2.next.length : Nat))])
    (fun s W => Chg (fun g => g = tb) w W ∧ GrowS w4.heap.size W bn bt tb mn V0 rv v2 (.slice ia In.length ic) s.2.1 s.1 s.2.2.2.nodes ∧ W.ownsRow w4.heap.size 3 1 (.slice ia In.length ic) In.length ((In.map fun (n : Nat) => (n : Int)).flatMap fN1) ∧ NextS w4.heap.size W s.2.1 s.2.2.1 s.2.2.2.next ∧
      Tb.NodesOk rs.length s.2.2.2.nodes ∧ s.2.2.2 = Tb.giter rs s.2.2.2.next.length G0 ∧ (∃ fuel, Tb.gloop rs most (most.toNat + 2) G0 = Tb.gloop rs most fuel s.2.2.2 ∧ fuel + s.2.2.2.next.length = most.toNat + 2) ∧ s.2.2.2.next.length ≤ most.toNat ∧ w9.heap.size ≤ W.heap.size)
    (fun s => most.toNat + 1 - s.2.2.2.next.length) (nv8, nilS, [], G0) ⟨rfl, rfl, rfl, by simp only [hG0x]; rfl, trivial⟩
    ⟨hc09, hG9, hiv9, by simp only [hG0x]; exact ⟨World.ownsRow_nil _ _ _ _, rfl, fun i r hr => by cases hr⟩, hN0, by simp only [hG0x]; rfl, ⟨_, rfl, by simp only [hG0x]; rfl⟩, by simp only [hG0x]; exact Nat.zero_le _, Nat.le_refl _⟩ ?_
  rintro ⟨nv, xv, xs, gs⟩ e0 W ⟨hcW, hGW, hivW, hxW, hNW, hgs, ⟨fuel, hgl, hfu⟩, hnx, hzW⟩
  simp only at hGW hxW hNW hgs hgl hfu hnx
  have hnf := ownsRow_form hGW.row
  obtain ⟨na, nc, rfl⟩ := hnf
  have hxf := ownsRow_form hxW.row
  obtain ⟨xa, xc, rfl⟩ := hxf
  refine ld agree (Own.at_ (xs := [pt tb 0]) hGW.ct rfl) (by rfl) ?_
  refine ld agree (Own.at_ (xs := [.slice na gs.nodes.length nc]) (o := 3) hGW.tbl rfl) (by rfl) ?_
  refine sp (fun h1 => ?_) (fun h1 => ?_)
  · refine ld agree (Own.at_ (xs := [pt tb 0]) hGW.ct rfl) (by rfl) ?_
    refine ld agree (Own.at_ (xs := [.slice na gs.nodes.length nc]) (o := 3) hGW.tbl rfl) (by rfl) ?_
    refine sp (fun h2 => ?_) (fun h2 => ?_)
    · have h1 : ((gs.next.length : Nat) : Int) < ((gs.nodes.length : Nat) : Int) := h1
      have h2 : ((gs.nodes.length : Nat) : Int) ≤ most := h2
      have hjn : gs.next.length < gs.nodes.length := by omega
      have hpj := List.getElem?_eq_getElem hjn
      obtain ⟨p, hpd⟩ : ∃ p, p = gs.nodes[gs.next.length] := ⟨_, rfl⟩
      rewrite [← hpd] at hpj
      have hpn := hNW.2 p (List.mem_of_getElem? hpj)
      have hrow := ownsRow_row (f := pairC) pairC_len hGW.row (by decide)
      obtain ⟨la', lc', he, -, hLx⟩ := hrow
      injection he with he _ _
      subst he
      have hob := hLx _ p hpj
      obtain ⟨b, o, rfl, hblo, hbhi, cs, -, hrd, rfl⟩ := hob
      have htW : Own W tb 110 [V0, rv, v2, .slice (some ⟨b, o, none⟩) gs.nodes.length nc, .slice ia In.length ic, .slice xa gs.next.length xc] := hGW.tbl
      have hrsW : RowsE lo hi W rv rs := RowE.chg hrs hcW (fun k hk1 hk2 he => hnt (by subst he; exact ⟨hk1, hk2⟩)) fun _ _ h => h
      have hBs : most < 274877906944 ∨ (Rn rs ⟨0, 0, p.2⟩).length < 274877906944 := hB.imp (fun h => by omega) fun h => Nat.lt_trans (h.1 p.2) (by decide)
      have hzw := hcW.size
      refine drawnK agree mixed 16 [1, 2, 3, 4, 5, 6, 7, 8, 0, 9, 10, 11, 12, 13, 14, 15] (by kernel_rfl) ?_
      conv => whnf
      refine ldk agree rfl rfl (fun V hV _ => (hV.own hGW.ct id).at_ (xs := [pt tb 0]) rfl) (by rfl) fun _ => ?_
      conv => whnf
      refine ldk agree rfl rfl (fun V hV _ => Own.at_ (xs := [.slice (some ⟨b, o, none⟩) gs.nodes.length nc]) (o := 3) (hV.own htW id) rfl) (by rfl) fun _ => ?_
      conv => whnf
      refine ne ⟨by omega, h1⟩ ?_
      conv => whnf
      refine ldk (cs := setC p.2) (v := setA p.2) agree rfl rfl (fun V hV _ => by simp only [Int.toNat_natCast]; exact hV.range (pair_due hrd) id) (by rfl) fun _ => ?_
      conv => whnf
      refine ldk agree rfl rfl (fun V hV _ => (hV.own hGW.ct id).at_ (xs := [pt tb 0]) rfl) (by rfl) fun _ => ?_
      conv => whnf
      refine callf (τ := Bool × Value) (hne := ⟨(true, undef)⟩) (fun y => .tuple #[y.2, .bool y.1]) (FitsQ rs p.2 most W.heap.size) rfl rfl rfl (fun y V V' hF hS => hF.kp hS) callFits (fun V hV _ => ?_) fun y D hD => ?_
      · refine (fits_c (most := most) (hV.own htW id) (RowE.chg hrsW hV (fun _ _ _ => id) fun _ _ h => h) (by have := hV.size; omega) hw hrl (cap_of hpn.2 hrl) hpn.2 hBs).mono fun en V' hr => ?_
        cases en with
        | returned r =>
          obtain ⟨hk', ok, vl, rfl, q1, q2, q3⟩ := hr
          exact ⟨hk', (ok, vl), rfl, FitsQ.lo ⟨q1, q2, q3⟩ hV.size⟩
        | _ => exact hr.elim
      conv => whnf
      intro w10 k10 hd10
      have hF10 := hD w10 (hd10 10)
      obtain ⟨ok, vl2⟩ := y
      obtain ⟨hov2, hsl2, hfl2⟩ := hF10
      simp only at hov2 hsl2 hfl2
      cases ok with
      | false =>
        refine ⟨hcW.newT k10 fun _ h => h.elim, false, rfl, fun _ => .inr ?_, fun h => by cases h⟩
        rw [← hG0, hgl, show fuel = (fuel - 1) + 1 by omega, Tb.gloop_step hpj h2, if_pos (show Tb.over most (Tb.fits rs p.2) = true from hov2)]
      | true =>
      have hll2 := hfl2 rfl
      obtain ⟨l2, hlr2, hln2, hlm2, hlc2, hl02⟩ := hll2
      have hov2 : Tb.over most (Tb.fits rs p.2) = false := hov2
      have hz10 := k10.size
      have hG10 := hGW.kp k10
      have hx10 := hxW.kp k10
      have hiv10 := ownsRow_chg hivW k10 fun _ _ => id
      obtain ⟨nvv, hnvv⟩ : ∃ nvv, nvv = Value.slice (some ⟨b, o, none⟩) gs.nodes.length nc := ⟨_, rfl⟩
      rewrite [← hnvv] at hG10
      obtain ⟨xvv, hxvv⟩ : ∃ xvv, xvv = Value.slice xa gs.next.length xc := ⟨_, rfl⟩
      rewrite [← hxvv] at hG10 hx10
      obtain ⟨ivv, hivv⟩ : ∃ ivv, ivv = Value.slice ia In.length ic := ⟨_, rfl⟩
      rewrite [← hivv] at hG10 hiv10
      have hl2b : ∀ g, vl2.ownBlock = some g → W.heap.size ≤ g ∧ g < w10.heap.size := fun g hg => ⟨ownsRow_base hlr2 hg, (hlr2.lt g hg).2⟩
      have hnvb : ∀ g, nvv.ownBlock = some g → w4.heap.size ≤ g ∧ g < W.heap.size := fun g hg => ⟨ownsRow_base hG10.row hg, (hGW.row.lt g (by rw [← hnvv]; exact hg)).2⟩
      have hxvb : ∀ g, xvv.ownBlock = some g → w4.heap.size ≤ g ∧ g < w10.heap.size := fun g hg => ⟨ownsRow_base hx10.row hg, (hx10.row.lt g hg).2⟩
      have hofX := turnA_off (ne := True) hG10 hlr2 hx10.row (by decide) (by decide)
      have hA10 : AddAt w10 bn bt tb mn nvv vl2 xvv (0 < l2.length) := ⟨fun h => hl02 (List.eq_nil_of_length_eq_zero (by omega)), (fun g hg => by
          refine ⟨?_, fun h => hofX g h ?_⟩
          · have hlt := hG10.lt
            rcases hg with h | h | h | h
            · omega
            · omega
            · have := (hnvb _ h.symm).2; omega
            · exact (hl2b g h.symm).2
          · rcases hg with h | h | h | h
            · exact .inl ⟨trivial, .inl h⟩
            · exact .inl ⟨trivial, .inr (.inl h)⟩
            · exact .inl ⟨trivial, .inr (.inr h)⟩
            · exact .inr h), (fun g hg => (hxvb g hg).2), (fun g hg => by
          rcases hg with rfl | rfl
          · exact ⟨fun h => ownsRow_ne hG10.row hG10.cn (fun cs fr he => by injection he with _ he; exact absurd he (by decide)) h.symm, fun h => ownsRow_ne hlr2 hG10.cn (fun cs fr he => by injection he with _ he; exact absurd he (by decide)) h.symm, ownsRow_ne hx10.row hG10.cn (fun cs fr he => by injection he with _ he; exact absurd he (by decide))⟩
          · exact ⟨fun h => ownsRow_ne hG10.row hG10.ct (fun cs fr he => by injection he with _ he; exact absurd he (by decide)) h.symm, fun h => ownsRow_ne hlr2 hG10.ct (fun cs fr he => by injection he with _ he; exact absurd he (by decide)) h.symm, ownsRow_ne hx10.row hG10.ct (fun cs fr he => by injection he with _ he; exact absurd he (by decide))⟩)⟩
      have hlf2 := Tb.sortN_fits hln2 hlm2
      have hcl2 : (l2.length : Int) ≤ most ∨ l2 = [] := by
        have hfl := fits_len hln2 hlm2
        unfold Tb.over at hov2
        rw [hfl] at hov2
        rcases Bool.and_eq_false_iff.1 hov2 with h | h
        · refine .inr (List.eq_nil_of_length_eq_zero ?_)
          rw [← hfl]
          cases hq : Tb.fits rs p.2 with
          | nil => rfl
          | cons => rw [hq] at h; cases h
        · have h := of_decide_eq_false h
          omega
      have hll2 : gs.nodes.length + l2.length < 274877906944 := by
        rcases hB with h | h
        · rcases hcl2 with h3 | h3
          · omega
          · rw [h3]; show gs.nodes.length + 0 < _; omega
        · have h3 := Nat.lt_of_le_of_lt (nodup_sub hln2 fun x hx => (hlm2 x).1 hx) (h.1 p.2)
          have h4 := h.2 gs.next.length
          rw [← hG0, ← hgs] at h4
          omega
      obtain ⟨N2, hN2⟩ : ∃ N2, N2 = (Tb.addN gs.nodes (Tb.sortN l2)).1 := ⟨_, rfl⟩
      obtain ⟨O2, hO2⟩ : ∃ O2, O2 = Tb.isort (Tb.addN gs.nodes (Tb.sortN l2)).2 := ⟨_, rfl⟩
      have hgst : Tb.gstep rs gs = ⟨N2, gs.next ++ [O2]⟩ := by rw [Tb.gstep_eq hpj, hN2, hO2, hlf2]
      obtain ⟨T, hTd⟩ : ∃ T, T = turnA (0 < l2.length) tb mn nvv vl2 := ⟨_, rfl⟩
      have hTl : ∀ g, T g → g < w10.heap.size ∧ xvv.ownBlock ≠ some g := fun g hg => hA10.lvT (by rw [← hTd]; exact hg)
      have hbtT : ¬ (T bt ∨ some bt = xvv.ownBlock) := fun hh => by
        have h3 := hA10.off bt (.inr rfl)
        rw [hTd] at hh
        rcases hh with (⟨-, hh⟩ | hh) | hh
        · rcases hh with hh | hh | hh
          · exact hG10.ne.2.2.2.1 hh
          · exact hG10.ne.2.1 hh
          · exact h3.1 hh
        · exact h3.2.1 hh
        · exact h3.2.2 hh.symm
      have htbx : ¬ some tb = xvv.ownBlock := fun hh => (hA10.T tb (.inr (.inl rfl))).2 hh.symm
      obtain ⟨H, hHd⟩ : ∃ H : World → Prop, H = fun V => ∃ nv', Own V tb 110 [V0, rv, v2, nv', ivv, xvv] := ⟨_, rfl⟩
      have hHc : ∀ {S : Nat → Prop} (V V' : World), Chg S V V' → ¬ S tb → H V → H V' := fun V V' hc hs hh => by
        rw [hHd] at hh ⊢
        obtain ⟨nv', ho⟩ := hh
        exact ⟨nv', hc.own ho hs⟩
      obtain ⟨Q, hQd⟩ : ∃ Q : Value → World → Prop, Q = fun r V => V.ownsRow w10.heap.size 3 1 r O2.length ((O2.map fun (n : Nat) => (n : Int)).flatMap fN1) := ⟨_, rfl⟩
      have hQc : ∀ {S : Nat → Prop} (r : Value) (V V' : World), Chg S V V' → (∀ g, S g → g < w10.heap.size) → Q r V → Q r V' := fun r V V' hc hs hq => by
        rw [hQd] at hq ⊢
        exact ownsRow_chg hq hc fun g hg hh => by have := ownsRow_base hq hg; have := hs g hh; omega
      have hpre := preEAppR (H := H) (T := T) (w0 := w10) (base := w4.heap.size) (el := 38) (v := xvv) (n := gs.next.length) (xs := xs) (Q := Q) (fun r V V' k hq => hQc r V V' k (fun g hg => hg.elim) hq) (fun V V' k hh => hHc V V' k id hh)
      have hbt10 : ∀ V, EAppR H T w10 w4.heap.size 38 xvv gs.next.length xs Q w10 V → V.rangeAt bt 0 [pt tb 0] := fun V h => h.c.chg.range (Own.at_ (xs := [pt tb 0]) (o := 0) hG10.ct rfl) hbtT
      have hH10 : H w10 := by rw [hHd]; exact ⟨nvv, hG10.tbl⟩
      refine drawnX agree mixed 10 [5, 6, 7, 1, 2, 3, 4, 0, 8, 9] (by kernel_rfl) (EAppR H T w10 w4.heap.size 38 xvv gs.next.length xs Q) hpre (fun V => 0 < l2.length → V.heap.size = w10.heap.size ∧ Kp w10 V) 7 (fun _ => ⟨rfl, (Chg.refl _ _).drew⟩) ?_
      conv => whnf
      refine calluv (τ := Value × (Option Addr × Nat)) (hne := ⟨(undef, (none, 0))⟩) (fun y => .slice y.2.1 O2.length y.2.2) (fun y V => AddF w4.heap.size bn bt tb mn V0 rv v2 ivv xvv nvv N2 O2 (0 < l2.length) w10 (y.1, .slice y.2.1 O2.length y.2.2) V) rfl rfl rfl (fun y V V' hF hS => hF.keep (by rw [← hTd]; exact hS.c) hA10) callAdd (fun V hS _ hU => ?_) fun y D hD => ?_
      · have hca := add_S hG10 (by omega) hlr2 (by omega) (fun g hg hh => by have := (hl2b g hg).1; have := (hnvb g hh).2; omega) hln2 hlc2 hNW.1 hll2 hA10 (by rw [← hTd]; exact hS.c) hU
        rewrite [← hN2, ← hO2, ← hTd] at hca
        refine hca.mono fun en V' hr => ?_
        cases en with
        | returned r =>
          obtain ⟨q1, q2, ⟨y1, y2⟩, rfl, q3⟩ := hr
          have q3f := ownsRow_form q3.2.2.1
          obtain ⟨ra, rc, hre⟩ := q3f
          simp only at hre
          subst hre
          exact ⟨EAppR.ofCall q1 q2 hTl (fun r hq => hQc r V V' q2 (fun g hg => (hTl g hg).1) hq) fun _ => by rw [hHd]; exact ⟨_, q3.1.tbl⟩, (y1, (ra, rc)), rfl, q3⟩
        | _ => exact hr.elim
      conv => whnf
      refine ldu hpre agree rfl rfl (fun V h _ _ => hbt10 V h) (by rfl) fun _ => ?_
      conv => whnf
      refine ldu hpre agree rfl rfl (v := .slice xa gs.next.length xc) (cs := [.slice xa gs.next.length xc]) (fun V h _ _ => by
        have hh := h.hdr hH10
        rw [hHd] at hh
        obtain ⟨nv', ho⟩ := hh
        rw [← hxvv]
        exact Own.at_ (xs := [xvv]) (o := 5) ho rfl) (by rfl) fun _ => ?_
      conv => whnf
      refine ldu hpre agree rfl rfl (fun V h _ _ => hbt10 V h) (by rfl) fun _ => ?_
      conv => whnf
      refine ⟨fun V V' hS hDn hS' hU h0 => ?_, ?_⟩
      · have h3 := (hD V (hDn 7 (by kernel_rfl))).2.2.2 h0
        have h4 := (hU h0).1
        omega
      refine bsr hpre rfl rfl rfl rfl (by rfl) (by decide) (fun b' o' V V' hb ho hS => hS.c.chg.heap ho fun hc => hc.elim (fun hc => by have := (hTl b' hc).1; omega) fun hc => by have := (hxvb b' hc.symm).2; omega) (fun V hS => hS.c.chg.size) fun bq D2 hD2 => ?_
      conv => whnf
      refine ⟨fun V V' hS hDn hS' hU h0 => ?_, ?_⟩
      · have h3 := (hD V (hDn 7 (by kernel_rfl))).2.2.2 h0
        have h4 := (hU h0).1
        omega
      refine aprE (r := .slice y.2.1 O2.length y.2.2) agree (fun r V V' hc hq => hQc r V V' hc (fun g hg => (hxvb g hg.symm).2) hq) rfl hxvv.symm rfl rfl rfl rfl rfl hx10.row (fun V hS hDn => ⟨Own.at_ (xs := [.slice y.2.1 O2.length y.2.2]) (o := 0) (hD2 V (hDn 8 (by kernel_rfl))).1 rfl, by rw [hQd]; exact (hD V (hDn 7 (by kernel_rfl))).2.2.1⟩) rfl (by simp only [maxLen]; omega) (by show (_ + 1) * 24 ≤ _; omega) (by omega) (fun g hg => (hTl g hg).2) (fun V V' hc hh => hHc V V' hc htbx hh) fun xv' D3 hD3 => ?_
      conv => whnf
      intro w11 hS11 hd11
      have hF11 := hD w11 (hd11 7)
      have hP11 := hD3 w11 (hd11 9)
      obtain ⟨y1, ra, rc⟩ := y
      obtain ⟨rr, hQ11, hxr11, hxnew⟩ := hP11
      obtain ⟨hG11, hnv11, hr11, hsz11⟩ := hF11
      simp only at hG11 hnv11 hr11
      rewrite [hQd] at hQ11
      have hz11 := hS11.c.chg.size
      have hTc : ∀ {el size base' n : Nat} {v : Value} {ys : List Value}, w10.ownsRow base' el size v n ys → el ≠ 110 → el ≠ 120 → el ≠ 38 → ∀ g, v.ownBlock = some g → ¬ (T g ∨ some g = xvv.ownBlock) := fun ho h1 h2 h3 g hg hh => by
        rcases hh with hh | hh
        · rw [hTd] at hh
          exact turnA_off hG10 hlr2 ho h1 h2 g hg hh
        · exact rows_sep2 ho hx10.row h3 g hg hh.symm
      have hiv11 := ownsRow_chg hiv10 hS11.c.chg (hTc hiv10 (by decide) (by decide) (by decide))
      have hea11 : ∀ (i : Nat) r, gs.next[i]? = some r → ∃ x, xs[i]? = some x ∧ w11.ownsRow w4.heap.size 3 1 x r.length ((r.map fun (n : Nat) => (n : Int)).flatMap fN1) := fun i r hr => by
        have hx := hx10.each i r hr
        obtain ⟨x, hx1, hx2⟩ := hx
        exact ⟨x, hx1, ownsRow_chg hx2 hS11.c.chg (hTc hx2 (by decide) (by decide) (by decide))⟩
      have hxf11 := ownsRow_form hxr11
      obtain ⟨ua, uc, rfl⟩ := hxf11
      refine st agree hG11.tbl rfl (by show (5 : Nat) + 1 ≤ 6; decide) rfl fun w12 e12 k12 m12 => ?_
      have m12 : Own w12 tb 110 [V0, rv, v2, y1, ivv, .slice ua (gs.next.length + 1) uc] := m12
      have hoff : ∀ {el size base' n : Nat} {v : Value} {ys : List Value}, w11.ownsRow base' el size v n ys → el ≠ 110 → ∀ g, v.ownBlock = some g → ¬ g = tb := fun ho h1 g hg hh => ownsRow_ne ho hG11.tbl (fun cs fr he => by injection he with _ he; exact h1 he.symm) (by rw [← hh]; exact hg)
      have hG12 : GrowS w4.heap.size w12 bn bt tb mn V0 rv v2 ivv (.slice ua (gs.next.length + 1) uc) y1 N2 :=
        ⟨k12.own hG11.cn hG11.ne.1, k12.own hG11.ct hG11.ne.2.1, m12, ownsRow_chg hG11.row k12 (hoff hG11.row (by decide)), hG11.num.chg k12 (Ne.symm hG11.ne.2.2.2.2), hG11.ne, hG11.lt⟩
      have hiv12 := ownsRow_chg hiv11 k12 (hoff hiv11 (by decide))
      have hxlen : (gs.next ++ [O2]).length = gs.next.length + 1 := by rw [List.length_append]; rfl
      have hx12 : NextS w4.heap.size w12 (.slice ua (gs.next.length + 1) uc) (xs ++ [rr]) (gs.next ++ [O2]) := by
        refine ⟨by rw [hxlen]; exact ownsRow_chg hxr11 k12 (hoff hxr11 (by decide)), by rw [hxlen, List.length_append, hx10.len]; rfl, fun i r hr => ?_⟩
        by_cases hi : i < gs.next.length
        · rw [List.getElem?_append_left hi] at hr
          have hx := hea11 i r hr
          obtain ⟨x, hx1, hx2⟩ := hx
          exact ⟨x, by rw [List.getElem?_append_left (by rw [hx10.len]; exact hi)]; exact hx1, ownsRow_chg hx2 k12 (hoff hx2 (by decide))⟩
        · rw [List.getElem?_append_right (by omega)] at hr
          have hi0 : i - gs.next.length = 0 := by
            have := (List.getElem?_eq_some_iff.1 hr).1
            simp only [List.length_cons, List.length_nil] at this
            omega
          rw [hi0] at hr
          injection hr with hr
          subst hr
          refine ⟨rr, by rw [List.getElem?_append_right (by rw [hx10.len]; omega), hx10.len, hi0]; rfl, ownsRow_lo (ownsRow_chg hQ11 k12 (hoff hQ11 (by decide))) (by omega)⟩
      have hmnb : mn < w4.heap.size ∧ w.heap.size ≤ mn := by have := k1.size; omega
      have hc12 : Chg (fun g => g = tb) w w12 := ((hcW.newT k10 fun _ h => h.elim).newT hS11.c.chg fun g hg => by
        have := k46.size
        have := k1.size
        rcases hg with hg | hg
        · rw [hTd] at hg
          rcases hg with ⟨-, hg | hg | hg⟩ | hg
          · exact .inr (by omega)
          · exact .inl hg
          · exact .inr (by have := (hnvb _ hg.symm).1; omega)
          · exact .inr (by have := (hl2b _ hg.symm).1; omega)
        · exact .inr (by have := (hxvb _ hg.symm).1; omega)).trans k12
      have hN12 : Tb.NodesOk rs.length N2 := by rw [hN2, hlf2]; exact hNW.add (Tb.fits_lt hw hpn.2)
      have hjz : gs.next.length < most.toNat := by omega
      refine aw (by have := hsz11; omega) (by omega) ?_
      refine again (y1, .slice ua (gs.next.length + 1) uc, xs ++ [rr], ⟨N2, gs.next ++ [O2]⟩) ⟨rfl, rfl, rfl, by simp only [hxlen]; rfl, trivial⟩ ⟨hc12, by rw [← hivv]; exact hG12, by rw [← hivv]; exact hiv12, hx12, hN12, ?_, ⟨fuel - 1, ?_, ?_⟩, ?_, by have := k12.size; omega⟩ ?_
      · simp only [hxlen]
        rw [Tb.giter_succ, ← hgs, hgst]
      · rw [hgl, show fuel = (fuel - 1) + 1 by omega, Tb.gloop_step hpj h2, if_neg (by rw [hov2]; decide), hgst]
        rfl
      · simp only [hxlen]; omega
      · simp only [hxlen]; omega
      · simp only [hxlen]; omega
    · refine ld agree (Own.at_ (xs := [pt tb 0]) hGW.ct rfl) (by rfl) ?_
      refine ld agree (Own.at_ (xs := [.slice na gs.nodes.length nc]) (o := 3) hGW.tbl rfl) (by rfl) ?_
      have h2 : ¬ ((gs.nodes.length : Nat) : Int) ≤ most := h2
      refine spF h2 ?_
      refine ⟨hcW, false, rfl, fun _ => .inr ?_, fun h => by cases h⟩
      rw [← hG0, hgl, show fuel = (fuel - 1) + 1 by omega]
      exact Tb.gloop_over (by omega)
  · refine ld agree (Own.at_ (xs := [pt tb 0]) hGW.ct rfl) (by rfl) ?_
    refine ld agree (Own.at_ (xs := [.slice na gs.nodes.length nc]) (o := 3) hGW.tbl rfl) (by rfl) ?_
    have h1 : ¬ ((gs.next.length : Nat) : Int) < ((gs.nodes.length : Nat) : Int) := h1
    have hend := Tb.gloop_end (rs := rs) (most := most) (k := fuel - 1) (s := gs) (by omega)
    rewrite [show fuel - 1 + 1 = fuel by omega, ← hgl] at hend
    by_cases h2 : ((gs.nodes.length : Nat) : Int) ≤ most
    · rewrite [if_pos h2] at hend
      refine spT h2 ?_
      refine ⟨hcW, true, rfl, ⟨(fun h => by cases h), fun _ => ⟨hov0, gs, .slice na gs.nodes.length nc, .slice ia In.length ic, .slice xa gs.next.length xc, xs, (by rw [← hG0]; exact hend), hGW.tbl, ownsRow_lo hGW.row (by have := k46.size; omega), ?_, ?_, hNW⟩⟩⟩
      · rw [← hIn]
        exact ownsRow_lo hivW (by have := k46.size; omega)
      · exact ⟨ownsRow_lo hxW.row (by have := k46.size; omega), hxW.len, fun i r hr => by
          have hx := hxW.each i r hr
          obtain ⟨x, hx1, hx2⟩ := hx
          exact ⟨x, hx1, ownsRow_lo hx2 (by have := k46.size; omega)⟩⟩
    · rewrite [if_neg h2] at hend
      refine spF h2 ?_
      exact ⟨hcW, false, rfl, fun _ => .inr (by rw [← hG0]; exact hend), fun h => by cases h⟩
end Go.Au

namespace Go.Au
open Go Go.RowKit
open Fm (idx)

/-! ### lay -/
theorem indexBy_idx {x : Fm} : ∀ (l : List Fm) (i : Nat), indexBy (fun y => decide (y = x)) i l = if idx l x < 0 then -1 else i + idx l x
  | [], i => by simp [indexBy, idx]
  | a :: r, i => by
    by_cases h : a = x
    · have e : idx (a :: r) x = 0 := by simp only [idx]; rw [if_pos h]
      rw [e]; simp [indexBy, h]
    · have e : idx (a :: r) x = if idx r x < 0 then -1 else idx r x + 1 := by simp only [idx]; rw [if_neg h]
      have e2 : indexBy (fun y => decide (y = x)) i (a :: r) = indexBy (fun y => decide (y = x)) (i + 1) r := by simp [indexBy, h]
      rw [e, e2, indexBy_idx r (i + 1)]
      rcases Fm.idx_range (x := x) r with ⟨h1, -⟩ | ⟨j, h1, -, -⟩
      · rw [h1]; rfl
      · rw [h1]
        have h2 : ¬ (j : Int) < 0 := by omega
        have h3 : ¬ (j : Int) + 1 < 0 := by omega
        simp only [if_neg h2, if_neg h3]
        omega
theorem indexBy_idx0 (l : List Fm) (x : Fm) : indexBy (fun y => decide (y = x)) 0 l = idx l x := by
  rw [indexBy_idx]
  rcases Fm.idx_range (x := x) l with ⟨h1, -⟩ | ⟨j, h1, -, -⟩
  · rw [h1]; rfl
  · rw [h1, if_neg (by omega)]; simp
theorem callLay2 : callable Proofs.Tryz.prog 136 = true := by kernel_rfl
theorem lay2_c {n lo hi lo' hi' q : Nat} {w : World} {v u : Value} {f g : Fm} (hq : Own w q 26 (fmC g u)) (h : KidsN n lo hi w v f.kids) (h' : KidsN n lo' hi' w u g.kids) (hs : f.size < 4611686018427387904) :
    Calls Proofs.Tryz.prog 136 [fmA f v, pt q 0].toArray w (Ret fun r w' => r = .bool (decide (f = g)) ∧ Kp w w') := by
  obtain ⟨va, vc, rfl, -⟩ := h.slice
  obtain ⟨ua, uc, rfl, -⟩ := h'.slice
  refine call agree Proofs.Tryz.func136 rfl Proofs.Tryz.ntmps136 (by kernel_rfl) ?_
  refine nd fun p w1 e1 s1 k1 m1 => ?_
  have m1 : Own w1 p 26 (fmC f (.slice va f.kids.length vc)) := m1
  refine ld agree (Own.all m1) (by rfl) ?_
  refine ld agree (Own.all (k1.own hq id)) (by rfl) ?_
  refine cl callCmp (cmp_c n lo hi lo' hi' w1 _ _ f g (h.kp k1) (h'.kp k1) hs) ?_
  rintro _ w3 ⟨rfl, k3⟩
  refine sp (fun h => ?_) (fun h => ?_)
  · exact ⟨congrArg Value.bool (decide_eq_true (Fm.cmp_zero_iff.1 h)).symm, k1.trans k3⟩
  · exact ⟨congrArg Value.bool (decide_eq_false fun he => h (Fm.cmp_zero_iff.2 he)).symm, k1.trans k3⟩
theorem callLay1 : callable Proofs.Tryz.prog 134 = true := by kernel_rfl
theorem lay1_c {n m lo hi lo' hi' bt tb : Nat} {w : World} {sv u r1 r2 r3 r4 r5 : Value} {l : List Fm} {x : Fm} (hb : Own w bt 34 [pt tb 0]) (ht : Own w tb 110 [sv, r1, r2, r3, r4, r5]) (hk : KidsN n lo hi w sv l) (hx : KidsN m lo' hi' w u x.kids) (hl : l.length < 4611686018427387904) (hs : ∀ y ∈ l, y.size < 4611686018427387904) :
    Calls Proofs.Tryz.prog 134 [fmA x u, pt bt 0].toArray w (Ret fun r w' => r = .int .i64 (idx l x) ∧ Kp w w') := by
  obtain ⟨ua, uc, rfl, -⟩ := hx.slice
  obtain ⟨sa, sc, rfl, -⟩ := hk.slice
  refine call agree Proofs.Tryz.func134 rfl Proofs.Tryz.ntmps134 (by kernel_rfl) ?_
  refine nd fun p w1 e1 s1 k1 m1 => ?_
  have m1 : Own w1 p 26 (fmC x (.slice ua x.kids.length uc)) := m1
  refine ld agree (Own.at_ (xs := [pt tb 0]) (k1.own hb id) rfl) (by rfl) ?_
  refine ld agree (Own.at_ (xs := [.slice sa l.length sc]) (o := 0) (k1.own ht id) rfl) (by rfl) ?_
  have hcall := indexF_c (w := w1) (hk.kp k1) hl 136 [pt p 0] (fun y => decide (y = x)) callLay2 fun m' hm W u' y kW hy hyl => lay2_c (n := m' + m) (f := y) (g := x) (kW.own m1 id) (hy.le (by omega)) (((hx.kp k1).kp kW).le (by omega)) (hs y hyl)
  refine cl callIndexF hcall ?_
  rintro _ w2 ⟨rfl, k2⟩
  exact ⟨congrArg (Value.int .i64) (indexBy_idx0 l x), k1.trans k2⟩
theorem lay_neg (rest : List Value) (v : Int) : ∀ (ys : List TRow) (k : Nat) (r : TRow), ys[k]? = some r → lay (ys.flatMap rowC ++ rest) (k * 4 + 3) [iV v] = (ys.set k { r with neg := v }).flatMap rowC ++ rest
  | [], k, r, h => by simp at h
  | y :: l, 0, r, h => by
    injection h with h
    subst h
    rfl
  | y :: l, k + 1, r, h => by
    have h1 := lay_neg rest v l k r (by simpa using h)
    have h2 := lay_right (rowC y) [iV v] (l.flatMap rowC ++ rest) (k * 4 + 3)
    rw [h1] at h2
    rw [show (k + 1) * 4 + 3 = (rowC y).length + (k * 4 + 3) by show _ = 4 + (k * 4 + 3); omega]
    simpa [List.append_assoc] using h2
theorem rowC_len (r : TRow) : (rowC r).length = 4 := rfl
/-- a row while its kids are found -/
def rowJ (subs : List Fm) (x : Fm) (j : Nat) : List Value := [.int .u8 x.op, iV (if 1 ≤ j then Tb.kidP subs x.kids 0 else 0), iV (if 2 ≤ j then Tb.kidP subs x.kids 1 else 0), iV (-1)]
theorem rowJ_end {subs : List Fm} {x : Fm} (h : x.kids.length ≤ 2) : rowJ subs x x.kids.length = rowC (Tb.row0 subs x) := by
  unfold rowJ rowC Tb.row0
  have h0 : (if 1 ≤ x.kids.length then Tb.kidP subs x.kids 0 else 0) = Tb.kidP subs x.kids 0 := by
    split
    · rfl
    · unfold Tb.kidP; rw [List.getElem?_eq_none (by omega)]
  have h1 : (if 2 ≤ x.kids.length then Tb.kidP subs x.kids 1 else 0) = Tb.kidP subs x.kids 1 := by
    split
    · rfl
    · unfold Tb.kidP; rw [List.getElem?_eq_none (by omega)]
  rw [h0, h1]
theorem rowJ_step {subs : List Fm} {x k : Fm} {j : Nat} (hk : x.kids[j]? = some k) (h : x.kids.length ≤ 2) : lay (rowJ subs x j) (1 + j * 1) [iV (idx subs k)] = rowJ subs x (j + 1) := by
  have hj := (List.getElem?_eq_some_iff.1 hk).1
  have hp : Tb.kidP subs x.kids j = idx subs k := by unfold Tb.kidP; rw [hk]
  rcases (show j = 0 ∨ j = 1 by omega) with rfl | rfl
  · rw [← hp]; rfl
  · rw [← hp]; rfl
theorem callLay : callable Proofs.Tryz.prog 59 = true := by kernel_rfl
set_option maxHeartbeats 2000000 in
theorem lay_c {w : World} {tb n lo hi : Nat} {sv v2 : Value} {f : Fm} (ht : Own w tb 110 [sv, nilS, v2, nilS, nilS, nilS]) (hk : KidsN (n + 1) lo hi w sv f.subs) (hhi : hi ≤ w.heap.size) (hnt : ¬ (lo ≤ tb ∧ tb < hi)) (hf : Fm.formed Fm.future f = true) (hsz : f.size ≤ 1000) :
    Calls Proofs.Tryz.prog 59 [pt tb 0].toArray w (Ret fun _ w' => Chg (fun g => g = tb) w w' ∧ ∃ rv, Own w' tb 110 [sv, rv, v2, nilS, nilS, nilS] ∧ w'.ownsRow w.heap.size 115 4 rv f.subs.length ((Tb.rows f.subs).flatMap rowC)) := by
  have htl := lt_of_heap ht
  have hsl : f.subs.length ≤ 1000 := by
    have := nodup_sub (Fm.subs_sorted f).nodup fun x hx => Fm.mem_subs.1 hx
    rw [Fm.all_len] at this
    omega
  have hss : ∀ y ∈ f.subs, y.size < 4611686018427387904 := fun y hy => by
    rcases Fm.all_size (Fm.mem_subs.1 hy) with h | h
    · subst h; omega
    · omega
  obtain ⟨sa, sc, rfl, hsc⟩ := hk.slice
  obtain ⟨S, hS⟩ : ∃ S, S = f.subs := ⟨_, rfl⟩
  have hmem : ∀ (i : Nat) x, S[i]? = some x → x ∈ f.all := fun i x hx => Fm.subs_at_mem (by rw [← hS]; exact hx)
  rewrite [← hS] at hk ht hsc hsl hss
  have htS : ∀ {W : World} {rv : Value}, Own W tb 110 [.slice sa S.length sc, rv, v2, nilS, nilS, nilS] → True := fun _ => trivial
  refine call agree Proofs.Tryz.func59 rfl Proofs.Tryz.ntmps59 (by kernel_rfl) ?_
  refine nd fun bt w1 e1 s1 k1 m1 => ?_
  have m1 : Own w1 bt 34 [pt tb 0] := m1
  refine ld agree (Own.at_ (xs := [pt tb 0]) m1 rfl) (by rfl) ?_
  refine ld agree (Own.at_ (xs := [.slice sa S.length sc]) (o := 0) (k1.own ht id) rfl) (by rfl) ?_
  refine loop agree (σ := Nat × Value) (fun s => [(1, pt bt 0), (2, .func (.func 134) #[] #[pt bt 0]), (14, .slice sa S.length sc), (15, iV (S.length : Nat)), (16, iV (s.1 : Nat))])
    (fun s W => s.1 ≤ S.length ∧ Chg (fun g => g = tb) w W ∧ Own W bt 34 [pt tb 0] ∧ Own W tb 110 [.slice sa S.length sc, s.2, v2, nilS, nilS, nilS] ∧ W.ownsRow w.heap.size 115 4 s.2 s.1 (((S.take s.1).map (Tb.row0 S)).flatMap rowC) ∧ w1.heap.size ≤ W.heap.size) (fun s => S.length - s.1) (0, nilS)
    ⟨rfl, rfl, rfl, rfl, rfl, trivial⟩ ⟨Nat.zero_le _, k1.mono fun _ h => h.elim, m1, k1.own ht id, World.ownsRow_nil _ _ _ _, Nat.le_refl _⟩ ?_
  rintro ⟨i, rv⟩ e0 W ⟨hi1, hcW, hbW, htW, hrW, hzW⟩
  simp only at hi1 htW hrW
  have hrf := ownsRow_form hrW
  obtain ⟨ra, rc, rfl⟩ := hrf
  refine sp (fun h1 => ?_) (fun h1 => ?_)
  · have h1 : ((i : Nat) : Int) < ((S.length : Nat) : Int) := h1
    have hil : i < S.length := by omega
    have hxi := List.getElem?_eq_getElem hil
    obtain ⟨x, hxd⟩ : ∃ x, x = S[i] := ⟨_, rfl⟩
    rewrite [← hxd] at hxi
    have hkW := hk.chg hcW fun k h1 h2 h3 => hnt (by subst h3; exact ⟨h1, h2⟩)
    have hfx : Fm.formed Fm.future x = true := Fm.formed_all hf (hmem i x hxi)
    have hx2 := kids_two hfx
    have hkid := hkW.kid hxi
    obtain ⟨kb, ko, xv, rfl, hkb1, hkb2, hkr, hkx⟩ := hkid
    have hxvs := hkx.slice
    obtain ⟨xa, xc, rfl, hxcap⟩ := hxvs
    refine ne ⟨by omega, h1⟩ ?_
    refine ld (v := fmA x (.slice xa x.kids.length xc)) agree (by simp only [Int.toNat_natCast]; exact hkr) (by rfl) ?_
    refine nd fun b4 w2 e2 s2 k2 m2 => ?_
    refine st agree m2 rfl (Nat.le_refl 3) rfl fun w3 e3 k3 m3 => ?_
    have m3 : Own w3 b4 26 (fmC x (.slice xa x.kids.length xc)) := m3
    refine ld agree (Own.at_ (xs := [.int .u8 x.op]) (o := 0) m3 rfl) (by rfl) ?_
    refine nd fun b5 w4 e4 s4 k4 m4 => ?_
    refine st agree m4 rfl (Nat.le_refl 4) rfl fun w5 e5 k5 m5 => ?_
    have m5 : Own w5 b5 115 (rowJ S x 0) := m5
    have k23 : Kp W w3 := k2.newS k3 (fun j hj => by subst hj; omega)
    have k45 : Kp w3 w5 := k4.newS k5 (fun j hj => by subst hj; omega)
    have kW5 : Kp W w5 := k23.trans k45
    have m35 := k45.own m3 id
    refine ld agree (Own.at_ (xs := [.slice xa x.kids.length xc]) (o := 2) m35 rfl) (by rfl) ?_
    have hb5 : b5 = w3.heap.size := e4.symm
    refine loop agree (σ := Nat) (fun j => [(1, pt bt 0), (2, .func (.func 134) #[] #[pt bt 0]), (4, pt b4 0), (5, pt b5 0), (14, .slice (some ⟨kb, ko, none⟩) S.length sc), (15, iV (S.length : Nat)), (16, iV (i : Nat)), (24, .slice xa x.kids.length xc), (25, iV (x.kids.length : Nat)), (26, iV (j : Nat))])
      (fun j V => j ≤ x.kids.length ∧ Kp W V ∧ Own V b5 115 (rowJ S x j)) (fun j => x.kids.length - j) 0
      ⟨rfl, rfl, rfl, rfl, rfl, rfl, rfl, rfl, rfl, rfl, trivial⟩ ⟨Nat.zero_le _, kW5, m5⟩ ?_
    rintro j e1' V ⟨hj1, kV, mV⟩
    refine sp (fun h2 => ?_) (fun h2 => ?_)
    · have h2 : ((j : Nat) : Int) < ((x.kids.length : Nat) : Int) := h2
      have hjl : j < x.kids.length := by omega
      have hkj := List.getElem?_eq_getElem hjl
      obtain ⟨k, hkd⟩ : ∃ k, k = x.kids[j] := ⟨_, rfl⟩
      rewrite [← hkd] at hkj
      cases n with
      | zero => exact (KidsN.kid0 hkx hkj).elim
      | succ n =>
      have hkk := (hkx.kp kV).kid hkj
      obtain ⟨jb, jo, kv, rfl, hjb1, hjb2, hjr, hjx⟩ := hkk
      have hkvs := hjx.slice
      obtain ⟨ka, kc, rfl, -⟩ := hkvs
      refine ne ⟨by omega, h2⟩ ?_
      refine ld (v := fmA k (.slice ka k.kids.length kc)) agree (by simp only [Int.toNat_natCast]; exact hjr) (by rfl) ?_
      refine nd fun b7 w6 e6 s6 k6 m6 => ?_
      refine st agree m6 rfl (Nat.le_refl 3) rfl fun w7 e7 k7 m7 => ?_
      have m7 : Own w7 b7 26 (fmC k (.slice ka k.kids.length kc)) := m7
      have k67 : Kp V w7 := k6.newS k7 (fun j hj => by subst hj; omega)
      refine ld agree (Own.all m7) (by rfl) ?_
      have kW7 := kV.trans k67
      have hcall := lay1_c (kW7.own hbW id) (kW7.own htW id) (hkW.kp kW7) (hjx.kp k67) (by omega) hss
      refine cl callLay1 hcall ?_
      rintro _ w8 ⟨rfl, k8⟩
      refine ixArr agree rfl rfl rfl rfl rfl rfl (show j < 2 by omega) ?_
      have m58 := k8.own (k67.own mV id) id
      refine st agree (o := 1 + j * 1) m58 rfl (by show 1 + j * 1 + 1 ≤ 4; omega) rfl fun w9 e9 k9 m9 => ?_
      have m9 : Own w9 b5 115 (lay (rowJ S x j) (1 + j * 1) [iV (idx S k)]) := m9
      rewrite [rowJ_step hkj hx2] at m9
      refine aw (by omega) (by omega) ?_
      have hfin : Kp W w9 := (kW7.trans k8).newS k9 (fun g hg => by subst hg; have := k23.size; omega)
      refine again (j + 1) ⟨rfl, rfl, rfl, rfl, rfl, rfl, rfl, rfl, rfl, rfl, trivial⟩ ⟨by omega, hfin, m9⟩ (by omega)
    · have hje : j = x.kids.length := by
        have h2 : ¬ ((j : Nat) : Int) < ((x.kids.length : Nat) : Int) := h2
        omega
      subst hje
      rewrite [rowJ_end hx2] at mV
      obtain ⟨R, hR⟩ : ∃ R, R = Tb.row0 S x := ⟨_, rfl⟩
      rewrite [← hR] at mV
      have hbV := kV.own hbW id
      have htV := kV.own htW id
      have hrV := ownsRow_chg hrW kV fun _ _ => id
      have hrb : ∀ g, (Value.slice ra i rc).ownBlock = some g → w.heap.size ≤ g ∧ g < V.heap.size := fun g hg => ⟨ownsRow_base hrV hg, (hrV.lt g hg).2⟩
      have hne_bt : some bt ≠ (Value.slice ra i rc).ownBlock := fun h => ownsRow_ne hrV hbV (fun cs fr he => by injection he with _ he; exact absurd he (by decide)) h.symm
      have hne_tb : some tb ≠ (Value.slice ra i rc).ownBlock := fun h => ownsRow_ne hrV htV (fun cs fr he => by injection he with _ he; exact absurd he (by decide)) h.symm
      have hne_b5 : some b5 ≠ (Value.slice ra i rc).ownBlock := fun h => by
        have h3 := (hrW.lt b5 h.symm).2
        have := k23.size
        omega
      have hpre := preAppR V (.slice ra i rc) (i * 4) (rowC R)
      refine drawnR agree mixed 8 (by kernel_rfl) _ hpre ?_
      conv => whnf
      refine ldr hpre agree rfl rfl (fun U h _ => h.chg.range (Own.at_ (xs := [pt tb 0]) (o := 0) hbV rfl) hne_bt) (by rfl) fun _ => ?_
      conv => whnf
      refine ldr hpre agree rfl rfl (fun U h _ => h.chg.range (Own.at_ (xs := [pt tb 0]) (o := 0) hbV rfl) hne_bt) (by rfl) fun _ => ?_
      conv => whnf
      refine ldr hpre agree rfl rfl (fun U h _ => h.chg.range (Own.at_ (xs := [.slice ra i rc]) (o := 1) htV rfl) hne_tb) (by rfl) fun _ => ?_
      conv => whnf
      refine ldr (cs := rowC R) hpre agree rfl rfl (fun U h _ => h.chg.range (Own.all mV) hne_b5) (by rfl) fun _ => ?_
      conv => whnf
      refine bsr hpre rfl rfl rfl rfl (by rfl) (by decide) (fun b o U U' hb ho hS => hS.chg.heap ho fun hc => by have := (hrb _ hc.symm).2; omega) (fun U hS => hS.chg.size) fun bq D hD => ?_
      conv => whnf
      refine apr (m := 1) (size := 4) (news := rowC R) agree rfl rfl rfl rfl rfl rfl rfl (by decide) hrV rfl (fun U hS hDn => Own.all (hD U (hDn 6 (by kernel_rfl))).1) (by rfl) (by simp only [maxLen]; omega) (by show (_ + 1) * 32 ≤ _; omega) (by have := hcW.size; have := kV.size; omega) fun rv' D2 hD2 => ?_
      conv => whnf
      intro w6 hS6 hd6
      have hD6 := hD2 w6 (hd6 7)
      obtain ⟨hr6, hnew6⟩ := hD6
      have ht6 := hS6.chg.own htV hne_tb
      have hb6 := hS6.chg.own hbV hne_bt
      have hrf6 := ownsRow_form hr6
      obtain ⟨ua, uc, rfl⟩ := hrf6
      refine st agree ht6 rfl (by show (1 : Nat) + 1 ≤ 6; decide) rfl fun w7 e7 k7 m7 => ?_
      have m7 : Own w7 tb 110 [.slice (some ⟨kb, ko, none⟩) S.length sc, .slice ua (i + 1) uc, v2, nilS, nilS, nilS] := m7
      have hb7 := k7.own hb6 (own_ne hb6 ht6 (by decide))
      have hr7 := ownsRow_chg hr6 k7 fun g hg hh => ownsRow_ne hr6 ht6 (fun cs fr he => by injection he with _ he; exact absurd he (by decide)) (by rw [← hh]; exact hg)
      have hc7 : Chg (fun g => g = tb) w w7 := ((hcW.newT kV fun _ h => h.elim).newT hS6.chg fun g hg => .inr (hrb g hg.symm).1).trans k7
      have hsz6 := hS6.chg.size
      refine aw (by omega) (by omega) ?_
      refine again (i + 1, Value.slice ua (i + 1) uc) ⟨rfl, rfl, rfl, rfl, rfl, trivial⟩ ⟨by omega, hc7, hb7, m7, ?_, by have := k7.size; have := kV.size; omega⟩ (by simp only; omega)
      simp only
      rw [List.take_succ_eq_append_getElem hil, ← hxd, List.map_append, List.flatMap_append]
      simp only [List.map_cons, List.map_nil, List.flatMap_cons, List.flatMap_nil, List.append_nil]
      rw [← hR]
      exact hr7
  · have hie : i = S.length := by
      have h1 : ¬ ((i : Nat) : Int) < ((S.length : Nat) : Int) := h1
      omega
    subst hie
    rewrite [List.take_length] at hrW
    obtain ⟨R0, hR0⟩ : ∃ R0, R0 = S.map (Tb.row0 S) := ⟨_, rfl⟩
    have hR0l : R0.length = S.length := by rw [hR0, List.length_map]
    rewrite [← hR0] at hrW
    obtain ⟨rv, hrv⟩ : ∃ rv, rv = Value.slice ra S.length rc := ⟨_, rfl⟩
    have hwn : ∀ i, (Tb.negs i R0).length = S.length := fun i => by rw [Tb.negs_len, hR0l]
    refine ld agree (Own.at_ (xs := [pt tb 0]) hbW rfl) (by rfl) ?_
    refine ld agree (Own.at_ (xs := [.slice ra S.length rc]) (o := 1) htW rfl) (by rfl) ?_
    refine loop agree (σ := Nat) (fun i => [(1, pt bt 0), (52, .slice ra S.length rc), (53, iV (S.length : Nat)), (54, iV (i : Nat))])
      (fun i V => i ≤ S.length ∧ Chg (fun g => g = tb) w V ∧ Own V bt 34 [pt tb 0] ∧ Own V tb 110 [.slice sa S.length sc, .slice ra S.length rc, v2, nilS, nilS, nilS] ∧ V.ownsRow w.heap.size 115 4 (.slice ra S.length rc) S.length ((Tb.negs i R0).flatMap rowC)) (fun i => S.length - i) 0
      ⟨rfl, rfl, rfl, rfl, trivial⟩ ⟨Nat.zero_le _, hcW, hbW, htW, hrW⟩ ?_
    rintro i e1' V ⟨hi2, hcV, hbV, htV, hrV⟩
    refine sp (fun h2 => ?_) (fun h2 => ?_)
    · have h2 : ((i : Nat) : Int) < ((S.length : Nat) : Int) := h2
      have hil : i < S.length := by omega
      have hwi := hwn i
      have hri := List.getElem?_eq_getElem (show i < (Tb.negs i R0).length by omega)
      have hst : Tb.negs (i + 1) R0 = Tb.negStep (Tb.negs i R0) i := rfl
      obtain ⟨N, hN⟩ : ∃ N, N = Tb.negs i R0 := ⟨_, rfl⟩
      obtain ⟨r, hrd⟩ : ∃ r, r = (Tb.negs i R0)[i] := ⟨_, rfl⟩
      rewrite [← hrd] at hri
      have hsame := Tb.negs_at hri
      obtain ⟨s, hs1, hs2⟩ := hsame
      rewrite [hR0, List.getElem?_map] at hs1
      have hSi := List.getElem?_eq_getElem hil
      rewrite [hSi] at hs1
      injection hs1 with hs1
      have hab := Tb.kidP_lt (f := f) (n := 0) (by rw [← hS]; exact hSi)
      rewrite [← hS] at hab
      have hra : r.a = Tb.kidP S S[i].kids 0 := by rw [hs2.2.1, ← hs1]; rfl
      rewrite [← hra] at hab
      have hrV' : V.ownsRow w.heap.size 115 4 (.slice ra S.length rc) (Tb.negs i R0).length ((Tb.negs i R0).flatMap rowC) := by rw [hwi]; exact hrV
      rewrite [← hN] at hri hst hrV' hwi
      have hsplit := row_split rowC_len hrV' (k := i) (by omega)
      obtain ⟨g, rcap, rest, hge, hgb, hgO, hgback⟩ := hsplit
      have hgl := hgO.lt
      rewrite [hwi] at hge hgback
      injection hge with hge1 _ hge2
      subst hge1
      have hrng := flat_range' rowC_len hri hgO
      refine ne ⟨by omega, h2⟩ ?_
      refine ld (cs := rowC r) agree (by simp only [Int.toNat_natCast]; exact hrng) (by rfl) ?_
      refine nd fun b9 w2 e2 s2 k2 m2 => ?_
      refine st agree m2 rfl (Nat.le_refl 4) rfl fun w3 e3 k3 m3 => ?_
      have m3 : Own w3 b9 115 (rowC r) := m3
      have k23 : Kp V w3 := k2.newS k3 (fun j hj => by subst hj; omega)
      refine ld agree (Own.at_ (xs := [.int .u8 r.op]) (o := 0) m3 rfl) (by rfl) ?_
      have hb3 := k23.own hbV id
      have ht3 := k23.own htV id
      have hg3 := k23.own hgO id
      have hgne : g ≠ bt ∧ g ≠ tb ∧ g ≠ b9 := ⟨own_ne hgO hbV (by decide), own_ne hgO htV (by decide), by omega⟩
      have hz3 := k23.size
      have hzV := hcV.size
      refine sp (fun h4 => ?_) (fun h4 => ?_)
      · have hop : r.op = 4 := by omega
        refine drawn0 agree mixed 8 (by kernel_rfl) (fun _ => False) ?_
        conv => whnf
        refine ldk agree rfl rfl (fun U k _ => (k.own hb3 id).at_ (xs := [pt tb 0]) rfl) (by rfl) fun _ => ?_
        conv => whnf
        refine ldk agree rfl rfl (fun U k _ => Own.at_ (xs := [.slice (some ⟨g, 0, none⟩) S.length rc]) (o := 1) (k.own ht3 id) rfl) (by rfl) fun _ => ?_
        conv => whnf
        refine ixArr (j := 0) agree rfl rfl rfl rfl rfl rfl (by decide) ?_
        conv => whnf
        refine ldk agree rfl rfl (fun U k _ => Own.at_ (xs := [iV r.a]) (k.own m3 id) rfl) (by rfl) fun _ => ?_
        conv => whnf
        intro w4 k4 _
        refine ne ⟨by omega, h2⟩ ?_
        refine st agree (o := 0 + i * 4 + 3) (k4.own hg3 id) rfl (by rw [List.length_append, flat_len rowC_len]; show 0 + i * 4 + 3 + 1 ≤ _; omega) rfl fun w5 e5 k5 m5 => ?_
        have m5 : Own w5 g 115 (lay (N.flatMap rowC ++ rest) (0 + i * 4 + 3) [iV r.a]) := m5
        rewrite [show 0 + i * 4 + 3 = i * 4 + 3 by omega, lay_neg rest r.a N i r hri] at m5
        obtain ⟨N1, hN1⟩ : ∃ N1, N1 = Tb.setNeg N i r.a := ⟨_, rfl⟩
        have hN1s : N1 = N.set i { r with neg := r.a } := by rw [hN1]; unfold Tb.setNeg; rw [hri]
        rewrite [← hN1s] at m5
        have hN1l : N1.length = S.length := by rw [hN1, Tb.setNeg_len, hwi]
        have hb5 := k5.own (k4.own hb3 id) (Ne.symm hgne.1)
        have ht5 := k5.own (k4.own ht3 id) (Ne.symm hgne.2.1)
        have m95 := k5.own (k4.own m3 id) (Ne.symm hgne.2.2)
        obtain ⟨na, hna⟩ : ∃ na : Nat, r.a = na := ⟨r.a.toNat, by omega⟩
        have hnal : na < N1.length := by omega
        have hr2 := List.getElem?_eq_getElem hnal
        obtain ⟨r2, hr2d⟩ : ∃ r2, r2 = N1[na] := ⟨_, rfl⟩
        rewrite [← hr2d] at hr2
        refine drawn0 agree mixed 8 (by kernel_rfl) (fun _ => False) ?_
        conv => whnf
        refine ldk agree rfl rfl (fun U k _ => (k.own hb5 id).at_ (xs := [pt tb 0]) rfl) (by rfl) fun _ => ?_
        conv => whnf
        refine ldk agree rfl rfl (fun U k _ => Own.at_ (xs := [.slice (some ⟨g, 0, none⟩) S.length rc]) (o := 1) (k.own ht5 id) rfl) (by rfl) fun _ => ?_
        conv => whnf
        refine ixArr (j := 0) agree rfl rfl rfl rfl rfl rfl (by decide) ?_
        conv => whnf
        refine ldk (v := iV (na : Nat)) agree rfl rfl (fun U k _ => Own.at_ (xs := [iV r.a]) (k.own m95 id) rfl) (by rw [hna]; rfl) fun _ => ?_
        conv => whnf
        intro w6 k6 _
        refine ne ⟨by omega, by omega⟩ ?_
        refine st agree (o := 0 + na * 4 + 3) (k6.own m5 id) rfl (by rw [List.length_append, flat_len rowC_len]; show 0 + na * 4 + 3 + 1 ≤ _; omega) rfl fun w7 e7 k7 m7 => ?_
        have m7 : Own w7 g 115 (lay (N1.flatMap rowC ++ rest) (0 + na * 4 + 3) [iV (i : Nat)]) := m7
        rewrite [show 0 + na * 4 + 3 = na * 4 + 3 by omega, lay_neg rest i N1 na r2 hr2] at m7
        have hN2 : Tb.negStep N i = N1.set na { r2 with neg := (i : Nat) } := by
          unfold Tb.negStep
          rw [hri]
          simp only
          rw [if_pos hop, ← hN1, hna]
          unfold Tb.setNeg
          rw [show ((na : Nat) : Int).toNat = na from rfl, hr2]
        rewrite [← hN2] at m7
        have hb7 := k7.own (k6.own hb5 id) (Ne.symm hgne.1)
        have ht7 := k7.own (k6.own ht5 id) (Ne.symm hgne.2.1)
        have hc7 : Chg (fun g => g = tb) w w7 := ((((hcV.newT k23 fun _ h => h.elim).newT k4 fun _ h => h.elim).newT k5 fun j hj => .inr (by omega)).newT k6 fun _ h => h.elim).newT k7 fun j hj => .inr (by omega)
        refine aw (by omega) (by omega) ?_
        refine again (i + 1) ⟨rfl, rfl, rfl, rfl, trivial⟩ ⟨by omega, hc7, hb7, ht7, ?_⟩ (by omega)
        rw [hst]
        exact hgback w7 _ (by rw [Tb.negStep_len, hwi]) m7
      · have hop : r.op ≠ 4 := by omega
        refine aw (by omega) (by omega) ?_
        refine again (i + 1) ⟨rfl, rfl, rfl, rfl, trivial⟩ ⟨by omega, hcV.newT k23 fun _ h => h.elim, hb3, ht3, ?_⟩ (by omega)
        rw [hst]
        have hns : Tb.negStep N i = N := by unfold Tb.negStep; rw [hri]; simp only; rw [if_neg hop]
        rw [hns]
        exact ownsRow_chg (by rw [hN]; exact hrV) k23 fun _ _ => id
    · have hie : i = S.length := by
        have h2 : ¬ ((i : Nat) : Int) < ((S.length : Nat) : Int) := h2
        omega
      subst hie
      refine ⟨hcV, .slice ra S.length rc, ?_, ?_⟩
      · rw [← hS]; exact htV
      · rw [← hS]
        unfold Tb.rows
        rw [← hR0]
        exact hrV
end Go.Au

namespace Go.Au
open Go Go.RowKit

/-! ### Clone; Of -/
theorem callCloneS : callable Proofs.Tryz.prog 58 = true := by kernel_rfl
theorem cloneS_c {w : World} {lo hi : Nat} {v : Value} {xs : List ByteArray} (h : Strs lo hi w v xs) (hl : xs.length < 1000000000000) :
    Calls Proofs.Tryz.prog 58 [v].toArray w (Ret fun r w' => Kp w w' ∧ (∃ a c, r = .slice a xs.length c) ∧ w'.ownsRow w.heap.size 9 1 r xs.length (xs.flatMap fS1)) := by
  obtain ⟨a, c, rfl, hc, hr⟩ := id h
  refine call agree Proofs.Tryz.func58 rfl Proofs.Tryz.ntmps58 (by kernel_rfl) ?_
  refine slNil agree rfl rfl rfl (by kernel_rfl) ?_
  cases a with
  | none =>
    have : xs = [] := by
      cases xs with
      | nil => rfl
      | cons x r =>
        obtain ⟨b, o, h2, _⟩ := hr 0 x rfl
        cases h2
    subst this
    exact ⟨Chg.refl _ _, ⟨none, 0, rfl⟩, World.ownsRow_nil _ _ _ _⟩
  | some a =>
    refine ne (by decide) ?_
    refine nd fun b w1 e1 s1 k1 m1 => ?_
    have own0 : w1.ownsRow w.heap.size 9 1 (.slice (some ⟨b, 0, none⟩) 0 0) 0 [] := ⟨rfl, .inr ⟨b, 0, _, rfl, by omega, m1, by omega, by simp [maxLen], rfl, by simp⟩⟩
    have hrow1 : RowE (fun _ cs (x : ByteArray) => cs = fS1 x) 1 lo hi w1 (.slice (some a) xs.length c) xs := by
      have := (h.chg k1 (fun _ _ _ h => h) (fun _ _ h => h))
      exact this
    refine apV (f := fS1) (size := 1) agree rfl rfl rfl rfl rfl rfl rfl (by decide) own0 (fun _ => rfl) hrow1 (fun _ => rfl) (by simp only [maxLen]; omega) (by show (_ + xs.length) * 16 ≤ _; omega) (by omega) ?_
    intro v' w2 o2 c2
    have o2 : w2.ownsRow w.heap.size 9 1 v' (0 + xs.length) (xs.flatMap fS1) := o2
    rw [Nat.zero_add] at o2
    have hf := ownsRow_form o2
    obtain ⟨a2, c3, rfl⟩ := hf
    refine ⟨k1.newS c2 fun j hj => ?_, ⟨a2, c3, rfl⟩, ?_⟩
    · have : j = b := by have h2 : some j = some b := hj; injection h2
      omega
    · exact o2
theorem callCloneI : callable Proofs.Tryz.prog 101 = true := by kernel_rfl
theorem cloneI_c {w : World} {lo hi : Nat} {v : Value} {xs : List Int} (h : Ints lo hi w v xs) (hl : xs.length < 1000000000000) :
    Calls Proofs.Tryz.prog 101 [v].toArray w (Ret fun r w' => Kp w w' ∧ (∃ a c, r = .slice a xs.length c) ∧ w'.ownsRow w.heap.size 3 1 r xs.length (xs.flatMap fN1)) := by
  obtain ⟨a, c, rfl, hc, hr⟩ := id h
  refine call agree Proofs.Tryz.func101 rfl Proofs.Tryz.ntmps101 (by kernel_rfl) ?_
  refine slNil agree rfl rfl rfl (by kernel_rfl) ?_
  cases a with
  | none =>
    have : xs = [] := by
      cases xs with
      | nil => rfl
      | cons x r =>
        obtain ⟨b, o, h2, _⟩ := hr 0 x rfl
        cases h2
    subst this
    exact ⟨Chg.refl _ _, ⟨none, 0, rfl⟩, World.ownsRow_nil _ _ _ _⟩
  | some a =>
    refine ne (by decide) ?_
    refine nd fun b w1 e1 s1 k1 m1 => ?_
    have own0 : w1.ownsRow w.heap.size 3 1 (.slice (some ⟨b, 0, none⟩) 0 0) 0 [] := ⟨rfl, .inr ⟨b, 0, _, rfl, by omega, m1, by omega, by simp [maxLen], rfl, by simp⟩⟩
    have hrow1 : RowE (fun _ cs (x : Int) => cs = fN1 x) 1 lo hi w1 (.slice (some a) xs.length c) xs := by
      have := (h.chg k1 (fun _ _ _ h => h) (fun _ _ h => h))
      exact this
    refine apV (f := fN1) (size := 1) agree rfl rfl rfl rfl rfl rfl rfl (by decide) own0 (fun _ => rfl) hrow1 (fun _ => rfl) (by simp only [maxLen]; omega) (by show (_ + xs.length) * 8 ≤ _; omega) (by omega) ?_
    intro v' w2 o2 c2
    have o2 : w2.ownsRow w.heap.size 3 1 v' (0 + xs.length) (xs.flatMap fN1) := o2
    rw [Nat.zero_add] at o2
    have hf := ownsRow_form o2
    obtain ⟨a2, c3, rfl⟩ := hf
    refine ⟨k1.newS c2 fun j hj => ?_, ⟨a2, c3, rfl⟩, ?_⟩
    · have : j = b := by have h2 : some j = some b := hj; injection h2
      omega
    · exact o2
/-- a tableau in memory -/
structure TabS (n lo hi : Nat) (w : World) (tb : Nat) (sv rv nmv ndv iv xv : Value) (T : Tb.Tab) : Prop where
  box : Own w tb 110 [sv, rv, nmv, ndv, iv, xv]
  lies : lo ≤ tb ∧ tb < hi
  subs : KidsN n lo hi w sv T.subs
  rows : RowsE lo hi w rv T.rows
  names : Strs lo hi w nmv T.names
  nodes : RowE (fun _ cs (p : Nat × Nat) => cs = pairC p) 32 lo hi w ndv T.nodes
  init : Ints lo hi w iv (T.init.map fun (n : Nat) => (n : Int))
  next : RowE (fun W cs (r : List Nat) => ∃ x, cs = [x] ∧ Ints lo hi W x (r.map fun (n : Nat) => (n : Int))) 1 lo hi w xv T.next
theorem TabS.chg {S : Nat → Prop} {n lo hi tb : Nat} {w w' : World} {sv rv nmv ndv iv xv : Value} {T : Tb.Tab} (h : TabS n lo hi w tb sv rv nmv ndv iv xv T) (c : Chg S w w') (hs : ∀ g, lo ≤ g → g < hi → ¬ S g) : TabS n lo hi w' tb sv rv nmv ndv iv xv T :=
  ⟨c.own h.box (hs _ h.lies.1 h.lies.2), h.lies, h.subs.chg c hs, RowE.chg h.rows c hs fun _ _ h => h, RowE.chg h.names c hs fun _ _ h => h, RowE.chg h.nodes c hs fun _ _ h => h, RowE.chg h.init c hs fun _ _ h => h,
    RowE.chg h.next c hs fun _ _ ⟨x, h1, h2⟩ => ⟨x, h1, RowE.chg h2 c hs fun _ _ h => h⟩⟩
theorem TabS.kp {n lo hi tb : Nat} {w w' : World} {sv rv nmv ndv iv xv : Value} {T : Tb.Tab} (h : TabS n lo hi w tb sv rv nmv ndv iv xv T) (c : Kp w w') : TabS n lo hi w' tb sv rv nmv ndv iv xv T := h.chg c fun _ _ _ => id
theorem ofT_none {f : Fm} {names : List ByteArray} {most : Int} (h : Tb.over most (Tb.fits (Tb.rows f.subs) (Tb.whole f.subs)) = true ∨ Tb.gloop (Tb.rows f.subs) most (most.toNat + 2) (Tb.start (Tb.rows f.subs) (Tb.whole f.subs)) = none) : Tb.ofT f names most = none := by
  unfold Tb.ofT
  simp only
  by_cases h1 : Tb.over most (Tb.fits (Tb.rows f.subs) (Tb.whole f.subs)) = true
  · rw [if_pos h1]
  · rw [if_neg h1, h.resolve_left h1]
theorem ofT_some {f : Fm} {names : List ByteArray} {most : Int} {gs : Tb.GS} (h1 : Tb.over most (Tb.fits (Tb.rows f.subs) (Tb.whole f.subs)) = false) (h : Tb.gloop (Tb.rows f.subs) most (most.toNat + 2) (Tb.start (Tb.rows f.subs) (Tb.whole f.subs)) = some gs) :
    Tb.ofT f names most = some ⟨f.subs, Tb.rows f.subs, names, gs.nodes, Tb.inits (Tb.rows f.subs) (Tb.whole f.subs), gs.next⟩ := by
  unfold Tb.ofT
  simp only
  rw [if_neg (by rw [h1]; decide), h]
theorem callOf : callable Proofs.Tryz.prog 12 = true := by kernel_rfl
def OfV (f : Fm) (names : List ByteArray) (most : Int) (lo : Nat) (w' : World) (r : Value) : Prop :=
  ∃ p, r = .tuple #[p, .int .i64 (Tb.errOf f names most)] ∧ (Tb.errOf f names most ≠ 0 → p = .pointer none) ∧
    (Tb.errOf f names most = 0 → f.right = true ∧ f.isN = true ∧ Tb.nameOk names = true ∧ Tb.overNames f names = true ∧ ∃ n tb sv rv nmv ndv iv xv T, Tb.ofT f names most = some T ∧ p = pt tb 0 ∧ TabS n lo w'.heap.size w' tb sv rv nmv ndv iv xv T ∧ Tb.NodesOk T.rows.length T.nodes)
set_option maxHeartbeats 1000000 in
theorem of_c {n lo hi lo' hi' : Nat} {w : World} {v nv : Value} {f : Fm} {names : List ByteArray} {most : Int} (hT : KTab w) (h : KidsN n lo hi w v f.kids) (hhi : hi ≤ w.heap.size) (hs : f.size < 4611686018427387904) (hop : ∀ x ∈ f.all, x.op < 256) (hn : Strs lo' hi' w nv names) (hl : names.length < 1000000000000)
    (hB : f.right = true → f.isN = true → Tb.nameOk names = true → Tb.overNames f names = true → Tb.Bnd (Tb.rows f.subs) most (Tb.whole f.subs)) :
    Calls Proofs.Tryz.prog 12 [fmA f v, nv, iV most].toArray w (Ret fun r w' => Kp w w' ∧ OfV f names most w.heap.size w' r) := by
  obtain ⟨va, vc, rfl, hvc⟩ := h.slice
  refine call agree Proofs.Tryz.func12 rfl Proofs.Tryz.ntmps12 (by kernel_rfl) ?_
  refine nd fun p w1 e1 s1 k1 m1 => ?_
  have m1 : Own w1 p 26 (fmC f (.slice va f.kids.length vc)) := m1
  refine ld agree (Own.all m1) (by rfl) ?_
  refine cl callRightT (right_c (hT.kp k1) (h.kp k1) hs hop) ?_
  rintro _ w2 ⟨rfl, k2⟩
  have k12 := k1.trans k2
  refine sp (fun h1 => ?_) (fun h1 => ?_)
  · have hnr : f.right = false := by
      cases hr : f.right with
      | true => exact absurd (rightI_ok.2 hr) h1
      | false => rfl
    have he : Tb.errOf f names most = 90 := by unfold Tb.errOf; rw [hnr]; rfl
    exact ⟨k12, .pointer none, by rw [he]; rfl, fun _ => rfl, fun h => by rw [he] at h; exact absurd h (by decide)⟩
  have hr : f.right = true := rightI_ok.1 (Classical.byContradiction h1)
  refine ld agree (Own.all (k2.own m1 id)) (by rfl) ?_
  refine cl callIs (is_c (hT.kp k12) (h.kp k12) hs hop) ?_
  rintro _ w3 ⟨rfl, k3⟩
  have k13 := k12.trans k3
  rewrite [hr, Bool.true_and]
  cases hN : f.isN with
  | false =>
    have he : Tb.errOf f names most = 90 := by unfold Tb.errOf; rw [hN, Bool.and_false]; rfl
    exact ⟨k13, .pointer none, by rw [he]; rfl, fun _ => rfl, fun h => by rw [he] at h; exact absurd h (by decide)⟩
  | true =>
  have hfo := right_formed hr
  have m13 := (k2.trans k3).own m1 id
  refine ld agree (Own.all m13) (by rfl) ?_
  refine cl callRightB (rightB_c (h.kp k13) (by omega) hfo.1 (RowE.chg hn k13 (fun _ _ _ => id) fun _ _ h => h) (by omega)) ?_
  rintro _ w4 ⟨rfl, k4⟩
  have k14 := k13.trans k4
  cases hNm : (Tb.nameOk names && Tb.overNames f names) with
  | false =>
    have he : Tb.errOf f names most = 91 := by unfold Tb.errOf; rw [hr, hN, hNm]; rfl
    exact ⟨k14, .pointer none, by rw [he]; rfl, fun _ => rfl, fun h => by rw [he] at h; exact absurd h (by decide)⟩
  | true =>
  have hnm2 := Bool.and_eq_true_iff.1 hNm
  have m14 := k4.own m13 id
  refine ld agree (Own.all m14) (by rfl) ?_
  have hcall := subs_c (h.kp k14) (by have := k14.size; omega) (by omega)
  refine cl callSubs hcall ?_
  rintro sv w5 ⟨k5, hsv⟩
  have k15 := k14.trans k5
  refine cl callCloneS (cloneS_c (RowE.chg hn k15 (fun _ _ _ => id) fun _ _ h => h) hl) ?_
  rintro nmv w6 ⟨k6, ⟨na, nc, rfl⟩, hnm6⟩
  have hsvs := hsv.slice
  obtain ⟨sa, sc, rfl, hsc⟩ := hsvs
  refine nd fun tb w7 e7 s7 k7 m7 => ?_
  have m7 : Own w7 tb 110 [.slice sa f.subs.length sc, nilS, .slice na names.length nc, nilS, nilS, nilS] := m7
  have k67 := k6.trans k7
  have hsv7 := hsv.kp k67
  have hz5 := k5.size
  have hz6 := k6.size
  have hz4 := k14.size
  have hcallL := lay_c m7 hsv7 (by omega) (by omega) hfo.1 (by omega)
  refine cl callLay hcallL ?_
  rintro _ w8 ⟨c8, rv, m8, hrv8⟩
  have hrl := Tb.rows_len f.subs
  have hrows := ownsRow_row (f := rowC) rowC_len hrv8 (by decide)
  have hpos : 0 < f.subs.length := List.length_pos_iff.2 (Fm.subs_ne f)
  have hz8 := c8.size
  have hnt : ¬ (w7.heap.size ≤ tb ∧ tb < w8.heap.size) := by omega
  have hsl : f.subs.length ≤ 1000 := by
    have := nodup_sub (Fm.subs_sorted f).nodup fun x hx => Fm.mem_subs.1 hx
    rw [Fm.all_len] at this
    omega
  rewrite [← hrl] at m8
  have hcallG := grow_c (most := most) m8 hrows (Nat.le_refl _) hnt (Tb.wf_rows hfo.1) (by omega) (by omega) (by rw [hrl]; exact hB hr hN hnm2.1 hnm2.2)
  refine cl callGrow hcallG ?_
  rintro _ w9 ⟨c9, ok, rfl, hno, hyes⟩
  have hwh : Tb.putS 0 ((Tb.rows f.subs).length - 1) = Tb.whole f.subs := by rw [hrl]; rfl
  rewrite [hwh] at hno hyes
  have k69 : Kp w w9 := ((k15.trans k6).trans k7 |>.newS c8 fun g hg => by subst hg; omega).newS c9 fun g hg => by subst hg; omega
  cases ok with
  | false =>
    have hof : Tb.ofT f names most = none := ofT_none (hno rfl)
    have he : Tb.errOf f names most = 92 := by unfold Tb.errOf; rw [hr, hN, hNm, hof]; rfl
    exact ⟨k69, .pointer none, by rw [he]; rfl, fun _ => rfl, fun h => by rw [he] at h; exact absurd h (by decide)⟩
  | true =>
  have hy := hyes rfl
  obtain ⟨hov, gs, ndv, iv, xv, xs, hgl, m9, hnd9, hiv9, hxv9, hok9⟩ := hy
  have hof := ofT_some (names := names) hov hgl
  have he : Tb.errOf f names most = 0 := by unfold Tb.errOf; rw [hr, hN, hNm, hof]; rfl
  have hz9 := c9.size
  have c79 : Chg (fun g => g = tb) w7 w9 := c8.trans c9
  have hz7 := k7.size
  rewrite [hrl] at m9
  refine ⟨k69, pt tb 0, by rw [he]; rfl, fun h => absurd he h, fun _ => ⟨hr, hN, hnm2.1, hnm2.2, n + 1, tb, .slice sa f.subs.length sc, rv, .slice na names.length nc, ndv, iv, xv, _, hof, rfl, ?_, hok9⟩⟩
  refine ⟨m9, by omega, ?_, ?_, ?_, ?_, ?_, ?_⟩
  · exact (hsv7.chg c79 fun k h1 h2 h3 => by omega).mono (by omega) (by omega)
  · exact (RowE.chg hrows c9 (fun k h1 h2 h3 => by omega) fun _ _ h => h).mono (fun _ _ h => h) (by omega) (by omega)
  · exact (RowE.chg (strs_own (hnm6)) (k7.newT c79 fun g hg => .inr (by omega)) (fun _ _ _ => id) fun _ _ h => h).mono (fun _ _ h => h) (by omega) (by omega)
  · exact (ownsRow_row (f := pairC) pairC_len hnd9 (by decide)).mono (fun _ _ h => h) (by omega) (Nat.le_refl _)
  · have hiv10 := ownsRow_lo hiv9 (show w.heap.size ≤ w8.heap.size by omega)
    exact ownsRow_row (f := fN1) (fun _ => rfl) (l := (Tb.inits (Tb.rows f.subs) (Tb.whole f.subs)).map fun (n : Nat) => (n : Int)) hiv10 (by decide)
  · refine ownsRow_rowR (ownsRow_lo hxv9.row (by omega)) rfl fun i r hr => ?_
    have hx := hxv9.each i r hr
    obtain ⟨x, hx1, hx2⟩ := hx
    exact ⟨x, hx1, x, rfl, (ownsRow_row (f := fN1) (fun _ => rfl) (l := r.map fun (n : Nat) => (n : Int)) hx2 (by decide)).mono (fun _ _ h => h) (by omega) (Nat.le_refl _)⟩
end Go.Au

namespace Go.Au
open Go
theorem Fm.idx_lt {α : Type} [DecidableEq α] (l : List α) (x : α) : Fm.idx l x < (l.length : Int) := by
  rcases Fm.idx_range (x := x) l with ⟨h, -⟩ | ⟨i, h, h2, -⟩
  · rw [h]; omega
  · have := (List.getElem?_eq_some_iff.1 h2).1
    rw [h]; omega
namespace Tb
/-! ### the places of a word, from the least on -/
theorem and_pred {j m : Nat} : (2 ^ (j + 1) * m + 2 ^ j) &&& (2 ^ (j + 1) * m + 2 ^ j - 1) = 2 ^ (j + 1) * m := by
  have hp : 0 < 2 ^ j := Nat.two_pow_pos j
  have e : 2 ^ (j + 1) * m + 2 ^ j - 1 = 2 ^ (j + 1) * m + (2 ^ j - 1) := by omega
  refine Nat.eq_of_testBit_eq fun i => ?_
  rw [e, Nat.testBit_and, Nat.testBit_two_pow_mul_add _ (by rw [Nat.pow_succ]; omega), Nat.testBit_two_pow_mul_add _ (by rw [Nat.pow_succ]; omega), Nat.testBit_two_pow, Nat.testBit_two_pow_sub_one, Nat.testBit_two_pow_mul]
  by_cases h1 : i < j + 1
  · rw [if_pos h1, if_pos h1, decide_eq_false (show ¬ i ≥ j + 1 by omega), Bool.false_and]
    by_cases h2 : j = i
    · subst h2; simp
    · simp [h2]
  · rw [if_neg h1, if_neg h1, decide_eq_true (show i ≥ j + 1 by omega), Bool.true_and, Bool.and_self]
theorem low_splitN (x : Nat) (hx : x ≠ 0) : ∃ j m, x = 2 ^ (j + 1) * m + 2 ^ j := by
  induction x using Nat.strongRecOn with
  | _ x ih =>
    rcases Nat.mod_two_eq_zero_or_one x with h | h
    · obtain ⟨j, m, hj⟩ := ih (x / 2) (by omega) (by omega)
      refine ⟨j + 1, m, ?_⟩
      have h2 : x = 2 * (x / 2) := by omega
      rw [hj] at h2
      rw [h2, Nat.mul_add, ← Nat.mul_assoc, Nat.pow_succ 2 (j + 1), Nat.pow_succ 2 j]
      simp only [Nat.mul_comm, Nat.mul_left_comm, Nat.mul_assoc]
    · exact ⟨0, x / 2, by omega⟩
theorem bitsL_skip {s a : Nat} : ∀ b, a ≤ b → (∀ i, a ≤ i → i < b → s.testBit i = false) → bitsL b s = bitsL a s
  | 0, hab, _ => by rw [show a = 0 by omega]
  | b + 1, hab, h => by
    rcases Nat.lt_or_ge b a with h1 | h1
    · rw [show a = b + 1 by omega]
    · rw [bitsL_succ, h b h1 (by omega), bitsL_skip b h1 (fun i h2 h3 => h i h2 (by omega))]
      simp
theorem list_step {s k c x : Nat} (hx0 : x ≠ 0) (hx : x < 18446744073709551616) (hb : ∀ j, j < 64 → x.testBit j = (decide (c ≤ j) && s.testBit (64 * k + j))) :
    ∃ j m, x = 2 ^ (j + 1) * m + 2 ^ j ∧ j < 64 ∧ c ≤ j ∧ bitsL (64 * k + (j + 1)) s = bitsL (64 * k + c) s ++ [64 * k + j] ∧ x &&& (x - 1) = 2 ^ (j + 1) * m ∧ ∀ i, i < 64 → (2 ^ (j + 1) * m).testBit i = (decide (j + 1 ≤ i) && s.testBit (64 * k + i)) := by
  obtain ⟨j, m, he⟩ := low_splitN x hx0
  have hp : 0 < 2 ^ j := Nat.two_pow_pos j
  have hj : j < 64 := by
    rcases Nat.lt_or_ge j 64 with h1 | h1
    · exact h1
    · have := Nat.pow_le_pow_right (n := 2) (by decide) h1
      omega
  have htb : ∀ i, x.testBit i = if i < j + 1 then (2 ^ j).testBit i else m.testBit (i - (j + 1)) := fun i => by
    rw [he, Nat.testBit_two_pow_mul_add _ (by rw [Nat.pow_succ]; omega)]
  have hbj := hb j hj
  rw [htb, if_pos (by omega), Nat.testBit_two_pow, decide_eq_true rfl] at hbj
  have hbj := hbj.symm
  rw [Bool.and_eq_true, decide_eq_true_eq] at hbj
  refine ⟨j, m, he, hj, hbj.1, ?_, ?_, ?_⟩
  · rw [show 64 * k + (j + 1) = (64 * k + j) + 1 by omega, bitsL_succ, if_pos hbj.2]
    congr 1
    refine bitsL_skip _ (by omega) fun i h1 h2 => ?_
    have h3 := hb (i - 64 * k) (by omega)
    rw [htb, if_pos (by omega), Nat.testBit_two_pow, decide_eq_false (by omega), decide_eq_true (by omega), Bool.true_and, show 64 * k + (i - 64 * k) = i by omega] at h3
    exact h3.symm
  · rw [he]; exact and_pred
  · intro i hi
    rw [Nat.testBit_two_pow_mul]
    by_cases h1 : j + 1 ≤ i
    · have h2 := hb i hi
      rw [htb, if_neg (by omega), decide_eq_true (by omega), Bool.true_and] at h2
      rw [h2, decide_eq_true (show i ≥ j + 1 by omega)]
    · rw [decide_eq_false (show ¬ i ≥ j + 1 by omega), Bool.false_and, Bool.false_and]
theorem list_end {s k c : Nat} (hc : c ≤ 64) (hb : ∀ j, j < 64 → (0 : Nat).testBit j = (decide (c ≤ j) && s.testBit (64 * k + j))) : bitsL (64 * (k + 1)) s = bitsL (64 * k + c) s := by
  refine bitsL_skip _ (by omega) fun i h1 h2 => ?_
  have h3 := hb (i - 64 * k) (by omega)
  rw [Nat.zero_testBit, decide_eq_true (by omega), Bool.true_and, show 64 * k + (i - 64 * k) = i by omega] at h3
  exact h3.symm
end Tb
end Go.Au

namespace Go.Au
open Go Go.RowKit

section
variable {P : Program} {Γ : List (Nat × TI)} {ρ : Operand → Value} {o : Oper} {K : Value → Prop}
/-- an element of an array that is a value -/
theorem ixAgg (hG : Agree P Γ) {t el : TypeId} {x y : Operand} {cs : Array Value} {len j : Nat} {k : IntKind} {ti tj : TI} {v : Value} {k2 : IntKind} (ho : o.op = .index t x y) (hx : ρ x = .agg cs) (hy : ρ y = .int k j) (hl : look Γ t = some ti) (hd : ti.desc = .array len el) (hj : look Γ el = some tj) (he : tj.desc = .int k2) (h : j < len) (hv : cs[j * tj.size]? = some v) (hk : K v) : PR P ρ o K := by
  have hu := (hG.look hl).1
  simp only [hd] at hu
  have hu2 := (hG.look hj).1
  simp only [he] at hu2
  have hs := (hG.look hj).2.1
  have sz : ∀ W, Sem.run P (sizeOf el) W = .ok tj.size W := fun W => by
    cases hi : P.info? el with
    | none => simp [hi] at hs
    | some i =>
      simp [hi] at hs
      simp [sizeOf, typeInfo, hi, hs.2.1, Result.andThen, go_sem]
  refine ⟨_, fun W => ?_, hk⟩
  unfold execOp
  rw [ho]
  simp only [hx, hy]
  simp [Instr.index, asIntOf, run_underlying hu, h, Result.andThen]
  rw [sz]
  simp [part, isAgg, run_underlying hu2, Result.andThen, hv]
/-- strings by their bytes -/
def cmpU : List UInt8 → List UInt8 → Int
  | [], [] => 0
  | [], _ :: _ => -1
  | _ :: _, [] => 1
  | a :: x, b :: y => if a < b then -1 else if b < a then 1 else cmpU x y
theorem bytesLess_eq : ∀ a b : List UInt8, Op.bytesLess a b = decide (cmpU a b < 0)
  | _, [] => by cases ‹List UInt8› <;> rfl
  | [], _ :: _ => rfl
  | a :: x, b :: y => by
    simp only [Op.bytesLess, cmpU]
    rw [bytesLess_eq x y]
    by_cases h : a < b
    · simp [h]
    · by_cases h2 : b < a
      · have h3 : ¬ a = b := fun he => h (by rw [he] at h2 ⊢; exact h2)
        simp [h, h2, h3]
      · have h3 : a = b := UInt8.le_antisymm (UInt8.not_lt.1 h2) (UInt8.not_lt.1 h)
        simp [h3]
theorem cmpU_zero : ∀ {a b : List UInt8}, cmpU a b = 0 ↔ a = b
  | [], [] => by simp [cmpU]
  | [], _ :: _ => by simp [cmpU]
  | _ :: _, [] => by simp [cmpU]
  | a :: x, b :: y => by
    simp only [cmpU]
    by_cases h : a < b
    · have h3 : ¬ a = b := fun he => by rw [he] at h; exact UInt8.lt_irrefl _ h
      simp [h, h3]
    · by_cases h2 : b < a
      · have h3 : ¬ a = b := fun he => by rw [he] at h2; exact UInt8.lt_irrefl _ h2
        simp [h, h2, h3]
      · have h3 : a = b := UInt8.le_antisymm (UInt8.not_lt.1 h2) (UInt8.not_lt.1 h)
        subst h3
        rw [if_neg h, if_neg h, cmpU_zero]
        simp
theorem cmpU_neg : ∀ a b : List UInt8, cmpU b a = - cmpU a b
  | [], [] => rfl
  | [], _ :: _ => rfl
  | _ :: _, [] => rfl
  | a :: x, b :: y => by
    simp only [cmpU]
    by_cases h : a < b
    · have h3 : ¬ b < a := fun he => UInt8.lt_asymm h he
      rw [if_pos h, if_neg h3, if_pos h]; rfl
    · by_cases h2 : b < a
      · rw [if_pos h2, if_neg h, if_pos h2]
      · rw [if_neg h2, if_neg h, if_neg h, if_neg h2, cmpU_neg]
theorem strLt {t t' : TypeId} {x y : Operand} {a b : ByteArray} (ho : o.op = .binOp .lss t x y t') (hx : ρ x = .string a) (hy : ρ y = .string b) (hk : Split (cmpU a.toList b.toList < 0) fun z => K (.bool z)) : PR P ρ o K := by
  have hk : K (.bool (decide (cmpU a.toList b.toList < 0))) := by
    by_cases h : cmpU a.toList b.toList < 0
    · rw [decide_eq_true h]; exact hk.1 h
    · rw [decide_eq_false h]; exact hk.2 h
  refine ⟨_, fun W => ?_, hk⟩
  unfold execOp
  rw [ho]
  simp only [hx, hy]
  simp [eqGuard, binOp, Op.stringOp, bytesLess_eq, Result.andThen]
theorem strGt {t t' : TypeId} {x y : Operand} {a b : ByteArray} (ho : o.op = .binOp .gtr t x y t') (hx : ρ x = .string a) (hy : ρ y = .string b) (hk : Split (0 < cmpU a.toList b.toList) fun z => K (.bool z)) : PR P ρ o K := by
  have hk : K (.bool (decide (0 < cmpU a.toList b.toList))) := by
    by_cases h : 0 < cmpU a.toList b.toList
    · rw [decide_eq_true h]; exact hk.1 h
    · rw [decide_eq_false h]; exact hk.2 h
  refine ⟨_, fun W => ?_, hk⟩
  unfold execOp
  rw [ho]
  simp only [hx, hy]
  have h : (!(decide (cmpU a.toList b.toList < 0) || a.toList == b.toList)) = decide (0 < cmpU a.toList b.toList) := by
    have h1 := @cmpU_zero a.toList b.toList
    by_cases h2 : a.toList = b.toList
    · rw [h1.2 h2, beq_iff_eq.2 h2]; rfl
    · have h3 : ¬ cmpU a.toList b.toList = 0 := fun h => h2 (h1.1 h)
      have h4 : (a.toList == b.toList) = false := by simpa using h2
      rw [h4, Bool.or_false, ← decide_not]
      exact decide_eq_decide.2 (by omega)
  simp only [eqGuard, binOp, Op.stringOp, bytesLess_eq, h]
  rfl
end
end Go.Au
namespace Go.Au
open Go Go.RowKit
/-- the lesser of two numbers -/
theorem mnE {P : Program} {w : World} {ρ : Operand → Value} {op : Oper} {ts : Array TypeId} {x y : Operand} {k k' : IntKind} {a b z : Int} {K : Value → World → Prop} (ho : op.op = .call { callee := .builtin .min, args := #[x, y], argTypes := ts }) (hx : ρ x = .int k a) (hy : ρ y = .int k' b)
    (hz : (if b < a then b else a) = z) (hk : K (.int k z) w) : Raw P ρ op w K := by
  subst hz
  refine ⟨_, w, ?_, hk⟩
  unfold execOp
  simp only [ho, resolve, invoke, builtin, Sem.run_bind, Sem.run_pure, Result.andThen_ok, List.map_toArray, List.map_cons, List.map_nil, hx, hy, run_min_int2]
end Go.Au

namespace Go.Au
open Go Go.RowKit

/-! ### a set's places -/
namespace Tb
abbrev natI (l : List Nat) : List Int := l.map fun (n : Nat) => (n : Int)
theorem natI_append (a b : List Nat) : natI (a ++ b) = natI a ++ natI b := List.map_append
end Tb
theorem callList : callable Proofs.Tryz.prog 96 = true := by kernel_rfl
theorem list_c {w : World} (hT : Tab w) {s : Nat} (hs : s < cap) :
    Calls Proofs.Tryz.prog 96 [setA s].toArray w (Ret fun r w' => Kp w w' ∧ (∃ a c, r = .slice a (Tb.bitsL 1024 s).length c) ∧ w'.ownsRow w.heap.size 3 1 r (Tb.bitsL 1024 s).length ((Tb.natI (Tb.bitsL 1024 s)).flatMap fN1)) := by
  refine call agree Proofs.Tryz.func96 rfl Proofs.Tryz.ntmps96 (by kernel_rfl) ?_
  refine nd fun p w1 e1 s1 k1 m1 => ?_
  have m1 : Own w1 p 118 (setC s) := m1
  refine ld (v := setA s) agree (Own.all m1) (by rfl) ?_
  refine loop agree (σ := Nat × Value) (fun q => [(3, q.2), (6, setA s), (7, .int .i64 q.1)])
    (fun q W => Kp w W ∧ q.1 ≤ 16 ∧ W.ownsRow w.heap.size 3 1 q.2 (Tb.bitsL (64 * q.1) s).length ((Tb.natI (Tb.bitsL (64 * q.1) s)).flatMap fN1))
    (fun q => 16 - q.1) (0, nilS) ⟨rfl, rfl, rfl, trivial⟩ ⟨k1, by simp only; omega, World.ownsRow_nil _ _ _ _⟩ ?_
  rintro ⟨k, v⟩ e0 W ⟨hk, hk16, hrow⟩
  simp only at hk16 hrow
  refine sp (fun h1 => ?_) (fun h1 => ?_)
  · have hk' : k < 16 := by omega
    have hwl := wordN_lt hs k hk'
    refine ixAgg agree rfl rfl rfl rfl rfl rfl rfl hk' (v := .int .u64 (wordN s k : Nat)) ?_ ?_
    · show (setC s).toArray[k * 1]? = _
      rw [Nat.mul_one, List.getElem?_toArray]
      exact setC_get s k hk'
    refine loop agree (σ := Nat × Nat × Value) (fun q => [(3, q.2.2), (4, .int .i64 k), (5, .int .u64 (q.2.1 : Nat)), (6, setA s), (7, .int .i64 k)])
      (fun q U => Kp w U ∧ q.1 ≤ 64 ∧ q.2.1 < 18446744073709551616 ∧ (∀ j, j < 64 → q.2.1.testBit j = (decide (q.1 ≤ j) && s.testBit (64 * k + j))) ∧ U.ownsRow w.heap.size 3 1 q.2.2 (Tb.bitsL (64 * k + q.1) s).length ((Tb.natI (Tb.bitsL (64 * k + q.1) s)).flatMap fN1))
      (fun q => 64 - q.1) (0, wordN s k, v) ⟨rfl, rfl, rfl, rfl, rfl, trivial⟩ ⟨hk, by simp only; omega, hwl, fun j hj => ?_, hrow⟩ ?_
    · simp only
      rw [wordN_bit hs k j hk', decide_eq_true hj, decide_eq_true (by omega)]
    rintro ⟨c, x, u⟩ e2 U ⟨hU, hc, hx, hb, hrowU⟩
    simp only at hc hx hb hrowU
    refine sp (fun h2 => ?_) (fun h2 => ?_)
    · have hx0 : x ≠ 0 := fun h => h2 (by rw [h]; rfl)
      have hst := Tb.list_step hx0 hx hb
      obtain ⟨j, m, he, hj, hcj, hbl, hand, htb⟩ := hst
      have hlen := Tb.bitsL_len (64 * k + c) s
      refine arE (z' := ((64 * k : Nat) : Int)) (by rw [wrap64 (by omega) (by omega)]; omega) ?_
      refine cl callTz (tz_c (hT.kp hU) he hx) ?_
      rintro _ w3 ⟨rfl, k3⟩
      refine arE (z' := ((64 * k + j : Nat) : Int)) (by rw [wrap64 (by omega) (by omega)]; omega) ?_
      refine ne (by decide) ?_
      refine nd fun bo w4 e4 s4 k4 mo => ?_
      have mo : Own w4 bo 3 [.int .i64 ((64 * k + j : Nat) : Int)] := mo
      have hrg := row_slice hrowU
      obtain ⟨oa, oc, rfl, -, hob⟩ := hrg
      have k34 := k3.trans k4
      refine apP (m := 1) (news := [.int .i64 ((64 * k + j : Nat) : Int)]) agree rfl rfl rfl rfl rfl rfl rfl (by decide) (ownsRow_chg hrowU k34 fun _ _ => id) rfl (Own.at_ (o := 0) mo rfl) rfl (by simp only [maxLen]; omega) (by show (_ + 1) * 8 ≤ _; omega) (by have := hU.size; have := k34.size; omega) fun v' w5 hrow5 hc5 hnew5 _ => ?_
      refine arE (z' := ((x - 1 : Nat) : Int)) (by show IntKind.u64.wrap ((x : Int) - 1) = _; rw [wrapU64 (by omega) (by omega)]; omega) ?_
      refine arE ((bitsAnd hx (by omega)).trans (by rw [hand])) ?_
      have hm64 : 2 ^ (j + 1) * m < 18446744073709551616 := by rw [← hand]; exact Nat.lt_of_le_of_lt Nat.and_le_left hx
      refine again (j + 1, 2 ^ (j + 1) * m, v') ⟨rfl, rfl, rfl, rfl, rfl, trivial⟩ ⟨?_, by simp only; omega, hm64, htb, ?_⟩ (by simp only; omega)
      · exact (hU.trans k34).newS hc5 fun g hg => by have := (hob g hg.symm).1; omega
      · simp only
        rw [hbl, List.length_append, Tb.natI_append, List.flatMap_append]
        exact hrow5
    · have hx0 : x = 0 := Classical.byContradiction fun h => h2 (fun h3 => h (Int.ofNat.inj h3))
      subst hx0
      have hle := Tb.list_end (s := s) (k := k) hc hb
      refine aw (by omega) (by omega) ?_
      refine again (k + 1, u) ⟨rfl, rfl, rfl, trivial⟩ ⟨hU, by simp only; omega, ?_⟩ (by simp only; omega)
      simp only
      rw [hle]
      exact hrowU
  · have hk0 : k = 16 := by omega
    subst hk0
    have hrg := row_slice hrow
    obtain ⟨oa, oc, rfl, -, -⟩ := hrg
    exact ⟨hk, ⟨oa, oc, rfl⟩, hrow⟩
end Go.Au
