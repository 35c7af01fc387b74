/- Own text of this workplace: a part of the proofs of this place's statements. -/
import Derived.Test.YtjibhchnhkjgkaaB12
set_option linter.unusedVariables false
set_option linter.unusedSimpArgs false
set_option linter.unusedSectionVars false
namespace Go.Au
open Go Go.RowKit Go.MapKept
open Go.Maps (Keyed)

theorem less_c (w : World) (a b : Int) : Calls Proofs.Try.prog 119 [.int .i64 a, .int .i64 b].toArray w (Ret fun r w' => r = .bool (decide (a < b)) ∧ Kp w w') := by
  refine call agree Proofs.Try.func119 rfl Proofs.Try.ntmps119 (by kernel_rfl) ?_
  refine cl callNaNi (isNaNi_c w a) ?_
  rintro _ w1 ⟨rfl, k1⟩
  refine spB ?_
  exact ⟨rfl, k1⟩
theorem callLess : callable Proofs.Try.prog 119 = true := by kernel_rfl
theorem nan_c (w : World) (x : Int) : Calls Proofs.Try.prog 120 [.int .i64 x].toArray w (Ret fun r w' => r = .bool false ∧ Kp w w') := by
  refine call agree Proofs.Try.func120 rfl Proofs.Try.ntmps120 (by kernel_rfl) ?_
  exact spF (fun h => h rfl) ⟨rfl, Chg.refl _ _⟩
theorem callNan : callable Proofs.Try.prog 120 = true := by kernel_rfl

theorem wrapU {z : Int} (h1 : 0 ≤ z) (h2 : z ≤ 18446744073709551615) : IntKind.u64.wrap z = z := by
  show (if (false && decide (z % 18446744073709551616 ≥ 9223372036854775808)) = true then z % 18446744073709551616 - 18446744073709551616 else z % 18446744073709551616) = z
  simp
  omega

set_option maxHeartbeats 4000000 in
theorem binary_c {w : World} {lo hi : Nat} {v : Value} {l : List Int} (h : Ints lo hi w v l) (hl : l.length < 4611686018427387904) (hs : l.Pairwise (· ≤ ·)) (x : Int) :
    Calls Proofs.Try.prog 87 [v, .int .i64 x].toArray w (Ret fun r w' => (∃ k : Nat, r = .tuple #[.int .i64 k, .bool (decide (x ∈ l))]) ∧ Kp w w') := by
  obtain ⟨a, cap, rfl, hcap, hx⟩ := h
  have hmono : ∀ i j (hi : i < l.length) (hj : j < l.length), i ≤ j → l[i] ≤ l[j] := fun i j hi hj hij => by
    rcases Nat.lt_or_eq_of_le hij with h | h
    · exact List.pairwise_iff_getElem.1 hs i j hi hj h
    · subst h; exact Int.le_refl _
  refine call agree Proofs.Try.func87 rfl Proofs.Try.ntmps87 (by kernel_rfl) ?_
  refine loop agree (σ := Nat × Nat) (fun t => [(0, .slice a l.length cap), (1, .int .i64 x), (6, .int .i64 l.length), (7, .int .i64 t.1), (8, .int .i64 t.2)])
    (fun t w' => Kp w w' ∧ t.1 ≤ t.2 ∧ t.2 ≤ l.length ∧ (∀ i (hi : i < l.length), i < t.1 → l[i] < x) ∧ (∀ i (hi : i < l.length), t.2 ≤ i → x ≤ l[i])) (fun t => t.2 - t.1) (0, l.length)
    ⟨rfl, rfl, rfl, rfl, rfl, trivial⟩ ⟨Chg.refl _ _, by omega, by simp only; omega, by simp, fun i hi hi' => by simp only at hi'; omega⟩ ?_
  rintro ⟨i, j⟩ env w1 ⟨k1, hij, hj, hlow, hhigh⟩
  simp only at hij hj hlow hhigh
  refine sp (fun hlt => ?_) (fun hge => ?_)
  · refine aw (by omega) (by omega) ?_
    refine ⟨fun z hz => ?_⟩
    rw [wrapU (by omega) (by omega)] at hz
    subst hz
    refine ne (by decide) ?_
    have hdiv : ((i : Int) + j).fdiv (2 ^ (min (1 : Int).toNat (IntKind.bits .u64))) = (((i + j) / 2 : Nat) : Int) := by
      rw [show (2 : Int) ^ (min (1 : Int).toNat (IntKind.bits .u64)) = 2 from rfl, Int.fdiv_eq_ediv_of_nonneg _ (by decide)]
      omega
    refine ⟨fun z hz => ?_⟩
    rw [hdiv] at hz
    subst hz
    refine aw (by omega) (by omega) ?_
    obtain ⟨m, hm⟩ : ∃ m, m = (i + j) / 2 := ⟨_, rfl⟩
    rw [← hm]
    have hml : m < l.length := by omega
    obtain ⟨b, o, rfl, hlo, hhi, cs, hcs, hrd, rfl⟩ := hx m l[m] (by simp)
    refine ne ⟨by omega, by omega⟩ ?_
    refine ld agree (k1.range hrd id) (by rfl) ?_
    refine cl callLess (less_c w1 l[m] x) ?_
    rintro _ w2 ⟨rfl, k2⟩
    by_cases hc : l[m] < x
    · rw [decide_eq_true hc]
      refine aw (by omega) (by omega) ?_
      refine again (m + 1, j) ⟨rfl, rfl, rfl, rfl, rfl, trivial⟩ ⟨k1.trans k2, by simp only; omega, hj, fun q hq hq' => ?_, hhigh⟩ (by simp only; omega)
      simp only at hq'
      have := hmono q m hq hml (by omega)
      omega
    · rw [decide_eq_false hc]
      refine again (i, m) ⟨rfl, rfl, rfl, rfl, rfl, trivial⟩ ⟨k1.trans k2, by simp only; omega, by simp only; omega, hlow, fun q hq hq' => ?_⟩ (by simp only; omega)
      simp only at hq'
      have := hmono m q hml hq hq'
      omega
  · have hij' : i = j := by omega
    subst hij'
    by_cases hil : i < l.length
    · refine spT (by omega) ?_
      obtain ⟨b, o, rfl, hlo, hhi, cs, hcs, hrd, rfl⟩ := hx i l[i] (by simp)
      refine ne ⟨by omega, by omega⟩ ?_
      refine ld agree (k1.range hrd id) (by rfl) ?_
      by_cases he : l[i] = x
      · refine spT he ?_
        refine ⟨⟨i, ?_⟩, k1⟩
        have hd : decide (x ∈ l) = true := decide_eq_true (by rw [← he]; simp)
        rw [hd]
        rfl
      · refine spF he ?_
        refine ne ⟨by omega, by omega⟩ ?_
        refine ld agree (k1.range hrd id) (by rfl) ?_
        refine cl callNan (nan_c w1 l[i]) ?_
        rintro _ w2 ⟨rfl, k2⟩
        refine ⟨⟨i, ?_⟩, k1.trans k2⟩
        have hd : decide (x ∈ l) = false := decide_eq_false fun hm => by
          obtain ⟨q, hq, hqe⟩ := List.getElem_of_mem hm
          rcases Nat.lt_or_ge q i with h | h
          · have := hlow q hq h; omega
          · have h1 := hmono i q hil hq h
            have h2 := hhigh i hil (Nat.le_refl _)
            omega
        rw [hd]
        rfl
    · refine spF (by omega) ?_
      refine ⟨⟨i, ?_⟩, k1⟩
      have hd : decide (x ∈ l) = false := decide_eq_false fun hm => by
        obtain ⟨q, hq, hqe⟩ := List.getElem_of_mem hm
        have := hlow q hq (by omega)
        omega
      rw [hd]
      rfl
theorem callBinary : callable Proofs.Try.prog 87 = true := by kernel_rfl
theorem rising_sorted {n : Int} : ∀ {l : List Int} {p : Option Int}, risingFrom n p l = true → l.Pairwise (· ≤ ·) ∧ ∀ y, p = some y → ∀ x ∈ l, y ≤ x
  | [], _, _ => ⟨.nil, by simp⟩
  | x :: r, p, h => by
    simp only [risingFrom, Bool.and_eq_true, Bool.not_eq_true', Bool.or_eq_false_iff, decide_eq_false_iff_not] at h
    obtain ⟨⟨⟨h1, h2⟩, h3⟩, h4⟩ := h
    obtain ⟨ih1, ih2⟩ := rising_sorted h4
    refine ⟨List.pairwise_cons.2 ⟨fun y hy => ih2 x rfl y hy, ih1⟩, fun y hy z hz => ?_⟩
    subst hy
    simp only [decide_eq_false_iff_not] at h3
    rcases List.mem_cons.1 hz with rfl | hz
    · omega
    · have := ih2 x rfl z hz; omega
end Go.Au
