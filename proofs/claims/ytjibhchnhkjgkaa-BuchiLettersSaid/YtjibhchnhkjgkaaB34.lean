/- Own text of this workplace: a part of the proofs of this place's statements. -/
import Derived.Test.YtjibhchnhkjgkaaB25
import Derived.Test.YtjibhchnhkjgkaaA17
set_option linter.unusedVariables false
set_option linter.unusedSimpArgs false
set_option linter.unusedSectionVars false
namespace Go.Au
open Go Go.RowKit

/-! ### Letters -/
def lets (m no : Int) : Nat → List Int
  | 0 => []
  | k + 1 => lets m no k ++ (if goesS ⟨0, 0, m, no⟩ (k : Int) then [(k : Int)] else [])
def lettersL (m no p : Int) : List Int := if 0 ≤ p ∧ p ≤ 8 then lets m no (2 ^ p.toNat) else []
theorem lets_pre (m no : Int) (a : Nat) : ∀ b, a ≤ b → lets m no a <+: lets m no b := by
  intro b
  induction b with
  | zero => intro h; obtain rfl : a = 0 := by omega
            exact List.prefix_refl _
  | succ b ih =>
    intro h
    rcases Nat.lt_or_ge b a with h1 | h1
    · obtain rfl : a = b + 1 := by omega
      exact List.prefix_refl _
    · exact (ih h1).trans (List.prefix_append _ _)
theorem lets_len (m no : Int) (a : Nat) : (lets m no a).length ≤ a := by
  induction a with
  | zero => exact Nat.le_refl _
  | succ a ih =>
    simp only [lets, List.length_append]
    split <;> simp <;> omega
theorem pow_le {p : Int} (h : 0 ≤ p ∧ p ≤ 8) : 2 ^ p.toNat ≤ 256 := by
  have : (2 : Nat) ^ p.toNat ≤ 2 ^ 8 := Nat.pow_le_pow_right (by decide) (by omega)
  exact this
theorem lettersL_len (m no p : Int) : (lettersL m no p).length ≤ 256 := by
  unfold lettersL
  split
  · rename_i h
    exact Nat.le_trans (lets_len _ _ _) (pow_le h)
  · simp

theorem callRLetters : callable Proofs.Try.prog 28 = true := by kernel_rfl
theorem rletters_c (w : World) (m no p : Int) : Calls Proofs.Try.prog 28 [.int .u16 m, .int .u16 no, .int .i64 p].toArray w (Ret fun r w' => Kp w w' ∧ ∃ a c, r = .slice a (lettersL m no p).length c ∧ RowE (fun _ cs x => cs = fU x) 1 w.heap.size w'.heap.size w' r (lettersL m no p)) := by
  refine call agree Proofs.Try.func28 rfl Proofs.Try.ntmps28 (by kernel_rfl) ?_
  have hno : ¬ (0 ≤ p ∧ p ≤ 8) → Kp w w ∧ ∃ a c, nilS = .slice a (lettersL m no p).length c ∧ RowE (fun _ cs x => cs = fU x) 1 w.heap.size w.heap.size w nilS (lettersL m no p) := fun h => by
    unfold lettersL
    rw [if_neg h]
    exact ⟨Chg.refl _ _, none, 0, rfl, none, 0, rfl, Nat.le_refl _, fun i x hx => by simp at hx⟩
  refine sp (fun h1 => ?_) (fun h1 => ?_)
  · exact hno (by omega)
  refine sp (fun h2 => ?_) (fun h2 => ?_)
  · exact hno (by omega)
  have hp : 0 ≤ p ∧ p ≤ 8 := by omega
  obtain ⟨q, rfl⟩ : ∃ q : Nat, p = q := ⟨p.toNat, by omega⟩
  have hq : q ≤ 8 := by omega
  obtain ⟨e1, e2, e3⟩ := shl_val hq
  have hpow : ((2 ^ q : Nat) : Int) = 2 ^ q := Int.natCast_pow 2 q
  have hle : 2 ^ q ≤ 256 := pow_le (p := (q : Int)) hp
  have hsh : IntKind.i64.wrap ((1 : Int) * 2 ^ (min ((q : Int)).toNat (IntKind.bits .i64))) = ((2 ^ q : Nat) : Int) := by
    rw [e1, ← hpow]
    exact wrap64 (by omega) (by omega)
  have hL : lettersL m no (q : Int) = lets m no (2 ^ q) := by unfold lettersL; rw [if_pos hp, Int.toNat_natCast]
  rw [hL]
  refine loop agree (σ := Nat × Value) (fun t => [(0, .int .u16 m), (1, .int .u16 no), (2, .int .i64 q), (7, t.2), (8, .int .i64 t.1)])
    (fun t w' => Kp w w' ∧ t.1 ≤ 2 ^ q ∧ w'.ownsRow w.heap.size 50 1 t.2 (lets m no t.1).length ((lets m no t.1).flatMap fU)) (fun t => 2 ^ q - t.1) (0, nilS)
    ⟨rfl, rfl, rfl, rfl, rfl, trivial⟩ ⟨Chg.refl _ _, by simp, World.ownsRow_nil _ _ _ _⟩ ?_
  rintro ⟨i, rv⟩ e0 w2 ⟨k2, hi, ho⟩
  simp only at hi ho
  refine ne (by omega) ?_
  refine arE hsh ?_
  refine sp (fun hlt => ?_) (fun hge => ?_)
  · have hi' : i < 2 ^ q := by simp only at hlt; omega
    have hll := lets_len m no i
    refine arE (wrapU16 (by omega) (by omega)) ?_
    refine cl callRGoes (rgoes_c w2 ⟨0, 0, m, no⟩ i) ?_
    rintro _ w3 ⟨rfl, k3⟩
    have o3 := ownsRow_chg ho k3 fun _ _ h => h
    cases hg : goesS ⟨0, 0, m, no⟩ i with
    | false =>
      refine aw (by omega) (by omega) ?_
      refine again (i + 1, rv) ⟨rfl, rfl, rfl, rfl, rfl, trivial⟩ ⟨k2.trans k3, by simp only; omega, ?_⟩ (by simp only; omega)
      simp only [lets, hg, Bool.false_eq_true, if_false, List.append_nil]
      exact o3
    | true =>
      refine arE (wrapU16 (by omega) (by omega)) ?_
      refine ne (by decide) ?_
      refine nd fun b w4 e4 s4 k4 m4 => ?_
      have o4 := ownsRow_chg o3 k4 fun _ _ h => h
      obtain ⟨ra, rc, rfl⟩ := ownsRow_form ho
      refine ap (m := 1) (news := fU i) agree rfl rfl rfl rfl rfl rfl rfl (by decide) o4 rfl (Own.at_ (o := 0) m4 rfl) rfl (by simp only [maxLen]; omega) (by show (_ + 1) * 2 ≤ _; omega) (by have := k2.size; have := k3.size; omega) ?_
      intro v' w5 o5 c5
      refine aw (by omega) (by omega) ?_
      refine again (i + 1, v') ⟨rfl, rfl, rfl, rfl, rfl, trivial⟩ ⟨((k2.trans k3).trans k4).newS c5 fun j hj => (o4.lt j hj.symm).1, by simp only; omega, ?_⟩ (by simp only; omega)
      simp only [lets, hg, if_true, List.length_append, List.flatMap_append, List.length_cons, List.length_nil, List.flatMap_cons, List.flatMap_nil, List.append_nil]
      exact o5
  · obtain rfl : i = 2 ^ q := by simp only at hge; omega
    obtain ⟨ra, rc, rfl⟩ := ownsRow_form ho
    exact ⟨k2, ra, rc, rfl, ownsRow_row (fun _ => rfl) ho (by decide)⟩

theorem yieldMono {F : Fence} {m : Nat} {P : Program} {l : Nat} {args : Array Value} {W : World} {R R' : Ending → World → Prop} (h : YieldAt F m P l args W R) (hr : ∀ e w, R e w → R' e w) : YieldAt F m P l args W R' := by
  obtain ⟨fn, tmps, assign, body, hy, hR⟩ := h
  exact ⟨fn, tmps, assign, body, hy, hR.mono hr⟩
/-- what Letters hands back, reads -/
def LetC (b1 b2 b3 : Nat) (m no p : Int) (w : World) : Prop := Own w b1 3 [.int .i64 p] ∧ Own w b2 50 [.int .u16 m] ∧ Own w b3 50 [.int .u16 no]
theorem lettersI (b1 b2 b3 : Nat) (m no p : Int) : IterC Proofs.Try.prog 74 [pt b1 0, pt b2 0, pt b3 0] fU (lettersL m no p) (LetC b1 b2 b3 m no p) := by
  constructor
  intro l J Jx W hJ hJx hC hy h0
  refine call agree Proofs.Try.func74 rfl Proofs.Try.ntmps74 (by kernel_rfl) ?_
  have c0 := hC _ _ h0
  have hno : ¬ (0 ≤ p ∧ p ≤ 8) → J (lettersL m no p) W ∨ ∃ pre, Jx pre W := fun h => by
    unfold lettersL
    rw [if_neg h]
    exact .inl h0
  refine ld agree (Own.at_ (xs := [.int .i64 p]) (o := 0) c0.1 rfl) (by rfl) ?_
  refine sp (fun h1 => ?_) (fun h1 => ?_)
  · exact hno (by omega)
  refine ld agree (Own.at_ (xs := [.int .i64 p]) (o := 0) c0.1 rfl) (by rfl) ?_
  refine sp (fun h2 => ?_) (fun h2 => ?_)
  · exact hno (by omega)
  have hp : 0 ≤ p ∧ p ≤ 8 := by omega
  have hle : 2 ^ p.toNat ≤ 256 := pow_le hp
  have hL : lettersL m no p = lets m no (2 ^ p.toNat) := by unfold lettersL; rw [if_pos hp]
  have hshl : IntKind.u16.wrap (1 * 2 ^ (min p.toNat (IntKind.bits .u16))) = ((2 ^ p.toNat : Nat) : Int) := by
    rw [Nat.min_eq_left (by simp only [IntKind.bits]; omega), Int.one_mul, show ((2 : Int) ^ p.toNat) = ((2 ^ p.toNat : Nat) : Int) from (Int.natCast_pow 2 _).symm]
    have h0 : (0 : Int) ≤ ((2 ^ p.toNat : Nat) : Int) := Int.natCast_nonneg _
    have h1 : ((2 ^ p.toNat : Nat) : Int) ≤ 256 := Int.ofNat_le.2 hle
    exact wrapU16 h0 (by omega)
  rw [hL] at hy ⊢
  generalize 2 ^ p.toNat = N at *
  refine ld agree (Own.at_ (xs := [.int .i64 p]) (o := 0) c0.1 rfl) (by rfl) ?_
  refine ne (by omega) ?_
  refine arE hshl ?_
  refine loop agree (σ := Nat) (fun i => [(0, .func (.yield l) #[] #[]), (1, pt b1 0), (2, pt b2 0), (3, pt b3 0), (13, .int .u16 N), (14, .int .u16 i)]) (fun i w' => i ≤ N ∧ J (lets m no i) w') (fun i => N - i) 0
    ⟨rfl, rfl, rfl, rfl, rfl, rfl, trivial⟩ ⟨by omega, h0⟩ ?_
  rintro i e0 w2 ⟨hi, hj⟩
  refine sp (fun hlt => ?_) (fun hge => ?_)
  · have hi' : i < N := by omega
    have c2 := hC _ _ hj
    refine ld agree (Own.at_ (xs := [.int .u16 m]) (o := 0) c2.2.1 rfl) (by rfl) ?_
    refine ld agree (Own.at_ (xs := [.int .u16 no]) (o := 0) c2.2.2 rfl) (by rfl) ?_
    refine cl callGoes (goes_c w2 ⟨0, 0, m, no⟩ i) ?_
    rintro _ w3 ⟨rfl, k3⟩
    have hj3 := hJ _ _ _ hj k3
    cases hg : goesS ⟨0, 0, m, no⟩ i with
    | false =>
      refine arE (wrapU16 (z := (i : Int) + 1) (by omega) (by omega)) ?_
      refine again (i + 1) ⟨rfl, rfl, rfl, rfl, rfl, rfl, trivial⟩ ⟨by omega, ?_⟩ (by omega)
      simp only [lets, hg, Bool.false_eq_true, if_false, List.append_nil]
      exact hj3
    | true =>
      have hs : lets m no i ++ [(i : Int)] = lets m no (i + 1) := by simp [lets, hg]
      have hpre : lets m no i ++ [(i : Int)] <+: lets m no N := by rw [hs]; exact lets_pre m no (i + 1) N (by omega)
      refine ⟨yieldMono (hy (lets m no i) i w3 hj3 hpre) ?_⟩
      intro en w4 hr
      cases en with
      | returned v =>
        rcases hr with ⟨rfl, h⟩ | ⟨rfl, h⟩
        · rw [hs] at h
          refine arE (wrapU16 (z := (i : Int) + 1) (by omega) (by omega)) ?_
          exact again (i + 1) ⟨rfl, rfl, rfl, rfl, rfl, rfl, trivial⟩ ⟨by omega, h⟩ (by omega)
        · exact .inr ⟨_, h⟩
      | _ => exact hr.elim
  · obtain rfl : i = N := by omega
    exact .inl hj

theorem callLetters1 : callable Proofs.Try.prog 74 = true := by kernel_rfl
theorem callLetters : callable Proofs.Try.prog 29 = true := by kernel_rfl
theorem letters_c (w : World) (m no p : Int) : Calls Proofs.Try.prog 29 [.int .u16 m, .int .u16 no, .int .i64 p].toArray w (Ret fun r w' => Kp w w' ∧ ∃ b1 b2 b3, r = .func (.func 74) #[] #[pt b1 0, pt b2 0, pt b3 0] ∧ LetC b1 b2 b3 m no p w') := by
  refine call agree Proofs.Try.func29 rfl Proofs.Try.ntmps29 (by kernel_rfl) ?_
  refine nd fun b1 w1 e1 s1 k1 m1 => ?_
  refine nd fun b2 w2 e2 s2 k2 m2 => ?_
  refine nd fun b3 w3 e3 s3 k3 m3 => ?_
  exact ⟨(k1.trans k2).trans k3, b3, b1, b2, rfl, m3, (k2.trans k3).own m1 id, k3.own m2 id⟩
end Go.Au
