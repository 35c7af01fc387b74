/- Own text of this workplace: a part of the proofs of this place's statements. -/
import Derived.Test.YtjibhchnhkjgkaaB5
set_option linter.unusedVariables false
set_option linter.unusedSimpArgs false
set_option linter.unusedSectionVars false
namespace Go.Au
open Go Go.RowKit Go.MapKept
open Go.Maps (Keyed)

def Let16 (x : Int) : Prop := 0 ≤ x ∧ x < 65536
abbrev Letters := RowE (fun _ cs (x : Int) => cs = [.int .u16 x] ∧ Let16 x) 1
structure Word where
  stem : List Int
  loop : List Int
structure WordV (lo hi : Nat) (w : World) (s l : Value) (x : Word) : Prop where
  stem : Letters lo hi w s x.stem
  loop : Letters lo hi w l x.loop
  ls : x.stem.length < 2305843009213693952
  ll : x.loop.length < 2305843009213693952
theorem WordV.chg {lo hi lo' hi' : Nat} {w w' : World} {s l : Value} {x : Word} (h : WordV lo hi w s l x) (k : Kp w w') (h1 : lo' ≤ lo) (h2 : hi ≤ hi') : WordV lo' hi' w' s l x :=
  ⟨(h.stem.chg k (fun _ _ _ h => h) (fun _ _ h => h)).mono (fun _ _ h => h) h1 h2, (h.loop.chg k (fun _ _ _ h => h) (fun _ _ h => h)).mono (fun _ _ h => h) h1 h2, h.ls, h.ll⟩

def indexOf (φ : Int → Bool) : Nat → List Int → Int
  | _, [] => -1
  | i, x :: r => if φ x then i else indexOf φ (i + 1) r

theorem index_c {w : World} {lo hi : Nat} {v : Value} {xs : List Int} (h : Letters lo hi w v xs) (hl : xs.length < 4611686018427387904) (g : FuncId) (cap : List Value) (φ : Int → Bool) (hg : callable Proofs.Try.prog g = true)
    (hf : ∀ W x, Kp w W → Let16 x → Calls Proofs.Try.prog g (.int .u16 x :: cap).toArray W (Ret fun r w' => r = .bool (φ x) ∧ Kp W w')) :
    Calls Proofs.Try.prog 126 [v, .func (.func g) #[] cap.toArray].toArray w (Ret fun r w' => r = .int .i64 (indexOf φ 0 xs) ∧ Kp w w') := by
  obtain ⟨a, c, rfl, hcap, hx⟩ := h
  refine call agree Proofs.Try.func126 rfl Proofs.Try.ntmps126 (by kernel_rfl) ?_
  refine loop agree (σ := Nat) (fun i => [(0, .slice a xs.length c), (1, .func (.func g) #[] cap.toArray), (6, .slice a xs.length c), (7, .int .i64 xs.length), (8, .int .i64 i)])
    (fun i w' => Kp w w' ∧ i ≤ xs.length ∧ indexOf φ 0 xs = indexOf φ i (xs.drop i)) (fun i => xs.length - i) 0
    ⟨rfl, rfl, rfl, rfl, rfl, trivial⟩ ⟨Chg.refl _ _, by omega, by simp⟩ ?_
  rintro i e0 w1 ⟨hk, hi, hr⟩
  refine sp (fun h1 => ?_) (fun h1 => ?_)
  · have hi' : i < xs.length := by omega
    obtain ⟨b, o, rfl, hlo, hhi, cs, hcs, hrd, rfl, hwf⟩ := hx i xs[i] (by simp)
    rw [List.drop_eq_getElem_cons hi'] at hr
    refine ne ⟨by omega, h1⟩ ?_
    refine ld agree (hk.range hrd id) (by rfl) ?_
    cases hb : φ xs[i] with
    | true =>
      refine cl (R := fun r w' => r = .bool true ∧ Kp w1 w') hg (by have := hf w1 xs[i] hk hwf; rw [hb] at this; exact this) ?_
      rintro _ w2 ⟨rfl, k2⟩
      exact ⟨congrArg (Value.int .i64) (by rw [hr]; simp [indexOf, hb]), hk.trans k2⟩
    | false =>
      refine cl (R := fun r w' => r = .bool false ∧ Kp w1 w') hg (by have := hf w1 xs[i] hk hwf; rw [hb] at this; exact this) ?_
      rintro _ w2 ⟨rfl, k2⟩
      refine aw (by omega) (by omega) ?_
      refine again (i + 1) ⟨rfl, rfl, rfl, rfl, rfl, trivial⟩ ⟨hk.trans k2, by omega, ?_⟩ (by omega)
      rw [hr]; simp [indexOf, hb]
  · exact ⟨congrArg (Value.int .i64) (by rw [hr, List.drop_eq_nil_of_le (by omega)]; rfl), hk⟩
theorem callIndex : callable Proofs.Try.prog 126 = true := by kernel_rfl
theorem indexOf_any (φ : Int → Bool) : ∀ (xs : List Int) (i : Nat), (0 ≤ indexOf φ i xs) ↔ xs.any φ = true
  | [], i => by simp [indexOf]
  | x :: r, i => by
    simp only [indexOf, List.any_cons]
    cases h : φ x with
    | true => simp
    | false => simpa using indexOf_any φ r (i + 1)
theorem contains_c {w : World} {lo hi : Nat} {v : Value} {xs : List Int} (h : Letters lo hi w v xs) (hl : xs.length < 4611686018427387904) (g : FuncId) (cap : List Value) (φ : Int → Bool) (hg : callable Proofs.Try.prog g = true)
    (hf : ∀ W x, Kp w W → Let16 x → Calls Proofs.Try.prog g (.int .u16 x :: cap).toArray W (Ret fun r w' => r = .bool (φ x) ∧ Kp W w')) :
    Calls Proofs.Try.prog 100 [v, .func (.func g) #[] cap.toArray].toArray w (Ret fun r w' => r = .bool (xs.any φ) ∧ Kp w w') := by
  refine call agree Proofs.Try.func100 rfl Proofs.Try.ntmps100 (by kernel_rfl) ?_
  refine cl callIndex (index_c h hl g cap φ hg hf) ?_
  rintro _ w1 ⟨rfl, k1⟩
  refine sp (fun h => ?_) (fun h => ?_)
  · exact ⟨congrArg Value.bool ((indexOf_any φ xs 0).1 h).symm, k1⟩
  · refine ⟨congrArg Value.bool ?_, k1⟩
    rw [indexOf_any φ xs 0] at h
    simpa using h
theorem callContains : callable Proofs.Try.prog 100 = true := by kernel_rfl

theorem shl_val {n : Nat} (h : n ≤ 8) : (1 : Int) * 2 ^ (min ((n : Int)).toNat (IntKind.bits .i64)) = 2 ^ n ∧ (1 : Int) ≤ 2 ^ n ∧ (2 : Int) ^ n ≤ 256 := by
  refine ⟨?_, ?_, ?_⟩
  · rw [Int.toNat_natCast, Nat.min_eq_left (by simp only [IntKind.bits]; omega), Int.one_mul]
  · have h : 1 ≤ (2 : Nat) ^ n := Nat.one_le_two_pow
    have := Int.ofNat_le.2 h
    rw [Int.natCast_pow] at this
    exact this
  · have h : (2 : Nat) ^ n ≤ 2 ^ 8 := Nat.pow_le_pow_right (by decide) h
    have := Int.ofNat_le.2 h
    rw [Int.natCast_pow] at this
    exact this

theorem far_c {w : World} {b n : Nat} (hn : n ≤ 8) (m : Own w b 3 [.int .i64 n]) (x : Int) (hx : Let16 x) : Calls Proofs.Try.prog 99 [.int .u16 x, pt b 0].toArray w (Ret fun r w' => r = .bool (decide ((2 : Int) ^ n ≤ x)) ∧ Kp w w') := by
  refine call agree Proofs.Try.func99 rfl Proofs.Try.ntmps99 (by kernel_rfl) ?_
  obtain ⟨h1, h2⟩ := hx
  obtain ⟨e1, e2, e3⟩ := shl_val hn
  refine aw (by omega) (by omega) ?_
  refine ld agree (Own.at_ (xs := [.int .i64 n]) m rfl) (by rfl) ?_
  refine ne (by omega) ?_
  refine aw (by rw [e1]; omega) (by rw [e1]; omega) ?_
  refine sp (fun h => ?_) (fun h => ?_)
  · exact ⟨congrArg Value.bool (by rw [decide_eq_true (by rw [← e1]; exact h)]), Chg.refl _ _⟩
  · exact ⟨congrArg Value.bool (by rw [decide_eq_false (by rw [← e1]; exact h)]), Chg.refl _ _⟩
theorem callFar : callable Proofs.Try.prog 99 = true := by kernel_rfl

def wordOk (x : Word) (n : Nat) : Bool := !decide (x.loop.length = 0) && !x.stem.any (fun c => decide ((2 : Int) ^ n ≤ c)) && !x.loop.any (fun c => decide ((2 : Int) ^ n ≤ c))

theorem wcheck_c {w : World} {lo hi : Nat} {sv lv : Value} {x : Word} (hv : WordV lo hi w sv lv x) {n : Nat} (hn : n ≤ 8) :
    Calls Proofs.Try.prog 66 [.agg #[sv, lv], .int .i64 n].toArray w (Ret fun r w' => r = .int .i64 (if wordOk x n then 0 else 50) ∧ Kp w w') := by
  refine call agree Proofs.Try.func66 rfl Proofs.Try.ntmps66 (by kernel_rfl) ?_
  refine nd fun p w1 e1 s1 k1 m1 => ?_
  have m1 : Own w1 p 44 [sv, lv] := m1
  refine nd fun q w2 e2 s2 k2 m2 => ?_
  have m2 : Own w2 q 3 [.int .i64 n] := m2
  have m1 := k2.own m1 id
  refine ld agree (Own.at_ (xs := [.int .i64 n]) m2 rfl) (by rfl) ?_
  refine spF (by omega) ?_
  refine ld agree (Own.at_ (xs := [.int .i64 n]) m2 rfl) (by rfl) ?_
  refine spF (by omega) ?_
  have k02 := k1.trans k2
  have hf : ∀ W x, Kp w2 W → Let16 x → Calls Proofs.Try.prog 99 (.int .u16 x :: [pt q 0]).toArray W (Ret fun r w' => r = .bool (decide ((2 : Int) ^ n ≤ x)) ∧ Kp W w') := fun W x k hx => far_c hn (k.own m2 id) x hx
  have hv2 := hv.chg k02 (Nat.le_refl _) (Nat.le_refl _)
  have hls := hv.ls
  have hll := hv.ll
  obtain ⟨a2, c2, hlv, -⟩ := id hv.loop
  subst hlv
  refine ld agree (Own.at_ (xs := [.slice a2 x.loop.length c2]) m1 rfl) (by rfl) ?_
  refine sp (fun h => ?_) (fun h => ?_)
  · exact ⟨congrArg (Value.int .i64) (by simp [wordOk, show x.loop.length = 0 by omega]), k02⟩
  · refine ld agree (Own.at_ (xs := [sv]) m1 rfl) (by rfl) ?_
    cases hb : x.stem.any (fun c => decide ((2 : Int) ^ n ≤ c)) with
    | true =>
      refine cl (R := fun r w' => r = .bool true ∧ Kp w2 w') callContains (by have := contains_c hv2.stem (by omega) _ [pt q 0] _ callFar hf; rw [hb] at this; exact this) ?_
      rintro _ w3 ⟨rfl, k3⟩
      exact ⟨congrArg (Value.int .i64) (by simp only [wordOk, hb]; simp), k02.trans k3⟩
    | false =>
      refine cl (R := fun r w' => r = .bool false ∧ Kp w2 w') callContains (by have := contains_c hv2.stem (by omega) _ [pt q 0] _ callFar hf; rw [hb] at this; exact this) ?_
      rintro _ w3 ⟨rfl, k3⟩
      refine ld agree (Own.at_ (xs := [.slice a2 x.loop.length c2]) (k3.own m1 id) rfl) (by rfl) ?_
      have hv3 := hv2.chg k3 (Nat.le_refl _) (Nat.le_refl _)
      cases hb2 : x.loop.any (fun c => decide ((2 : Int) ^ n ≤ c)) with
      | true =>
        refine cl (R := fun r w' => r = .bool true ∧ Kp w3 w') callContains (by have := contains_c hv3.loop (by omega) _ [pt q 0] _ callFar (fun W x k hx => hf W x (k3.trans k) hx); rw [hb2] at this; exact this) ?_
        rintro _ w4 ⟨rfl, k4⟩
        exact ⟨congrArg (Value.int .i64) (by simp only [wordOk, hb2]; simp), k02.trans (k3.trans k4)⟩
      | false =>
        refine cl (R := fun r w' => r = .bool false ∧ Kp w3 w') callContains (by have := contains_c hv3.loop (by omega) _ [pt q 0] _ callFar (fun W x k hx => hf W x (k3.trans k) hx); rw [hb2] at this; exact this) ?_
        rintro _ w4 ⟨rfl, k4⟩
        exact ⟨congrArg (Value.int .i64) (by simp only [wordOk, hb, hb2]; rw [decide_eq_false (by omega)]; rfl), k02.trans (k3.trans k4)⟩
theorem callWCheck : callable Proofs.Try.prog 66 = true := by kernel_rfl
end Go.Au
