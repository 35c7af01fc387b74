/- Own text of this workplace: a part of the proofs of this place's statements. -/
import Derived.Test.YtjibhchnhkjgkaaP0
import Derived.Test.YtjibhchnhkjgkaaG
import Derived.Test.YtjibhchnhkjgkaaP2
import Derived.Test.YtjibhchnhkjgkaaP3
set_option maxRecDepth 40000
set_option linter.unusedVariables false
set_option linter.unusedSimpArgs false
set_option linter.unusedSectionVars false
namespace Go.Au
open Go Go.RowKit Go.MapKept
open Go.Maps (Keyed)

theorem less_c (w : World) (a b : Int) : Calls Proofs.Try.prog 119 [.int .i64 a, .int .i64 b].toArray w (Ret fun r w' => r = .bool (decide (a < b)) ∧ Kp w w') := by
  refine call agree Proofs.Try.func119 rfl Proofs.Try.ntmps119 (by kernel_rfl) ?_
  refine cl callNaNi (isNaNi_c w a) ?_
  rintro _ w1 ⟨rfl, k1⟩
  refine spB ?_
  exact ⟨rfl, k1⟩
theorem callLess : callable Proofs.Try.prog 119 = true := by kernel_rfl
theorem nan_c (w : World) (x : Int) : Calls Proofs.Try.prog 120 [.int .i64 x].toArray w (Ret fun r w' => r = .bool false ∧ Kp w w') := by
  refine call agree Proofs.Try.func120 rfl Proofs.Try.ntmps120 (by kernel_rfl) ?_
  exact spF (fun h => h rfl) ⟨rfl, Chg.refl _ _⟩
theorem callNan : callable Proofs.Try.prog 120 = true := by kernel_rfl

theorem wrapU {z : Int} (h1 : 0 ≤ z) (h2 : z ≤ 18446744073709551615) : IntKind.u64.wrap z = z := by
  show (if (false && decide (z % 18446744073709551616 ≥ 9223372036854775808)) = true then z % 18446744073709551616 - 18446744073709551616 else z % 18446744073709551616) = z
  simp
  omega

set_option maxHeartbeats 4000000 in
theorem binary_c {w : World} {lo hi : Nat} {v : Value} {l : List Int} (h : Ints lo hi w v l) (hl : l.length < 4611686018427387904) (hs : l.Pairwise (· ≤ ·)) (x : Int) :
    Calls Proofs.Try.prog 87 [v, .int .i64 x].toArray w (Ret fun r w' => (∃ k : Nat, r = .tuple #[.int .i64 k, .bool (decide (x ∈ l))]) ∧ Kp w w') := by
  obtain ⟨a, cap, rfl, hcap, hx⟩ := h
  have hmono : ∀ i j (hi : i < l.length) (hj : j < l.length), i ≤ j → l[i] ≤ l[j] := fun i j hi hj hij => by
    rcases Nat.lt_or_eq_of_le hij with h | h
    · exact List.pairwise_iff_getElem.1 hs i j hi hj h
    · subst h; exact Int.le_refl _
  refine call agree Proofs.Try.func87 rfl Proofs.Try.ntmps87 (by kernel_rfl) ?_
  refine loop agree (σ := Nat × Nat) (fun t => [(0, .slice a l.length cap), (1, .int .i64 x), (6, .int .i64 l.length), (7, .int .i64 t.1), (8, .int .i64 t.2)])
    (fun t w' => Kp w w' ∧ t.1 ≤ t.2 ∧ t.2 ≤ l.length ∧ (∀ i (hi : i < l.length), i < t.1 → l[i] < x) ∧ (∀ i (hi : i < l.length), t.2 ≤ i → x ≤ l[i])) (fun t => t.2 - t.1) (0, l.length)
    ⟨rfl, rfl, rfl, rfl, rfl, trivial⟩ ⟨Chg.refl _ _, by omega, by simp only; omega, by simp, fun i hi hi' => by simp only at hi'; omega⟩ ?_
  rintro ⟨i, j⟩ env w1 ⟨k1, hij, hj, hlow, hhigh⟩
  simp only at hij hj hlow hhigh
  refine sp (fun hlt => ?_) (fun hge => ?_)
  · refine aw (by omega) (by omega) ?_
    refine ⟨fun z hz => ?_⟩
    rw [wrapU (by omega) (by omega)] at hz
    subst hz
    refine ne (by decide) ?_
    have hdiv : ((i : Int) + j).fdiv (2 ^ (min (1 : Int).toNat (IntKind.bits .u64))) = (((i + j) / 2 : Nat) : Int) := by
      rw [show (2 : Int) ^ (min (1 : Int).toNat (IntKind.bits .u64)) = 2 from rfl, Int.fdiv_eq_ediv_of_nonneg _ (by decide)]
      omega
    refine ⟨fun z hz => ?_⟩
    rw [hdiv] at hz
    subst hz
    refine aw (by omega) (by omega) ?_
    obtain ⟨m, hm⟩ : ∃ m, m = (i + j) / 2 := ⟨_, rfl⟩
    rw [← hm]
    have hml : m < l.length := by omega
    obtain ⟨b, o, rfl, hlo, hhi, cs, hcs, hrd, rfl⟩ := hx m l[m] (by simp)
    refine ne ⟨by omega, by omega⟩ ?_
    refine ld agree (k1.range hrd id) (by rfl) ?_
    refine cl callLess (less_c w1 l[m] x) ?_
    rintro _ w2 ⟨rfl, k2⟩
    by_cases hc : l[m] < x
    · rw [decide_eq_true hc]
      refine aw (by omega) (by omega) ?_
      refine again (m + 1, j) ⟨rfl, rfl, rfl, rfl, rfl, trivial⟩ ⟨k1.trans k2, by simp only; omega, hj, fun q hq hq' => ?_, hhigh⟩ (by simp only; omega)
      simp only at hq'
      have := hmono q m hq hml (by omega)
      omega
    · rw [decide_eq_false hc]
      refine again (i, m) ⟨rfl, rfl, rfl, rfl, rfl, trivial⟩ ⟨k1.trans k2, by simp only; omega, by simp only; omega, hlow, fun q hq hq' => ?_⟩ (by simp only; omega)
      simp only at hq'
      have := hmono m q hml hq hq'
      omega
  · have hij' : i = j := by omega
    subst hij'
    by_cases hil : i < l.length
    · refine spT (by omega) ?_
      obtain ⟨b, o, rfl, hlo, hhi, cs, hcs, hrd, rfl⟩ := hx i l[i] (by simp)
      refine ne ⟨by omega, by omega⟩ ?_
      refine ld agree (k1.range hrd id) (by rfl) ?_
      by_cases he : l[i] = x
      · refine spT he ?_
        refine ⟨⟨i, ?_⟩, k1⟩
        have hd : decide (x ∈ l) = true := decide_eq_true (by rw [← he]; simp)
        rw [hd]
        rfl
      · refine spF he ?_
        refine ne ⟨by omega, by omega⟩ ?_
        refine ld agree (k1.range hrd id) (by rfl) ?_
        refine cl callNan (nan_c w1 l[i]) ?_
        rintro _ w2 ⟨rfl, k2⟩
        refine ⟨⟨i, ?_⟩, k1.trans k2⟩
        have hd : decide (x ∈ l) = false := decide_eq_false fun hm => by
          obtain ⟨q, hq, hqe⟩ := List.getElem_of_mem hm
          rcases Nat.lt_or_ge q i with h | h
          · have := hlow q hq h; omega
          · have h1 := hmono i q hil hq h
            have h2 := hhigh i hil (Nat.le_refl _)
            omega
        rw [hd]
        rfl
    · refine spF (by omega) ?_
      refine ⟨⟨i, ?_⟩, k1⟩
      have hd : decide (x ∈ l) = false := decide_eq_false fun hm => by
        obtain ⟨q, hq, hqe⟩ := List.getElem_of_mem hm
        have := hlow q hq (by omega)
        omega
      rw [hd]
      rfl
theorem callBinary : callable Proofs.Try.prog 87 = true := by kernel_rfl
theorem rising_sorted {n : Int} : ∀ {l : List Int} {p : Option Int}, risingFrom n p l = true → l.Pairwise (· ≤ ·) ∧ ∀ y, p = some y → ∀ x ∈ l, y ≤ x
  | [], _, _ => ⟨.nil, by simp⟩
  | x :: r, p, h => by
    simp only [risingFrom, Bool.and_eq_true, Bool.not_eq_true', Bool.or_eq_false_iff, decide_eq_false_iff_not] at h
    obtain ⟨⟨⟨h1, h2⟩, h3⟩, h4⟩ := h
    obtain ⟨ih1, ih2⟩ := rising_sorted h4
    refine ⟨List.pairwise_cons.2 ⟨fun y hy => ih2 x rfl y hy, ih1⟩, fun y hy z hz => ?_⟩
    subst hy
    simp only [decide_eq_false_iff_not] at h3
    rcases List.mem_cons.1 hz with rfl | hz
    · omega
    · have := ih2 x rfl z hz; omega
end Go.Au

namespace Go.Au
open Go Go.RowKit

/-! ### Compact of rising numbers; Clone of texts; has -/
theorem callCompactI : callable Proofs.Try.prog 116 = true := by kernel_rfl
theorem compactI_c {w : World} {lo hi : Nat} {v : Value} {xs : List Int} (h : Ints lo hi w v xs) (hl : xs.length < 4611686018427387904) (hp : xs.Pairwise (· < ·)) :
    Calls Proofs.Try.prog 116 [v].toArray w (Ret fun r w' => r = v ∧ Kp w w') := by
  obtain ⟨va, vc, rfl, hc, hr⟩ := id h
  refine call agree Proofs.Try.func116 rfl Proofs.Try.ntmps116 (by kernel_rfl) ?_
  refine sp (fun hlt => ?_) (fun hge => ?_)
  · exact ⟨rfl, Chg.refl _ _⟩
  · refine loop agree (σ := Nat) (fun k => [(0, .slice va xs.length vc), (3, .int .i64 k)]) (fun k W => Kp w W ∧ 1 ≤ k ∧ k ≤ xs.length) (fun k => xs.length - k) 1
      ⟨rfl, rfl, trivial⟩ ⟨Chg.refl _ _, Nat.le_refl _, by omega⟩ ?_
    rintro k e0 W ⟨kW, hk1, hkl⟩
    refine sp (fun hlt => ?_) (fun hge2 => ?_)
    · have hlt : k < xs.length := by omega
      obtain ⟨b, o, rfl, -, -, cs, -, hrd, rfl⟩ := hr k xs[k] (by simp)
      obtain ⟨b', o', e1, -, -, cs', -, hrd', rfl⟩ := hr (k - 1) (xs[k - 1]'(by omega)) (by simp [show k - 1 < xs.length by omega])
      injection e1 with e1
      injection e1 with e1 e2
      subst e1 e2
      have hne := List.pairwise_iff_getElem.1 hp (k - 1) k (by omega) hlt (by omega)
      refine drawn0 agree mixed 10 (by kernel_rfl) (fun _ => False) ?_
      conv => whnf
      refine ne ⟨by omega, by omega⟩ ?_
      conv => whnf
      refine ldk (v := .int .i64 xs[k]) agree rfl rfl (fun V hV _ => by rw [Int.toNat_natCast]; exact (kW.trans hV).range hrd id) (by rfl) fun _ => ?_
      conv => whnf
      refine arX (show _ = ((k - 1 : Nat) : Int) by rw [show ((k : Int) - 1) = ((k - 1 : Nat) : Int) by omega]; exact wrap64 (by omega) (by omega)) ?_
      conv => whnf
      refine ne ⟨by omega, by omega⟩ ?_
      conv => whnf
      refine ldk (v := .int .i64 (xs[k - 1]'(by omega))) agree rfl rfl (fun V hV _ => by rw [Int.toNat_natCast]; exact (kW.trans hV).range hrd' id) (by rfl) fun _ => ?_
      conv => whnf
      refine spF (by omega) ?_
      conv => whnf
      intro W1 k1 _
      refine aw (by omega) (by omega) ?_
      exact again (k + 1) ⟨rfl, rfl, trivial⟩ ⟨kW.trans k1, by omega, by omega⟩ (by omega)
    · exact ⟨rfl, kW⟩

abbrev fS1 (x : ByteArray) : List Value := [.string x]
theorem callCloneS : callable Proofs.Try.prog 112 = true := by kernel_rfl
theorem cloneS_c {w : World} {lo hi : Nat} {v : Value} {xs : List ByteArray} (h : Strs lo hi w v xs) (hl : xs.length < 1000000000000) :
    Calls Proofs.Try.prog 112 [v].toArray w (Ret fun r w' => Kp w w' ∧ (∃ a c, r = .slice a xs.length c) ∧ w'.ownsRow w.heap.size 9 1 r xs.length (xs.flatMap fS1)) := by
  obtain ⟨a, c, rfl, hc, hr⟩ := id h
  refine call agree Proofs.Try.func112 rfl Proofs.Try.ntmps112 (by kernel_rfl) ?_
  refine slNil agree rfl rfl rfl (by kernel_rfl) ?_
  cases a with
  | none =>
    have : xs = [] := by
      cases xs with
      | nil => rfl
      | cons x r =>
        obtain ⟨b, o, h2, _⟩ := hr 0 x rfl
        cases h2
    subst this
    exact ⟨Chg.refl _ _, ⟨none, 0, rfl⟩, World.ownsRow_nil _ _ _ _⟩
  | some a =>
    refine ne (by decide) ?_
    refine nd fun b w1 e1 s1 k1 m1 => ?_
    have own0 : w1.ownsRow w.heap.size 9 1 (.slice (some ⟨b, 0, none⟩) 0 0) 0 [] := ⟨rfl, .inr ⟨b, 0, _, rfl, by omega, m1, by omega, by simp [maxLen], rfl, by simp⟩⟩
    have hrow1 : RowE (fun _ cs (x : ByteArray) => cs = fS1 x) 1 lo hi w1 (.slice (some a) xs.length c) xs := by
      have := (h.chg k1 (fun _ _ _ h => h) (fun _ _ h => h))
      exact this
    refine apV (f := fS1) (size := 1) agree rfl rfl rfl rfl rfl rfl rfl (by decide) own0 (fun _ => rfl) hrow1 (fun _ => rfl) (by simp only [maxLen]; omega) (by show (_ + xs.length) * 16 ≤ _; omega) (by omega) ?_
    intro v' w2 o2 c2
    have o2 : w2.ownsRow w.heap.size 9 1 v' (0 + xs.length) (xs.flatMap fS1) := o2
    rw [Nat.zero_add] at o2
    have hf := ownsRow_form o2
    obtain ⟨a2, c3, rfl⟩ := hf
    refine ⟨k1.newS c2 fun j hj => ?_, ⟨a2, c3, rfl⟩, ?_⟩
    · have : j = b := by have h2 : some j = some b := hj; injection h2
      omega
    · exact o2
end Go.Au

namespace Go.Au
open Go Go.RowKit Go.MapKept
open Go.Maps (Keyed)

/-- one comes to one of T by one step or more, within X -/
inductive Plus (g : General) (x : Word) (X T : Place → Prop) : Place → Prop
  | one {p q : Place} : X p → q ∈ succ g x p → X q → T q → Plus g x X T p
  | more {p q : Place} : X p → q ∈ succ g x p → X q → Plus g x X T q → Plus g x X T p
theorem Plus.mono {g : General} {x : Word} {X T X' T' : Place → Prop} (hX : ∀ p, X p → X' p) (hT : ∀ p, X p → T p → T' p) {p : Place} (h : Plus g x X T p) : Plus g x X' T' p := by
  induction h with
  | one h1 h2 h3 h4 => exact .one (hX _ h1) h2 (hX _ h3) (hT _ h3 h4)
  | more h1 h2 h3 _ ih => exact .more (hX _ h1) h2 (hX _ h3) ih
theorem Plus.self {g : General} {x : Word} {X T : Place → Prop} {p : Place} (h : Plus g x X T p) : X p := by cases h <;> assumption
theorem Comes.plus {g : General} {x : Word} {lin lto : List Place} {p : Place} (h : Comes g x lin lto p) : Plus g x (· ∈ lin) (· ∈ lto) p := by
  induction h with
  | one h1 h2 h3 h4 => exact .one h1 h2 h3 h4
  | more h1 h2 h3 _ ih => exact .more h1 h2 h3 ih
theorem Plus.comes {g : General} {x : Word} {lin lto : List Place} {p : Place} (h : Plus g x (· ∈ lin) (· ∈ lto) p) : Comes g x lin lto p := by
  induction h with
  | one h1 h2 h3 h4 => exact .one h1 h2 h3 h4
  | more h1 h2 h3 _ ih => exact .more h1 h2 h3 ih

def upTo (n : Int) : List Int := (List.range n.toNat).map fun (i : Nat) => (i : Int)
def setsOf (g : General) : List (List Int) := if g.sets.length = 0 then [upTo g.states] else g.sets
def Reachable (g : General) (x : Word) (p : Place) : Prop := ∀ X : Place → Prop, (∀ s ∈ g.init, X (s, 0)) → (∀ p q, X p → q ∈ succ g x p → X q) → X p
/-- some run meets each set again and again -/
def AccP (g : General) (x : Word) : Prop := ∃ X : Place → Prop, (∃ p, X p) ∧ (∀ p, X p → Reachable g x p) ∧ ∀ p, X p → ∀ F ∈ setsOf g, Plus g x X (fun q => q.1 ∈ F) p

theorem nodup_same {α : Type} [DecidableEq α] {l r : List α} (hl : l.Nodup) (hs : ∀ x ∈ l, x ∈ r) (he : r.length ≤ l.length) : ∀ x ∈ r, x ∈ l := fun x hx => Classical.byContradiction fun hn => by
  have := nodup_sub (l := x :: l) (r := r) (List.nodup_cons.2 ⟨hn, hl⟩) fun y hy => by
    rcases List.mem_cons.1 hy with rfl | hy
    · exact hx
    · exact hs y hy
  simp at this
  omega

structure AccI (g : General) (x : Word) (all lin : List Place) : Prop where
  nodup : lin.Nodup
  sub : ∀ p ∈ lin, p ∈ all
  great : ∀ X : Place → Prop, (∀ p, X p → p ∈ all) → (∀ p, X p → ∀ F ∈ setsOf g, Plus g x X (fun q => q.1 ∈ F) p) → ∀ p, X p → p ∈ lin
def Fixed (g : General) (x : Word) (lin : List Place) (Fs : List (List Int)) : Prop := ∀ p ∈ lin, ∀ F ∈ Fs, Plus g x (· ∈ lin) (fun q => q.1 ∈ F) p

theorem AccI.accP {g : General} {x : Word} {all lin : List Place} (ha : AllOf g x all) (h : AccI g x all lin) (hf : Fixed g x lin (setsOf g)) : 0 < lin.length ↔ AccP g x := by
  constructor
  · intro h0
    refine ⟨(· ∈ lin), ⟨lin[0], by simp⟩, fun p hp X h1 h2 => ha.least X h1 h2 p (h.sub p hp), hf⟩
  · rintro ⟨X, ⟨p, hp⟩, hr, hX⟩
    have := h.great X (fun q hq => hr q hq _ ha.init fun p q hp hq => ha.closed p hp q hq) hX p hp
    exact List.length_pos_of_mem this

/-- one round for one set -/
structure CutI (g : General) (x : Word) (lin0 lin : List Place) (Fs : List (List Int)) : Prop where
  sub : ∀ p ∈ lin, p ∈ lin0
  fixed : lin.length = lin0.length → (∀ p ∈ lin0, p ∈ lin) ∧ Fixed g x lin0 Fs
theorem CutI.step {g : General} {x : Word} {all lin0 lin lto lin' : List Place} {Fs : List (List Int)} {F : List Int} (h0 : AccI g x all lin0) (h : AccI g x all lin) (hc : CutI g x lin0 lin Fs) (hF : F ∈ setsOf g)
    (hto : ∀ p, p ∈ lto ↔ p ∈ all ∧ p.1 ∈ F ∧ p ∈ lin) (hn : lin'.Nodup) (hl : ∀ p, p ∈ lin' ↔ p ∈ all ∧ Comes g x lin lto p) : AccI g x all lin' ∧ CutI g x lin0 lin' (Fs ++ [F]) := by
  have hsub : ∀ p ∈ lin', p ∈ lin := fun p hp => ((hl p).1 hp).2.plus.self
  refine ⟨⟨hn, fun p hp => h.sub p (hsub p hp), fun X h1 h2 p hp => ?_⟩, ⟨fun p hp => hc.sub p (hsub p hp), fun he => ?_⟩⟩
  · have hXl := h.great X h1 h2
    refine (hl p).2 ⟨h1 p hp, ?_⟩
    exact (Plus.mono (fun q hq => hXl q hq) (fun q hq hqF => (hto q).2 ⟨h1 q hq, hqF, hXl q hq⟩) (h2 p hp F hF)).comes
  · have e1 := nodup_sub hn hsub
    have e2 := nodup_sub h.nodup hc.sub
    obtain ⟨f1, f2⟩ := hc.fixed (by omega)
    have e3 := nodup_same hn hsub (by omega)
    refine ⟨fun p hp => e3 p (f1 p hp), fun p hp G hG => ?_⟩
    rcases List.mem_append.1 hG with hG | hG
    · exact f2 p hp G hG
    · simp only [List.mem_singleton] at hG
      subst hG
      have := ((hl p).1 (e3 p (f1 p hp))).2.plus
      exact this.mono (fun q hq => hc.sub q hq) (fun q _ hq => ((hto q).1 hq).2.1)

theorem upTo_sorted (n : Int) : (upTo n).Pairwise (· ≤ ·) := by
  unfold upTo
  rw [List.pairwise_map]
  exact (List.pairwise_lt_range).imp fun h => by omega

theorem RunV.chg {lo hi hi' r : Nat} {w w' : World} {g : General} {x : Word} {all : List Place} (h : RunV lo hi w r g x all) (k : Kp w w') (hh : hi ≤ hi') : RunV lo hi' w' r g x all := by
  obtain ⟨pv, iv, ev, sv, stv, lov, mn, av, nl, mr, hr1, hr2, hn1, hn2, hgv, hav, hnext, hrows⟩ := h.h
  exact ⟨_, _, _, _, _, _, mn, _, nl, k.own mr id, hr1, by omega, hn1, by omega, hgv.chg k (Nat.le_refl _) hh, (hav.chg k (fun _ _ _ h => h) (fun _ _ h => h)).mono (fun _ _ h => h) (Nat.le_refl _) hh, hnext.chg k id,
    fun p hp => ((hrows p hp).chg k (fun _ _ _ h => h) (fun _ _ h => h)).mono (fun _ _ h => h) (Nat.le_refl _) hh⟩
noncomputable def acceptsS (g : General) (x : Word) : Bool := @decide (AccP g x) (Classical.propDecidable _)

set_option maxHeartbeats 4000000 in
theorem accepts_c {w : World} {lo hi r : Nat} {g : General} {x : Word} {all : List Place} (hr : RunV lo hi w r g x all) (hhi : hi ≤ w.heap.size) (ha : AllOf g x all) (hg : Good g) (hs : ∀ l ∈ g.sets, l.Pairwise (· ≤ ·)) (hx : x.loop.length ≠ 0) (hP : x.places < 1048576) (hE : g.edges.length < 1099511627776) :
    Calls Proofs.Try.prog 68 [pt r 0].toArray w (Ret fun v w' => v = .bool (acceptsS g x) ∧ Kp w w') := by
  obtain ⟨pv, iv, ev, sv, stv, lov, mn, av, nl, mr, hr1, hr2, hn1, hn2, hgv, hav, hnext, hrows⟩ := id hr.h
  have hbox := ha.box hg hx
  have hls := hgv.ls
  have hlen : all.length < 1099511627776 := by
    have h1 := box_len ha.nodup hg hbox
    have h2 : g.states.toNat * x.places ≤ 65536 * 1048576 := Nat.mul_le_mul (by have := hg.s1; omega) (by omega)
    omega
  have hI : ∀ p ∈ all, I64 p.1 ∧ I64 p.2 := fun p hp => by
    obtain ⟨a, b, c, d⟩ := hbox p hp
    have := hg.s1
    exact ⟨⟨by omega, by omega⟩, ⟨by omega, by omega⟩⟩
  have hsorted : ∀ F ∈ setsOf g, F.Pairwise (· ≤ ·) := fun F hF => by
    unfold setsOf at hF
    split at hF
    · simp only [List.mem_singleton] at hF
      rw [hF]
      exact upTo_sorted _
    · exact hs F hF
  obtain ⟨ava, avc, rfl, havc, hread⟩ := id hav
  refine call agree Proofs.Try.func68 rfl Proofs.Try.ntmps68 (by kernel_rfl) ?_
  refine nd fun m3 w1 e1 s1 k1 m1 => ?_
  have hm3 : OnesE w1 m3 (ones []) := MapE.made m1 pval_inj
  refine ld agree (Own.at_ (xs := [.slice ava all.length avc]) (k1.own mr id) rfl) (by rfl) ?_
  refine loop agree (σ := Nat) (fun i => [(0, pt r 0), (3, .map (some m3)), (20, .slice ava all.length avc), (21, .int .i64 all.length), (22, .int .i64 i)])
    (fun i W => i ≤ all.length ∧ Kp w W ∧ OnesE W m3 (ones (all.take i))) (fun i => all.length - i) 0
    ⟨rfl, rfl, rfl, rfl, rfl, trivial⟩ ⟨by omega, k1, hm3⟩ ?_
  rintro i env w2 ⟨hi2, k2, hm⟩
  refine sp (fun hlt => ?_) (fun hge => ?_)
  · have hi' : i < all.length := by omega
    obtain ⟨b, o, rfl, hlo, hhi, cs, hcs, hrd, rfl⟩ := hread i all[i] (by simp)
    have hp := hI all[i] (by simp)
    refine ne ⟨by omega, hlt⟩ ?_
    refine ld agree (v := pval all[i]) (k2.range hrd id) rfl ?_
    refine nd fun p5 w4 e4 s4 k4 m4 => ?_
    refine st agree (cs := [.int .i64 0, .int .i64 0]) m4 rfl (Nat.le_refl 2) rfl ?_
    intro w5 s5 k5 m5
    have m10 : Own w5 p5 133 (pcells all[i]) := m5
    have k25 : Kp w2 w5 := k4.new e4 k5
    have hm5 := hm.chg k25 id
    have hnot : all[i] ∉ all.take i := fun hmem => by
      have hd := ha.nodup
      rw [← List.take_append_drop i all, List.nodup_append] at hd
      exact hd.2.2 _ hmem _ (by rw [List.drop_eq_getElem_cons hi']; exact List.mem_cons_self) rfl
    have n10 : p5 ≠ m3 := hm5.ne m10
    have hpre := preMapR Proofs.Try.prog 133 pval (fun n : Int => .int .i64 n) 0 m3 all[i]
    refine drawnR agree mixed 6 (by kernel_rfl) _ hpre ?_
    conv => whnf
    refine ldr (v := pval all[i]) hpre agree rfl rfl (fun W h _ => h.chg.range (Own.at_ (xs := pcells all[i]) (o := 0) m10 rfl) n10) (by rfl) fun _ => ?_
    conv => whnf
    refine lkr (v := .int .i64 0) hpre rfl (fun W h _ => by
      obtain ⟨x1, hm1, he1⟩ := h.map _ hm5
      have := MapE.get agree placeKeyed (t := 131) rfl rfl rfl rfl (z := 0) hm1 all[i] (placeKey hp.1 hp.2)
      rw [he1.get, ones, aget_ones, if_neg hnot] at this
      exact this) fun _ => ?_
    conv => whnf
    refine aw (by omega) (by omega) ?_
    conv => whnf
    refine enr agree placeKeyed (t := 131) rfl rfl rfl rfl rfl rfl (z := 0) rfl hm5 (placeKey hp.1 hp.2) fun st D hD => ?_
    conv => whnf
    intro W10 hW10 hDs
    obtain ⟨x1, hen, he1⟩ := hD W10 (hDs 4)
    refine mu (hen.store 1) ?_
    rintro w11 ⟨hm11, hs11, hc11⟩
    have hones : aput x1 all[i] 1 = ones (all.take i ++ [all[i]]) := by
      rw [he1.put, ones, ones, aput_new fun y hy he => by
        obtain ⟨z, hz, rfl⟩ := List.mem_map.1 hy
        exact hnot (he ▸ hz)]
      rw [List.map_append]; rfl
    rw [hones] at hm11
    refine aw (by omega) (by omega) ?_
    have k11 : Kp w w11 := (k2.trans k25).newS (hW10.chg.trans hc11) fun k hk => by omega
    refine again (i + 1) ⟨rfl, rfl, rfl, rfl, rfl, trivial⟩ ⟨by omega, k11, ?_⟩ (by omega)
    rw [show all.take (i + 1) = all.take i ++ [all[i]] by simp]
    exact hm11
  have hall : all.take i = all := List.take_of_length_le (by omega)
  rw [hall] at hm
  clear hall
  refine ld agree (Own.at_ (xs := [sv]) (k2.own mr id) rfl) (by rfl) ?_
  obtain ⟨sa, sc, rfl, hsc, hsr⟩ := id hgv.sets
  refine sp (fun h0 => ?A) (fun h0 => ?B)
  case' A =>
    refine ne (by decide) ?_
    refine nd fun sb w3 e3 s3 k3 m3' => ?_
    have msb : Own w3 sb 24 [nilS] := m3'
    refine ld agree (Own.at_ (xs := [.int .i64 g.states]) ((k2.trans k3).own mr id) rfl) (by rfl) ?_
    have hs0 := hg.s0
    have hs1 := hg.s1
    refine loop agree (σ := Nat × Value) (fun t => [(0, pt r 0), (3, .map (some m3)), (6, .slice (some ⟨sb, 0, none⟩) 1 1), (46, .int .i64 g.states), (47, .int .i64 t.1)])
      (fun t W => t.1 ≤ g.states.toNat ∧ Kp w2 W ∧ Own W sb 24 [t.2] ∧ W.ownsRow w3.heap.size 3 1 t.2 t.1 (((List.range t.1).map fun (i : Nat) => (i : Int)).flatMap fun x => [.int .i64 x])) (fun t => g.states.toNat - t.1) (0, nilS)
      ⟨rfl, rfl, rfl, rfl, rfl, trivial⟩ ⟨by simp only; omega, k3, msb, World.ownsRow_nil _ _ _ _⟩ ?_
    rintro ⟨j, v⟩ env2 w4 ⟨hj, k4, hsb, hrow⟩
    simp only at hj hsb hrow
    refine sp (fun hlt2 => ?_) (fun hge2 => ?C)
    case' C =>
      have hjn : j = g.states.toNat := by omega
      subst hjn
      have hrr := ownsRow_row (f := fun x : Int => [Value.int .i64 x]) (fun _ => rfl) hrow (by decide)
      have hsets : IntRows 0 w4.heap.size w4 (.slice (some ⟨sb, 0, none⟩) (setsOf g).length 1) (setsOf g) := by
        have hset1 : setsOf g = [upTo g.states] := by unfold setsOf; rw [if_pos (by omega)]
        rw [hset1]
        refine row1R hsb (fun q y hy => ?_) rfl (Nat.le_refl _) (Nat.zero_le _) hsb.lt
        cases q with
        | zero =>
          simp at hy
          subst hy
          exact ⟨v, rfl, v, rfl, hrr.mono (fun _ _ h => h) (Nat.zero_le _) (Nat.le_refl _), by unfold upTo; simp; omega⟩
        | succ q => simp at hy
      have kws : Kp w2 w4 := k4
      have hSL : (setsOf g).length = 1 := by unfold setsOf; rw [if_pos (by omega)]; rfl
      obtain ⟨A0, C0, hA0, hC0, hset⟩ := hsets
      have hA1 := (Value.slice.inj hA0).1
      subst hA1

      have hm4 : OnesE w4 m3 (ones all) := hm.chg kws id
      have hk4 : Kp w w4 := k2.trans kws
      refine loop agree (σ := Int × Nat × List Place) (fun t => [(0, pt r 0), (3, .map (some t.2.1)), (6, .slice (some ⟨sb, 0, none⟩) 1 1), (8, .int .i64 t.1)])
        (fun t W => Kp w4 W ∧ OnesE W t.2.1 (ones t.2.2) ∧ AccI g x all t.2.2 ∧ (t.1 = t.2.2.length → Fixed g x t.2.2 (setsOf g))) (fun t => t.2.2.length + (if t.1 = t.2.2.length then 0 else 1)) (-1, m3, all)
        ⟨rfl, rfl, rfl, rfl, trivial⟩ ⟨Chg.refl _ _, hm4, ⟨ha.nodup, fun _ h => h, fun X h1 _ => h1⟩, fun h => by simp only at h; omega⟩ ?_
      rintro ⟨was, mi, lin⟩ env5 W5 ⟨kW, hmi, hA, hfx⟩
      simp only at hmi hA hfx
      have hlin := nodup_sub hA.nodup hA.sub
      have hol : (ones lin).length = lin.length := by simp [ones]
      refine lm (t := 131) agree rfl rfl rfl rfl hmi ?_
      rw [hol]
      refine sp (fun hne => ?_) (fun heq => ?_)
      · refine lm (t := 131) agree rfl rfl rfl rfl hmi ?_
        rw [hol]
        refine loop agree (σ := Nat × Nat × List Place) (fun t => [(0, pt r 0), (3, .map (some t.2.1)), (6, .slice (some ⟨sb, 0, none⟩) 1 1), (8, .int .i64 lin.length), (65, .slice (some ⟨sb, 0, none⟩) 1 1), (66, .int .i64 (1 : Nat)), (67, .int .i64 t.1)])
          (fun t W => t.1 ≤ (setsOf g).length ∧ Kp w4 W ∧ OnesE W t.2.1 (ones t.2.2) ∧ AccI g x all t.2.2 ∧ CutI g x lin t.2.2 ((setsOf g).take t.1)) (fun t => (setsOf g).length - t.1) (0, mi, lin)
          ⟨rfl, rfl, rfl, rfl, rfl, rfl, rfl, trivial⟩ ⟨Nat.zero_le _, kW, hmi, hA, ⟨fun _ h => h, fun _ => ⟨fun _ h => h, fun _ _ _ h => by simp at h⟩⟩⟩ ?_
        rintro ⟨j, mj, linj⟩ env6 W6 ⟨hj6, k6, hm6, hA6, hC6⟩
        simp only at hj6 hm6 hA6 hC6
        refine sp (fun hlt6 => ?_) (fun hge6 => ?_)
        · have hj' : j < (setsOf g).length := by rw [hSL]; omega
          obtain ⟨b6, o6, hAe, hlo6, hhi6, cs6, hcs6, hrd6, u, rfl, hu, hul⟩ := hset j (setsOf g)[j] (by simp)
          obtain rfl : sb = b6 := congrArg Addr.block (Option.some.inj hAe)
          obtain rfl : 0 = o6 := congrArg Addr.off (Option.some.inj hAe)
          refine ne ⟨by omega, hlt6⟩ ?_
          refine ld agree (v := u) (k6.range hrd6 id) (by rfl) ?_
          refine nd fun mt w7 e7 s7 k7 m7 => ?_
          have hmt : OnesE w7 mt (ones []) := MapE.made m7 pval_inj
          refine ld agree (Own.at_ (xs := [.slice ava all.length avc]) ((hk4.trans (k6.trans k7)).own mr id) rfl) (by rfl) ?_
          refine loop agree (σ := Nat × List Place) (fun t => [(0, pt r 0), (3, .map (some mj)), (6, .slice (some ⟨sb, 0, none⟩) 1 1), (8, .int .i64 lin.length), (10, u), (11, .map (some mt)), (65, .slice (some ⟨sb, 0, none⟩) 1 1), (66, .int .i64 (1 : Nat)), (67, .int .i64 j), (75, .slice ava all.length avc), (76, .int .i64 all.length), (77, .int .i64 t.1)])
            (fun t W => t.1 ≤ all.length ∧ Kp W6 W ∧ OnesE W mt (ones t.2) ∧ t.2 = (all.take t.1).filter (fun p => decide (p.1 ∈ (setsOf g)[j] ∧ p ∈ linj))) (fun t => all.length - t.1) (0, [])
            ⟨rfl, rfl, rfl, rfl, rfl, rfl, rfl, rfl, rfl, rfl, rfl, rfl, trivial⟩ ⟨Nat.zero_le _, k7, hmt, by simp⟩ ?_
          rintro ⟨i, lto⟩ env7 w8 ⟨hi8, k8, hmt8, hlto⟩
          simp only at hi8 hmt8 hlto
          refine sp (fun hlt8 => ?_) (fun hge8 => ?_)
          · have hi' : i < all.length := by omega
            obtain ⟨b, o, rfl, hlo, hhi9, cs, hcs, hrd, rfl⟩ := hread i all[i] (by simp)
            have hp := hI all[i] (by simp)
            refine ne ⟨by omega, hlt8⟩ ?_
            have k08 : Kp w w8 := hk4.trans (k6.trans k8)
            refine ld agree (v := pval all[i]) (k08.range hrd id) rfl ?_
            refine nd fun p13 w9 e9 s9 k9 m9 => ?_
            refine st agree (cs := [.int .i64 0, .int .i64 0]) m9 rfl (Nat.le_refl 2) rfl ?_
            intro w10 s10 k10 m10
            have m13 : Own w10 p13 133 (pcells all[i]) := m10
            have k810 : Kp w8 w10 := k9.new e9 k10
            refine ld agree (Own.at_ (xs := [.int .i64 all[i].1]) m13 rfl) (by rfl) ?_
            have hbin := binary_c (hu.chg (k6.trans (k8.trans k810)) (fun _ _ _ h => h) (fun _ _ h => h)) hul (hsorted _ (List.getElem_mem hj')) all[i].1
            obtain ⟨d, hd⟩ : ∃ d, d = decide (all[i].1 ∈ (setsOf g)[j]) := ⟨_, rfl⟩
            rw [← hd] at hbin
            refine cl callBinary hbin ?_
            rintro _ w11 ⟨⟨kk, rfl⟩, k11⟩
            have k8b : Kp w8 w11 := k810.trans k11
            have hmt11 : OnesE w11 mt (ones lto) := hmt8.chg k8b id
            have m13' : Own w11 p13 133 (pcells all[i]) := k11.own m13 id
            have hsnoc : all.take (i + 1) = all.take i ++ [all[i]] := by simp
            have hfl : (all.take (i + 1)).filter (fun p => decide (p.1 ∈ (setsOf g)[j] ∧ p ∈ linj)) = lto ++ if all[i].1 ∈ (setsOf g)[j] ∧ all[i] ∈ linj then [all[i]] else [] := by
              rw [hsnoc, List.filter_append, ← hlto]
              congr 1
              by_cases hc : all[i].1 ∈ (setsOf g)[j] ∧ all[i] ∈ linj
              · rw [if_pos hc, List.filter_cons_of_pos (by simpa using hc)]; rfl
              · rw [if_neg hc, List.filter_cons_of_neg (by simpa using hc)]; rfl
            cases d with
            | false =>
              have hd' := of_decide_eq_false hd.symm
              refine aw (by omega) (by omega) ?_
              refine again (i + 1, lto) ⟨rfl, rfl, rfl, rfl, rfl, rfl, rfl, rfl, rfl, rfl, rfl, rfl, trivial⟩ ⟨by simp only; omega, k8.trans k8b, hmt11, ?_⟩ (by simp only; omega)
              simp only [hfl]
              rw [if_neg fun h => hd' h.1, List.append_nil]
            | true =>
              have hd' := of_decide_eq_true hd.symm
              refine ld agree (v := pval all[i]) (Own.at_ (xs := pcells all[i]) (o := 0) m13' rfl) (by rfl) ?_
              refine lk (get1 (hm6.chg (k8.trans k8b) id) hp.1 hp.2) ?_
              by_cases c2 : all[i] ∈ linj
              · rw [if_pos c2]
                refine spT (by decide) ?_
                have hnot : all[i] ∉ lto := fun hmem => by
                  rw [hlto] at hmem
                  have hmem := (List.mem_filter.1 hmem).1
                  have hd := ha.nodup
                  rw [← List.take_append_drop i all, List.nodup_append] at hd
                  exact hd.2.2 _ hmem _ (by rw [List.drop_eq_getElem_cons hi']; exact List.mem_cons_self) rfl
                have n13 : p13 ≠ mt := hmt11.ne m13'
                have hpre := preMapR Proofs.Try.prog 133 pval (fun n : Int => .int .i64 n) 0 mt all[i]
                refine drawnR agree mixed 6 (by kernel_rfl) _ hpre ?_
                conv => whnf
                refine ldr (v := pval all[i]) hpre agree rfl rfl (fun W h _ => h.chg.range (Own.at_ (xs := pcells all[i]) (o := 0) m13' rfl) n13) (by rfl) fun _ => ?_
                conv => whnf
                refine lkr (v := .int .i64 0) hpre rfl (fun W h _ => by
                  obtain ⟨x1, hm1, he1⟩ := h.map _ hmt11
                  have := MapE.get agree placeKeyed (t := 131) rfl rfl rfl rfl (z := 0) hm1 all[i] (placeKey hp.1 hp.2)
                  rw [he1.get, ones, aget_ones, if_neg hnot] at this
                  exact this) fun _ => ?_
                conv => whnf
                refine aw (by omega) (by omega) ?_
                conv => whnf
                refine enr agree placeKeyed (t := 131) rfl rfl rfl rfl rfl rfl (z := 0) rfl hmt11 (placeKey hp.1 hp.2) fun st D hD => ?_
                conv => whnf
                intro W10 hW10 hDs
                obtain ⟨x1, hen, he1⟩ := hD W10 (hDs 4)
                refine mu (hen.store 1) ?_
                rintro w11' ⟨hm11, hs11, hc11⟩
                have hones : aput x1 all[i] 1 = ones (lto ++ [all[i]]) := by
                  rw [he1.put, ones, ones, aput_new fun y hy he => by
                    obtain ⟨z, hz, rfl⟩ := List.mem_map.1 hy
                    exact hnot (he ▸ hz)]
                  rw [List.map_append]; rfl
                rw [hones] at hm11
                refine aw (by omega) (by omega) ?_
                have k11' : Kp W6 w11' := (k8.trans k8b).newS (hW10.chg.trans hc11) fun k hk => by omega
                refine again (i + 1, lto ++ [all[i]]) ⟨rfl, rfl, rfl, rfl, rfl, rfl, rfl, rfl, rfl, rfl, rfl, rfl, trivial⟩ ⟨by simp only; omega, k11', hm11, ?_⟩ (by simp only; omega)
                simp only [hfl]
                rw [if_pos ⟨hd', c2⟩]
              · rw [if_neg c2]
                refine spF (by decide) ?_
                refine aw (by omega) (by omega) ?_
                refine again (i + 1, lto) ⟨rfl, rfl, rfl, rfl, rfl, rfl, rfl, rfl, rfl, rfl, rfl, rfl, trivial⟩ ⟨by simp only; omega, k8.trans k8b, hmt11, ?_⟩ (by simp only; omega)
                simp only [hfl]
                rw [if_neg fun h => c2 h.2, List.append_nil]
          · have k08 : Kp w w8 := hk4.trans (k6.trans k8)
            have htk : all.take i = all := List.take_of_length_le (by omega)
            rw [htk] at hlto
            have hbef := before_c (hr.chg k08 (Nat.le_refl _)) ha hg hx hP hE (hm6.chg k8 id) hmt8
            refine cl callBefore hbef ?_
            rintro _ w9 ⟨k9, mo, lout, rfl, hmo, hsz, hnd, hl⟩
            refine aw (by omega) (by omega) ?_
            obtain ⟨hA', hC'⟩ := hC6.step hA hA6 (List.getElem_mem hj') (fun p => by rw [hlto, List.mem_filter, decide_eq_true_eq]) hnd hl
            refine again (j + 1, mo, lout) ⟨rfl, rfl, rfl, rfl, rfl, rfl, rfl, trivial⟩ ⟨by simp only; omega, k6.trans (k8.trans k9), hmo, hA', ?_⟩ (by simp only; omega)
            rw [show (setsOf g).take (j + 1) = (setsOf g).take j ++ [(setsOf g)[j]] by simp]
            exact hC'
        · rw [List.take_of_length_le (by omega)] at hC6
          have hll := nodup_sub hA6.nodup hC6.sub
          refine again ((lin.length : Int), mj, linj) ⟨rfl, rfl, rfl, rfl, trivial⟩ ⟨k6, hm6, hA6, fun he => ?_⟩ ?_
          · simp only at he
            obtain ⟨f1, f2⟩ := hC6.fixed (by omega)
            exact fun p hp F hF => (f2 p (hC6.sub p hp) F hF).mono (fun q hq => f1 q hq) fun _ _ h => h
          · simp only
            rw [if_neg hne]
            split <;> omega
      · have heq' : was = (lin.length : Int) := Classical.byContradiction fun h => heq h
        refine lm (t := 131) agree rfl rfl rfl rfl hmi ?_
        rw [hol]
        refine spB ?_
        refine ⟨congrArg Value.bool ?_, hk4.trans kW⟩
        have := hA.accP ha (hfx heq')
        unfold acceptsS
        by_cases hc : AccP g x
        · rw [@decide_eq_true _ (Classical.propDecidable _) hc, decide_eq_true (by have := this.2 hc; omega)]
        · rw [@decide_eq_false _ (Classical.propDecidable _) hc, decide_eq_false (by intro h; exact hc (this.1 (by omega)))]
    obtain ⟨va, vc, rfl⟩ := ownsRow_form hrow
    refine ne (by decide) ?_
    refine ld agree (Own.at_ (xs := [.slice va j vc]) hsb rfl) (by rfl) ?_
    refine ne (by decide) ?_
    refine nd fun q w5 e5 s5 k5 m5 => ?_
    have hrow5 := ownsRow_chg hrow k5 (fun _ _ => id)
    refine ap (m := 1) (news := [.int .i64 j]) agree rfl rfl rfl rfl rfl rfl rfl (by decide) hrow5 rfl (Own.at_ (xs := [.int .i64 j]) (o := 0) m5 rfl) rfl (by simp only [maxLen]; omega) (by show (_ + 1) * 8 ≤ _; omega) (by have := hsb.lt; omega) fun v' w6 hown hc6 => ?_
    refine ne (by decide) ?_
    have hsb5 := k5.own hsb id
    have hsb6 := hc6.own hsb5 fun he => ownsRow_ne hrow5 hsb5 (fun cs fr hh => by injection hh with _ h2; exact absurd h2 (by decide)) he.symm
    obtain ⟨a', cap', rfl⟩ := ownsRow_form hown
    refine st agree hsb6 rfl (Nat.le_refl 1) rfl ?_
    intro w7 s7 k7 m7
    have hb7 : ∀ b, (Value.slice a' (j + 1) cap').ownBlock = some b → ¬ b = sb := fun b hb he => by
      subst he
      exact ownsRow_ne hown hsb6 (fun cs fr hh => by injection hh with _ h2; exact absurd h2 (by decide)) hb
    refine aw (by omega) (by omega) ?_
    refine again (j + 1, .slice a' (j + 1) cap') ⟨rfl, rfl, rfl, rfl, rfl, trivial⟩ ⟨by simp only; omega, ?_, m7, ?_⟩ (by simp only; omega)
    · refine (k4.trans k5).newS ((hc6.mono (S' := fun k => some k = (Value.slice va j vc).ownBlock ∨ k = sb) fun _ => .inl).trans (k7.mono fun _ => .inr)) fun k hk => ?_
      rcases hk with hk | hk
      · have := (hrow.lt k hk.symm).1; have := k3.size; omega
      · omega
    · have h1 := ownsRow_chg hown k7 hb7
      rw [List.range_succ, List.map_append, List.flatMap_append]
      exact h1
  case' B =>
    have kws : Kp w2 w2 := Chg.refl _ _
    have hSe : setsOf g = g.sets := by unfold setsOf; rw [if_neg (by omega)]
    have hSL : (setsOf g).length = g.sets.length := by rw [hSe]
    have hset : ∀ i xs, (setsOf g)[i]? = some xs → ∃ b o, sa = some ⟨b, o, none⟩ ∧ 0 ≤ b ∧ b < w.heap.size ∧ ∃ cs, cs.length = 1 ∧ w2.rangeAt b (o + i * 1) cs ∧ ∃ u, cs = [u] ∧ Ints 0 w.heap.size w2 u xs ∧ xs.length < 4611686018427387904 := by
      intro i xs hi
      rw [hSe] at hi
      obtain ⟨b, o, h1, h2, h3, cs, h4, h5, u, h6, h7, h8⟩ := hsr i xs hi
      exact ⟨b, o, h1, h2, by omega, cs, h4, k2.range h5 id, u, h6, (h7.chg k2 (fun _ _ _ h => h) (fun _ _ h => h)).mono (fun _ _ h => h) (Nat.le_refl _) hhi, h8⟩

    have hm4 : OnesE w2 m3 (ones all) := hm.chg kws id
    have hk4 : Kp w w2 := k2.trans kws
    refine loop agree (σ := Int × Nat × List Place) (fun t => [(0, pt r 0), (3, .map (some t.2.1)), (6, .slice sa g.sets.length sc), (8, .int .i64 t.1)])
      (fun t W => Kp w2 W ∧ OnesE W t.2.1 (ones t.2.2) ∧ AccI g x all t.2.2 ∧ (t.1 = t.2.2.length → Fixed g x t.2.2 (setsOf g))) (fun t => t.2.2.length + (if t.1 = t.2.2.length then 0 else 1)) (-1, m3, all)
      ⟨rfl, rfl, rfl, rfl, trivial⟩ ⟨Chg.refl _ _, hm4, ⟨ha.nodup, fun _ h => h, fun X h1 _ => h1⟩, fun h => by simp only at h; omega⟩ ?_
    rintro ⟨was, mi, lin⟩ env5 W5 ⟨kW, hmi, hA, hfx⟩
    simp only at hmi hA hfx
    have hlin := nodup_sub hA.nodup hA.sub
    have hol : (ones lin).length = lin.length := by simp [ones]
    refine lm (t := 131) agree rfl rfl rfl rfl hmi ?_
    rw [hol]
    refine sp (fun hne => ?_) (fun heq => ?_)
    · refine lm (t := 131) agree rfl rfl rfl rfl hmi ?_
      rw [hol]
      refine loop agree (σ := Nat × Nat × List Place) (fun t => [(0, pt r 0), (3, .map (some t.2.1)), (6, .slice sa g.sets.length sc), (8, .int .i64 lin.length), (65, .slice sa g.sets.length sc), (66, .int .i64 (g.sets.length : Nat)), (67, .int .i64 t.1)])
        (fun t W => t.1 ≤ (setsOf g).length ∧ Kp w2 W ∧ OnesE W t.2.1 (ones t.2.2) ∧ AccI g x all t.2.2 ∧ CutI g x lin t.2.2 ((setsOf g).take t.1)) (fun t => (setsOf g).length - t.1) (0, mi, lin)
        ⟨rfl, rfl, rfl, rfl, rfl, rfl, rfl, trivial⟩ ⟨Nat.zero_le _, kW, hmi, hA, ⟨fun _ h => h, fun _ => ⟨fun _ h => h, fun _ _ _ h => by simp at h⟩⟩⟩ ?_
      rintro ⟨j, mj, linj⟩ env6 W6 ⟨hj6, k6, hm6, hA6, hC6⟩
      simp only at hj6 hm6 hA6 hC6
      refine sp (fun hlt6 => ?_) (fun hge6 => ?_)
      · have hj' : j < (setsOf g).length := by rw [hSL]; omega
        obtain ⟨b6, o6, hAe, hlo6, hhi6, cs6, hcs6, hrd6, u, rfl, hu, hul⟩ := hset j (setsOf g)[j] (by simp)
        subst hAe
        refine ne ⟨by omega, hlt6⟩ ?_
        refine ld agree (v := u) (k6.range hrd6 id) (by rfl) ?_
        refine nd fun mt w7 e7 s7 k7 m7 => ?_
        have hmt : OnesE w7 mt (ones []) := MapE.made m7 pval_inj
        refine ld agree (Own.at_ (xs := [.slice ava all.length avc]) ((hk4.trans (k6.trans k7)).own mr id) rfl) (by rfl) ?_
        refine loop agree (σ := Nat × List Place) (fun t => [(0, pt r 0), (3, .map (some mj)), (6, .slice (some ⟨b6, o6, none⟩) g.sets.length sc), (8, .int .i64 lin.length), (10, u), (11, .map (some mt)), (65, .slice (some ⟨b6, o6, none⟩) g.sets.length sc), (66, .int .i64 (g.sets.length : Nat)), (67, .int .i64 j), (75, .slice ava all.length avc), (76, .int .i64 all.length), (77, .int .i64 t.1)])
          (fun t W => t.1 ≤ all.length ∧ Kp W6 W ∧ OnesE W mt (ones t.2) ∧ t.2 = (all.take t.1).filter (fun p => decide (p.1 ∈ (setsOf g)[j] ∧ p ∈ linj))) (fun t => all.length - t.1) (0, [])
          ⟨rfl, rfl, rfl, rfl, rfl, rfl, rfl, rfl, rfl, rfl, rfl, rfl, trivial⟩ ⟨Nat.zero_le _, k7, hmt, by simp⟩ ?_
        rintro ⟨i, lto⟩ env7 w8 ⟨hi8, k8, hmt8, hlto⟩
        simp only at hi8 hmt8 hlto
        refine sp (fun hlt8 => ?_) (fun hge8 => ?_)
        · have hi' : i < all.length := by omega
          obtain ⟨b, o, rfl, hlo, hhi9, cs, hcs, hrd, rfl⟩ := hread i all[i] (by simp)
          have hp := hI all[i] (by simp)
          refine ne ⟨by omega, hlt8⟩ ?_
          have k08 : Kp w w8 := hk4.trans (k6.trans k8)
          refine ld agree (v := pval all[i]) (k08.range hrd id) rfl ?_
          refine nd fun p13 w9 e9 s9 k9 m9 => ?_
          refine st agree (cs := [.int .i64 0, .int .i64 0]) m9 rfl (Nat.le_refl 2) rfl ?_
          intro w10 s10 k10 m10
          have m13 : Own w10 p13 133 (pcells all[i]) := m10
          have k810 : Kp w8 w10 := k9.new e9 k10
          refine ld agree (Own.at_ (xs := [.int .i64 all[i].1]) m13 rfl) (by rfl) ?_
          have hbin := binary_c (hu.chg (k6.trans (k8.trans k810)) (fun _ _ _ h => h) (fun _ _ h => h)) hul (hsorted _ (List.getElem_mem hj')) all[i].1
          obtain ⟨d, hd⟩ : ∃ d, d = decide (all[i].1 ∈ (setsOf g)[j]) := ⟨_, rfl⟩
          rw [← hd] at hbin
          refine cl callBinary hbin ?_
          rintro _ w11 ⟨⟨kk, rfl⟩, k11⟩
          have k8b : Kp w8 w11 := k810.trans k11
          have hmt11 : OnesE w11 mt (ones lto) := hmt8.chg k8b id
          have m13' : Own w11 p13 133 (pcells all[i]) := k11.own m13 id
          have hsnoc : all.take (i + 1) = all.take i ++ [all[i]] := by simp
          have hfl : (all.take (i + 1)).filter (fun p => decide (p.1 ∈ (setsOf g)[j] ∧ p ∈ linj)) = lto ++ if all[i].1 ∈ (setsOf g)[j] ∧ all[i] ∈ linj then [all[i]] else [] := by
            rw [hsnoc, List.filter_append, ← hlto]
            congr 1
            by_cases hc : all[i].1 ∈ (setsOf g)[j] ∧ all[i] ∈ linj
            · rw [if_pos hc, List.filter_cons_of_pos (by simpa using hc)]; rfl
            · rw [if_neg hc, List.filter_cons_of_neg (by simpa using hc)]; rfl
          cases d with
          | false =>
            have hd' := of_decide_eq_false hd.symm
            refine aw (by omega) (by omega) ?_
            refine again (i + 1, lto) ⟨rfl, rfl, rfl, rfl, rfl, rfl, rfl, rfl, rfl, rfl, rfl, rfl, trivial⟩ ⟨by simp only; omega, k8.trans k8b, hmt11, ?_⟩ (by simp only; omega)
            simp only [hfl]
            rw [if_neg fun h => hd' h.1, List.append_nil]
          | true =>
            have hd' := of_decide_eq_true hd.symm
            refine ld agree (v := pval all[i]) (Own.at_ (xs := pcells all[i]) (o := 0) m13' rfl) (by rfl) ?_
            refine lk (get1 (hm6.chg (k8.trans k8b) id) hp.1 hp.2) ?_
            by_cases c2 : all[i] ∈ linj
            · rw [if_pos c2]
              refine spT (by decide) ?_
              have hnot : all[i] ∉ lto := fun hmem => by
                rw [hlto] at hmem
                have hmem := (List.mem_filter.1 hmem).1
                have hd := ha.nodup
                rw [← List.take_append_drop i all, List.nodup_append] at hd
                exact hd.2.2 _ hmem _ (by rw [List.drop_eq_getElem_cons hi']; exact List.mem_cons_self) rfl
              have n13 : p13 ≠ mt := hmt11.ne m13'
              have hpre := preMapR Proofs.Try.prog 133 pval (fun n : Int => .int .i64 n) 0 mt all[i]
              refine drawnR agree mixed 6 (by kernel_rfl) _ hpre ?_
              conv => whnf
              refine ldr (v := pval all[i]) hpre agree rfl rfl (fun W h _ => h.chg.range (Own.at_ (xs := pcells all[i]) (o := 0) m13' rfl) n13) (by rfl) fun _ => ?_
              conv => whnf
              refine lkr (v := .int .i64 0) hpre rfl (fun W h _ => by
                obtain ⟨x1, hm1, he1⟩ := h.map _ hmt11
                have := MapE.get agree placeKeyed (t := 131) rfl rfl rfl rfl (z := 0) hm1 all[i] (placeKey hp.1 hp.2)
                rw [he1.get, ones, aget_ones, if_neg hnot] at this
                exact this) fun _ => ?_
              conv => whnf
              refine aw (by omega) (by omega) ?_
              conv => whnf
              refine enr agree placeKeyed (t := 131) rfl rfl rfl rfl rfl rfl (z := 0) rfl hmt11 (placeKey hp.1 hp.2) fun st D hD => ?_
              conv => whnf
              intro W10 hW10 hDs
              obtain ⟨x1, hen, he1⟩ := hD W10 (hDs 4)
              refine mu (hen.store 1) ?_
              rintro w11' ⟨hm11, hs11, hc11⟩
              have hones : aput x1 all[i] 1 = ones (lto ++ [all[i]]) := by
                rw [he1.put, ones, ones, aput_new fun y hy he => by
                  obtain ⟨z, hz, rfl⟩ := List.mem_map.1 hy
                  exact hnot (he ▸ hz)]
                rw [List.map_append]; rfl
              rw [hones] at hm11
              refine aw (by omega) (by omega) ?_
              have k11' : Kp W6 w11' := (k8.trans k8b).newS (hW10.chg.trans hc11) fun k hk => by omega
              refine again (i + 1, lto ++ [all[i]]) ⟨rfl, rfl, rfl, rfl, rfl, rfl, rfl, rfl, rfl, rfl, rfl, rfl, trivial⟩ ⟨by simp only; omega, k11', hm11, ?_⟩ (by simp only; omega)
              simp only [hfl]
              rw [if_pos ⟨hd', c2⟩]
            · rw [if_neg c2]
              refine spF (by decide) ?_
              refine aw (by omega) (by omega) ?_
              refine again (i + 1, lto) ⟨rfl, rfl, rfl, rfl, rfl, rfl, rfl, rfl, rfl, rfl, rfl, rfl, trivial⟩ ⟨by simp only; omega, k8.trans k8b, hmt11, ?_⟩ (by simp only; omega)
              simp only [hfl]
              rw [if_neg fun h => c2 h.2, List.append_nil]
        · have k08 : Kp w w8 := hk4.trans (k6.trans k8)
          have htk : all.take i = all := List.take_of_length_le (by omega)
          rw [htk] at hlto
          have hbef := before_c (hr.chg k08 (Nat.le_refl _)) ha hg hx hP hE (hm6.chg k8 id) hmt8
          refine cl callBefore hbef ?_
          rintro _ w9 ⟨k9, mo, lout, rfl, hmo, hsz, hnd, hl⟩
          refine aw (by omega) (by omega) ?_
          obtain ⟨hA', hC'⟩ := hC6.step hA hA6 (List.getElem_mem hj') (fun p => by rw [hlto, List.mem_filter, decide_eq_true_eq]) hnd hl
          refine again (j + 1, mo, lout) ⟨rfl, rfl, rfl, rfl, rfl, rfl, rfl, trivial⟩ ⟨by simp only; omega, k6.trans (k8.trans k9), hmo, hA', ?_⟩ (by simp only; omega)
          rw [show (setsOf g).take (j + 1) = (setsOf g).take j ++ [(setsOf g)[j]] by simp]
          exact hC'
      · rw [List.take_of_length_le (by omega)] at hC6
        have hll := nodup_sub hA6.nodup hC6.sub
        refine again ((lin.length : Int), mj, linj) ⟨rfl, rfl, rfl, rfl, trivial⟩ ⟨k6, hm6, hA6, fun he => ?_⟩ ?_
        · simp only at he
          obtain ⟨f1, f2⟩ := hC6.fixed (by omega)
          exact fun p hp F hF => (f2 p (hC6.sub p hp) F hF).mono (fun q hq => f1 q hq) fun _ _ h => h
        · simp only
          rw [if_neg hne]
          split <;> omega
    · have heq' : was = (lin.length : Int) := Classical.byContradiction fun h => heq h
      refine lm (t := 131) agree rfl rfl rfl rfl hmi ?_
      rw [hol]
      refine spB ?_
      refine ⟨congrArg Value.bool ?_, hk4.trans kW⟩
      have := hA.accP ha (hfx heq')
      unfold acceptsS
      by_cases hc : AccP g x
      · rw [@decide_eq_true _ (Classical.propDecidable _) hc, decide_eq_true (by have := this.2 hc; omega)]
      · rw [@decide_eq_false _ (Classical.propDecidable _) hc, decide_eq_false (by intro h; exact hc (this.1 (by omega)))]
theorem callAccepts : callable Proofs.Try.prog 68 = true := by kernel_rfl
end Go.Au

namespace Go.Au
open Go

/-! ### the machine that numbers by breadth, plain -/
def hasS (sets : List (List Int)) (p : Place) : Bool := decide (p.1 ∈ sets.getD p.2.toNat [])
def nextC (sets : List (List Int)) (p : Place) : Int := if sets.length ≠ 0 ∧ hasS sets p = true then (((p.2.toNat + 1) % sets.length : Nat) : Int) else p.2
def finC (sets : List (List Int)) (p : Place) : Bool := decide (sets.length = 0 ∨ (p.2 + 1 = sets.length ∧ hasS sets p = true))
def oneE (i : Nat) (d : Int) (st : List Place × List Edge) (e : Edge) : List Place × List Edge := (numL st.1 (e.to, d), st.2 ++ [⟨i, numOf st.1 (e.to, d), e.must, e.no⟩])
def rowE1 (i : Nat) (d : Int) (st : List Place × List Edge) (l : List Edge) : List Place × List Edge := l.foldl (oneE i d) st
abbrev DSt := List Place × List Edge × List Int
def oneS (sets : List (List Int)) (fr : Int → List Edge) (i : Nat) (st : DSt) : DSt := match st.1[i]? with
  | none => st
  | some p => ((rowE1 i (nextC sets p) (st.1, st.2.1) (fr p.1)).1, (rowE1 i (nextC sets p) (st.1, st.2.1) (fr p.1)).2, st.2.2 ++ if finC sets p = true then [(i : Int)] else [])
def degS (sets : List (List Int)) (fr : Int → List Edge) (st0 : DSt) : Nat → DSt
  | 0 => st0
  | i + 1 => oneS sets fr i (degS sets fr st0 i)
def iniE (t : List Place × List Int) (s : Int) : List Place × List Int := (numL t.1 (s, 0), t.2 ++ [(numOf t.1 (s, 0) : Int)])
def iniS (l : List Int) : List Place × List Int := l.foldl iniE ([], [])

def InB (n k : Nat) (p : Place) : Prop := 0 ≤ p.1 ∧ p.1 < n ∧ 0 ≤ p.2 ∧ p.2 < k
theorem numL_box {n k : Nat} {L : List Place} {p : Place} (h : ∀ q ∈ L, InB n k q) (hp : InB n k p) : ∀ q ∈ numL L p, InB n k q := fun q hq => by
  unfold numL at hq
  split at hq
  · exact h q hq
  · rcases List.mem_append.1 hq with h1 | h1
    · exact h q h1
    · simp at h1; rw [h1]; exact hp
theorem numL_len (L : List Place) (p : Place) : L.length ≤ (numL L p).length := by
  unfold numL; split
  · exact Nat.le_refl _
  · simp
theorem numL_pre (L : List Place) (p : Place) : L <+: numL L p := by
  unfold numL; split
  · exact List.prefix_refl _
  · exact List.prefix_append _ _
theorem box_length {n k : Nat} {L : List Place} (hn : L.Nodup) (h : ∀ q ∈ L, InB n k q) : L.length ≤ n * k := by
  have h1 := nodup_sub (l := L) (r := (List.range n).flatMap fun a => (List.range k).map fun b => (((a : Nat) : Int), ((b : Nat) : Int))) hn fun q hq => by
    obtain ⟨h1, h2, h3, h4⟩ := h q hq
    refine List.mem_flatMap.2 ⟨q.1.toNat, by rw [List.mem_range]; omega, List.mem_map.2 ⟨q.2.toNat, by rw [List.mem_range]; omega, ?_⟩⟩
    obtain ⟨a, b⟩ := q
    simp only at h1 h3 ⊢
    rw [Int.toNat_of_nonneg h1, Int.toNat_of_nonneg h3]
  have h2 : ((List.range n).flatMap fun a => (List.range k).map fun b => (((a : Nat) : Int), ((b : Nat) : Int))).length = n * k := by
    rw [List.length_flatMap]
    have : ∀ m, ((List.range m).map fun (_ : Nat) => k).sum = m * k := fun m => by
      induction m with
      | zero => simp
      | succ m ih => rw [List.range_succ, List.map_append, List.sum_append, ih, Nat.add_mul]; simp
    simpa using this n
  omega
theorem rowE1_grow (i : Nat) (d : Int) : ∀ (l : List Edge) (st : List Place × List Edge), st.1.length ≤ (rowE1 i d st l).1.length
  | [], _ => Nat.le_refl _
  | e :: l, st => Nat.le_trans (numL_len st.1 (e.to, d)) (rowE1_grow i d l (oneE i d st e))
theorem rowE1_snoc (i : Nat) (d : Int) (st : List Place × List Edge) (l : List Edge) (e : Edge) : rowE1 i d st (l ++ [e]) = oneE i d (rowE1 i d st l) e := by
  unfold rowE1; rw [List.foldl_append]; rfl
theorem rowE1_box {n k i : Nat} {d : Int} (hd : 0 ≤ d ∧ d < k) : ∀ (l : List Edge) (st : List Place × List Edge), (∀ e ∈ l, 0 ≤ e.to ∧ e.to < n) → st.1.Nodup → (∀ q ∈ st.1, InB n k q) → (rowE1 i d st l).1.Nodup ∧ (∀ q ∈ (rowE1 i d st l).1, InB n k q) ∧ (rowE1 i d st l).2.length = st.2.length + l.length
  | [], st, _, h1, h2 => ⟨h1, h2, rfl⟩
  | e :: l, st, he, h1, h2 => by
    have h3 := he e List.mem_cons_self
    have := rowE1_box (i := i) hd l (oneE i d st e) (fun x hx => he x (List.mem_cons_of_mem _ hx)) (numL_nodup h1) (numL_box h2 ⟨h3.1, h3.2, hd.1, hd.2⟩)
    refine ⟨this.1, this.2.1, ?_⟩
    have h4 := this.2.2
    show (rowE1 i d (oneE i d st e) l).2.length = _
    rw [h4]
    simp [oneE]; omega
theorem nextC_range {sets : List (List Int)} {p : Place} (h : 0 ≤ p.2 ∧ p.2 < (max sets.length 1 : Nat)) : 0 ≤ nextC sets p ∧ nextC sets p < (max sets.length 1 : Nat) := by
  unfold nextC
  split
  · rename_i h1
    have := Nat.mod_lt (p.2.toNat + 1) (show 0 < sets.length by omega)
    omega
  · exact h
/-- what holds of a state of the machine -/
structure DOk (n k : Nat) (st : DSt) : Prop where
  nd : st.1.Nodup
  box : ∀ q ∈ st.1, InB n k q
theorem DOk.step {n : Nat} {sets : List (List Int)} {fr : Int → List Edge} (hfr : ∀ s, ∀ e ∈ fr s, 0 ≤ e.to ∧ e.to < n) {st : DSt} (h : DOk n (max sets.length 1) st) (i : Nat) : DOk n (max sets.length 1) (oneS sets fr i st) := by
  unfold oneS
  split
  · exact h
  · rename_i p hp
    have hb := h.box p (List.mem_of_getElem? hp)
    have hd := nextC_range (sets := sets) (p := p) ⟨hb.2.2.1, hb.2.2.2⟩
    have := rowE1_box (i := i) hd (fr p.1) (st.1, st.2.1) (hfr p.1) h.nd h.box
    exact ⟨this.1, this.2.1⟩
theorem degS_ok {n : Nat} {sets : List (List Int)} {fr : Int → List Edge} (hfr : ∀ s, ∀ e ∈ fr s, 0 ≤ e.to ∧ e.to < n) {st0 : DSt} (h : DOk n (max sets.length 1) st0) : ∀ i, DOk n (max sets.length 1) (degS sets fr st0 i)
  | 0 => h
  | i + 1 => (degS_ok hfr h i).step hfr i
theorem rowE1_len (i : Nat) (d : Int) : ∀ (l : List Edge) (st : List Place × List Edge), (rowE1 i d st l).2.length = st.2.length + l.length
  | [], _ => rfl
  | e :: l, st => by
    have := rowE1_len i d l (oneE i d st e)
    show (rowE1 i d (oneE i d st e) l).2.length = _
    rw [this]
    simp [oneE]; omega
theorem degS_len {sets : List (List Int)} {fr : Int → List Edge} {L0 : List Place} {m : Nat} (hm : ∀ s, (fr s).length ≤ m) : ∀ i, (degS sets fr (L0, [], []) i).2.1.length ≤ i * m ∧ (degS sets fr (L0, [], []) i).2.2.length ≤ i
  | 0 => ⟨by simp [degS], by simp [degS]⟩
  | i + 1 => by
    obtain ⟨h1, h2⟩ := degS_len hm (L0 := L0) (sets := sets) i
    obtain ⟨D, hD⟩ : ∃ D, D = degS sets fr (L0, [], []) i := ⟨_, rfl⟩
    rw [← hD] at h1 h2
    have h3 : degS sets fr (L0, [], []) (i + 1) = oneS sets fr i D := by rw [hD]; rfl
    rw [h3, Nat.add_mul, Nat.one_mul]
    unfold oneS
    split
    · exact ⟨by omega, by omega⟩
    · rename_i p hp
      refine ⟨?_, ?_⟩
      · show (rowE1 i (nextC sets p) (D.1, D.2.1) (fr p.1)).2.length ≤ _
        rw [rowE1_len]
        have := hm p.1
        show D.2.1.length + _ ≤ _
        omega
      · show (D.2.2 ++ _).length ≤ _
        rw [List.length_append]
        split <;> simp <;> omega
theorem degS_stop {sets : List (List Int)} {fr : Int → List Edge} {st0 : DSt} {i : Nat} (h : (degS sets fr st0 i).1.length ≤ i) : ∀ j, i ≤ j → degS sets fr st0 j = degS sets fr st0 i := by
  intro j hj
  induction j with
  | zero => obtain rfl : i = 0 := by omega
            rfl
  | succ j ih =>
    rcases Nat.lt_or_ge j i with h1 | h1
    · obtain rfl : i = j + 1 := by omega
      rfl
    · show oneS sets fr j (degS sets fr st0 j) = _
      rw [ih h1]
      unfold oneS
      rw [List.getElem?_eq_none (by omega)]
theorem iniS_snoc (l : List Int) (s : Int) : iniS (l ++ [s]) = iniE (iniS l) s := by unfold iniS; rw [List.foldl_append]; rfl
/-- rising beginnings are numbered in a row -/
theorem iniS_eq {l : List Int} (h : l.Nodup) : iniS l = (l.map fun s => (s, 0), (List.range l.length).map fun (i : Nat) => (i : Int)) := by
  have key : ∀ m, m ≤ l.length → iniS (l.take m) = ((l.take m).map fun s => (s, (0 : Int)), (List.range m).map fun (i : Nat) => (i : Int)) := by
    intro m
    induction m with
    | zero => intro _; simp [iniS]
    | succ m ih =>
      intro hm
      rw [List.take_succ_eq_append_getElem (by omega), iniS_snoc, ih (by omega)]
      have hnew : (l[m], (0 : Int)) ∉ (l.take m).map fun s => (s, (0 : Int)) := fun hmem => by
        obtain ⟨s, hs, he⟩ := List.mem_map.1 hmem
        injection he with he _
        subst he
        have hd := h
        rw [← List.take_append_drop m l, List.nodup_append] at hd
        exact hd.2.2 _ hs _ (by rw [List.drop_eq_getElem_cons (by omega)]; exact List.mem_cons_self) rfl
      unfold iniE
      simp only
      rw [numL_new hnew, numOf_new hnew, List.map_append, List.range_succ, List.map_append]
      simp [List.length_take, Nat.min_eq_left (show m ≤ l.length by omega)]
  have := key l.length (Nat.le_refl _)
  rwa [List.take_length] at this
end Go.Au

namespace Go.Au
open Go Go.RowKit Go.MapKept

/-! ### what does not turn -/
theorem ownsRow_cells {w : World} {base size n g : Nat} {el : TypeId} {v : Value} {xs : List Value} (h : w.ownsRow base el size v n xs) (hg : v.ownBlock = some g) : ∃ cur, w.heap[g]? = some (.cells cur el (0, 0)) := by
  rcases h.2 with ⟨rfl, _⟩ | ⟨g', cap, cur, rfl, _, h2, _⟩
  · cases hg
  · have : g' = g := by simpa [Value.ownBlock] using hg
    subst this
    exact ⟨cur, h2⟩
theorem rows_sep {w : World} {b1 b2 s1 s2 n1 n2 : Nat} {t1 t2 : TypeId} {v u : Value} {xs ys : List Value} (h : w.ownsRow b1 t1 s1 v n1 xs) (h' : w.ownsRow b2 t2 s2 u n2 ys) (ht : t1 ≠ t2) : ∀ g, v.ownBlock = some g → u.ownBlock ≠ some g := fun g hg hg' => by
  obtain ⟨c1, e1⟩ := ownsRow_cells h hg
  obtain ⟨c2, e2⟩ := ownsRow_cells h' hg'
  rw [e1] at e2
  injection e2 with e2
  injection e2 with _ e2
  exact ht e2
theorem ownsRow_same {w w' : World} {base size n : Nat} {el : TypeId} {v : Value} {xs : List Value} (h : w.ownsRow base el size v n xs) (hs : ∀ g, v.ownBlock = some g → w'.heap[g]? = w.heap[g]?) : w'.ownsRow base el size v n xs := by
  refine ⟨h.1, h.2.imp id fun ⟨g, cap, cur, a1, a2, a3, a4⟩ => ⟨g, cap, cur, a1, a2, ?_, a4⟩⟩
  rw [hs g (by rw [a1]; rfl)]
  exact a3
theorem mapE_same {α β : Type} {P : Program} {k : TypeId} {ek : α → Value} {ev : β → Value} {w w' : World} {b : Nat} {xs : List (α × β)} (h : MapE P k ek ev w b xs) (hs : w'.heap[b]? = w.heap[b]?) : MapE P k ek ev w' b xs := by
  obtain ⟨⟨es, clock, h1, h2⟩, h3⟩ := h
  exact ⟨⟨es, clock, hs.trans h1, h2⟩, h3⟩
theorem range_of {w w' : World} {b o : Nat} {cs : List Value} (h : w.rangeAt b o cs) (hs : w'.heap[b]? = w.heap[b]?) : w'.rangeAt b o cs := fun j v hv => (World.cell?_of_block (a := ⟨b, o + j, none⟩) hs).trans (h j v hv)

/-! ### the machine -/
structure MachV (w : World) (b lo hi : Nat) (pv iv fn sv : Value) (props : List ByteArray) (init : List Int) (sets : List (List Int)) : Prop where
  box : Own w b 112 [pv, iv, fn, sv]
  props : Strs lo hi w pv props
  init : Ints lo hi w iv init
  sets : IntRows lo hi w sv sets
theorem MachV.kp {w w' : World} {b lo hi : Nat} {pv iv fn sv : Value} {props : List ByteArray} {init : List Int} {sets : List (List Int)} (h : MachV w b lo hi pv iv fn sv props init sets) (k : Kp w w') : MachV w' b lo hi pv iv fn sv props init sets :=
  ⟨k.own h.box id, h.props.chg k (fun _ _ _ h => h) (fun _ _ h => h), h.init.chg k (fun _ _ _ h => h) (fun _ _ h => h), h.sets.chg k (fun _ _ _ h => h) (fun _ _ ⟨u, hu, hr, hl⟩ => ⟨u, hu, hr.chg k (fun _ _ _ h => h) (fun _ _ h => h), hl⟩)⟩

theorem callHasD : callable Proofs.Try.prog 113 = true := by kernel_rfl
theorem hasD_c {w : World} {b lo hi : Nat} {pv iv fn sv : Value} {props : List ByteArray} {init : List Int} {sets : List (List Int)} (h : MachV w b lo hi pv iv fn sv props init sets) (hs : ∀ F ∈ sets, F.Pairwise (· ≤ ·)) {c s : Nat} (hc : c < sets.length) :
    Calls Proofs.Try.prog 113 [.int .i64 c, .int .i64 s, pt b 0].toArray w (Ret fun r w' => r = .bool (hasS sets ((s : Nat), (c : Nat))) ∧ Kp w w') := by
  obtain ⟨sa, sc, rfl, hsc, hr⟩ := h.sets
  have hF : sets[c]? = some sets[c] := by simp
  obtain ⟨q, o, rfl, -, -, cs, -, hrd, u, rfl, hu, hul⟩ := hr c sets[c] hF
  obtain ⟨ua, uc, rfl, -⟩ := id hu
  refine call agree Proofs.Try.func113 rfl Proofs.Try.ntmps113 (by kernel_rfl) ?_
  refine ld agree (Own.at_ (xs := [.slice (some ⟨q, o, none⟩) sets.length sc]) (o := 3) h.box rfl) (by rfl) ?_
  refine ne ⟨by omega, by omega⟩ ?_
  refine ld (v := .slice ua (sets[c]).length uc) agree (by rw [Int.toNat_natCast]; exact hrd) (by rfl) ?_
  have hb := binary_c hu hul (hs _ (List.getElem_mem hc)) s
  refine cl callBinary hb ?_
  rintro _ w1 ⟨⟨k, rfl⟩, k1⟩
  refine ⟨congrArg Value.bool ?_, k1⟩
  have hg : sets.getD c [] = sets[c] := by rw [List.getD_eq_getElem?_getD, hF]; rfl
  exact decide_eq_decide.2 (by show _ ↔ (s : Int) ∈ sets.getD ((c : Int)).toNat []; rw [Int.toNat_natCast, hg])
end Go.Au

namespace Go.Au
open Go Go.RowKit Go.MapKept

/-- the automaton that the machine makes -/
def degB (props : List ByteArray) (init : List Int) (sets : List (List Int)) (fr : Int → List Edge) (bound : Nat) : Buchi :=
  { props := props, states := ((degS sets fr ((iniS init).1, [], []) bound).1.length : Nat), init := (iniS init).2, edges := compE (sortE (degS sets fr ((iniS init).1, [], []) bound).2.1), final := (degS sets fr ((iniS init).1, [], []) bound).2.2 }
/-- what is made, in memory of its own -/
structure OutV (base : Nat) (w : World) (vP vI vE vF : Value) (g : Buchi) : Prop where
  props : w.ownsRow base 9 1 vP g.props.length (g.props.flatMap fS1)
  rI : w.ownsRow base 3 1 vI g.init.length (g.init.flatMap fN1)
  rE : w.ownsRow base 52 4 vE g.edges.length (g.edges.flatMap Edge.cells)
  rF : w.ownsRow base 3 1 vF g.final.length (g.final.flatMap fN1)
  sep : ∀ g, vI.ownBlock = some g → vF.ownBlock ≠ some g
theorem callDegen0 : callable Proofs.Try.prog 82 = true := by kernel_rfl
set_option maxHeartbeats 4000000 in
theorem degen0_c {w : World} {flo fhi lb bb n : Nat} {pv iv sv : Value} {props : List ByteArray} {init : List Int} {sets : List (List Int)} {es : List Edge}
    (hp : Strs 0 w.heap.size w pv props) (hi : Ints 0 w.heap.size w iv init) (hF : FromV w flo fhi lb bb n es) (hfhi : fhi ≤ w.heap.size) (hs : IntRows 0 w.heap.size w sv sets) (hsort : ∀ F ∈ sets, F.Pairwise (· ≤ ·))
    (hpl : props.length < 1000000000000) (hel : es.length < 1000000) (hbox : n * max sets.length 1 < 65536) (hsl : sets.length < 65536) (hini : ∀ s ∈ init, 0 ≤ s ∧ s < n) (hnd : init.Nodup) (hto : ∀ e ∈ es, 0 ≤ e.to ∧ e.to < n) :
    Calls Proofs.Try.prog 82 [.agg #[pv, iv, .func (.func 111) #[] #[pt lb 0], sv]].toArray w (Ret fun r w' => Kp w w' ∧ ∃ vP vI vE vF, r = .tuple #[.agg #[vP, .int .i64 (degB props init sets (fromS es) (n * max sets.length 1)).states, vI, vE, vF], .int .i64 0] ∧ OutV w.heap.size w' vP vI vE vF (degB props init sets (fromS es) (n * max sets.length 1))) := by
  have hobt_ : ∃ fv : Value, fv = .func (.func 111) #[] #[pt lb 0] := ⟨_, rfl⟩
  obtain ⟨fv, hfv⟩ := hobt_
  have hobt_ := id hp
  obtain ⟨pa, pc, rfl, -⟩ := hobt_
  have hobt_ := id hi
  obtain ⟨ia, ic, rfl, hic, hir⟩ := hobt_
  have hobt_ := id hs
  obtain ⟨sa, sc, rfl, -⟩ := hobt_
  refine call agree Proofs.Try.func82 rfl Proofs.Try.ntmps82 (by kernel_rfl) ?_
  refine nd fun b1 w1 e1 z1 k1 mb => ?_
  have mb : Own w1 b1 112 [.slice pa props.length pc, .slice ia init.length ic, .func (.func 111) #[] #[pt lb 0], .slice sa sets.length sc] := mb
  have mach : MachV w1 b1 0 w.heap.size (.slice pa props.length pc) (.slice ia init.length ic) (.func (.func 111) #[] #[pt lb 0]) (.slice sa sets.length sc) props init sets :=
    ⟨mb, hp.chg k1 (fun _ _ _ h => h) (fun _ _ h => h), hi.chg k1 (fun _ _ _ h => h) (fun _ _ h => h), hs.chg k1 (fun _ _ _ h => h) (fun _ _ ⟨u, hu, hr, hl⟩ => ⟨u, hu, hr.chg k1 (fun _ _ _ h => h) (fun _ _ h => h), hl⟩)⟩
  refine nd fun b2 w2 e2 z2 k2 m2 => ?_
  have m2 : Own w2 b2 31 [nilS, .int .i64 0, nilS, nilS, nilS] := m2
  refine ld agree (Own.at_ (xs := [.slice sa sets.length sc]) (o := 3) (k2.own mb id) rfl) (by rfl) ?_
  refine nd fun m5 w3 e3 z3 k3 mm5 => ?_
  refine nd fun b5 w4 e4 z4 k4 mb5 => ?_
  have mb5 : Own w4 b5 148 [.map (some m5), nilS, .bool false] := mb5
  have k14 : Kp w1 w4 := k2.trans (k3.trans k4)
  refine ld agree (Own.at_ (xs := [.slice pa props.length pc]) (o := 0) (k14.own mb id) rfl) (by rfl) ?_
  have hcl := cloneS_c (hp.chg (k1.trans k14) (fun _ _ _ h => h) (fun _ _ h => h)) hpl
  refine cl callCloneS hcl ?_
  rintro _ w5 ⟨k5, ⟨ca, cc, rfl⟩, hpS⟩
  refine nd fun b6 w6' e6 z6 k6 mb6 => ?_
  refine st agree mb6 rfl (Nat.le_refl 5) rfl ?_
  intro w6 z6' k6' ob0
  have hobt_ : ∃ pv', pv' = Value.slice ca props.length cc := ⟨_, rfl⟩
  obtain ⟨pv', hpv'⟩ := hobt_
  have ob0 : Own w6 b6 31 [.slice ca props.length cc, .int .i64 0, nilS, nilS, nilS] := ob0
  rewrite [← hpv'] at hpS ob0
  have k56 : Kp w5 w6 := k6.new e6 k6'
  have k46 : Kp w4 w6 := k5.trans k56
  have k16 : Kp w1 w6 := k14.trans k46
  have k06 : Kp w w6 := k1.trans k16
  have s5 := k5.size
  have hws6 : w.heap.size ≤ b1 := by omega
  have hb5w : b1 < b5 ∧ b1 < m5 ∧ m5 < b5 ∧ b5 < b6 ∧ b6 < w6.heap.size ∧ w4.heap.size = b5 + 1 ∧ w5.heap.size = b6 := by omega
  have hb6lt : b6 < w6.heap.size := by omega
  have pS6 : w6.ownsRow w4.heap.size 9 1 pv' props.length (props.flatMap fS1) := ownsRow_chg hpS k56 fun _ _ => id
  have pS6l : ∀ g, pv'.ownBlock = some g → g < w5.heap.size := fun g hg => (hpS.lt g hg).2
  have hobt_ : ∃ T6 : Nat → Prop, T6 = fun g => g = b5 ∨ g = m5 ∨ g = b6 := ⟨_, rfl⟩
  obtain ⟨T6, hT6⟩ := hobt_
  have T6i : ∀ g, T6 g ↔ (g = b5 ∨ g = m5 ∨ g = b6) := fun g => by rw [hT6]
  have nums0 : NumV w6 w6.heap.size b5 m5 nilS [] := ⟨k46.own mb5 id, (MapE.made (by
      have : w3.heap[m5]? = some (.map #[] 0) := mm5
      exact (k4.trans k46).heap this id) pval_inj), World.ownsRow_nil _ _ _ _, Nat.le_refl _, List.nodup_nil⟩
  have hK : ∀ {V}, Chg T6 w6 V → Kp w1 V := fun {V} hc => k16.newS hc fun g hg => by rewrite [T6i] at hg; omega
  have hto' : ∀ s, ∀ e ∈ fromS es s, 0 ≤ e.to ∧ e.to < n := fun s e he => hto e (List.mem_filter.1 he).1
  have hK1 : 0 < max sets.length 1 := by omega
  refine ld agree (Own.at_ (xs := [.slice ia init.length ic]) (o := 1) (k16.own mb id) rfl) (by rfl) ?_
  have hn65 : n < 65536 := by
    have := Nat.mul_le_mul_left n (show 1 ≤ max sets.length 1 by omega)
    omega
  have hI0len : ∀ m, m ≤ init.length → (iniS (init.take m)) = ((init.take m).map fun s => (s, (0 : Int)), (List.range m).map fun (i : Nat) => (i : Int)) := fun m hm => by
    have := iniS_eq (l := init.take m) (hnd.sublist (List.take_sublist _ _))
    rewrite [List.length_take, Nat.min_eq_left hm] at this
    exact this
  have hinl : init.length ≤ n := by
    have h1 := nodup_sub (l := init) (r := (List.range n).map fun (i : Nat) => (i : Int)) hnd fun s hs' => by
      have := hini s hs'
      exact List.mem_map.2 ⟨s.toNat, by rw [List.mem_range]; omega, by omega⟩
    simpa using h1
  refine loop agree (σ := Nat × Value × Value) (fun t => [(1, pt b1 0), (2, pt b2 0), (4, .int .i64 sets.length), (5, pt b5 0), (6, pt b6 0), (7, .func (.func 113) #[] #[pt b1 0]), (27, .slice ia init.length ic), (28, .int .i64 init.length), (29, .int .i64 t.1)])
    (fun t V => t.1 ≤ init.length ∧ Chg T6 w6 V ∧ NumV V w6.heap.size b5 m5 t.2.1 (iniS (init.take t.1)).1 ∧ Own V b6 31 [pv', .int .i64 0, t.2.2, nilS, nilS] ∧ V.ownsRow w6.heap.size 3 1 t.2.2 t.1 ((iniS (init.take t.1)).2.flatMap fN1)) (fun t => init.length - t.1) (0, nilS, nilS)
    ⟨rfl, rfl, rfl, rfl, rfl, rfl, rfl, rfl, rfl, trivial⟩ ⟨Nat.zero_le _, Chg.refl _ _, nums0, ob0, World.ownsRow_nil _ _ _ _⟩ ?_
  rintro ⟨j, xN, xI⟩ ea w7 ⟨hj, c7, nums7, ob7, rI7⟩
  simp only at hj nums7 ob7 rI7
  refine sp (fun hlt => ?_) (fun hge => ?_)
  · have hj' : j < init.length := by simp only at hlt; omega
    have hobt_ : ∃ s, s = init[j] := ⟨_, rfl⟩
    obtain ⟨s, hsd⟩ := hobt_
    have hxs : init[j]? = some s := by rw [hsd]; simp
    have hsr := hini s (List.mem_of_getElem? hxs)
    have hobt_ := hir j s hxs
    obtain ⟨q, o, hia, -, -, cs, -, hrd, hcs⟩ := hobt_
    subst hia hcs
    have hT1 : (iniS (init.take j)).1.length = j := by rw [hI0len j (by omega)]; simp; omega
    have hT2 : (iniS (init.take j)).2.length = j := by rw [hI0len j (by omega)]; simp
    have hsnoc : iniS (init.take (j + 1)) = iniE (iniS (init.take j)) s := by
      rw [List.take_succ_eq_append_getElem hj', iniS_snoc, ← hsd]
    have hobt_ : ∃ A0, A0 = iniS (init.take j) := ⟨_, rfl⟩
    obtain ⟨A0, hA0⟩ := hobt_
    rewrite [← hA0] at nums7 rI7 hT1 hT2 hsnoc
    refine ne ⟨by simp only; omega, by simp only; omega⟩ ?_
    refine ld agree (v := .int .i64 s) (by rw [Int.toNat_natCast]; exact (k1.trans (hK c7)).range hrd id) (by rfl) ?_
    have hsep := rows_sep nums7.row rI7 (by decide)
    have hm5 := nums7.map.h
    obtain ⟨es5, clk5, hm5, -⟩ := hm5
    have hbI : ∀ {b t cs}, Own w7 b t cs → t ≠ 3 → some b ≠ xI.ownBlock := fun {b t cs} ho ht he => ownsRow_ne rI7 ho (fun cs fr hh => by injection hh with _ h2; exact ht h2) he.symm
    have hmI : some m5 ≠ xI.ownBlock := fun he => ownsRow_ne rI7 hm5 (fun cs fr hh => by cases hh) he.symm
    have hbN : ∀ {b t cs}, Own w7 b t cs → t ≠ 152 → some b ≠ xN.ownBlock := fun {b t cs} ho ht he => ownsRow_ne nums7.row ho (fun cs fr hh => by injection hh with _ h2; exact ht h2) he.symm
    have hobt_ : ∃ TT : Nat → Prop, TT = fun g => g = b5 ∨ g = m5 ∨ some g = xN.ownBlock := ⟨_, rfl⟩
    obtain ⟨TT, hTT⟩ := hobt_
    have h5lt := nums7.hdr.lt
    have hm5lt := nums7.map.lt
    have h5m : b5 ≠ m5 := nums7.map.ne nums7.hdr
    have h6m : b6 ≠ m5 := nums7.map.ne ob7
    have h56 : b5 ≠ b6 := own_ne nums7.hdr ob7 (by decide)
    have hbears := CAppR.bears (T := TT) (w0 := w7) (v := xI) (k := j * 1) (news := [.int .i64 (numOf A0.1 (s, 0) : Nat)]) (fun g hg => (rI7.lt g hg).2) (fun g hg => by
        rewrite [hTT] at hg
        rcases hg with rfl | rfl | hg
        · exact h5lt
        · exact hm5lt
        · exact (nums7.row.lt g hg.symm).2) (fun g hg => by
        rewrite [hTT] at hg
        rcases hg with rfl | rfl | hg
        · exact fun he => hbI nums7.hdr (by decide) he.symm
        · exact fun he => hmI he.symm
        · exact fun he => hsep g hg.symm he)
    have hst6 : ∀ {W}, CAppR TT w7 xI (j * 1) [.int .i64 (numOf A0.1 (s, 0) : Nat)] w7 W → Own W b6 31 [pv', .int .i64 0, xI, nilS, nilS] := fun {W} hS => hS.chg.own ob7 fun hT => by
        rewrite [hTT] at hT
        rcases hT with (hT | hT | hT) | hT
        · exact h56 hT.symm
        · exact h6m hT
        · exact hbN ob7 (by decide) hT
        · exact hbI ob7 (by decide) hT
    refine drawnW agree mixed 9 [2, 3, 4, 5, 0, 1, 6, 7, 8] (by kernel_rfl) (CAppR TT w7 xI (j * 1) [.int .i64 (numOf A0.1 (s, 0) : Nat)]) (preCAppR _ _ _ _ _) (fun W => W.heap.size = w7.heap.size ∧ Kp w7 W) 5 ⟨rfl, (Chg.refl _ _).drew⟩ ?_
    conv => whnf
    refine callu (τ := Value) (hne := ⟨undef⟩) (.int .i64 (numOf A0.1 (s, 0) : Nat)) (fun v' W => NumV W w6.heap.size b5 m5 v' (numL A0.1 (s, 0)) ∧ (∀ g, v'.ownBlock = some g → xN.ownBlock = some g ∨ w7.heap.size ≤ g) ∧ w7.heap.size < W.heap.size) rfl rfl rfl (fun v' W W' hFv hS => ?_) callNOf (fun W hS _ hU => ?_) fun v' D hD => ?_
    · obtain ⟨f1, f2, f3⟩ := hFv
      have honce := hS.once.resolve_right (by omega)
      refine ⟨⟨?_, ?_, ?_, Nat.le_trans f1.base hS.chg.size, f1.nd⟩, f2, by have := hS.chg.size; omega⟩
      · exact (honce b5 (by rw [hTT]; exact .inl rfl) f1.hdr.lt).trans f1.hdr
      · exact mapE_same f1.map (honce m5 (by rw [hTT]; exact .inr (.inl rfl)) f1.map.lt)
      · refine ownsRow_same f1.row fun g hg => ?_
        rcases f2 g hg with h1 | h1
        · exact honce g (by rw [hTT]; exact .inr (.inr h1.symm)) (f1.row.lt g hg).2
        · exact hS.chg.block g (f1.row.lt g hg).2 fun hT => by
            rewrite [hTT] at hT
            rcases hT with (rfl | rfl | hT) | hT
            · omega
            · omega
            · have := (nums7.row.lt g hT.symm).2; omega
            · have := (rI7.lt g hT.symm).2; omega
    · obtain ⟨hU1, hU2⟩ := hU
      refine (nof_c (nums7.chg hU2 id id fun _ _ => id) (p := (s, 0)) (show I64 s from ⟨by omega, by omega⟩) (show I64 (0 : Int) from ⟨by decide, by decide⟩) (by omega)).mono fun en W' hr => ?_
      cases en with
      | returned v =>
        obtain ⟨rfl, v', hn', hc', hg', hs'⟩ := hr
        refine ⟨rfl, ⟨hc'.mono fun g hg => .inl (by rw [hTT]; exact hg), fun g hg hl => .inl (hc'.block g hl fun hT => ?_), .inr (by omega)⟩, v', hn', fun g hg => (hg' g hg).imp id fun h => by omega, by omega⟩
        rcases hT with rfl | rfl | hT
        · exact hbI nums7.hdr (by decide) hg.symm
        · exact hmI hg.symm
        · exact hsep g hT.symm hg
      | _ => exact hr.elim
    conv => whnf
    refine ldu (preCAppR _ _ _ _ _) agree rfl rfl (fun W h _ _ => Own.at_ (xs := [xI]) (o := 2) (hst6 h) rfl) (by rfl) fun _ => ?_
    conv => whnf
    refine ⟨fun W hS hDn hU => ?_, ?_⟩
    · have := (hD W (hDn 5 (by kernel_rfl))).2.2
      omega
    refine bsr (preCAppR _ _ _ _ _) rfl rfl rfl rfl rfl (by decide) (fun b o W W' hb ho hS => hbears.new W W' b o hS hb ho) (fun W hS => hbears.size _ _ hS) fun q2 D2 hD2 => ?_
    conv => whnf
    refine ⟨fun W hS hDn hU => ?_, ?_⟩
    · have := (hD W (hDn 5 (by kernel_rfl))).2.2
      omega
    refine aprS (m := 1) (news := [.int .i64 (numOf A0.1 (s, 0) : Nat)]) agree hbears rfl rfl rfl rfl rfl rfl rfl (by decide) rI7 rfl (fun W hS hDn => Own.at_ (xs := [.int .i64 (numOf A0.1 (s, 0) : Nat)]) (o := 0) (hD2 W (hDn 6 (by kernel_rfl))).1 rfl) rfl (by simp only [maxLen]; omega) (by show (_ + 1) * 8 ≤ _; omega) c7.size fun xI' D3 hD3 => ?_
    conv => whnf
    intro w11 hS11 hd11
    have hN11 := hD w11 (hd11 5)
    have hI11 := hD3 w11 (hd11 7)
    obtain ⟨nums11, hnew11, hsz11⟩ := hN11
    obtain ⟨rI11, hnewI⟩ := hI11
    have hfI := ownsRow_form rI11
    obtain ⟨ia', ic', hxi'⟩ := hfI
    subst hxi'
    have ob11 := hst6 hS11
    refine st agree ob11 rfl (show 3 ≤ 5 by decide) rfl ?_
    intro w12 z12 c12 ob12
    have ob12 : Own w12 b6 31 [pv', .int .i64 0, .slice ia' (j + 1) ic', nilS, nilS] := ob12
    have n6 : ∀ {el size v n xs}, w11.ownsRow w6.heap.size el size v n xs → ∀ g, v.ownBlock = some g → ¬ g = b6 := fun h g hg he => by
      have := ownsRow_base h hg
      omega
    have nums12 := nums11.chg c12 h56 (Ne.symm h6m) (n6 nums11.row)
    have rI12 := ownsRow_chg rI11 c12 (n6 rI11)
    refine aw (by simp only; omega) (by simp only; omega) ?_
    refine again (j + 1, v', .slice ia' (j + 1) ic') ⟨rfl, rfl, rfl, rfl, rfl, rfl, rfl, rfl, rfl, trivial⟩ ⟨by simp only; omega, ?_, ?_, ob12, ?_⟩ (by simp only; omega)
    · refine (c7.newT hS11.chg fun g hg => ?_).newT c12 fun g hg => .inl ((T6i _).2 (.inr (.inr hg)))
      rewrite [hTT] at hg
      rcases hg with (rfl | rfl | hg) | hg
      · exact .inl ((T6i _).2 (.inl rfl))
      · exact .inl ((T6i _).2 (.inr (.inl rfl)))
      · exact .inr (ownsRow_base nums7.row hg.symm)
      · exact .inr (ownsRow_base rI7 hg.symm)
    · simp only
      rw [hsnoc]
      exact nums12
    · simp only
      rw [hsnoc]
      show w12.ownsRow w6.heap.size 3 1 _ (j + 1) ((A0.2 ++ [_]).flatMap fN1)
      rw [List.flatMap_append]
      exact rI12
  · have hje : j = init.length := by simp only at hge; omega
    subst hje
    rewrite [List.take_length] at nums7 rI7
    have hobt_ : ∃ L0, L0 = (iniS init).1 := ⟨_, rfl⟩
    obtain ⟨L0, hL0⟩ := hobt_
    have hobt_ : ∃ I, I = (iniS init).2 := ⟨_, rfl⟩
    obtain ⟨I, hIe⟩ := hobt_
    have hIr : I = (List.range init.length).map fun (i : Nat) => (i : Int) := by rw [hIe, iniS_eq hnd]
    have hIl : I.length = init.length := by rw [hIr]; simp
    rewrite [← hL0] at nums7
    rewrite [← hIe, ← hIl] at rI7
    have hobt_ : ∃ vI, vI = xI := ⟨_, rfl⟩
    obtain ⟨vI, hvI⟩ := hobt_
    rewrite [← hvI] at ob7 rI7
    have hok0 : DOk n (max sets.length 1) (L0, [], []) := ⟨nums7.nd, fun q hq => by
      have hq : q ∈ L0 := hq
      rewrite [hL0, iniS_eq hnd] at hq
      have hobt_ := List.mem_map.1 hq
      obtain ⟨s, hs', rfl⟩ := hobt_
      have := hini s hs'
      exact ⟨this.1, this.2, Int.le_refl _, by show (0 : Int) < _; omega⟩⟩
    refine loop agree (σ := Nat × Value × Value × Value) (fun t => [(1, pt b1 0), (2, pt b2 0), (4, .int .i64 sets.length), (5, pt b5 0), (6, pt b6 0), (7, .func (.func 113) #[] #[pt b1 0]), (10, .int .i64 t.1)])
      (fun t V => t.1 ≤ (degS sets (fromS es) (L0, [], []) t.1).1.length ∧ Chg T6 w6 V ∧ NumV V w6.heap.size b5 m5 t.2.1 (degS sets (fromS es) (L0, [], []) t.1).1 ∧ Own V b6 31 [pv', .int .i64 0, vI, t.2.2.1, t.2.2.2] ∧ V.ownsRow w6.heap.size 3 1 vI I.length (I.flatMap fN1) ∧
        V.ownsRow w6.heap.size 52 4 t.2.2.1 (degS sets (fromS es) (L0, [], []) t.1).2.1.length ((degS sets (fromS es) (L0, [], []) t.1).2.1.flatMap Edge.cells) ∧ V.ownsRow w6.heap.size 3 1 t.2.2.2 (degS sets (fromS es) (L0, [], []) t.1).2.2.length ((degS sets (fromS es) (L0, [], []) t.1).2.2.flatMap fN1) ∧ ∀ g, vI.ownBlock = some g → t.2.2.2.ownBlock ≠ some g) (fun t => n * max sets.length 1 - t.1) (0, xN, nilS, nilS)
      ⟨rfl, rfl, rfl, rfl, rfl, rfl, rfl, trivial⟩ ⟨Nat.zero_le _, c7, nums7, ob7, rI7, World.ownsRow_nil _ _ _ _, World.ownsRow_nil _ _ _ _, fun g _ h => by cases h⟩ ?_
    rintro ⟨i, vN, vE, vF⟩ eb wA ⟨hi1, cA, numsA, obA, rIA, rEA, rFA, hsepF⟩
    simp only at hi1 numsA obA rEA rFA hsepF
    have hDok := degS_ok hto' hok0 i
    have hDl := degS_len (sets := sets) (fr := fromS es) (L0 := L0) (m := es.length) (fun s => List.length_filter_le _ _) i
    have hLb := box_length hDok.nd hDok.box
    have hobt_ : ∃ D, D = degS sets (fromS es) (L0, [], []) i := ⟨_, rfl⟩
    obtain ⟨D, hDi⟩ := hobt_
    rewrite [← hDi] at hi1 numsA rEA rFA hDok hLb hDl
    obtain ⟨L, E, F⟩ := D
    simp only at hi1 numsA rEA rFA hLb hDl
    have hEb : E.length ≤ 65536 * 1000000 := Nat.le_trans hDl.1 (Nat.mul_le_mul (by omega) (by omega))
    have hfN := ownsRow_form numsA.row
    obtain ⟨na, nc, rfl⟩ := hfN
    refine ld agree (Own.at_ (xs := [.slice na L.length nc]) (o := 1) numsA.hdr rfl) (by rfl) ?_
    refine sp (fun hlt => ?_) (fun hge => ?_)
    · have hiL : i < L.length := by simp only at hlt; omega
      have hxi : L[i]? = some L[i] := by simp
      have hbxi := hDok.box L[i] (List.getElem_mem hiL)
      have hobt_ : ∃ pp, pp = L[i] := ⟨_, rfl⟩
      obtain ⟨pp, hpp⟩ := hobt_
      rewrite [← hpp] at hxi hbxi
      obtain ⟨pS, pW⟩ := pp
      obtain ⟨q1, q2, q3, q4⟩ := hbxi
      simp only at q1 q2 q3 q4
      have hobt_ : ∃ ps : Nat, pS = ps := ⟨pS.toNat, by omega⟩
      obtain ⟨ps, rfl⟩ := hobt_
      have hobt_ : ∃ pw : Nat, pW = pw := ⟨pW.toNat, by omega⟩
      obtain ⟨pw, rfl⟩ := hobt_
      have hpsn : ps < n := by omega
      have hpi := hxi
      have hrowN := ownsRow_row (f := pcells) (fun _ => rfl) numsA.row (by decide)
      obtain ⟨_, _, e1', -, hrN⟩ := hrowN
      injection e1' with e1' _ e2'
      subst e1' e2'
      have hobt_ := hrN i _ hxi
      obtain ⟨qb, qo, rfl, -, -, cs0, -, hrd0, rfl⟩ := hobt_
      refine ld agree (Own.at_ (xs := [.slice (some ⟨qb, qo, none⟩) L.length nc]) (o := 1) numsA.hdr rfl) (by rfl) ?_
      refine ne ⟨Int.natCast_nonneg _, Int.ofNat_lt.2 hiL⟩ ?_
      refine ld agree (v := pval ((ps : Nat), (pw : Nat))) (by rw [Int.toNat_natCast]; exact hrd0) (by rfl) ?_
      refine nd fun b11 wB eB zB kB mp => ?_
      refine st agree (cs := [.int .i64 0, .int .i64 0]) mp rfl (Nat.le_refl 2) rfl ?_
      intro wC zC kC mp
      have mp : Own wC b11 152 [.int .i64 (ps : Nat), .int .i64 (pw : Nat)] := mp
      have kAC : Kp wA wC := kB.new eB kC
      have cC := cA.newT kAC fun _ hf => hf.elim
      have numsC := numsA.chg kAC id id fun _ _ => id
      have obC := kAC.own obA id
      have rIC := ownsRow_chg rIA kAC fun _ _ => id
      have rEC := ownsRow_chg rEA kAC fun _ _ => id
      have rFC := ownsRow_chg rFA kAC fun _ _ => id
      have hobt_ : ∃ vN, vN = Value.slice (some ⟨qb, qo, none⟩) L.length nc := ⟨_, rfl⟩
      obtain ⟨vN, hvN⟩ := hobt_
      rewrite [← hvN] at numsC
      clear numsA obA rIA rEA rFA hrN hrd0
      refine ld agree (Own.at_ (xs := [.int .i64 (pw : Nat)]) (o := 1) mp rfl) (by rfl) ?_
      by_cases hk0 : sets.length = 0
      · refine spF (by omega) ?_
        refine spT (by omega) ?_
        refine ld agree (Own.at_ (xs := [vF]) (o := 4) obC rfl) (by rfl) ?_
        refine ne (by decide) ?_
        refine nd fun bq wE eE zE kE mq => ?_
        have mq : Own wE bq 3 [.int .i64 (i : Nat)] := mq
        have cC := cC.newT kE fun _ hf => hf.elim
        have numsC := numsC.chg kE id id fun _ _ => id
        have obC := kE.own obC id
        have rIC := ownsRow_chg rIC kE fun _ _ => id
        have rEC := ownsRow_chg rEC kE fun _ _ => id
        have rFC := ownsRow_chg rFC kE fun _ _ => id
        have mp := kE.own mp id
        refine apL (m := 1) (news := [.int .i64 (i : Nat)]) agree rfl rfl rfl rfl rfl rfl rfl (by decide) rFC rfl (Own.at_ (xs := [.int .i64 (i : Nat)]) (o := 0) mq rfl) rfl (by simp only [maxLen]; omega) (by show (_ + 1) * 8 ≤ _; omega) cC.size fun vF' wG rFG cG hnewF => ?_
        have hff := ownsRow_form rFG
        obtain ⟨fa, fc, rfl⟩ := hff
        have hGF : ∀ {b t cs}, Own wE b t cs → t ≠ 3 → ¬ some b = vF.ownBlock := fun {b t cs} ho ht he => ownsRow_ne rFC ho (fun cs fr hh => by injection hh with _ h2; exact ht h2) he.symm
        have hobt_ := id numsC.map.h
        obtain ⟨esG, clkG, hmG, -⟩ := hobt_
        have obG := cG.own obC (hGF obC (by decide))
        have mpG := cG.own mp (hGF mp (by decide))
        have numsG := numsC.chg cG (hGF numsC.hdr (by decide)) (fun he => ownsRow_ne rFC hmG (fun cs fr hh => by cases hh) he.symm) (fun g hg he => rows_sep numsC.row rFC (by decide) g hg he.symm)
        have rIG := ownsRow_chg rIC cG fun g hg he => hsepF g hg he.symm
        have rEG := ownsRow_chg rEC cG fun g hg he => rows_sep rEC rFC (by decide) g hg he.symm
        refine st agree obG rfl (show 5 ≤ 5 by decide) rfl ?_
        intro wH zH cH obH
        have hobt_ : ∃ vF2, vF2 = Value.slice fa (F.length + 1) fc := ⟨_, rfl⟩
        obtain ⟨vF2, hvF2⟩ := hobt_
        rewrite [← hvF2] at rFG hnewF
        have obH : Own wH b6 31 [pv', .int .i64 0, vI, vE, .slice fa (F.length + 1) fc] := obH
        rewrite [← hvF2] at obH
        have ob := obH
        have n6 : ∀ {el size v n xs}, wG.ownsRow w6.heap.size el size v n xs → ∀ g, v.ownBlock = some g → ¬ g = b6 := fun h g hg he => by
          have := ownsRow_base h hg
          omega
        have h6m : b6 ≠ m5 := numsG.map.ne obG
        have h56 : b5 ≠ b6 := own_ne numsG.hdr obG (by decide)
        have nums := numsG.chg cH h56 (Ne.symm h6m) (n6 numsG.row)
        have rI := ownsRow_chg rIG cH (n6 rIG)
        have rE := ownsRow_chg rEG cH (n6 rEG)
        have rF0 := ownsRow_chg rFG cH (n6 rFG)
        have rF : wH.ownsRow w6.heap.size 3 1 vF2 (F ++ [(i : Int)]).length ((F ++ [(i : Int)]).flatMap fN1) := by
          rw [List.length_append, List.flatMap_append]
          exact rF0
        have mp := cH.own mpG (fun he => by subst he; exact own_ne mpG obG (by decide) rfl)
        have c5 := (cC.newT cG fun g hg => .inr (ownsRow_base rFC hg.symm)).newT cH fun g hg => .inl (by rw [T6i]; exact .inr (.inr hg))
        have K5 := hK c5
        have hsepF : ∀ g, vI.ownBlock = some g → vF2.ownBlock ≠ some g := fun g hg he => by
          rcases hnewF g he with h1 | h1
          · exact hsepF g hg h1
          · have := (rIC.lt g hg).2; omega
        have hdd : nextC sets (((ps : Nat) : Int), ((pw : Nat) : Int)) = (pw : Nat) := by unfold nextC; rw [if_neg fun h => h.1 hk0]
        have hddr := nextC_range (sets := sets) (p := (((ps : Nat) : Int), ((pw : Nat) : Int))) ⟨q3, q4⟩
        rewrite [hdd] at hddr
        have hfl : F ++ (if finC sets (((ps : Nat) : Int), ((pw : Nat) : Int)) = true then [(i : Int)] else []) = F ++ [(i : Int)] := by
          rw [show finC sets (((ps : Nat) : Int), ((pw : Nat) : Int)) = true from decide_eq_true (.inl hk0)]
          simp
        -- behind the tests: the edges from the state
        refine ld agree (Own.at_ (xs := [.func (.func 111) #[] #[pt lb 0]]) (o := 2) (K5.own mb id) rfl) (by rfl) ?_
        refine ld agree (Own.at_ (xs := [.int .i64 (ps : Nat)]) (o := 0) mp rfl) (by rfl) ?_
        have hby := by1_c (hF.kp (k1.trans K5)) hpsn
        have hobt_ : ∃ l, l = fromS es (ps : Int) := ⟨_, rfl⟩
        obtain ⟨l, hl⟩ := hobt_
        rewrite [← hl] at hby
        refine cl callBy1 hby ?_
        rintro r0 w7 ⟨k7, hER0⟩
        have hER := edges_kp hER0 k7 (Nat.le_refl _) (Nat.le_refl _)
        obtain ⟨ra, rc, hr0, hrc, hre⟩ := hER
        subst hr0
        have hll : l.length ≤ es.length := by rw [hl]; unfold fromS; exact List.length_filter_le _ _
        have hlm : ∀ e ∈ l, e ∈ es := fun e he => by rewrite [hl] at he; exact (List.mem_filter.1 he).1
        have c7 := c5.newT k7 fun _ hf => hf.elim
        have nums7 := nums.chg k7 id id fun _ _ => id
        have ob7 := k7.own ob id
        have rI7 := ownsRow_chg rI k7 fun _ _ => id
        have rE7 := ownsRow_chg rE k7 fun _ _ => id
        have rF7 := ownsRow_chg rF k7 fun _ _ => id
        refine loop agree (σ := Nat × Value × Value) (fun t => [(1, pt b1 0), (2, pt b2 0), (4, .int .i64 sets.length), (5, pt b5 0), (6, pt b6 0), (7, .func (.func 113) #[] #[pt b1 0]), (10, .int .i64 i), (12, .int .i64 (pw : Nat)), (103, .slice ra l.length rc), (104, .int .i64 l.length), (105, .int .i64 t.1)])
          (fun t V => t.1 ≤ l.length ∧ Chg T6 w6 V ∧ w7.heap.size ≤ V.heap.size ∧ NumV V w6.heap.size b5 m5 t.2.1 (rowE1 i (pw : Nat) (L, E) (l.take t.1)).1 ∧ Own V b6 31 [pv', .int .i64 0, vI, t.2.2, vF2] ∧ V.ownsRow w6.heap.size 3 1 vI I.length (I.flatMap fN1) ∧ V.ownsRow w6.heap.size 52 4 t.2.2 (rowE1 i (pw : Nat) (L, E) (l.take t.1)).2.length ((rowE1 i (pw : Nat) (L, E) (l.take t.1)).2.flatMap Edge.cells) ∧ V.ownsRow w6.heap.size 3 1 vF2 (F ++ [(i : Int)]).length ((F ++ [(i : Int)]).flatMap fN1)) (fun t => l.length - t.1) (0, vN, vE)
          ⟨rfl, rfl, rfl, rfl, rfl, rfl, rfl, rfl, by rfl, rfl, rfl, trivial⟩ ⟨by simp only; omega, c7, Nat.le_refl _, nums7, ob7, rI7, rE7, rF7⟩ ?_
        rintro ⟨j, xN, xE⟩ e2 w8 ⟨hj, c8, z8, nums8, ob8, rI8, rE8, rF8⟩
        simp only at hj nums8 ob8 rE8
        have hobt_ : ∃ R, R = rowE1 i (pw : Nat) (L, E) (l.take j) := ⟨_, rfl⟩
        obtain ⟨R, hR⟩ := hobt_
        rewrite [← hR] at nums8 rE8
        refine sp (fun hlt => ?_) (fun hge => ?_)
        · have hj' : j < l.length := by simp only at hlt; omega
          have hxj : l[j]? = some l[j] := by simp
          have hobt_ : ∃ e, e = l[j] := ⟨_, rfl⟩
          obtain ⟨e, he⟩ := hobt_
          rewrite [← he] at hxj
          have hem := hlm e (List.mem_of_getElem? hxj)
          have heto := hto e hem
          have hobt_ := hre j e hxj
          obtain ⟨q, o, rfl, hq1, hq2, cs, -, hrd, rfl, -⟩ := hobt_
          have hsnoc : rowE1 i (pw : Nat) (L, E) (l.take (j + 1)) = oneE i (pw : Nat) R e := by
            rw [List.take_succ_eq_append_getElem hj', rowE1_snoc, ← hR, he]
          have hok := rowE1_box (n := n) (k := max sets.length 1) (i := i) hddr (l.take j) (L, E) (fun x hx => hto x (hlm x (List.mem_of_mem_take hx))) hDok.nd hDok.box
          rewrite [← hR] at hok
          have hRl := box_length hok.1 hok.2.1
          have hRE : R.2.length ≤ 65536 * 1000000 + 1000000 := by
            have h3 := hok.2.2
            simp only [List.length_take] at h3
            omega
          have hpI : I64 e.to ∧ I64 (e.to, ((pw : Nat) : Int)).2 := ⟨⟨by omega, by omega⟩, ⟨by show _ ≤ ((pw : Nat) : Int); omega, by show ((pw : Nat) : Int) ≤ _; omega⟩⟩
          refine ne ⟨by simp only; omega, by simp only; omega⟩ ?_
          have kw8 : ∀ g, g < w.heap.size → w8.heap[g]? = w7.heap[g]? := fun g hg => by
            rw [c8.block g (by omega) (by rw [T6i]; omega), c7.block g (by omega) (by rw [T6i]; omega)]
          refine ld agree (v := e.val) (by rw [Int.toNat_natCast]; exact range_of hrd (kw8 q (by omega))) (by rfl) ?_
          refine nd fun b14 w9 e9 z9 k9 m14 => ?_
          refine st agree (cs := [.int .i64 0, .int .i64 0, .int .u16 0, .int .u16 0]) m14 rfl (Nat.le_refl 4) rfl ?_
          intro w10 z10 k10 m14
          have m14 : Own w10 b14 52 e.cells := m14
          have k810 : Kp w8 w10 := k9.new e9 k10
          have nums10 := nums8.chg k810 id id fun _ _ => id
          have ob10 := k810.own ob8 id
          have rI10 := ownsRow_chg rI8 k810 fun _ _ => id
          have rE10 := ownsRow_chg rE8 k810 fun _ _ => id
          have rF10 := ownsRow_chg rF8 k810 fun _ _ => id
          have hsep := rows_sep nums10.row rE10 (by decide)
          have hm5 := nums10.map.h
          obtain ⟨es5, clk5, hm5, -⟩ := hm5
          have hbE : ∀ {b t cs}, Own w10 b t cs → t ≠ 52 → some b ≠ xE.ownBlock := fun {b t cs} ho ht he => ownsRow_ne rE10 ho (fun cs fr hh => by injection hh with _ h2; exact ht h2) he.symm
          have hmE : some m5 ≠ xE.ownBlock := fun he => ownsRow_ne rE10 hm5 (fun cs fr hh => by cases hh) he.symm
          have hltE8 : ∀ g, xE.ownBlock = some g → g < w8.heap.size := fun g hg => (rE8.lt g hg).2
          have hltN8 : ∀ g, xN.ownBlock = some g → g < w8.heap.size := fun g hg => (nums8.row.lt g hg).2
          have hlt14 : w8.heap.size = b14 := e9
          have hbN : ∀ {b t cs}, Own w10 b t cs → t ≠ 152 → some b ≠ xN.ownBlock := fun {b t cs} ho ht he => ownsRow_ne nums10.row ho (fun cs fr hh => by injection hh with _ h2; exact ht h2) he.symm
          have hobt_ : ∃ TT : Nat → Prop, TT = fun g => g = b5 ∨ g = m5 ∨ some g = xN.ownBlock := ⟨_, rfl⟩
          obtain ⟨TT, hTT⟩ := hobt_
          have h5lt := nums10.hdr.lt
          have hm5lt := nums10.map.lt
          have h5m : b5 ≠ m5 := nums10.map.ne nums10.hdr
          have h6m : b6 ≠ m5 := nums10.map.ne ob10
          have h56 : b5 ≠ b6 := own_ne nums10.hdr ob10 (by decide)
          have hbears := CAppR.bears (T := TT) (w0 := w10) (v := xE) (k := R.2.length * 4) (news := Edge.cells ⟨i, (numOf R.1 (e.to, ((pw : Nat) : Int)) : Nat), e.must, e.no⟩) (fun g hg => (rE10.lt g hg).2) (fun g hg => by
              rewrite [hTT] at hg
              rcases hg with rfl | rfl | hg
              · exact h5lt
              · exact hm5lt
              · exact (nums10.row.lt g hg.symm).2) (fun g hg => by
              rewrite [hTT] at hg
              rcases hg with rfl | rfl | hg
              · exact fun he => hbE nums10.hdr (by decide) he.symm
              · exact fun he => hmE he.symm
              · exact fun he => hsep g hg.symm he)
          have hst6 : ∀ {W}, CAppR TT w10 xE (R.2.length * 4) (Edge.cells ⟨i, (numOf R.1 (e.to, ((pw : Nat) : Int)) : Nat), e.must, e.no⟩) w10 W → ∀ {b t cs}, Own w10 b t cs → t ≠ 52 → t ≠ 152 → b ≠ b5 → b ≠ m5 → Own W b t cs := fun {W} hS {b t cs} ho h1 h2 h3 h4 => hS.chg.own ho fun hT => by
              rewrite [hTT] at hT
              rcases hT with (rfl | rfl | hT) | hT
              · exact h3 rfl
              · exact h4 rfl
              · exact hbN ho h2 hT
              · exact hbE ho h1 hT
          have hst14 : ∀ {W}, CAppR TT w10 xE (R.2.length * 4) (Edge.cells ⟨i, (numOf R.1 (e.to, ((pw : Nat) : Int)) : Nat), e.must, e.no⟩) w10 W → Own W b14 52 e.cells := fun {W} hS => hS.chg.own m14 fun hT => by
              rewrite [hTT] at hT
              rcases hT with (rfl | rfl | hT) | hT
              · have := nums8.hdr.lt; omega
              · have := nums8.map.lt; omega
              · have := hltN8 _ hT.symm; omega
              · have := hltE8 _ hT.symm; omega
          refine drawnW agree mixed 17 [3, 4, 5, 6, 7, 8, 0, 1, 2, 9, 10, 11, 12, 13, 14, 15, 16] (by kernel_rfl) (CAppR TT w10 xE (R.2.length * 4) (Edge.cells ⟨i, (numOf R.1 (e.to, ((pw : Nat) : Int)) : Nat), e.must, e.no⟩)) (preCAppR _ _ _ _ _) (fun W => W.heap.size = w10.heap.size ∧ Kp w10 W) 8 ⟨rfl, (Chg.refl _ _).drew⟩ ?_
          conv => whnf
          refine ldu (preCAppR _ _ _ _ _) agree rfl rfl (fun W h _ _ => Own.at_ (xs := [.int .i64 e.to]) (o := 1) (hst14 h) rfl) (by rfl) fun _ => ?_
          conv => whnf
          refine callu (τ := Value) (hne := ⟨undef⟩) (.int .i64 (numOf R.1 (e.to, ((pw : Nat) : Int)) : Nat)) (fun v' W => NumV W w6.heap.size b5 m5 v' (numL R.1 (e.to, ((pw : Nat) : Int))) ∧ (∀ g, v'.ownBlock = some g → xN.ownBlock = some g ∨ w10.heap.size ≤ g) ∧ w10.heap.size < W.heap.size) rfl rfl rfl (fun v' W W' hFv hS => ?_) callNOf (fun W hS _ hU => ?_) fun v' D hD => ?_
          · obtain ⟨f1, f2, f3⟩ := hFv
            have honce := hS.once.resolve_right (by omega)
            have hnE : ∀ g, v'.ownBlock = some g → xE.ownBlock ≠ some g := fun g hg he => by
              rcases f2 g hg with h1 | h1
              · exact hsep g h1 he
              · have := (rE10.lt g he).2; omega
            refine ⟨⟨?_, ?_, ?_, Nat.le_trans f1.base hS.chg.size, f1.nd⟩, f2, by have := hS.chg.size; omega⟩
            · exact (honce b5 (by rw [hTT]; exact .inl rfl) f1.hdr.lt).trans f1.hdr
            · exact mapE_same f1.map (honce m5 (by rw [hTT]; exact .inr (.inl rfl)) f1.map.lt)
            · refine ownsRow_same f1.row fun g hg => ?_
              rcases f2 g hg with h1 | h1
              · exact honce g (by rw [hTT]; exact .inr (.inr h1.symm)) (f1.row.lt g hg).2
              · exact hS.chg.block g (f1.row.lt g hg).2 fun hT => by
                  rewrite [hTT] at hT
                  rcases hT with (rfl | rfl | hT) | hT
                  · omega
                  · omega
                  · have := (nums10.row.lt g hT.symm).2; omega
                  · have := (rE10.lt g hT.symm).2; omega
          · obtain ⟨hU1, hU2⟩ := hU
            refine (nof_c (nums10.chg hU2 id id fun _ _ => id) (p := (e.to, ((pw : Nat) : Int))) hpI.1 hpI.2 (by omega)).mono fun en W' hr => ?_
            cases en with
            | returned v =>
              obtain ⟨rfl, v', hn', hc', hg', hs'⟩ := hr
              refine ⟨rfl, ⟨hc'.mono fun g hg => .inl (by rw [hTT]; exact hg), fun g hg hl => .inl (hc'.block g hl fun hT => ?_), .inr (by omega)⟩, v', hn', fun g hg => (hg' g hg).imp id fun h => by omega, by omega⟩
              rcases hT with rfl | rfl | hT
              · exact hbE nums10.hdr (by decide) hg.symm
              · exact hmE hg.symm
              · exact hsep g hT.symm hg
            | _ => exact hr.elim
          conv => whnf
          refine ldu (preCAppR _ _ _ _ _) agree rfl rfl (fun W h _ _ => Own.at_ (xs := [xE]) (o := 3) (hst6 h ob10 (by decide) (by decide) (Ne.symm h56) h6m) rfl) (by rfl) fun _ => ?_
          conv => whnf
          refine ldu (preCAppR _ _ _ _ _) agree rfl rfl (fun W h _ _ => Own.at_ (xs := [.int .u16 e.must]) (o := 2) (hst14 h) rfl) (by rfl) fun _ => ?_
          conv => whnf
          refine ldu (preCAppR _ _ _ _ _) agree rfl rfl (fun W h _ _ => Own.at_ (xs := [.int .u16 e.no]) (o := 3) (hst14 h) rfl) (by rfl) fun _ => ?_
          conv => whnf
          refine ⟨fun W hS hDn hU => ?_, ?_⟩
          · have := (hD W (hDn 8 (by kernel_rfl))).2.2
            omega
          refine bsr (preCAppR _ _ _ _ _) rfl rfl rfl rfl rfl (by decide) (fun b o W W' hb ho hS => hbears.new W W' b o hS hb ho) (fun W hS => hbears.size _ _ hS) fun q2 D2 hD2 => ?_
          conv => whnf
          refine ⟨fun W hS hDn hU => ?_, ?_⟩
          · have := (hD W (hDn 8 (by kernel_rfl))).2.2
            omega
          refine aprS (m := 1) (news := Edge.cells ⟨i, (numOf R.1 (e.to, ((pw : Nat) : Int)) : Nat), e.must, e.no⟩) agree hbears rfl rfl rfl rfl rfl rfl rfl (by decide) rE10 rfl (fun W hS hDn => Own.at_ (xs := Edge.cells ⟨i, (numOf R.1 (e.to, ((pw : Nat) : Int)) : Nat), e.must, e.no⟩) (o := 0) (hD2 W (hDn 14 (by kernel_rfl))).1 rfl) rfl (by simp only [maxLen]; omega) (by show (_ + 1) * 24 ≤ _; omega) (by have := c8.size; have := k810.size; omega) fun xE' D3 hD3 => ?_
          conv => whnf
          intro w11 hS11 hd11
          have hN11 := hD w11 (hd11 8)
          have hE11 := hD3 w11 (hd11 15)
          obtain ⟨nums11, hnew11, hsz11⟩ := hN11
          obtain ⟨rE11, hnewE⟩ := hE11
          have hfE := ownsRow_form rE11
          obtain ⟨ea', ec', rfl⟩ := hfE
          have ob11 := hst6 hS11 ob10 (by decide) (by decide) (Ne.symm h56) h6m
          have hI11 : ∀ g, vI.ownBlock = some g → ¬ (TT g ∨ some g = xE.ownBlock) := fun g hg hT => by
            rewrite [hTT] at hT
            rcases hT with (rfl | rfl | hT) | hT
            · exact ownsRow_ne rI10 nums10.hdr (fun cs fr hh => by injection hh with _ h2; exact absurd h2 (by decide)) hg
            · exact ownsRow_ne rI10 hm5 (fun cs fr hh => by cases hh) hg
            · exact rows_sep nums10.row rI10 (by decide) g hT.symm hg
            · exact rows_sep rE10 rI10 (by decide) g hT.symm hg
          have hF11 : ∀ g, (vF2).ownBlock = some g → ¬ (TT g ∨ some g = xE.ownBlock) := fun g hg hT => by
            rewrite [hTT] at hT
            rcases hT with (rfl | rfl | hT) | hT
            · exact ownsRow_ne rF10 nums10.hdr (fun cs fr hh => by injection hh with _ h2; exact absurd h2 (by decide)) hg
            · exact ownsRow_ne rF10 hm5 (fun cs fr hh => by cases hh) hg
            · exact rows_sep nums10.row rF10 (by decide) g hT.symm hg
            · exact rows_sep rE10 rF10 (by decide) g hT.symm hg
          have rI11 := ownsRow_chg rI10 hS11.chg hI11
          have rF11 := ownsRow_chg rF10 hS11.chg hF11
          refine st agree ob11 rfl (show 4 ≤ 5 by decide) rfl ?_
          intro w12 z12 c12 ob12
          have ob12 : Own w12 b6 31 [pv', .int .i64 0, vI, .slice ea' (R.2.length + 1) ec', vF2] := ob12
          have hb6N : b6 ≠ b5 := Ne.symm h56
          have n6 : ∀ {el size v n xs}, w11.ownsRow w6.heap.size el size v n xs → ∀ g, v.ownBlock = some g → ¬ g = b6 := fun h g hg he => by
            have := ownsRow_base h hg
            have := hb6lt
            omega
          have nums12 := nums11.chg c12 h56 (Ne.symm h6m) (n6 nums11.row)
          have rI12 := ownsRow_chg rI11 c12 (n6 rI11)
          have rE12 := ownsRow_chg rE11 c12 (n6 rE11)
          have rF12 := ownsRow_chg rF11 c12 (n6 rF11)
          refine ld agree (Own.at_ (xs := [.bool false]) (o := 2) nums12.hdr rfl) (by rfl) ?_
          refine aw (by simp only; omega) (by simp only; omega) ?_
          refine again (j + 1, v', .slice ea' (R.2.length + 1) ec') ⟨rfl, rfl, rfl, rfl, rfl, rfl, rfl, rfl, rfl, rfl, rfl, trivial⟩ ⟨by simp only; omega, ?_, ?_, ?_, ob12, rI12, ?_, rF12⟩ (by simp only; omega)
          · refine ((c8.newT k810 fun _ hf => hf.elim).newT hS11.chg fun g hg => ?_).newT c12 fun g hg => .inl ((T6i _).2 (.inr (.inr hg)))
            rewrite [hTT] at hg
            rcases hg with (rfl | rfl | hg) | hg
            · exact .inl ((T6i _).2 (.inl rfl))
            · exact .inl ((T6i _).2 (.inr (.inl rfl)))
            · exact .inr (ownsRow_base nums10.row hg.symm)
            · exact .inr (ownsRow_base rE10 hg.symm)
          · have := k810.size; have := hS11.chg.size; have := c12.size; omega
          · simp only
            rw [hsnoc]
            exact nums12
          · simp only
            rw [hsnoc]
            show w12.ownsRow w6.heap.size 52 4 _ (R.2 ++ [_]).length ((R.2 ++ [_]).flatMap Edge.cells)
            rw [List.length_append, List.flatMap_append]
            exact rE12
        · have hje : j = l.length := by simp only at hge; omega
          subst hje
          rewrite [List.take_length] at hR
          have hDn : degS sets (fromS es) (L0, [], []) (i + 1) = (R.1, R.2, F ++ [(i : Int)]) := by
            show oneS sets (fromS es) i (degS sets (fromS es) (L0, [], []) i) = _
            rw [← hDi]
            unfold oneS
            rw [hpi]
            simp only
            rw [hdd, ← hl, ← hR, hfl]
          have hle := numL_len
          have hRlen : i + 1 ≤ R.1.length := by
            have h1 := rowE1_grow i (pw : Nat) l (L, E)
            rewrite [← hR] at h1
            have h2 := (List.getElem?_eq_some_iff.1 hpi).1
            simp only at h1
            omega
          have hRb : R.1.length ≤ n * max sets.length 1 := by
            have h1 := degS_ok hto' hok0 (i + 1)
            rewrite [hDn] at h1
            exact box_length h1.nd h1.box
          refine aw (by omega) (by omega) ?_
          refine again (i + 1, xN, xE, vF2) ⟨rfl, rfl, rfl, rfl, rfl, rfl, rfl, trivial⟩ ⟨?_, c8, ?_, ?_, ?_, ?_, ?_, ?_⟩ (by simp only; omega)
          all_goals (try simp only)
          all_goals (try rw [hDn])
          all_goals first
            | exact hRlen
            | exact nums8
            | exact ob8
            | exact rI8
            | exact rE8
            | exact rF8
            | exact hsepF
      · have hpw : pw < sets.length := by omega
        refine spT (by omega) ?_
        refine ld agree (Own.at_ (xs := [.int .i64 (pw : Nat)]) (o := 1) mp rfl) (by rfl) ?_
        refine ld agree (Own.at_ (xs := [.int .i64 (ps : Nat)]) (o := 0) mp rfl) (by rfl) ?_
        have hexh : ∃ hb, hasS sets (((ps : Nat) : Int), ((pw : Nat) : Int)) = hb := ⟨_, rfl⟩
        obtain ⟨hb, hhas⟩ := hexh
        cases hb with
        | false =>
          have hh := hasD_c (mach.kp (hK cC)) hsort (c := pw) (s := ps) (by omega)
          rewrite [hhas] at hh
          refine cl callHasD hh ?_
          rintro _ wh ⟨rfl, kh⟩
          have cC := cC.newT kh fun _ hf => hf.elim
          have numsC := numsC.chg kh id id fun _ _ => id
          have obC := kh.own obC id
          have rIC := ownsRow_chg rIC kh fun _ _ => id
          have rEC := ownsRow_chg rEC kh fun _ _ => id
          have rFC := ownsRow_chg rFC kh fun _ _ => id
          have mp := kh.own mp id
          refine spF (by omega) ?_
          refine ld agree (Own.at_ (xs := [.int .i64 (pw : Nat)]) (o := 1) mp rfl) (by rfl) ?_
          refine arX (show _ = ((sets.length - 1 : Nat) : Int) by rw [show ((sets.length : Int) - 1) = ((sets.length - 1 : Nat) : Int) by omega]; exact wrap64 (by omega) (by omega)) ?_
          by_cases hlast : pw = sets.length - 1
          · refine spT (by omega) ?_
            refine ld agree (Own.at_ (xs := [.int .i64 (pw : Nat)]) (o := 1) mp rfl) (by rfl) ?_
            refine ld agree (Own.at_ (xs := [.int .i64 (ps : Nat)]) (o := 0) mp rfl) (by rfl) ?_
            have hh := hasD_c (mach.kp (hK cC)) hsort (c := pw) (s := ps) (by omega)
            rewrite [hhas] at hh
            refine cl callHasD hh ?_
            rintro _ wh ⟨rfl, kh⟩
            have cC := cC.newT kh fun _ hf => hf.elim
            have numsC := numsC.chg kh id id fun _ _ => id
            have obC := kh.own obC id
            have rIC := ownsRow_chg rIC kh fun _ _ => id
            have rEC := ownsRow_chg rEC kh fun _ _ => id
            have rFC := ownsRow_chg rFC kh fun _ _ => id
            have mp := kh.own mp id
            have ob := obC
            have nums := numsC
            have rI := rIC
            have rE := rEC
            have rF := rFC
            have c5 := cC
            have K5 := hK c5
            have hdd : nextC sets (((ps : Nat) : Int), ((pw : Nat) : Int)) = (pw : Nat) := by unfold nextC; rw [hhas, if_neg (by simp)]
            have hddr := nextC_range (sets := sets) (p := (((ps : Nat) : Int), ((pw : Nat) : Int))) ⟨q3, q4⟩
            rewrite [hdd] at hddr
            have hfl : F ++ (if finC sets (((ps : Nat) : Int), ((pw : Nat) : Int)) = true then [(i : Int)] else []) = F := by
              rw [show finC sets (((ps : Nat) : Int), ((pw : Nat) : Int)) = false from decide_eq_false (by rw [hhas]; simp [hk0])]
              simp
            -- behind the tests: the edges from the state
            refine ld agree (Own.at_ (xs := [.func (.func 111) #[] #[pt lb 0]]) (o := 2) (K5.own mb id) rfl) (by rfl) ?_
            refine ld agree (Own.at_ (xs := [.int .i64 (ps : Nat)]) (o := 0) mp rfl) (by rfl) ?_
            have hby := by1_c (hF.kp (k1.trans K5)) hpsn
            have hobt_ : ∃ l, l = fromS es (ps : Int) := ⟨_, rfl⟩
            obtain ⟨l, hl⟩ := hobt_
            rewrite [← hl] at hby
            refine cl callBy1 hby ?_
            rintro r0 w7 ⟨k7, hER0⟩
            have hER := edges_kp hER0 k7 (Nat.le_refl _) (Nat.le_refl _)
            obtain ⟨ra, rc, hr0, hrc, hre⟩ := hER
            subst hr0
            have hll : l.length ≤ es.length := by rw [hl]; unfold fromS; exact List.length_filter_le _ _
            have hlm : ∀ e ∈ l, e ∈ es := fun e he => by rewrite [hl] at he; exact (List.mem_filter.1 he).1
            have c7 := c5.newT k7 fun _ hf => hf.elim
            have nums7 := nums.chg k7 id id fun _ _ => id
            have ob7 := k7.own ob id
            have rI7 := ownsRow_chg rI k7 fun _ _ => id
            have rE7 := ownsRow_chg rE k7 fun _ _ => id
            have rF7 := ownsRow_chg rF k7 fun _ _ => id
            refine loop agree (σ := Nat × Value × Value) (fun t => [(1, pt b1 0), (2, pt b2 0), (4, .int .i64 sets.length), (5, pt b5 0), (6, pt b6 0), (7, .func (.func 113) #[] #[pt b1 0]), (10, .int .i64 i), (12, .int .i64 (pw : Nat)), (103, .slice ra l.length rc), (104, .int .i64 l.length), (105, .int .i64 t.1)])
              (fun t V => t.1 ≤ l.length ∧ Chg T6 w6 V ∧ w7.heap.size ≤ V.heap.size ∧ NumV V w6.heap.size b5 m5 t.2.1 (rowE1 i (pw : Nat) (L, E) (l.take t.1)).1 ∧ Own V b6 31 [pv', .int .i64 0, vI, t.2.2, vF] ∧ V.ownsRow w6.heap.size 3 1 vI I.length (I.flatMap fN1) ∧ V.ownsRow w6.heap.size 52 4 t.2.2 (rowE1 i (pw : Nat) (L, E) (l.take t.1)).2.length ((rowE1 i (pw : Nat) (L, E) (l.take t.1)).2.flatMap Edge.cells) ∧ V.ownsRow w6.heap.size 3 1 vF (F).length ((F).flatMap fN1)) (fun t => l.length - t.1) (0, vN, vE)
              ⟨rfl, rfl, rfl, rfl, rfl, rfl, rfl, rfl, by rfl, rfl, rfl, trivial⟩ ⟨by simp only; omega, c7, Nat.le_refl _, nums7, ob7, rI7, rE7, rF7⟩ ?_
            rintro ⟨j, xN, xE⟩ e2 w8 ⟨hj, c8, z8, nums8, ob8, rI8, rE8, rF8⟩
            simp only at hj nums8 ob8 rE8
            have hobt_ : ∃ R, R = rowE1 i (pw : Nat) (L, E) (l.take j) := ⟨_, rfl⟩
            obtain ⟨R, hR⟩ := hobt_
            rewrite [← hR] at nums8 rE8
            refine sp (fun hlt => ?_) (fun hge => ?_)
            · have hj' : j < l.length := by simp only at hlt; omega
              have hxj : l[j]? = some l[j] := by simp
              have hobt_ : ∃ e, e = l[j] := ⟨_, rfl⟩
              obtain ⟨e, he⟩ := hobt_
              rewrite [← he] at hxj
              have hem := hlm e (List.mem_of_getElem? hxj)
              have heto := hto e hem
              have hobt_ := hre j e hxj
              obtain ⟨q, o, rfl, hq1, hq2, cs, -, hrd, rfl, -⟩ := hobt_
              have hsnoc : rowE1 i (pw : Nat) (L, E) (l.take (j + 1)) = oneE i (pw : Nat) R e := by
                rw [List.take_succ_eq_append_getElem hj', rowE1_snoc, ← hR, he]
              have hok := rowE1_box (n := n) (k := max sets.length 1) (i := i) hddr (l.take j) (L, E) (fun x hx => hto x (hlm x (List.mem_of_mem_take hx))) hDok.nd hDok.box
              rewrite [← hR] at hok
              have hRl := box_length hok.1 hok.2.1
              have hRE : R.2.length ≤ 65536 * 1000000 + 1000000 := by
                have h3 := hok.2.2
                simp only [List.length_take] at h3
                omega
              have hpI : I64 e.to ∧ I64 (e.to, ((pw : Nat) : Int)).2 := ⟨⟨by omega, by omega⟩, ⟨by show _ ≤ ((pw : Nat) : Int); omega, by show ((pw : Nat) : Int) ≤ _; omega⟩⟩
              refine ne ⟨by simp only; omega, by simp only; omega⟩ ?_
              have kw8 : ∀ g, g < w.heap.size → w8.heap[g]? = w7.heap[g]? := fun g hg => by
                rw [c8.block g (by omega) (by rw [T6i]; omega), c7.block g (by omega) (by rw [T6i]; omega)]
              refine ld agree (v := e.val) (by rw [Int.toNat_natCast]; exact range_of hrd (kw8 q (by omega))) (by rfl) ?_
              refine nd fun b14 w9 e9 z9 k9 m14 => ?_
              refine st agree (cs := [.int .i64 0, .int .i64 0, .int .u16 0, .int .u16 0]) m14 rfl (Nat.le_refl 4) rfl ?_
              intro w10 z10 k10 m14
              have m14 : Own w10 b14 52 e.cells := m14
              have k810 : Kp w8 w10 := k9.new e9 k10
              have nums10 := nums8.chg k810 id id fun _ _ => id
              have ob10 := k810.own ob8 id
              have rI10 := ownsRow_chg rI8 k810 fun _ _ => id
              have rE10 := ownsRow_chg rE8 k810 fun _ _ => id
              have rF10 := ownsRow_chg rF8 k810 fun _ _ => id
              have hsep := rows_sep nums10.row rE10 (by decide)
              have hm5 := nums10.map.h
              obtain ⟨es5, clk5, hm5, -⟩ := hm5
              have hbE : ∀ {b t cs}, Own w10 b t cs → t ≠ 52 → some b ≠ xE.ownBlock := fun {b t cs} ho ht he => ownsRow_ne rE10 ho (fun cs fr hh => by injection hh with _ h2; exact ht h2) he.symm
              have hmE : some m5 ≠ xE.ownBlock := fun he => ownsRow_ne rE10 hm5 (fun cs fr hh => by cases hh) he.symm
              have hltE8 : ∀ g, xE.ownBlock = some g → g < w8.heap.size := fun g hg => (rE8.lt g hg).2
              have hltN8 : ∀ g, xN.ownBlock = some g → g < w8.heap.size := fun g hg => (nums8.row.lt g hg).2
              have hlt14 : w8.heap.size = b14 := e9
              have hbN : ∀ {b t cs}, Own w10 b t cs → t ≠ 152 → some b ≠ xN.ownBlock := fun {b t cs} ho ht he => ownsRow_ne nums10.row ho (fun cs fr hh => by injection hh with _ h2; exact ht h2) he.symm
              have hobt_ : ∃ TT : Nat → Prop, TT = fun g => g = b5 ∨ g = m5 ∨ some g = xN.ownBlock := ⟨_, rfl⟩
              obtain ⟨TT, hTT⟩ := hobt_
              have h5lt := nums10.hdr.lt
              have hm5lt := nums10.map.lt
              have h5m : b5 ≠ m5 := nums10.map.ne nums10.hdr
              have h6m : b6 ≠ m5 := nums10.map.ne ob10
              have h56 : b5 ≠ b6 := own_ne nums10.hdr ob10 (by decide)
              have hbears := CAppR.bears (T := TT) (w0 := w10) (v := xE) (k := R.2.length * 4) (news := Edge.cells ⟨i, (numOf R.1 (e.to, ((pw : Nat) : Int)) : Nat), e.must, e.no⟩) (fun g hg => (rE10.lt g hg).2) (fun g hg => by
                  rewrite [hTT] at hg
                  rcases hg with rfl | rfl | hg
                  · exact h5lt
                  · exact hm5lt
                  · exact (nums10.row.lt g hg.symm).2) (fun g hg => by
                  rewrite [hTT] at hg
                  rcases hg with rfl | rfl | hg
                  · exact fun he => hbE nums10.hdr (by decide) he.symm
                  · exact fun he => hmE he.symm
                  · exact fun he => hsep g hg.symm he)
              have hst6 : ∀ {W}, CAppR TT w10 xE (R.2.length * 4) (Edge.cells ⟨i, (numOf R.1 (e.to, ((pw : Nat) : Int)) : Nat), e.must, e.no⟩) w10 W → ∀ {b t cs}, Own w10 b t cs → t ≠ 52 → t ≠ 152 → b ≠ b5 → b ≠ m5 → Own W b t cs := fun {W} hS {b t cs} ho h1 h2 h3 h4 => hS.chg.own ho fun hT => by
                  rewrite [hTT] at hT
                  rcases hT with (rfl | rfl | hT) | hT
                  · exact h3 rfl
                  · exact h4 rfl
                  · exact hbN ho h2 hT
                  · exact hbE ho h1 hT
              have hst14 : ∀ {W}, CAppR TT w10 xE (R.2.length * 4) (Edge.cells ⟨i, (numOf R.1 (e.to, ((pw : Nat) : Int)) : Nat), e.must, e.no⟩) w10 W → Own W b14 52 e.cells := fun {W} hS => hS.chg.own m14 fun hT => by
                  rewrite [hTT] at hT
                  rcases hT with (rfl | rfl | hT) | hT
                  · have := nums8.hdr.lt; omega
                  · have := nums8.map.lt; omega
                  · have := hltN8 _ hT.symm; omega
                  · have := hltE8 _ hT.symm; omega
              refine drawnW agree mixed 17 [3, 4, 5, 6, 7, 8, 0, 1, 2, 9, 10, 11, 12, 13, 14, 15, 16] (by kernel_rfl) (CAppR TT w10 xE (R.2.length * 4) (Edge.cells ⟨i, (numOf R.1 (e.to, ((pw : Nat) : Int)) : Nat), e.must, e.no⟩)) (preCAppR _ _ _ _ _) (fun W => W.heap.size = w10.heap.size ∧ Kp w10 W) 8 ⟨rfl, (Chg.refl _ _).drew⟩ ?_
              conv => whnf
              refine ldu (preCAppR _ _ _ _ _) agree rfl rfl (fun W h _ _ => Own.at_ (xs := [.int .i64 e.to]) (o := 1) (hst14 h) rfl) (by rfl) fun _ => ?_
              conv => whnf
              refine callu (τ := Value) (hne := ⟨undef⟩) (.int .i64 (numOf R.1 (e.to, ((pw : Nat) : Int)) : Nat)) (fun v' W => NumV W w6.heap.size b5 m5 v' (numL R.1 (e.to, ((pw : Nat) : Int))) ∧ (∀ g, v'.ownBlock = some g → xN.ownBlock = some g ∨ w10.heap.size ≤ g) ∧ w10.heap.size < W.heap.size) rfl rfl rfl (fun v' W W' hFv hS => ?_) callNOf (fun W hS _ hU => ?_) fun v' D hD => ?_
              · obtain ⟨f1, f2, f3⟩ := hFv
                have honce := hS.once.resolve_right (by omega)
                have hnE : ∀ g, v'.ownBlock = some g → xE.ownBlock ≠ some g := fun g hg he => by
                  rcases f2 g hg with h1 | h1
                  · exact hsep g h1 he
                  · have := (rE10.lt g he).2; omega
                refine ⟨⟨?_, ?_, ?_, Nat.le_trans f1.base hS.chg.size, f1.nd⟩, f2, by have := hS.chg.size; omega⟩
                · exact (honce b5 (by rw [hTT]; exact .inl rfl) f1.hdr.lt).trans f1.hdr
                · exact mapE_same f1.map (honce m5 (by rw [hTT]; exact .inr (.inl rfl)) f1.map.lt)
                · refine ownsRow_same f1.row fun g hg => ?_
                  rcases f2 g hg with h1 | h1
                  · exact honce g (by rw [hTT]; exact .inr (.inr h1.symm)) (f1.row.lt g hg).2
                  · exact hS.chg.block g (f1.row.lt g hg).2 fun hT => by
                      rewrite [hTT] at hT
                      rcases hT with (rfl | rfl | hT) | hT
                      · omega
                      · omega
                      · have := (nums10.row.lt g hT.symm).2; omega
                      · have := (rE10.lt g hT.symm).2; omega
              · obtain ⟨hU1, hU2⟩ := hU
                refine (nof_c (nums10.chg hU2 id id fun _ _ => id) (p := (e.to, ((pw : Nat) : Int))) hpI.1 hpI.2 (by omega)).mono fun en W' hr => ?_
                cases en with
                | returned v =>
                  obtain ⟨rfl, v', hn', hc', hg', hs'⟩ := hr
                  refine ⟨rfl, ⟨hc'.mono fun g hg => .inl (by rw [hTT]; exact hg), fun g hg hl => .inl (hc'.block g hl fun hT => ?_), .inr (by omega)⟩, v', hn', fun g hg => (hg' g hg).imp id fun h => by omega, by omega⟩
                  rcases hT with rfl | rfl | hT
                  · exact hbE nums10.hdr (by decide) hg.symm
                  · exact hmE hg.symm
                  · exact hsep g hT.symm hg
                | _ => exact hr.elim
              conv => whnf
              refine ldu (preCAppR _ _ _ _ _) agree rfl rfl (fun W h _ _ => Own.at_ (xs := [xE]) (o := 3) (hst6 h ob10 (by decide) (by decide) (Ne.symm h56) h6m) rfl) (by rfl) fun _ => ?_
              conv => whnf
              refine ldu (preCAppR _ _ _ _ _) agree rfl rfl (fun W h _ _ => Own.at_ (xs := [.int .u16 e.must]) (o := 2) (hst14 h) rfl) (by rfl) fun _ => ?_
              conv => whnf
              refine ldu (preCAppR _ _ _ _ _) agree rfl rfl (fun W h _ _ => Own.at_ (xs := [.int .u16 e.no]) (o := 3) (hst14 h) rfl) (by rfl) fun _ => ?_
              conv => whnf
              refine ⟨fun W hS hDn hU => ?_, ?_⟩
              · have := (hD W (hDn 8 (by kernel_rfl))).2.2
                omega
              refine bsr (preCAppR _ _ _ _ _) rfl rfl rfl rfl rfl (by decide) (fun b o W W' hb ho hS => hbears.new W W' b o hS hb ho) (fun W hS => hbears.size _ _ hS) fun q2 D2 hD2 => ?_
              conv => whnf
              refine ⟨fun W hS hDn hU => ?_, ?_⟩
              · have := (hD W (hDn 8 (by kernel_rfl))).2.2
                omega
              refine aprS (m := 1) (news := Edge.cells ⟨i, (numOf R.1 (e.to, ((pw : Nat) : Int)) : Nat), e.must, e.no⟩) agree hbears rfl rfl rfl rfl rfl rfl rfl (by decide) rE10 rfl (fun W hS hDn => Own.at_ (xs := Edge.cells ⟨i, (numOf R.1 (e.to, ((pw : Nat) : Int)) : Nat), e.must, e.no⟩) (o := 0) (hD2 W (hDn 14 (by kernel_rfl))).1 rfl) rfl (by simp only [maxLen]; omega) (by show (_ + 1) * 24 ≤ _; omega) (by have := c8.size; have := k810.size; omega) fun xE' D3 hD3 => ?_
              conv => whnf
              intro w11 hS11 hd11
              have hN11 := hD w11 (hd11 8)
              have hE11 := hD3 w11 (hd11 15)
              obtain ⟨nums11, hnew11, hsz11⟩ := hN11
              obtain ⟨rE11, hnewE⟩ := hE11
              have hfE := ownsRow_form rE11
              obtain ⟨ea', ec', rfl⟩ := hfE
              have ob11 := hst6 hS11 ob10 (by decide) (by decide) (Ne.symm h56) h6m
              have hI11 : ∀ g, vI.ownBlock = some g → ¬ (TT g ∨ some g = xE.ownBlock) := fun g hg hT => by
                rewrite [hTT] at hT
                rcases hT with (rfl | rfl | hT) | hT
                · exact ownsRow_ne rI10 nums10.hdr (fun cs fr hh => by injection hh with _ h2; exact absurd h2 (by decide)) hg
                · exact ownsRow_ne rI10 hm5 (fun cs fr hh => by cases hh) hg
                · exact rows_sep nums10.row rI10 (by decide) g hT.symm hg
                · exact rows_sep rE10 rI10 (by decide) g hT.symm hg
              have hF11 : ∀ g, (vF).ownBlock = some g → ¬ (TT g ∨ some g = xE.ownBlock) := fun g hg hT => by
                rewrite [hTT] at hT
                rcases hT with (rfl | rfl | hT) | hT
                · exact ownsRow_ne rF10 nums10.hdr (fun cs fr hh => by injection hh with _ h2; exact absurd h2 (by decide)) hg
                · exact ownsRow_ne rF10 hm5 (fun cs fr hh => by cases hh) hg
                · exact rows_sep nums10.row rF10 (by decide) g hT.symm hg
                · exact rows_sep rE10 rF10 (by decide) g hT.symm hg
              have rI11 := ownsRow_chg rI10 hS11.chg hI11
              have rF11 := ownsRow_chg rF10 hS11.chg hF11
              refine st agree ob11 rfl (show 4 ≤ 5 by decide) rfl ?_
              intro w12 z12 c12 ob12
              have ob12 : Own w12 b6 31 [pv', .int .i64 0, vI, .slice ea' (R.2.length + 1) ec', vF] := ob12
              have hb6N : b6 ≠ b5 := Ne.symm h56
              have n6 : ∀ {el size v n xs}, w11.ownsRow w6.heap.size el size v n xs → ∀ g, v.ownBlock = some g → ¬ g = b6 := fun h g hg he => by
                have := ownsRow_base h hg
                have := hb6lt
                omega
              have nums12 := nums11.chg c12 h56 (Ne.symm h6m) (n6 nums11.row)
              have rI12 := ownsRow_chg rI11 c12 (n6 rI11)
              have rE12 := ownsRow_chg rE11 c12 (n6 rE11)
              have rF12 := ownsRow_chg rF11 c12 (n6 rF11)
              refine ld agree (Own.at_ (xs := [.bool false]) (o := 2) nums12.hdr rfl) (by rfl) ?_
              refine aw (by simp only; omega) (by simp only; omega) ?_
              refine again (j + 1, v', .slice ea' (R.2.length + 1) ec') ⟨rfl, rfl, rfl, rfl, rfl, rfl, rfl, rfl, rfl, rfl, rfl, trivial⟩ ⟨by simp only; omega, ?_, ?_, ?_, ob12, rI12, ?_, rF12⟩ (by simp only; omega)
              · refine ((c8.newT k810 fun _ hf => hf.elim).newT hS11.chg fun g hg => ?_).newT c12 fun g hg => .inl ((T6i _).2 (.inr (.inr hg)))
                rewrite [hTT] at hg
                rcases hg with (rfl | rfl | hg) | hg
                · exact .inl ((T6i _).2 (.inl rfl))
                · exact .inl ((T6i _).2 (.inr (.inl rfl)))
                · exact .inr (ownsRow_base nums10.row hg.symm)
                · exact .inr (ownsRow_base rE10 hg.symm)
              · have := k810.size; have := hS11.chg.size; have := c12.size; omega
              · simp only
                rw [hsnoc]
                exact nums12
              · simp only
                rw [hsnoc]
                show w12.ownsRow w6.heap.size 52 4 _ (R.2 ++ [_]).length ((R.2 ++ [_]).flatMap Edge.cells)
                rw [List.length_append, List.flatMap_append]
                exact rE12
            · have hje : j = l.length := by simp only at hge; omega
              subst hje
              rewrite [List.take_length] at hR
              have hDn : degS sets (fromS es) (L0, [], []) (i + 1) = (R.1, R.2, F) := by
                show oneS sets (fromS es) i (degS sets (fromS es) (L0, [], []) i) = _
                rw [← hDi]
                unfold oneS
                rw [hpi]
                simp only
                rw [hdd, ← hl, ← hR, hfl]
              have hle := numL_len
              have hRlen : i + 1 ≤ R.1.length := by
                have h1 := rowE1_grow i (pw : Nat) l (L, E)
                rewrite [← hR] at h1
                have h2 := (List.getElem?_eq_some_iff.1 hpi).1
                simp only at h1
                omega
              have hRb : R.1.length ≤ n * max sets.length 1 := by
                have h1 := degS_ok hto' hok0 (i + 1)
                rewrite [hDn] at h1
                exact box_length h1.nd h1.box
              refine aw (by omega) (by omega) ?_
              refine again (i + 1, xN, xE, vF) ⟨rfl, rfl, rfl, rfl, rfl, rfl, rfl, trivial⟩ ⟨?_, c8, ?_, ?_, ?_, ?_, ?_, ?_⟩ (by simp only; omega)
              all_goals (try simp only)
              all_goals (try rw [hDn])
              all_goals first
                | exact hRlen
                | exact nums8
                | exact ob8
                | exact rI8
                | exact rE8
                | exact rF8
                | exact hsepF
          · refine spF (by omega) ?_
            have ob := obC
            have nums := numsC
            have rI := rIC
            have rE := rEC
            have rF := rFC
            have c5 := cC
            have K5 := hK c5
            have hdd : nextC sets (((ps : Nat) : Int), ((pw : Nat) : Int)) = (pw : Nat) := by unfold nextC; rw [hhas, if_neg (by simp)]
            have hddr := nextC_range (sets := sets) (p := (((ps : Nat) : Int), ((pw : Nat) : Int))) ⟨q3, q4⟩
            rewrite [hdd] at hddr
            have hfl : F ++ (if finC sets (((ps : Nat) : Int), ((pw : Nat) : Int)) = true then [(i : Int)] else []) = F := by
              rw [show finC sets (((ps : Nat) : Int), ((pw : Nat) : Int)) = false from decide_eq_false (by rw [hhas]; simp [hk0])]
              simp
            -- behind the tests: the edges from the state
            refine ld agree (Own.at_ (xs := [.func (.func 111) #[] #[pt lb 0]]) (o := 2) (K5.own mb id) rfl) (by rfl) ?_
            refine ld agree (Own.at_ (xs := [.int .i64 (ps : Nat)]) (o := 0) mp rfl) (by rfl) ?_
            have hby := by1_c (hF.kp (k1.trans K5)) hpsn
            have hobt_ : ∃ l, l = fromS es (ps : Int) := ⟨_, rfl⟩
            obtain ⟨l, hl⟩ := hobt_
            rewrite [← hl] at hby
            refine cl callBy1 hby ?_
            rintro r0 w7 ⟨k7, hER0⟩
            have hER := edges_kp hER0 k7 (Nat.le_refl _) (Nat.le_refl _)
            obtain ⟨ra, rc, hr0, hrc, hre⟩ := hER
            subst hr0
            have hll : l.length ≤ es.length := by rw [hl]; unfold fromS; exact List.length_filter_le _ _
            have hlm : ∀ e ∈ l, e ∈ es := fun e he => by rewrite [hl] at he; exact (List.mem_filter.1 he).1
            have c7 := c5.newT k7 fun _ hf => hf.elim
            have nums7 := nums.chg k7 id id fun _ _ => id
            have ob7 := k7.own ob id
            have rI7 := ownsRow_chg rI k7 fun _ _ => id
            have rE7 := ownsRow_chg rE k7 fun _ _ => id
            have rF7 := ownsRow_chg rF k7 fun _ _ => id
            refine loop agree (σ := Nat × Value × Value) (fun t => [(1, pt b1 0), (2, pt b2 0), (4, .int .i64 sets.length), (5, pt b5 0), (6, pt b6 0), (7, .func (.func 113) #[] #[pt b1 0]), (10, .int .i64 i), (12, .int .i64 (pw : Nat)), (103, .slice ra l.length rc), (104, .int .i64 l.length), (105, .int .i64 t.1)])
              (fun t V => t.1 ≤ l.length ∧ Chg T6 w6 V ∧ w7.heap.size ≤ V.heap.size ∧ NumV V w6.heap.size b5 m5 t.2.1 (rowE1 i (pw : Nat) (L, E) (l.take t.1)).1 ∧ Own V b6 31 [pv', .int .i64 0, vI, t.2.2, vF] ∧ V.ownsRow w6.heap.size 3 1 vI I.length (I.flatMap fN1) ∧ V.ownsRow w6.heap.size 52 4 t.2.2 (rowE1 i (pw : Nat) (L, E) (l.take t.1)).2.length ((rowE1 i (pw : Nat) (L, E) (l.take t.1)).2.flatMap Edge.cells) ∧ V.ownsRow w6.heap.size 3 1 vF (F).length ((F).flatMap fN1)) (fun t => l.length - t.1) (0, vN, vE)
              ⟨rfl, rfl, rfl, rfl, rfl, rfl, rfl, rfl, by rfl, rfl, rfl, trivial⟩ ⟨by simp only; omega, c7, Nat.le_refl _, nums7, ob7, rI7, rE7, rF7⟩ ?_
            rintro ⟨j, xN, xE⟩ e2 w8 ⟨hj, c8, z8, nums8, ob8, rI8, rE8, rF8⟩
            simp only at hj nums8 ob8 rE8
            have hobt_ : ∃ R, R = rowE1 i (pw : Nat) (L, E) (l.take j) := ⟨_, rfl⟩
            obtain ⟨R, hR⟩ := hobt_
            rewrite [← hR] at nums8 rE8
            refine sp (fun hlt => ?_) (fun hge => ?_)
            · have hj' : j < l.length := by simp only at hlt; omega
              have hxj : l[j]? = some l[j] := by simp
              have hobt_ : ∃ e, e = l[j] := ⟨_, rfl⟩
              obtain ⟨e, he⟩ := hobt_
              rewrite [← he] at hxj
              have hem := hlm e (List.mem_of_getElem? hxj)
              have heto := hto e hem
              have hobt_ := hre j e hxj
              obtain ⟨q, o, rfl, hq1, hq2, cs, -, hrd, rfl, -⟩ := hobt_
              have hsnoc : rowE1 i (pw : Nat) (L, E) (l.take (j + 1)) = oneE i (pw : Nat) R e := by
                rw [List.take_succ_eq_append_getElem hj', rowE1_snoc, ← hR, he]
              have hok := rowE1_box (n := n) (k := max sets.length 1) (i := i) hddr (l.take j) (L, E) (fun x hx => hto x (hlm x (List.mem_of_mem_take hx))) hDok.nd hDok.box
              rewrite [← hR] at hok
              have hRl := box_length hok.1 hok.2.1
              have hRE : R.2.length ≤ 65536 * 1000000 + 1000000 := by
                have h3 := hok.2.2
                simp only [List.length_take] at h3
                omega
              have hpI : I64 e.to ∧ I64 (e.to, ((pw : Nat) : Int)).2 := ⟨⟨by omega, by omega⟩, ⟨by show _ ≤ ((pw : Nat) : Int); omega, by show ((pw : Nat) : Int) ≤ _; omega⟩⟩
              refine ne ⟨by simp only; omega, by simp only; omega⟩ ?_
              have kw8 : ∀ g, g < w.heap.size → w8.heap[g]? = w7.heap[g]? := fun g hg => by
                rw [c8.block g (by omega) (by rw [T6i]; omega), c7.block g (by omega) (by rw [T6i]; omega)]
              refine ld agree (v := e.val) (by rw [Int.toNat_natCast]; exact range_of hrd (kw8 q (by omega))) (by rfl) ?_
              refine nd fun b14 w9 e9 z9 k9 m14 => ?_
              refine st agree (cs := [.int .i64 0, .int .i64 0, .int .u16 0, .int .u16 0]) m14 rfl (Nat.le_refl 4) rfl ?_
              intro w10 z10 k10 m14
              have m14 : Own w10 b14 52 e.cells := m14
              have k810 : Kp w8 w10 := k9.new e9 k10
              have nums10 := nums8.chg k810 id id fun _ _ => id
              have ob10 := k810.own ob8 id
              have rI10 := ownsRow_chg rI8 k810 fun _ _ => id
              have rE10 := ownsRow_chg rE8 k810 fun _ _ => id
              have rF10 := ownsRow_chg rF8 k810 fun _ _ => id
              have hsep := rows_sep nums10.row rE10 (by decide)
              have hm5 := nums10.map.h
              obtain ⟨es5, clk5, hm5, -⟩ := hm5
              have hbE : ∀ {b t cs}, Own w10 b t cs → t ≠ 52 → some b ≠ xE.ownBlock := fun {b t cs} ho ht he => ownsRow_ne rE10 ho (fun cs fr hh => by injection hh with _ h2; exact ht h2) he.symm
              have hmE : some m5 ≠ xE.ownBlock := fun he => ownsRow_ne rE10 hm5 (fun cs fr hh => by cases hh) he.symm
              have hltE8 : ∀ g, xE.ownBlock = some g → g < w8.heap.size := fun g hg => (rE8.lt g hg).2
              have hltN8 : ∀ g, xN.ownBlock = some g → g < w8.heap.size := fun g hg => (nums8.row.lt g hg).2
              have hlt14 : w8.heap.size = b14 := e9
              have hbN : ∀ {b t cs}, Own w10 b t cs → t ≠ 152 → some b ≠ xN.ownBlock := fun {b t cs} ho ht he => ownsRow_ne nums10.row ho (fun cs fr hh => by injection hh with _ h2; exact ht h2) he.symm
              have hobt_ : ∃ TT : Nat → Prop, TT = fun g => g = b5 ∨ g = m5 ∨ some g = xN.ownBlock := ⟨_, rfl⟩
              obtain ⟨TT, hTT⟩ := hobt_
              have h5lt := nums10.hdr.lt
              have hm5lt := nums10.map.lt
              have h5m : b5 ≠ m5 := nums10.map.ne nums10.hdr
              have h6m : b6 ≠ m5 := nums10.map.ne ob10
              have h56 : b5 ≠ b6 := own_ne nums10.hdr ob10 (by decide)
              have hbears := CAppR.bears (T := TT) (w0 := w10) (v := xE) (k := R.2.length * 4) (news := Edge.cells ⟨i, (numOf R.1 (e.to, ((pw : Nat) : Int)) : Nat), e.must, e.no⟩) (fun g hg => (rE10.lt g hg).2) (fun g hg => by
                  rewrite [hTT] at hg
                  rcases hg with rfl | rfl | hg
                  · exact h5lt
                  · exact hm5lt
                  · exact (nums10.row.lt g hg.symm).2) (fun g hg => by
                  rewrite [hTT] at hg
                  rcases hg with rfl | rfl | hg
                  · exact fun he => hbE nums10.hdr (by decide) he.symm
                  · exact fun he => hmE he.symm
                  · exact fun he => hsep g hg.symm he)
              have hst6 : ∀ {W}, CAppR TT w10 xE (R.2.length * 4) (Edge.cells ⟨i, (numOf R.1 (e.to, ((pw : Nat) : Int)) : Nat), e.must, e.no⟩) w10 W → ∀ {b t cs}, Own w10 b t cs → t ≠ 52 → t ≠ 152 → b ≠ b5 → b ≠ m5 → Own W b t cs := fun {W} hS {b t cs} ho h1 h2 h3 h4 => hS.chg.own ho fun hT => by
                  rewrite [hTT] at hT
                  rcases hT with (rfl | rfl | hT) | hT
                  · exact h3 rfl
                  · exact h4 rfl
                  · exact hbN ho h2 hT
                  · exact hbE ho h1 hT
              have hst14 : ∀ {W}, CAppR TT w10 xE (R.2.length * 4) (Edge.cells ⟨i, (numOf R.1 (e.to, ((pw : Nat) : Int)) : Nat), e.must, e.no⟩) w10 W → Own W b14 52 e.cells := fun {W} hS => hS.chg.own m14 fun hT => by
                  rewrite [hTT] at hT
                  rcases hT with (rfl | rfl | hT) | hT
                  · have := nums8.hdr.lt; omega
                  · have := nums8.map.lt; omega
                  · have := hltN8 _ hT.symm; omega
                  · have := hltE8 _ hT.symm; omega
              refine drawnW agree mixed 17 [3, 4, 5, 6, 7, 8, 0, 1, 2, 9, 10, 11, 12, 13, 14, 15, 16] (by kernel_rfl) (CAppR TT w10 xE (R.2.length * 4) (Edge.cells ⟨i, (numOf R.1 (e.to, ((pw : Nat) : Int)) : Nat), e.must, e.no⟩)) (preCAppR _ _ _ _ _) (fun W => W.heap.size = w10.heap.size ∧ Kp w10 W) 8 ⟨rfl, (Chg.refl _ _).drew⟩ ?_
              conv => whnf
              refine ldu (preCAppR _ _ _ _ _) agree rfl rfl (fun W h _ _ => Own.at_ (xs := [.int .i64 e.to]) (o := 1) (hst14 h) rfl) (by rfl) fun _ => ?_
              conv => whnf
              refine callu (τ := Value) (hne := ⟨undef⟩) (.int .i64 (numOf R.1 (e.to, ((pw : Nat) : Int)) : Nat)) (fun v' W => NumV W w6.heap.size b5 m5 v' (numL R.1 (e.to, ((pw : Nat) : Int))) ∧ (∀ g, v'.ownBlock = some g → xN.ownBlock = some g ∨ w10.heap.size ≤ g) ∧ w10.heap.size < W.heap.size) rfl rfl rfl (fun v' W W' hFv hS => ?_) callNOf (fun W hS _ hU => ?_) fun v' D hD => ?_
              · obtain ⟨f1, f2, f3⟩ := hFv
                have honce := hS.once.resolve_right (by omega)
                have hnE : ∀ g, v'.ownBlock = some g → xE.ownBlock ≠ some g := fun g hg he => by
                  rcases f2 g hg with h1 | h1
                  · exact hsep g h1 he
                  · have := (rE10.lt g he).2; omega
                refine ⟨⟨?_, ?_, ?_, Nat.le_trans f1.base hS.chg.size, f1.nd⟩, f2, by have := hS.chg.size; omega⟩
                · exact (honce b5 (by rw [hTT]; exact .inl rfl) f1.hdr.lt).trans f1.hdr
                · exact mapE_same f1.map (honce m5 (by rw [hTT]; exact .inr (.inl rfl)) f1.map.lt)
                · refine ownsRow_same f1.row fun g hg => ?_
                  rcases f2 g hg with h1 | h1
                  · exact honce g (by rw [hTT]; exact .inr (.inr h1.symm)) (f1.row.lt g hg).2
                  · exact hS.chg.block g (f1.row.lt g hg).2 fun hT => by
                      rewrite [hTT] at hT
                      rcases hT with (rfl | rfl | hT) | hT
                      · omega
                      · omega
                      · have := (nums10.row.lt g hT.symm).2; omega
                      · have := (rE10.lt g hT.symm).2; omega
              · obtain ⟨hU1, hU2⟩ := hU
                refine (nof_c (nums10.chg hU2 id id fun _ _ => id) (p := (e.to, ((pw : Nat) : Int))) hpI.1 hpI.2 (by omega)).mono fun en W' hr => ?_
                cases en with
                | returned v =>
                  obtain ⟨rfl, v', hn', hc', hg', hs'⟩ := hr
                  refine ⟨rfl, ⟨hc'.mono fun g hg => .inl (by rw [hTT]; exact hg), fun g hg hl => .inl (hc'.block g hl fun hT => ?_), .inr (by omega)⟩, v', hn', fun g hg => (hg' g hg).imp id fun h => by omega, by omega⟩
                  rcases hT with rfl | rfl | hT
                  · exact hbE nums10.hdr (by decide) hg.symm
                  · exact hmE hg.symm
                  · exact hsep g hT.symm hg
                | _ => exact hr.elim
              conv => whnf
              refine ldu (preCAppR _ _ _ _ _) agree rfl rfl (fun W h _ _ => Own.at_ (xs := [xE]) (o := 3) (hst6 h ob10 (by decide) (by decide) (Ne.symm h56) h6m) rfl) (by rfl) fun _ => ?_
              conv => whnf
              refine ldu (preCAppR _ _ _ _ _) agree rfl rfl (fun W h _ _ => Own.at_ (xs := [.int .u16 e.must]) (o := 2) (hst14 h) rfl) (by rfl) fun _ => ?_
              conv => whnf
              refine ldu (preCAppR _ _ _ _ _) agree rfl rfl (fun W h _ _ => Own.at_ (xs := [.int .u16 e.no]) (o := 3) (hst14 h) rfl) (by rfl) fun _ => ?_
              conv => whnf
              refine ⟨fun W hS hDn hU => ?_, ?_⟩
              · have := (hD W (hDn 8 (by kernel_rfl))).2.2
                omega
              refine bsr (preCAppR _ _ _ _ _) rfl rfl rfl rfl rfl (by decide) (fun b o W W' hb ho hS => hbears.new W W' b o hS hb ho) (fun W hS => hbears.size _ _ hS) fun q2 D2 hD2 => ?_
              conv => whnf
              refine ⟨fun W hS hDn hU => ?_, ?_⟩
              · have := (hD W (hDn 8 (by kernel_rfl))).2.2
                omega
              refine aprS (m := 1) (news := Edge.cells ⟨i, (numOf R.1 (e.to, ((pw : Nat) : Int)) : Nat), e.must, e.no⟩) agree hbears rfl rfl rfl rfl rfl rfl rfl (by decide) rE10 rfl (fun W hS hDn => Own.at_ (xs := Edge.cells ⟨i, (numOf R.1 (e.to, ((pw : Nat) : Int)) : Nat), e.must, e.no⟩) (o := 0) (hD2 W (hDn 14 (by kernel_rfl))).1 rfl) rfl (by simp only [maxLen]; omega) (by show (_ + 1) * 24 ≤ _; omega) (by have := c8.size; have := k810.size; omega) fun xE' D3 hD3 => ?_
              conv => whnf
              intro w11 hS11 hd11
              have hN11 := hD w11 (hd11 8)
              have hE11 := hD3 w11 (hd11 15)
              obtain ⟨nums11, hnew11, hsz11⟩ := hN11
              obtain ⟨rE11, hnewE⟩ := hE11
              have hfE := ownsRow_form rE11
              obtain ⟨ea', ec', rfl⟩ := hfE
              have ob11 := hst6 hS11 ob10 (by decide) (by decide) (Ne.symm h56) h6m
              have hI11 : ∀ g, vI.ownBlock = some g → ¬ (TT g ∨ some g = xE.ownBlock) := fun g hg hT => by
                rewrite [hTT] at hT
                rcases hT with (rfl | rfl | hT) | hT
                · exact ownsRow_ne rI10 nums10.hdr (fun cs fr hh => by injection hh with _ h2; exact absurd h2 (by decide)) hg
                · exact ownsRow_ne rI10 hm5 (fun cs fr hh => by cases hh) hg
                · exact rows_sep nums10.row rI10 (by decide) g hT.symm hg
                · exact rows_sep rE10 rI10 (by decide) g hT.symm hg
              have hF11 : ∀ g, (vF).ownBlock = some g → ¬ (TT g ∨ some g = xE.ownBlock) := fun g hg hT => by
                rewrite [hTT] at hT
                rcases hT with (rfl | rfl | hT) | hT
                · exact ownsRow_ne rF10 nums10.hdr (fun cs fr hh => by injection hh with _ h2; exact absurd h2 (by decide)) hg
                · exact ownsRow_ne rF10 hm5 (fun cs fr hh => by cases hh) hg
                · exact rows_sep nums10.row rF10 (by decide) g hT.symm hg
                · exact rows_sep rE10 rF10 (by decide) g hT.symm hg
              have rI11 := ownsRow_chg rI10 hS11.chg hI11
              have rF11 := ownsRow_chg rF10 hS11.chg hF11
              refine st agree ob11 rfl (show 4 ≤ 5 by decide) rfl ?_
              intro w12 z12 c12 ob12
              have ob12 : Own w12 b6 31 [pv', .int .i64 0, vI, .slice ea' (R.2.length + 1) ec', vF] := ob12
              have hb6N : b6 ≠ b5 := Ne.symm h56
              have n6 : ∀ {el size v n xs}, w11.ownsRow w6.heap.size el size v n xs → ∀ g, v.ownBlock = some g → ¬ g = b6 := fun h g hg he => by
                have := ownsRow_base h hg
                have := hb6lt
                omega
              have nums12 := nums11.chg c12 h56 (Ne.symm h6m) (n6 nums11.row)
              have rI12 := ownsRow_chg rI11 c12 (n6 rI11)
              have rE12 := ownsRow_chg rE11 c12 (n6 rE11)
              have rF12 := ownsRow_chg rF11 c12 (n6 rF11)
              refine ld agree (Own.at_ (xs := [.bool false]) (o := 2) nums12.hdr rfl) (by rfl) ?_
              refine aw (by simp only; omega) (by simp only; omega) ?_
              refine again (j + 1, v', .slice ea' (R.2.length + 1) ec') ⟨rfl, rfl, rfl, rfl, rfl, rfl, rfl, rfl, rfl, rfl, rfl, trivial⟩ ⟨by simp only; omega, ?_, ?_, ?_, ob12, rI12, ?_, rF12⟩ (by simp only; omega)
              · refine ((c8.newT k810 fun _ hf => hf.elim).newT hS11.chg fun g hg => ?_).newT c12 fun g hg => .inl ((T6i _).2 (.inr (.inr hg)))
                rewrite [hTT] at hg
                rcases hg with (rfl | rfl | hg) | hg
                · exact .inl ((T6i _).2 (.inl rfl))
                · exact .inl ((T6i _).2 (.inr (.inl rfl)))
                · exact .inr (ownsRow_base nums10.row hg.symm)
                · exact .inr (ownsRow_base rE10 hg.symm)
              · have := k810.size; have := hS11.chg.size; have := c12.size; omega
              · simp only
                rw [hsnoc]
                exact nums12
              · simp only
                rw [hsnoc]
                show w12.ownsRow w6.heap.size 52 4 _ (R.2 ++ [_]).length ((R.2 ++ [_]).flatMap Edge.cells)
                rw [List.length_append, List.flatMap_append]
                exact rE12
            · have hje : j = l.length := by simp only at hge; omega
              subst hje
              rewrite [List.take_length] at hR
              have hDn : degS sets (fromS es) (L0, [], []) (i + 1) = (R.1, R.2, F) := by
                show oneS sets (fromS es) i (degS sets (fromS es) (L0, [], []) i) = _
                rw [← hDi]
                unfold oneS
                rw [hpi]
                simp only
                rw [hdd, ← hl, ← hR, hfl]
              have hle := numL_len
              have hRlen : i + 1 ≤ R.1.length := by
                have h1 := rowE1_grow i (pw : Nat) l (L, E)
                rewrite [← hR] at h1
                have h2 := (List.getElem?_eq_some_iff.1 hpi).1
                simp only at h1
                omega
              have hRb : R.1.length ≤ n * max sets.length 1 := by
                have h1 := degS_ok hto' hok0 (i + 1)
                rewrite [hDn] at h1
                exact box_length h1.nd h1.box
              refine aw (by omega) (by omega) ?_
              refine again (i + 1, xN, xE, vF) ⟨rfl, rfl, rfl, rfl, rfl, rfl, rfl, trivial⟩ ⟨?_, c8, ?_, ?_, ?_, ?_, ?_, ?_⟩ (by simp only; omega)
              all_goals (try simp only)
              all_goals (try rw [hDn])
              all_goals first
                | exact hRlen
                | exact nums8
                | exact ob8
                | exact rI8
                | exact rE8
                | exact rF8
                | exact hsepF
        | true =>
          have hh := hasD_c (mach.kp (hK cC)) hsort (c := pw) (s := ps) (by omega)
          rewrite [hhas] at hh
          refine cl callHasD hh ?_
          rintro _ wh ⟨rfl, kh⟩
          have cC := cC.newT kh fun _ hf => hf.elim
          have numsC := numsC.chg kh id id fun _ _ => id
          have obC := kh.own obC id
          have rIC := ownsRow_chg rIC kh fun _ _ => id
          have rEC := ownsRow_chg rEC kh fun _ _ => id
          have rFC := ownsRow_chg rFC kh fun _ _ => id
          have mp := kh.own mp id
          refine ld agree (Own.at_ (xs := [.int .i64 (pw : Nat)]) (o := 1) mp rfl) (by rfl) ?_
          refine arX (show _ = ((pw + 1 : Nat) : Int) by exact wrap64 (by omega) (by omega)) ?_
          refine ne (by omega) ?_
          refine arX (show _ = (((pw + 1) % sets.length : Nat) : Int) by rw [Int.tmod_eq_emod_of_nonneg (by omega)]; rfl) ?_
          refine spF (by omega) ?_
          refine ld agree (Own.at_ (xs := [.int .i64 (pw : Nat)]) (o := 1) mp rfl) (by rfl) ?_
          refine arX (show _ = ((sets.length - 1 : Nat) : Int) by rw [show ((sets.length : Int) - 1) = ((sets.length - 1 : Nat) : Int) by omega]; exact wrap64 (by omega) (by omega)) ?_
          by_cases hlast : pw = sets.length - 1
          · refine spT (by omega) ?_
            refine ld agree (Own.at_ (xs := [.int .i64 (pw : Nat)]) (o := 1) mp rfl) (by rfl) ?_
            refine ld agree (Own.at_ (xs := [.int .i64 (ps : Nat)]) (o := 0) mp rfl) (by rfl) ?_
            have hh := hasD_c (mach.kp (hK cC)) hsort (c := pw) (s := ps) (by omega)
            rewrite [hhas] at hh
            refine cl callHasD hh ?_
            rintro _ wh ⟨rfl, kh⟩
            have cC := cC.newT kh fun _ hf => hf.elim
            have numsC := numsC.chg kh id id fun _ _ => id
            have obC := kh.own obC id
            have rIC := ownsRow_chg rIC kh fun _ _ => id
            have rEC := ownsRow_chg rEC kh fun _ _ => id
            have rFC := ownsRow_chg rFC kh fun _ _ => id
            have mp := kh.own mp id
            refine ld agree (Own.at_ (xs := [vF]) (o := 4) obC rfl) (by rfl) ?_
            refine ne (by decide) ?_
            refine nd fun bq wE eE zE kE mq => ?_
            have mq : Own wE bq 3 [.int .i64 (i : Nat)] := mq
            have cC := cC.newT kE fun _ hf => hf.elim
            have numsC := numsC.chg kE id id fun _ _ => id
            have obC := kE.own obC id
            have rIC := ownsRow_chg rIC kE fun _ _ => id
            have rEC := ownsRow_chg rEC kE fun _ _ => id
            have rFC := ownsRow_chg rFC kE fun _ _ => id
            have mp := kE.own mp id
            refine apL (m := 1) (news := [.int .i64 (i : Nat)]) agree rfl rfl rfl rfl rfl rfl rfl (by decide) rFC rfl (Own.at_ (xs := [.int .i64 (i : Nat)]) (o := 0) mq rfl) rfl (by simp only [maxLen]; omega) (by show (_ + 1) * 8 ≤ _; omega) cC.size fun vF' wG rFG cG hnewF => ?_
            have hff := ownsRow_form rFG
            obtain ⟨fa, fc, rfl⟩ := hff
            have hGF : ∀ {b t cs}, Own wE b t cs → t ≠ 3 → ¬ some b = vF.ownBlock := fun {b t cs} ho ht he => ownsRow_ne rFC ho (fun cs fr hh => by injection hh with _ h2; exact ht h2) he.symm
            have hobt_ := id numsC.map.h
            obtain ⟨esG, clkG, hmG, -⟩ := hobt_
            have obG := cG.own obC (hGF obC (by decide))
            have mpG := cG.own mp (hGF mp (by decide))
            have numsG := numsC.chg cG (hGF numsC.hdr (by decide)) (fun he => ownsRow_ne rFC hmG (fun cs fr hh => by cases hh) he.symm) (fun g hg he => rows_sep numsC.row rFC (by decide) g hg he.symm)
            have rIG := ownsRow_chg rIC cG fun g hg he => hsepF g hg he.symm
            have rEG := ownsRow_chg rEC cG fun g hg he => rows_sep rEC rFC (by decide) g hg he.symm
            refine st agree obG rfl (show 5 ≤ 5 by decide) rfl ?_
            intro wH zH cH obH
            have hobt_ : ∃ vF2, vF2 = Value.slice fa (F.length + 1) fc := ⟨_, rfl⟩
            obtain ⟨vF2, hvF2⟩ := hobt_
            rewrite [← hvF2] at rFG hnewF
            have obH : Own wH b6 31 [pv', .int .i64 0, vI, vE, .slice fa (F.length + 1) fc] := obH
            rewrite [← hvF2] at obH
            have ob := obH
            have n6 : ∀ {el size v n xs}, wG.ownsRow w6.heap.size el size v n xs → ∀ g, v.ownBlock = some g → ¬ g = b6 := fun h g hg he => by
              have := ownsRow_base h hg
              omega
            have h6m : b6 ≠ m5 := numsG.map.ne obG
            have h56 : b5 ≠ b6 := own_ne numsG.hdr obG (by decide)
            have nums := numsG.chg cH h56 (Ne.symm h6m) (n6 numsG.row)
            have rI := ownsRow_chg rIG cH (n6 rIG)
            have rE := ownsRow_chg rEG cH (n6 rEG)
            have rF0 := ownsRow_chg rFG cH (n6 rFG)
            have rF : wH.ownsRow w6.heap.size 3 1 vF2 (F ++ [(i : Int)]).length ((F ++ [(i : Int)]).flatMap fN1) := by
              rw [List.length_append, List.flatMap_append]
              exact rF0
            have mp := cH.own mpG (fun he => by subst he; exact own_ne mpG obG (by decide) rfl)
            have c5 := (cC.newT cG fun g hg => .inr (ownsRow_base rFC hg.symm)).newT cH fun g hg => .inl (by rw [T6i]; exact .inr (.inr hg))
            have K5 := hK c5
            have hsepF : ∀ g, vI.ownBlock = some g → vF2.ownBlock ≠ some g := fun g hg he => by
              rcases hnewF g he with h1 | h1
              · exact hsepF g hg h1
              · have := (rIC.lt g hg).2; omega
            have hdd : nextC sets (((ps : Nat) : Int), ((pw : Nat) : Int)) = (((pw + 1) % sets.length : Nat) : Int) := by unfold nextC; rw [if_pos ⟨hk0, hhas⟩]; rfl
            have hddr := nextC_range (sets := sets) (p := (((ps : Nat) : Int), ((pw : Nat) : Int))) ⟨q3, q4⟩
            rewrite [hdd] at hddr
            have hfl : F ++ (if finC sets (((ps : Nat) : Int), ((pw : Nat) : Int)) = true then [(i : Int)] else []) = F ++ [(i : Int)] := by
              rw [show finC sets (((ps : Nat) : Int), ((pw : Nat) : Int)) = true from decide_eq_true (.inr ⟨by show ((pw : Nat) : Int) + 1 = _; omega, hhas⟩)]
              simp
            -- behind the tests: the edges from the state
            refine ld agree (Own.at_ (xs := [.func (.func 111) #[] #[pt lb 0]]) (o := 2) (K5.own mb id) rfl) (by rfl) ?_
            refine ld agree (Own.at_ (xs := [.int .i64 (ps : Nat)]) (o := 0) mp rfl) (by rfl) ?_
            have hby := by1_c (hF.kp (k1.trans K5)) hpsn
            have hobt_ : ∃ l, l = fromS es (ps : Int) := ⟨_, rfl⟩
            obtain ⟨l, hl⟩ := hobt_
            rewrite [← hl] at hby
            refine cl callBy1 hby ?_
            rintro r0 w7 ⟨k7, hER0⟩
            have hER := edges_kp hER0 k7 (Nat.le_refl _) (Nat.le_refl _)
            obtain ⟨ra, rc, hr0, hrc, hre⟩ := hER
            subst hr0
            have hll : l.length ≤ es.length := by rw [hl]; unfold fromS; exact List.length_filter_le _ _
            have hlm : ∀ e ∈ l, e ∈ es := fun e he => by rewrite [hl] at he; exact (List.mem_filter.1 he).1
            have c7 := c5.newT k7 fun _ hf => hf.elim
            have nums7 := nums.chg k7 id id fun _ _ => id
            have ob7 := k7.own ob id
            have rI7 := ownsRow_chg rI k7 fun _ _ => id
            have rE7 := ownsRow_chg rE k7 fun _ _ => id
            have rF7 := ownsRow_chg rF k7 fun _ _ => id
            refine loop agree (σ := Nat × Value × Value) (fun t => [(1, pt b1 0), (2, pt b2 0), (4, .int .i64 sets.length), (5, pt b5 0), (6, pt b6 0), (7, .func (.func 113) #[] #[pt b1 0]), (10, .int .i64 i), (12, .int .i64 (((pw + 1) % sets.length : Nat) : Int)), (103, .slice ra l.length rc), (104, .int .i64 l.length), (105, .int .i64 t.1)])
              (fun t V => t.1 ≤ l.length ∧ Chg T6 w6 V ∧ w7.heap.size ≤ V.heap.size ∧ NumV V w6.heap.size b5 m5 t.2.1 (rowE1 i (((pw + 1) % sets.length : Nat) : Int) (L, E) (l.take t.1)).1 ∧ Own V b6 31 [pv', .int .i64 0, vI, t.2.2, vF2] ∧ V.ownsRow w6.heap.size 3 1 vI I.length (I.flatMap fN1) ∧ V.ownsRow w6.heap.size 52 4 t.2.2 (rowE1 i (((pw + 1) % sets.length : Nat) : Int) (L, E) (l.take t.1)).2.length ((rowE1 i (((pw + 1) % sets.length : Nat) : Int) (L, E) (l.take t.1)).2.flatMap Edge.cells) ∧ V.ownsRow w6.heap.size 3 1 vF2 (F ++ [(i : Int)]).length ((F ++ [(i : Int)]).flatMap fN1)) (fun t => l.length - t.1) (0, vN, vE)
              ⟨rfl, rfl, rfl, rfl, rfl, rfl, rfl, rfl, by rfl, rfl, rfl, trivial⟩ ⟨by simp only; omega, c7, Nat.le_refl _, nums7, ob7, rI7, rE7, rF7⟩ ?_
            rintro ⟨j, xN, xE⟩ e2 w8 ⟨hj, c8, z8, nums8, ob8, rI8, rE8, rF8⟩
            simp only at hj nums8 ob8 rE8
            have hobt_ : ∃ R, R = rowE1 i (((pw + 1) % sets.length : Nat) : Int) (L, E) (l.take j) := ⟨_, rfl⟩
            obtain ⟨R, hR⟩ := hobt_
            rewrite [← hR] at nums8 rE8
            refine sp (fun hlt => ?_) (fun hge => ?_)
            · have hj' : j < l.length := by simp only at hlt; omega
              have hxj : l[j]? = some l[j] := by simp
              have hobt_ : ∃ e, e = l[j] := ⟨_, rfl⟩
              obtain ⟨e, he⟩ := hobt_
              rewrite [← he] at hxj
              have hem := hlm e (List.mem_of_getElem? hxj)
              have heto := hto e hem
              have hobt_ := hre j e hxj
              obtain ⟨q, o, rfl, hq1, hq2, cs, -, hrd, rfl, -⟩ := hobt_
              have hsnoc : rowE1 i (((pw + 1) % sets.length : Nat) : Int) (L, E) (l.take (j + 1)) = oneE i (((pw + 1) % sets.length : Nat) : Int) R e := by
                rw [List.take_succ_eq_append_getElem hj', rowE1_snoc, ← hR, he]
              have hok := rowE1_box (n := n) (k := max sets.length 1) (i := i) hddr (l.take j) (L, E) (fun x hx => hto x (hlm x (List.mem_of_mem_take hx))) hDok.nd hDok.box
              rewrite [← hR] at hok
              have hRl := box_length hok.1 hok.2.1
              have hRE : R.2.length ≤ 65536 * 1000000 + 1000000 := by
                have h3 := hok.2.2
                simp only [List.length_take] at h3
                omega
              have hpI : I64 e.to ∧ I64 (e.to, ((((pw + 1) % sets.length : Nat) : Int) : Int)).2 := ⟨⟨by omega, by omega⟩, ⟨by show _ ≤ ((((pw + 1) % sets.length : Nat) : Int) : Int); omega, by show ((((pw + 1) % sets.length : Nat) : Int) : Int) ≤ _; omega⟩⟩
              refine ne ⟨by simp only; omega, by simp only; omega⟩ ?_
              have kw8 : ∀ g, g < w.heap.size → w8.heap[g]? = w7.heap[g]? := fun g hg => by
                rw [c8.block g (by omega) (by rw [T6i]; omega), c7.block g (by omega) (by rw [T6i]; omega)]
              refine ld agree (v := e.val) (by rw [Int.toNat_natCast]; exact range_of hrd (kw8 q (by omega))) (by rfl) ?_
              refine nd fun b14 w9 e9 z9 k9 m14 => ?_
              refine st agree (cs := [.int .i64 0, .int .i64 0, .int .u16 0, .int .u16 0]) m14 rfl (Nat.le_refl 4) rfl ?_
              intro w10 z10 k10 m14
              have m14 : Own w10 b14 52 e.cells := m14
              have k810 : Kp w8 w10 := k9.new e9 k10
              have nums10 := nums8.chg k810 id id fun _ _ => id
              have ob10 := k810.own ob8 id
              have rI10 := ownsRow_chg rI8 k810 fun _ _ => id
              have rE10 := ownsRow_chg rE8 k810 fun _ _ => id
              have rF10 := ownsRow_chg rF8 k810 fun _ _ => id
              have hsep := rows_sep nums10.row rE10 (by decide)
              have hm5 := nums10.map.h
              obtain ⟨es5, clk5, hm5, -⟩ := hm5
              have hbE : ∀ {b t cs}, Own w10 b t cs → t ≠ 52 → some b ≠ xE.ownBlock := fun {b t cs} ho ht he => ownsRow_ne rE10 ho (fun cs fr hh => by injection hh with _ h2; exact ht h2) he.symm
              have hmE : some m5 ≠ xE.ownBlock := fun he => ownsRow_ne rE10 hm5 (fun cs fr hh => by cases hh) he.symm
              have hltE8 : ∀ g, xE.ownBlock = some g → g < w8.heap.size := fun g hg => (rE8.lt g hg).2
              have hltN8 : ∀ g, xN.ownBlock = some g → g < w8.heap.size := fun g hg => (nums8.row.lt g hg).2
              have hlt14 : w8.heap.size = b14 := e9
              have hbN : ∀ {b t cs}, Own w10 b t cs → t ≠ 152 → some b ≠ xN.ownBlock := fun {b t cs} ho ht he => ownsRow_ne nums10.row ho (fun cs fr hh => by injection hh with _ h2; exact ht h2) he.symm
              have hobt_ : ∃ TT : Nat → Prop, TT = fun g => g = b5 ∨ g = m5 ∨ some g = xN.ownBlock := ⟨_, rfl⟩
              obtain ⟨TT, hTT⟩ := hobt_
              have h5lt := nums10.hdr.lt
              have hm5lt := nums10.map.lt
              have h5m : b5 ≠ m5 := nums10.map.ne nums10.hdr
              have h6m : b6 ≠ m5 := nums10.map.ne ob10
              have h56 : b5 ≠ b6 := own_ne nums10.hdr ob10 (by decide)
              have hbears := CAppR.bears (T := TT) (w0 := w10) (v := xE) (k := R.2.length * 4) (news := Edge.cells ⟨i, (numOf R.1 (e.to, ((((pw + 1) % sets.length : Nat) : Int) : Int)) : Nat), e.must, e.no⟩) (fun g hg => (rE10.lt g hg).2) (fun g hg => by
                  rewrite [hTT] at hg
                  rcases hg with rfl | rfl | hg
                  · exact h5lt
                  · exact hm5lt
                  · exact (nums10.row.lt g hg.symm).2) (fun g hg => by
                  rewrite [hTT] at hg
                  rcases hg with rfl | rfl | hg
                  · exact fun he => hbE nums10.hdr (by decide) he.symm
                  · exact fun he => hmE he.symm
                  · exact fun he => hsep g hg.symm he)
              have hst6 : ∀ {W}, CAppR TT w10 xE (R.2.length * 4) (Edge.cells ⟨i, (numOf R.1 (e.to, ((((pw + 1) % sets.length : Nat) : Int) : Int)) : Nat), e.must, e.no⟩) w10 W → ∀ {b t cs}, Own w10 b t cs → t ≠ 52 → t ≠ 152 → b ≠ b5 → b ≠ m5 → Own W b t cs := fun {W} hS {b t cs} ho h1 h2 h3 h4 => hS.chg.own ho fun hT => by
                  rewrite [hTT] at hT
                  rcases hT with (rfl | rfl | hT) | hT
                  · exact h3 rfl
                  · exact h4 rfl
                  · exact hbN ho h2 hT
                  · exact hbE ho h1 hT
              have hst14 : ∀ {W}, CAppR TT w10 xE (R.2.length * 4) (Edge.cells ⟨i, (numOf R.1 (e.to, ((((pw + 1) % sets.length : Nat) : Int) : Int)) : Nat), e.must, e.no⟩) w10 W → Own W b14 52 e.cells := fun {W} hS => hS.chg.own m14 fun hT => by
                  rewrite [hTT] at hT
                  rcases hT with (rfl | rfl | hT) | hT
                  · have := nums8.hdr.lt; omega
                  · have := nums8.map.lt; omega
                  · have := hltN8 _ hT.symm; omega
                  · have := hltE8 _ hT.symm; omega
              refine drawnW agree mixed 17 [3, 4, 5, 6, 7, 8, 0, 1, 2, 9, 10, 11, 12, 13, 14, 15, 16] (by kernel_rfl) (CAppR TT w10 xE (R.2.length * 4) (Edge.cells ⟨i, (numOf R.1 (e.to, ((((pw + 1) % sets.length : Nat) : Int) : Int)) : Nat), e.must, e.no⟩)) (preCAppR _ _ _ _ _) (fun W => W.heap.size = w10.heap.size ∧ Kp w10 W) 8 ⟨rfl, (Chg.refl _ _).drew⟩ ?_
              conv => whnf
              refine ldu (preCAppR _ _ _ _ _) agree rfl rfl (fun W h _ _ => Own.at_ (xs := [.int .i64 e.to]) (o := 1) (hst14 h) rfl) (by rfl) fun _ => ?_
              conv => whnf
              refine callu (τ := Value) (hne := ⟨undef⟩) (.int .i64 (numOf R.1 (e.to, ((((pw + 1) % sets.length : Nat) : Int) : Int)) : Nat)) (fun v' W => NumV W w6.heap.size b5 m5 v' (numL R.1 (e.to, ((((pw + 1) % sets.length : Nat) : Int) : Int))) ∧ (∀ g, v'.ownBlock = some g → xN.ownBlock = some g ∨ w10.heap.size ≤ g) ∧ w10.heap.size < W.heap.size) rfl rfl rfl (fun v' W W' hFv hS => ?_) callNOf (fun W hS _ hU => ?_) fun v' D hD => ?_
              · obtain ⟨f1, f2, f3⟩ := hFv
                have honce := hS.once.resolve_right (by omega)
                have hnE : ∀ g, v'.ownBlock = some g → xE.ownBlock ≠ some g := fun g hg he => by
                  rcases f2 g hg with h1 | h1
                  · exact hsep g h1 he
                  · have := (rE10.lt g he).2; omega
                refine ⟨⟨?_, ?_, ?_, Nat.le_trans f1.base hS.chg.size, f1.nd⟩, f2, by have := hS.chg.size; omega⟩
                · exact (honce b5 (by rw [hTT]; exact .inl rfl) f1.hdr.lt).trans f1.hdr
                · exact mapE_same f1.map (honce m5 (by rw [hTT]; exact .inr (.inl rfl)) f1.map.lt)
                · refine ownsRow_same f1.row fun g hg => ?_
                  rcases f2 g hg with h1 | h1
                  · exact honce g (by rw [hTT]; exact .inr (.inr h1.symm)) (f1.row.lt g hg).2
                  · exact hS.chg.block g (f1.row.lt g hg).2 fun hT => by
                      rewrite [hTT] at hT
                      rcases hT with (rfl | rfl | hT) | hT
                      · omega
                      · omega
                      · have := (nums10.row.lt g hT.symm).2; omega
                      · have := (rE10.lt g hT.symm).2; omega
              · obtain ⟨hU1, hU2⟩ := hU
                refine (nof_c (nums10.chg hU2 id id fun _ _ => id) (p := (e.to, ((((pw + 1) % sets.length : Nat) : Int) : Int))) hpI.1 hpI.2 (by omega)).mono fun en W' hr => ?_
                cases en with
                | returned v =>
                  obtain ⟨rfl, v', hn', hc', hg', hs'⟩ := hr
                  refine ⟨rfl, ⟨hc'.mono fun g hg => .inl (by rw [hTT]; exact hg), fun g hg hl => .inl (hc'.block g hl fun hT => ?_), .inr (by omega)⟩, v', hn', fun g hg => (hg' g hg).imp id fun h => by omega, by omega⟩
                  rcases hT with rfl | rfl | hT
                  · exact hbE nums10.hdr (by decide) hg.symm
                  · exact hmE hg.symm
                  · exact hsep g hT.symm hg
                | _ => exact hr.elim
              conv => whnf
              refine ldu (preCAppR _ _ _ _ _) agree rfl rfl (fun W h _ _ => Own.at_ (xs := [xE]) (o := 3) (hst6 h ob10 (by decide) (by decide) (Ne.symm h56) h6m) rfl) (by rfl) fun _ => ?_
              conv => whnf
              refine ldu (preCAppR _ _ _ _ _) agree rfl rfl (fun W h _ _ => Own.at_ (xs := [.int .u16 e.must]) (o := 2) (hst14 h) rfl) (by rfl) fun _ => ?_
              conv => whnf
              refine ldu (preCAppR _ _ _ _ _) agree rfl rfl (fun W h _ _ => Own.at_ (xs := [.int .u16 e.no]) (o := 3) (hst14 h) rfl) (by rfl) fun _ => ?_
              conv => whnf
              refine ⟨fun W hS hDn hU => ?_, ?_⟩
              · have := (hD W (hDn 8 (by kernel_rfl))).2.2
                omega
              refine bsr (preCAppR _ _ _ _ _) rfl rfl rfl rfl rfl (by decide) (fun b o W W' hb ho hS => hbears.new W W' b o hS hb ho) (fun W hS => hbears.size _ _ hS) fun q2 D2 hD2 => ?_
              conv => whnf
              refine ⟨fun W hS hDn hU => ?_, ?_⟩
              · have := (hD W (hDn 8 (by kernel_rfl))).2.2
                omega
              refine aprS (m := 1) (news := Edge.cells ⟨i, (numOf R.1 (e.to, ((((pw + 1) % sets.length : Nat) : Int) : Int)) : Nat), e.must, e.no⟩) agree hbears rfl rfl rfl rfl rfl rfl rfl (by decide) rE10 rfl (fun W hS hDn => Own.at_ (xs := Edge.cells ⟨i, (numOf R.1 (e.to, ((((pw + 1) % sets.length : Nat) : Int) : Int)) : Nat), e.must, e.no⟩) (o := 0) (hD2 W (hDn 14 (by kernel_rfl))).1 rfl) rfl (by simp only [maxLen]; omega) (by show (_ + 1) * 24 ≤ _; omega) (by have := c8.size; have := k810.size; omega) fun xE' D3 hD3 => ?_
              conv => whnf
              intro w11 hS11 hd11
              have hN11 := hD w11 (hd11 8)
              have hE11 := hD3 w11 (hd11 15)
              obtain ⟨nums11, hnew11, hsz11⟩ := hN11
              obtain ⟨rE11, hnewE⟩ := hE11
              have hfE := ownsRow_form rE11
              obtain ⟨ea', ec', rfl⟩ := hfE
              have ob11 := hst6 hS11 ob10 (by decide) (by decide) (Ne.symm h56) h6m
              have hI11 : ∀ g, vI.ownBlock = some g → ¬ (TT g ∨ some g = xE.ownBlock) := fun g hg hT => by
                rewrite [hTT] at hT
                rcases hT with (rfl | rfl | hT) | hT
                · exact ownsRow_ne rI10 nums10.hdr (fun cs fr hh => by injection hh with _ h2; exact absurd h2 (by decide)) hg
                · exact ownsRow_ne rI10 hm5 (fun cs fr hh => by cases hh) hg
                · exact rows_sep nums10.row rI10 (by decide) g hT.symm hg
                · exact rows_sep rE10 rI10 (by decide) g hT.symm hg
              have hF11 : ∀ g, (vF2).ownBlock = some g → ¬ (TT g ∨ some g = xE.ownBlock) := fun g hg hT => by
                rewrite [hTT] at hT
                rcases hT with (rfl | rfl | hT) | hT
                · exact ownsRow_ne rF10 nums10.hdr (fun cs fr hh => by injection hh with _ h2; exact absurd h2 (by decide)) hg
                · exact ownsRow_ne rF10 hm5 (fun cs fr hh => by cases hh) hg
                · exact rows_sep nums10.row rF10 (by decide) g hT.symm hg
                · exact rows_sep rE10 rF10 (by decide) g hT.symm hg
              have rI11 := ownsRow_chg rI10 hS11.chg hI11
              have rF11 := ownsRow_chg rF10 hS11.chg hF11
              refine st agree ob11 rfl (show 4 ≤ 5 by decide) rfl ?_
              intro w12 z12 c12 ob12
              have ob12 : Own w12 b6 31 [pv', .int .i64 0, vI, .slice ea' (R.2.length + 1) ec', vF2] := ob12
              have hb6N : b6 ≠ b5 := Ne.symm h56
              have n6 : ∀ {el size v n xs}, w11.ownsRow w6.heap.size el size v n xs → ∀ g, v.ownBlock = some g → ¬ g = b6 := fun h g hg he => by
                have := ownsRow_base h hg
                have := hb6lt
                omega
              have nums12 := nums11.chg c12 h56 (Ne.symm h6m) (n6 nums11.row)
              have rI12 := ownsRow_chg rI11 c12 (n6 rI11)
              have rE12 := ownsRow_chg rE11 c12 (n6 rE11)
              have rF12 := ownsRow_chg rF11 c12 (n6 rF11)
              refine ld agree (Own.at_ (xs := [.bool false]) (o := 2) nums12.hdr rfl) (by rfl) ?_
              refine aw (by simp only; omega) (by simp only; omega) ?_
              refine again (j + 1, v', .slice ea' (R.2.length + 1) ec') ⟨rfl, rfl, rfl, rfl, rfl, rfl, rfl, rfl, rfl, rfl, rfl, trivial⟩ ⟨by simp only; omega, ?_, ?_, ?_, ob12, rI12, ?_, rF12⟩ (by simp only; omega)
              · refine ((c8.newT k810 fun _ hf => hf.elim).newT hS11.chg fun g hg => ?_).newT c12 fun g hg => .inl ((T6i _).2 (.inr (.inr hg)))
                rewrite [hTT] at hg
                rcases hg with (rfl | rfl | hg) | hg
                · exact .inl ((T6i _).2 (.inl rfl))
                · exact .inl ((T6i _).2 (.inr (.inl rfl)))
                · exact .inr (ownsRow_base nums10.row hg.symm)
                · exact .inr (ownsRow_base rE10 hg.symm)
              · have := k810.size; have := hS11.chg.size; have := c12.size; omega
              · simp only
                rw [hsnoc]
                exact nums12
              · simp only
                rw [hsnoc]
                show w12.ownsRow w6.heap.size 52 4 _ (R.2 ++ [_]).length ((R.2 ++ [_]).flatMap Edge.cells)
                rw [List.length_append, List.flatMap_append]
                exact rE12
            · have hje : j = l.length := by simp only at hge; omega
              subst hje
              rewrite [List.take_length] at hR
              have hDn : degS sets (fromS es) (L0, [], []) (i + 1) = (R.1, R.2, F ++ [(i : Int)]) := by
                show oneS sets (fromS es) i (degS sets (fromS es) (L0, [], []) i) = _
                rw [← hDi]
                unfold oneS
                rw [hpi]
                simp only
                rw [hdd, ← hl, ← hR, hfl]
              have hle := numL_len
              have hRlen : i + 1 ≤ R.1.length := by
                have h1 := rowE1_grow i (((pw + 1) % sets.length : Nat) : Int) l (L, E)
                rewrite [← hR] at h1
                have h2 := (List.getElem?_eq_some_iff.1 hpi).1
                simp only at h1
                omega
              have hRb : R.1.length ≤ n * max sets.length 1 := by
                have h1 := degS_ok hto' hok0 (i + 1)
                rewrite [hDn] at h1
                exact box_length h1.nd h1.box
              refine aw (by omega) (by omega) ?_
              refine again (i + 1, xN, xE, vF2) ⟨rfl, rfl, rfl, rfl, rfl, rfl, rfl, trivial⟩ ⟨?_, c8, ?_, ?_, ?_, ?_, ?_, ?_⟩ (by simp only; omega)
              all_goals (try simp only)
              all_goals (try rw [hDn])
              all_goals first
                | exact hRlen
                | exact nums8
                | exact ob8
                | exact rI8
                | exact rE8
                | exact rF8
                | exact hsepF
          · refine spF (by omega) ?_
            have ob := obC
            have nums := numsC
            have rI := rIC
            have rE := rEC
            have rF := rFC
            have c5 := cC
            have K5 := hK c5
            have hdd : nextC sets (((ps : Nat) : Int), ((pw : Nat) : Int)) = (((pw + 1) % sets.length : Nat) : Int) := by unfold nextC; rw [if_pos ⟨hk0, hhas⟩]; rfl
            have hddr := nextC_range (sets := sets) (p := (((ps : Nat) : Int), ((pw : Nat) : Int))) ⟨q3, q4⟩
            rewrite [hdd] at hddr
            have hfl : F ++ (if finC sets (((ps : Nat) : Int), ((pw : Nat) : Int)) = true then [(i : Int)] else []) = F := by
              rw [show finC sets (((ps : Nat) : Int), ((pw : Nat) : Int)) = false from decide_eq_false (by rintro (h | ⟨h, -⟩); exact hk0 h; exact hlast (by have h : ((pw : Nat) : Int) + 1 = _ := h; omega))]
              simp
            -- behind the tests: the edges from the state
            refine ld agree (Own.at_ (xs := [.func (.func 111) #[] #[pt lb 0]]) (o := 2) (K5.own mb id) rfl) (by rfl) ?_
            refine ld agree (Own.at_ (xs := [.int .i64 (ps : Nat)]) (o := 0) mp rfl) (by rfl) ?_
            have hby := by1_c (hF.kp (k1.trans K5)) hpsn
            have hobt_ : ∃ l, l = fromS es (ps : Int) := ⟨_, rfl⟩
            obtain ⟨l, hl⟩ := hobt_
            rewrite [← hl] at hby
            refine cl callBy1 hby ?_
            rintro r0 w7 ⟨k7, hER0⟩
            have hER := edges_kp hER0 k7 (Nat.le_refl _) (Nat.le_refl _)
            obtain ⟨ra, rc, hr0, hrc, hre⟩ := hER
            subst hr0
            have hll : l.length ≤ es.length := by rw [hl]; unfold fromS; exact List.length_filter_le _ _
            have hlm : ∀ e ∈ l, e ∈ es := fun e he => by rewrite [hl] at he; exact (List.mem_filter.1 he).1
            have c7 := c5.newT k7 fun _ hf => hf.elim
            have nums7 := nums.chg k7 id id fun _ _ => id
            have ob7 := k7.own ob id
            have rI7 := ownsRow_chg rI k7 fun _ _ => id
            have rE7 := ownsRow_chg rE k7 fun _ _ => id
            have rF7 := ownsRow_chg rF k7 fun _ _ => id
            refine loop agree (σ := Nat × Value × Value) (fun t => [(1, pt b1 0), (2, pt b2 0), (4, .int .i64 sets.length), (5, pt b5 0), (6, pt b6 0), (7, .func (.func 113) #[] #[pt b1 0]), (10, .int .i64 i), (12, .int .i64 (((pw + 1) % sets.length : Nat) : Int)), (103, .slice ra l.length rc), (104, .int .i64 l.length), (105, .int .i64 t.1)])
              (fun t V => t.1 ≤ l.length ∧ Chg T6 w6 V ∧ w7.heap.size ≤ V.heap.size ∧ NumV V w6.heap.size b5 m5 t.2.1 (rowE1 i (((pw + 1) % sets.length : Nat) : Int) (L, E) (l.take t.1)).1 ∧ Own V b6 31 [pv', .int .i64 0, vI, t.2.2, vF] ∧ V.ownsRow w6.heap.size 3 1 vI I.length (I.flatMap fN1) ∧ V.ownsRow w6.heap.size 52 4 t.2.2 (rowE1 i (((pw + 1) % sets.length : Nat) : Int) (L, E) (l.take t.1)).2.length ((rowE1 i (((pw + 1) % sets.length : Nat) : Int) (L, E) (l.take t.1)).2.flatMap Edge.cells) ∧ V.ownsRow w6.heap.size 3 1 vF (F).length ((F).flatMap fN1)) (fun t => l.length - t.1) (0, vN, vE)
              ⟨rfl, rfl, rfl, rfl, rfl, rfl, rfl, rfl, by rfl, rfl, rfl, trivial⟩ ⟨by simp only; omega, c7, Nat.le_refl _, nums7, ob7, rI7, rE7, rF7⟩ ?_
            rintro ⟨j, xN, xE⟩ e2 w8 ⟨hj, c8, z8, nums8, ob8, rI8, rE8, rF8⟩
            simp only at hj nums8 ob8 rE8
            have hobt_ : ∃ R, R = rowE1 i (((pw + 1) % sets.length : Nat) : Int) (L, E) (l.take j) := ⟨_, rfl⟩
            obtain ⟨R, hR⟩ := hobt_
            rewrite [← hR] at nums8 rE8
            refine sp (fun hlt => ?_) (fun hge => ?_)
            · have hj' : j < l.length := by simp only at hlt; omega
              have hxj : l[j]? = some l[j] := by simp
              have hobt_ : ∃ e, e = l[j] := ⟨_, rfl⟩
              obtain ⟨e, he⟩ := hobt_
              rewrite [← he] at hxj
              have hem := hlm e (List.mem_of_getElem? hxj)
              have heto := hto e hem
              have hobt_ := hre j e hxj
              obtain ⟨q, o, rfl, hq1, hq2, cs, -, hrd, rfl, -⟩ := hobt_
              have hsnoc : rowE1 i (((pw + 1) % sets.length : Nat) : Int) (L, E) (l.take (j + 1)) = oneE i (((pw + 1) % sets.length : Nat) : Int) R e := by
                rw [List.take_succ_eq_append_getElem hj', rowE1_snoc, ← hR, he]
              have hok := rowE1_box (n := n) (k := max sets.length 1) (i := i) hddr (l.take j) (L, E) (fun x hx => hto x (hlm x (List.mem_of_mem_take hx))) hDok.nd hDok.box
              rewrite [← hR] at hok
              have hRl := box_length hok.1 hok.2.1
              have hRE : R.2.length ≤ 65536 * 1000000 + 1000000 := by
                have h3 := hok.2.2
                simp only [List.length_take] at h3
                omega
              have hpI : I64 e.to ∧ I64 (e.to, ((((pw + 1) % sets.length : Nat) : Int) : Int)).2 := ⟨⟨by omega, by omega⟩, ⟨by show _ ≤ ((((pw + 1) % sets.length : Nat) : Int) : Int); omega, by show ((((pw + 1) % sets.length : Nat) : Int) : Int) ≤ _; omega⟩⟩
              refine ne ⟨by simp only; omega, by simp only; omega⟩ ?_
              have kw8 : ∀ g, g < w.heap.size → w8.heap[g]? = w7.heap[g]? := fun g hg => by
                rw [c8.block g (by omega) (by rw [T6i]; omega), c7.block g (by omega) (by rw [T6i]; omega)]
              refine ld agree (v := e.val) (by rw [Int.toNat_natCast]; exact range_of hrd (kw8 q (by omega))) (by rfl) ?_
              refine nd fun b14 w9 e9 z9 k9 m14 => ?_
              refine st agree (cs := [.int .i64 0, .int .i64 0, .int .u16 0, .int .u16 0]) m14 rfl (Nat.le_refl 4) rfl ?_
              intro w10 z10 k10 m14
              have m14 : Own w10 b14 52 e.cells := m14
              have k810 : Kp w8 w10 := k9.new e9 k10
              have nums10 := nums8.chg k810 id id fun _ _ => id
              have ob10 := k810.own ob8 id
              have rI10 := ownsRow_chg rI8 k810 fun _ _ => id
              have rE10 := ownsRow_chg rE8 k810 fun _ _ => id
              have rF10 := ownsRow_chg rF8 k810 fun _ _ => id
              have hsep := rows_sep nums10.row rE10 (by decide)
              have hm5 := nums10.map.h
              obtain ⟨es5, clk5, hm5, -⟩ := hm5
              have hbE : ∀ {b t cs}, Own w10 b t cs → t ≠ 52 → some b ≠ xE.ownBlock := fun {b t cs} ho ht he => ownsRow_ne rE10 ho (fun cs fr hh => by injection hh with _ h2; exact ht h2) he.symm
              have hmE : some m5 ≠ xE.ownBlock := fun he => ownsRow_ne rE10 hm5 (fun cs fr hh => by cases hh) he.symm
              have hltE8 : ∀ g, xE.ownBlock = some g → g < w8.heap.size := fun g hg => (rE8.lt g hg).2
              have hltN8 : ∀ g, xN.ownBlock = some g → g < w8.heap.size := fun g hg => (nums8.row.lt g hg).2
              have hlt14 : w8.heap.size = b14 := e9
              have hbN : ∀ {b t cs}, Own w10 b t cs → t ≠ 152 → some b ≠ xN.ownBlock := fun {b t cs} ho ht he => ownsRow_ne nums10.row ho (fun cs fr hh => by injection hh with _ h2; exact ht h2) he.symm
              have hobt_ : ∃ TT : Nat → Prop, TT = fun g => g = b5 ∨ g = m5 ∨ some g = xN.ownBlock := ⟨_, rfl⟩
              obtain ⟨TT, hTT⟩ := hobt_
              have h5lt := nums10.hdr.lt
              have hm5lt := nums10.map.lt
              have h5m : b5 ≠ m5 := nums10.map.ne nums10.hdr
              have h6m : b6 ≠ m5 := nums10.map.ne ob10
              have h56 : b5 ≠ b6 := own_ne nums10.hdr ob10 (by decide)
              have hbears := CAppR.bears (T := TT) (w0 := w10) (v := xE) (k := R.2.length * 4) (news := Edge.cells ⟨i, (numOf R.1 (e.to, ((((pw + 1) % sets.length : Nat) : Int) : Int)) : Nat), e.must, e.no⟩) (fun g hg => (rE10.lt g hg).2) (fun g hg => by
                  rewrite [hTT] at hg
                  rcases hg with rfl | rfl | hg
                  · exact h5lt
                  · exact hm5lt
                  · exact (nums10.row.lt g hg.symm).2) (fun g hg => by
                  rewrite [hTT] at hg
                  rcases hg with rfl | rfl | hg
                  · exact fun he => hbE nums10.hdr (by decide) he.symm
                  · exact fun he => hmE he.symm
                  · exact fun he => hsep g hg.symm he)
              have hst6 : ∀ {W}, CAppR TT w10 xE (R.2.length * 4) (Edge.cells ⟨i, (numOf R.1 (e.to, ((((pw + 1) % sets.length : Nat) : Int) : Int)) : Nat), e.must, e.no⟩) w10 W → ∀ {b t cs}, Own w10 b t cs → t ≠ 52 → t ≠ 152 → b ≠ b5 → b ≠ m5 → Own W b t cs := fun {W} hS {b t cs} ho h1 h2 h3 h4 => hS.chg.own ho fun hT => by
                  rewrite [hTT] at hT
                  rcases hT with (rfl | rfl | hT) | hT
                  · exact h3 rfl
                  · exact h4 rfl
                  · exact hbN ho h2 hT
                  · exact hbE ho h1 hT
              have hst14 : ∀ {W}, CAppR TT w10 xE (R.2.length * 4) (Edge.cells ⟨i, (numOf R.1 (e.to, ((((pw + 1) % sets.length : Nat) : Int) : Int)) : Nat), e.must, e.no⟩) w10 W → Own W b14 52 e.cells := fun {W} hS => hS.chg.own m14 fun hT => by
                  rewrite [hTT] at hT
                  rcases hT with (rfl | rfl | hT) | hT
                  · have := nums8.hdr.lt; omega
                  · have := nums8.map.lt; omega
                  · have := hltN8 _ hT.symm; omega
                  · have := hltE8 _ hT.symm; omega
              refine drawnW agree mixed 17 [3, 4, 5, 6, 7, 8, 0, 1, 2, 9, 10, 11, 12, 13, 14, 15, 16] (by kernel_rfl) (CAppR TT w10 xE (R.2.length * 4) (Edge.cells ⟨i, (numOf R.1 (e.to, ((((pw + 1) % sets.length : Nat) : Int) : Int)) : Nat), e.must, e.no⟩)) (preCAppR _ _ _ _ _) (fun W => W.heap.size = w10.heap.size ∧ Kp w10 W) 8 ⟨rfl, (Chg.refl _ _).drew⟩ ?_
              conv => whnf
              refine ldu (preCAppR _ _ _ _ _) agree rfl rfl (fun W h _ _ => Own.at_ (xs := [.int .i64 e.to]) (o := 1) (hst14 h) rfl) (by rfl) fun _ => ?_
              conv => whnf
              refine callu (τ := Value) (hne := ⟨undef⟩) (.int .i64 (numOf R.1 (e.to, ((((pw + 1) % sets.length : Nat) : Int) : Int)) : Nat)) (fun v' W => NumV W w6.heap.size b5 m5 v' (numL R.1 (e.to, ((((pw + 1) % sets.length : Nat) : Int) : Int))) ∧ (∀ g, v'.ownBlock = some g → xN.ownBlock = some g ∨ w10.heap.size ≤ g) ∧ w10.heap.size < W.heap.size) rfl rfl rfl (fun v' W W' hFv hS => ?_) callNOf (fun W hS _ hU => ?_) fun v' D hD => ?_
              · obtain ⟨f1, f2, f3⟩ := hFv
                have honce := hS.once.resolve_right (by omega)
                have hnE : ∀ g, v'.ownBlock = some g → xE.ownBlock ≠ some g := fun g hg he => by
                  rcases f2 g hg with h1 | h1
                  · exact hsep g h1 he
                  · have := (rE10.lt g he).2; omega
                refine ⟨⟨?_, ?_, ?_, Nat.le_trans f1.base hS.chg.size, f1.nd⟩, f2, by have := hS.chg.size; omega⟩
                · exact (honce b5 (by rw [hTT]; exact .inl rfl) f1.hdr.lt).trans f1.hdr
                · exact mapE_same f1.map (honce m5 (by rw [hTT]; exact .inr (.inl rfl)) f1.map.lt)
                · refine ownsRow_same f1.row fun g hg => ?_
                  rcases f2 g hg with h1 | h1
                  · exact honce g (by rw [hTT]; exact .inr (.inr h1.symm)) (f1.row.lt g hg).2
                  · exact hS.chg.block g (f1.row.lt g hg).2 fun hT => by
                      rewrite [hTT] at hT
                      rcases hT with (rfl | rfl | hT) | hT
                      · omega
                      · omega
                      · have := (nums10.row.lt g hT.symm).2; omega
                      · have := (rE10.lt g hT.symm).2; omega
              · obtain ⟨hU1, hU2⟩ := hU
                refine (nof_c (nums10.chg hU2 id id fun _ _ => id) (p := (e.to, ((((pw + 1) % sets.length : Nat) : Int) : Int))) hpI.1 hpI.2 (by omega)).mono fun en W' hr => ?_
                cases en with
                | returned v =>
                  obtain ⟨rfl, v', hn', hc', hg', hs'⟩ := hr
                  refine ⟨rfl, ⟨hc'.mono fun g hg => .inl (by rw [hTT]; exact hg), fun g hg hl => .inl (hc'.block g hl fun hT => ?_), .inr (by omega)⟩, v', hn', fun g hg => (hg' g hg).imp id fun h => by omega, by omega⟩
                  rcases hT with rfl | rfl | hT
                  · exact hbE nums10.hdr (by decide) hg.symm
                  · exact hmE hg.symm
                  · exact hsep g hT.symm hg
                | _ => exact hr.elim
              conv => whnf
              refine ldu (preCAppR _ _ _ _ _) agree rfl rfl (fun W h _ _ => Own.at_ (xs := [xE]) (o := 3) (hst6 h ob10 (by decide) (by decide) (Ne.symm h56) h6m) rfl) (by rfl) fun _ => ?_
              conv => whnf
              refine ldu (preCAppR _ _ _ _ _) agree rfl rfl (fun W h _ _ => Own.at_ (xs := [.int .u16 e.must]) (o := 2) (hst14 h) rfl) (by rfl) fun _ => ?_
              conv => whnf
              refine ldu (preCAppR _ _ _ _ _) agree rfl rfl (fun W h _ _ => Own.at_ (xs := [.int .u16 e.no]) (o := 3) (hst14 h) rfl) (by rfl) fun _ => ?_
              conv => whnf
              refine ⟨fun W hS hDn hU => ?_, ?_⟩
              · have := (hD W (hDn 8 (by kernel_rfl))).2.2
                omega
              refine bsr (preCAppR _ _ _ _ _) rfl rfl rfl rfl rfl (by decide) (fun b o W W' hb ho hS => hbears.new W W' b o hS hb ho) (fun W hS => hbears.size _ _ hS) fun q2 D2 hD2 => ?_
              conv => whnf
              refine ⟨fun W hS hDn hU => ?_, ?_⟩
              · have := (hD W (hDn 8 (by kernel_rfl))).2.2
                omega
              refine aprS (m := 1) (news := Edge.cells ⟨i, (numOf R.1 (e.to, ((((pw + 1) % sets.length : Nat) : Int) : Int)) : Nat), e.must, e.no⟩) agree hbears rfl rfl rfl rfl rfl rfl rfl (by decide) rE10 rfl (fun W hS hDn => Own.at_ (xs := Edge.cells ⟨i, (numOf R.1 (e.to, ((((pw + 1) % sets.length : Nat) : Int) : Int)) : Nat), e.must, e.no⟩) (o := 0) (hD2 W (hDn 14 (by kernel_rfl))).1 rfl) rfl (by simp only [maxLen]; omega) (by show (_ + 1) * 24 ≤ _; omega) (by have := c8.size; have := k810.size; omega) fun xE' D3 hD3 => ?_
              conv => whnf
              intro w11 hS11 hd11
              have hN11 := hD w11 (hd11 8)
              have hE11 := hD3 w11 (hd11 15)
              obtain ⟨nums11, hnew11, hsz11⟩ := hN11
              obtain ⟨rE11, hnewE⟩ := hE11
              have hfE := ownsRow_form rE11
              obtain ⟨ea', ec', rfl⟩ := hfE
              have ob11 := hst6 hS11 ob10 (by decide) (by decide) (Ne.symm h56) h6m
              have hI11 : ∀ g, vI.ownBlock = some g → ¬ (TT g ∨ some g = xE.ownBlock) := fun g hg hT => by
                rewrite [hTT] at hT
                rcases hT with (rfl | rfl | hT) | hT
                · exact ownsRow_ne rI10 nums10.hdr (fun cs fr hh => by injection hh with _ h2; exact absurd h2 (by decide)) hg
                · exact ownsRow_ne rI10 hm5 (fun cs fr hh => by cases hh) hg
                · exact rows_sep nums10.row rI10 (by decide) g hT.symm hg
                · exact rows_sep rE10 rI10 (by decide) g hT.symm hg
              have hF11 : ∀ g, (vF).ownBlock = some g → ¬ (TT g ∨ some g = xE.ownBlock) := fun g hg hT => by
                rewrite [hTT] at hT
                rcases hT with (rfl | rfl | hT) | hT
                · exact ownsRow_ne rF10 nums10.hdr (fun cs fr hh => by injection hh with _ h2; exact absurd h2 (by decide)) hg
                · exact ownsRow_ne rF10 hm5 (fun cs fr hh => by cases hh) hg
                · exact rows_sep nums10.row rF10 (by decide) g hT.symm hg
                · exact rows_sep rE10 rF10 (by decide) g hT.symm hg
              have rI11 := ownsRow_chg rI10 hS11.chg hI11
              have rF11 := ownsRow_chg rF10 hS11.chg hF11
              refine st agree ob11 rfl (show 4 ≤ 5 by decide) rfl ?_
              intro w12 z12 c12 ob12
              have ob12 : Own w12 b6 31 [pv', .int .i64 0, vI, .slice ea' (R.2.length + 1) ec', vF] := ob12
              have hb6N : b6 ≠ b5 := Ne.symm h56
              have n6 : ∀ {el size v n xs}, w11.ownsRow w6.heap.size el size v n xs → ∀ g, v.ownBlock = some g → ¬ g = b6 := fun h g hg he => by
                have := ownsRow_base h hg
                have := hb6lt
                omega
              have nums12 := nums11.chg c12 h56 (Ne.symm h6m) (n6 nums11.row)
              have rI12 := ownsRow_chg rI11 c12 (n6 rI11)
              have rE12 := ownsRow_chg rE11 c12 (n6 rE11)
              have rF12 := ownsRow_chg rF11 c12 (n6 rF11)
              refine ld agree (Own.at_ (xs := [.bool false]) (o := 2) nums12.hdr rfl) (by rfl) ?_
              refine aw (by simp only; omega) (by simp only; omega) ?_
              refine again (j + 1, v', .slice ea' (R.2.length + 1) ec') ⟨rfl, rfl, rfl, rfl, rfl, rfl, rfl, rfl, rfl, rfl, rfl, trivial⟩ ⟨by simp only; omega, ?_, ?_, ?_, ob12, rI12, ?_, rF12⟩ (by simp only; omega)
              · refine ((c8.newT k810 fun _ hf => hf.elim).newT hS11.chg fun g hg => ?_).newT c12 fun g hg => .inl ((T6i _).2 (.inr (.inr hg)))
                rewrite [hTT] at hg
                rcases hg with (rfl | rfl | hg) | hg
                · exact .inl ((T6i _).2 (.inl rfl))
                · exact .inl ((T6i _).2 (.inr (.inl rfl)))
                · exact .inr (ownsRow_base nums10.row hg.symm)
                · exact .inr (ownsRow_base rE10 hg.symm)
              · have := k810.size; have := hS11.chg.size; have := c12.size; omega
              · simp only
                rw [hsnoc]
                exact nums12
              · simp only
                rw [hsnoc]
                show w12.ownsRow w6.heap.size 52 4 _ (R.2 ++ [_]).length ((R.2 ++ [_]).flatMap Edge.cells)
                rw [List.length_append, List.flatMap_append]
                exact rE12
            · have hje : j = l.length := by simp only at hge; omega
              subst hje
              rewrite [List.take_length] at hR
              have hDn : degS sets (fromS es) (L0, [], []) (i + 1) = (R.1, R.2, F) := by
                show oneS sets (fromS es) i (degS sets (fromS es) (L0, [], []) i) = _
                rw [← hDi]
                unfold oneS
                rw [hpi]
                simp only
                rw [hdd, ← hl, ← hR, hfl]
              have hle := numL_len
              have hRlen : i + 1 ≤ R.1.length := by
                have h1 := rowE1_grow i (((pw + 1) % sets.length : Nat) : Int) l (L, E)
                rewrite [← hR] at h1
                have h2 := (List.getElem?_eq_some_iff.1 hpi).1
                simp only at h1
                omega
              have hRb : R.1.length ≤ n * max sets.length 1 := by
                have h1 := degS_ok hto' hok0 (i + 1)
                rewrite [hDn] at h1
                exact box_length h1.nd h1.box
              refine aw (by omega) (by omega) ?_
              refine again (i + 1, xN, xE, vF) ⟨rfl, rfl, rfl, rfl, rfl, rfl, rfl, trivial⟩ ⟨?_, c8, ?_, ?_, ?_, ?_, ?_, ?_⟩ (by simp only; omega)
              all_goals (try simp only)
              all_goals (try rw [hDn])
              all_goals first
                | exact hRlen
                | exact nums8
                | exact ob8
                | exact rI8
                | exact rE8
                | exact rF8
                | exact hsepF
    · have hiL : L.length ≤ i := by simp only at hge; omega
      have hstop := degS_stop (sets := sets) (fr := fromS es) (st0 := (L0, [], [])) (i := i) (by rw [← hDi]; exact hiL) (n * max sets.length 1) (by omega)
      rewrite [← hDi] at hstop
      have hobt_ : ∃ g0, g0 = degB props init sets (fromS es) (n * max sets.length 1) := ⟨_, rfl⟩
      obtain ⟨g0, hg0⟩ := hobt_
      have hgd : g0 = { props := props, states := (L.length : Nat), init := I, edges := compE (sortE E), final := F } := by
        rw [hg0]
        unfold degB
        rw [← hL0, ← hIe, hstop]
      have hfI := ownsRow_form rIA
      obtain ⟨iva, ivc, hfI⟩ := hfI
      have hfF := ownsRow_form rFA
      obtain ⟨fva, fvc, hfF⟩ := hfF
      have hfE := ownsRow_form rEA
      obtain ⟨eva, evc, hfE⟩ := hfE
      subst hfI hfF hfE
      refine ld agree (Own.at_ (xs := [.bool false]) (o := 2) numsA.hdr rfl) (by rfl) ?_
      refine ld agree (Own.at_ (xs := [.slice na L.length nc]) (o := 1) numsA.hdr rfl) (by rfl) ?_
      refine st agree obA rfl (show 2 ≤ 5 by decide) rfl ?_
      intro wB zB cB obB
      have obB : Own wB b6 31 [pv', .int .i64 (L.length : Nat), .slice iva I.length ivc, .slice eva E.length evc, .slice fva F.length fvc] := obB
      have n6 : ∀ {el size v n xs}, wA.ownsRow w6.heap.size el size v n xs → ∀ g, v.ownBlock = some g → ¬ g = b6 := fun h g hg he => by
        have := ownsRow_base h hg
        omega
      have rIB := ownsRow_chg rIA cB (n6 rIA)
      have rEB := ownsRow_chg rEA cB (n6 rEA)
      have rFB := ownsRow_chg rFA cB (n6 rFA)
      have hb6 : T6 b6 := (T6i _).2 (.inr (.inr rfl))
      have cB6 := cA.newT cB fun g hg => .inl (by rw [hg]; exact hb6)
      refine ld agree (Own.at_ (xs := [.slice iva I.length ivc]) (o := 2) obB rfl) (by rfl) ?_
      have hso := sortInts_c rIB (by omega)
      refine cl callSortInts hso ?_
      rintro _ wC ⟨cC, rIC⟩
      have hIs : (I.mergeSort fun x y => decide (x ≤ y)) = I := List.mergeSort_of_pairwise (by
        rw [hIr, List.pairwise_map]
        exact List.pairwise_lt_range.imp fun h => by simpa using Nat.le_of_lt h)
      rewrite [hIs] at rIC
      have d1 : ∀ {g}, some g = (Value.slice iva I.length ivc).ownBlock → w6.heap.size ≤ g := fun {g} hg => ownsRow_base rIB hg.symm
      have cC6 := cB6.newT cC fun g hg => .inr (d1 hg)
      have obC := cC.own obB fun he => by have := d1 he; omega
      have rEC := ownsRow_chg rEB cC fun g hg he => rows_sep rEB rIB (by decide) g hg he.symm
      have rFC := ownsRow_chg rFB cC fun g hg he => hsepF g he.symm hg
      have hrowI := ownsRow_row (f := fN1) (fun _ => rfl) rIC (by decide)
      have hIp : I.Pairwise (· < ·) := by
        rw [hIr, List.pairwise_map]
        exact List.pairwise_lt_range.imp fun h => by omega
      refine ld agree (Own.at_ (xs := [.slice iva I.length ivc]) (o := 2) obC rfl) (by rfl) ?_
      have hcI := compactI_c (lo := w6.heap.size) (hi := wC.heap.size) (v := .slice iva I.length ivc) (xs := I) hrowI (by omega) hIp
      refine cl callCompactI hcI ?_
      rintro rI' wD ⟨hri, kD⟩
      subst hri
      refine st agree (kD.own obC id) rfl (show 3 ≤ 5 by decide) rfl ?_
      intro wE zE cE obE
      have obE : Own wE b6 31 [pv', .int .i64 (L.length : Nat), .slice iva I.length ivc, .slice eva E.length evc, .slice fva F.length fvc] := obE
      have n6' : ∀ {W : World} {el size v n xs}, W.ownsRow w6.heap.size el size v n xs → ∀ g, v.ownBlock = some g → ¬ g = b6 := fun h g hg he => by
        have := ownsRow_base h hg
        omega
      have cE6 := (cC6.newT kD fun _ hf => hf.elim).newT cE fun g hg => .inl (by rw [hg]; exact hb6)
      have rID := ownsRow_chg rIC kD fun _ _ => id
      have rED := ownsRow_chg rEC kD fun _ _ => id
      have rFD := ownsRow_chg rFC kD fun _ _ => id
      have rIE := ownsRow_chg rID cE (n6' rID)
      have rEE := ownsRow_chg rED cE (n6' rED)
      have rFE := ownsRow_chg rFD cE (n6' rFD)
      refine ld agree (Own.at_ (xs := [.slice eva E.length evc]) (o := 3) obE rfl) (by rfl) ?_
      have hse := sortEdges_c rEE (by omega)
      refine cl callSortEdges hse ?_
      rintro _ wF ⟨cF, rEF⟩
      have d2 : ∀ {g}, some g = (Value.slice eva E.length evc).ownBlock → w6.heap.size ≤ g := fun {g} hg => ownsRow_base rEE hg.symm
      have cF6 := cE6.newT cF fun g hg => .inr (d2 hg)
      have obF := cF.own obE fun he => by have := d2 he; omega
      have rIF := ownsRow_chg rIE cF fun g hg he => rows_sep rEE rIE (by decide) g he.symm hg
      have rFF := ownsRow_chg rFE cF fun g hg he => rows_sep rEE rFE (by decide) g he.symm hg
      refine ld agree (Own.at_ (xs := [.slice eva E.length evc]) (o := 3) obF rfl) (by rfl) ?_
      have hsel : (sortE E).length = E.length := List.length_mergeSort _
      have hco : Calls Proofs.Try.prog 93 [.slice eva E.length evc].toArray wF _ := compactE_c (v := .slice eva E.length evc) (xs := sortE E) (by rw [hsel]; exact rEF) (by omega)
      refine cl callCompactE hco ?_
      rintro rE' wG ⟨cG, rEG, hown⟩
      have hfG := ownsRow_form rEG
      obtain ⟨gva, gvc, hfG⟩ := hfG
      subst hfG
      have cG6 := cF6.newT cG fun g hg => .inr (d2 hg)
      have obG := cG.own obF fun he => by have := d2 he; omega
      have rIG := ownsRow_chg rIF cG fun g hg he => rows_sep rEE rIE (by decide) g he.symm hg
      have rFG := ownsRow_chg rFF cG fun g hg he => rows_sep rEE rFE (by decide) g he.symm hg
      refine st agree obG rfl (show 4 ≤ 5 by decide) rfl ?_
      intro wH zH cH obH
      have obH : Own wH b6 31 [pv', .int .i64 (L.length : Nat), .slice iva I.length ivc, .slice gva (compE (sortE E)).length gvc, .slice fva F.length fvc] := obH
      have cH6 := cG6.newT cH fun g hg => .inl (by rw [hg]; exact hb6)
      have rIH := ownsRow_chg rIG cH (n6' rIG)
      have rEH := ownsRow_chg rEG cH (n6' rEG)
      have rFH := ownsRow_chg rFG cH (n6' rFG)
      subst hpv'
      refine ld agree (v := .agg #[.slice ca props.length cc, .int .i64 (L.length : Nat), .slice iva I.length ivc, .slice gva (compE (sortE E)).length gvc, .slice fva F.length fvc]) (Own.at_ (xs := [.slice ca props.length cc, .int .i64 (L.length : Nat), .slice iva I.length ivc, .slice gva (compE (sortE E)).length gvc, .slice fva F.length fvc]) (o := 0) obH rfl) (by rfl) ?_
      have k26 : Kp w2 w6 := (k3.trans k4).trans k46
      have hb2lt := Own.lt m2
      have m2H : Own wH b2 31 [nilS, .int .i64 0, nilS, nilS, nilS] := cH6.own (k26.own m2 id) fun hT => by rewrite [T6i] at hT; omega
      refine st agree m2H rfl (Nat.le_refl 5) rfl ?_
      intro wI zI cI m2I
      have m2I : Own wI b2 31 [.slice ca props.length cc, .int .i64 (L.length : Nat), .slice iva I.length ivc, .slice gva (compE (sortE E)).length gvc, .slice fva F.length fvc] := m2I
      refine ld agree (v := .agg #[.slice ca props.length cc, .int .i64 (L.length : Nat), .slice iva I.length ivc, .slice gva (compE (sortE E)).length gvc, .slice fva F.length fvc]) (Own.at_ (xs := [.slice ca props.length cc, .int .i64 (L.length : Nat), .slice iva I.length ivc, .slice gva (compE (sortE E)).length gvc, .slice fva F.length fvc]) (o := 0) m2I rfl) (by rfl) ?_
      have kall : Kp w wI := (k1.trans (hK cH6)).newS cI fun g hg => by omega
      have hlow : ∀ {el size v n xs}, wH.ownsRow w6.heap.size el size v n xs → wI.ownsRow w.heap.size el size v n xs := fun {el size v n xs} h => by
        have h2 := ownsRow_chg h cI fun g hg he => by have := ownsRow_base h hg; omega
        exact ⟨h2.1, h2.2.imp id fun ⟨g, cap, cur, a1, a2, a3⟩ => ⟨g, cap, cur, a1, by have := k06.size; omega, a3⟩⟩
      have pSI : wI.ownsRow w.heap.size 9 1 (.slice ca props.length cc) props.length (props.flatMap fS1) := by
        have h1 := ownsRow_chg pS6 cH6 fun g hg hT => by
          have h3 := ownsRow_base pS6 hg
          have h4 := pS6l g hg
          rewrite [T6i] at hT; omega
        have h2 := ownsRow_chg h1 cI fun g hg hT => by
          have h3 := ownsRow_base pS6 hg
          omega
        exact ⟨h2.1, h2.2.imp id fun ⟨g, cap, cur, a1, a2, a3⟩ => ⟨g, cap, cur, a1, by omega, a3⟩⟩
      have hst0 : (((L.length : Nat) : Int)) = (degB props init sets (fromS es) (n * max sets.length 1)).states := by rw [← hg0, hgd]
      have hout : OutV w.heap.size wI (.slice ca props.length cc) (.slice iva I.length ivc) (.slice gva (compE (sortE E)).length gvc) (.slice fva F.length fvc) (degB props init sets (fromS es) (n * max sets.length 1)) := by
        rw [← hg0, hgd]
        exact ⟨pSI, hlow rIH, hlow rEH, hlow rFH, hsepF⟩
      exact ⟨kall, .slice ca props.length cc, .slice iva I.length ivc, .slice gva (compE (sortE E)).length gvc, .slice fva F.length fvc, congrArg (fun z : Int => Value.tuple #[.agg #[.slice ca props.length cc, .int .i64 z, .slice iva I.length ivc, .slice gva (compE (sortE E)).length gvc, .slice fva F.length fvc], .int .i64 0]) hst0, hout⟩
end Go.Au

namespace Go.Au
open Go Go.RowKit Go.MapKept
open Go.Maps (Keyed)

noncomputable def accS (g : General) (x : Word) : Bool × Int := if checkS g = true then (if wordOk x g.props.length = true then (acceptsS g x, 0) else (false, 101)) else (false, 100)

theorem check_len {g : General} (h : checkS g = true) : g.props.length ≤ 8 := by
  simp only [checkS, Bool.and_eq_true] at h
  have := h.1.1.1.1.1
  simp only [namesOk, Bool.and_eq_true] at this
  exact of_decide_eq_true this.2
theorem check_sorted {g : General} (h : checkS g = true) : ∀ l ∈ g.sets, l.Pairwise (· ≤ ·) := fun l hl => by
  simp only [checkS, Bool.and_eq_true] at h
  exact (rising_sorted (List.all_eq_true.1 h.2 l hl)).1

theorem acceptsG_c {w : World} {pv iv ev sv stv lov : Value} {g : General} {x : Word} (hv : GenV 0 w.heap.size w pv iv ev sv g) (hw : WordV 0 w.heap.size w stv lov x) (hE : g.edges.length < 1099511627776) (hP : x.places < 1048576) :
    Calls Proofs.Try.prog 23 [.agg #[pv, .int .i64 g.states, iv, ev, sv], .agg #[stv, lov]].toArray w (Ret fun v w' => v = .tuple #[.bool (accS g x).1, .int .i64 (accS g x).2] ∧ Kp w w') := by
  obtain ⟨pa, pc, hpv, -⟩ := id hv.props
  subst hpv
  refine call agree Proofs.Try.func23 rfl Proofs.Try.ntmps23 (by kernel_rfl) ?_
  refine nd fun p2 w1 e1 s1 k1 m1 => ?_
  have m2 : Own w1 p2 28 [.slice pa g.props.length pc, .int .i64 g.states, iv, ev, sv] := m1
  refine nd fun p3 w2 e2 s2 k2 m3 => ?_
  have m3 : Own w2 p3 44 [stv, lov] := m3
  have m2 := k2.own m2 id
  have k12 := k1.trans k2
  refine ld agree (v := .agg #[.slice pa g.props.length pc, .int .i64 g.states, iv, ev, sv]) (Own.at_ (xs := [.slice pa g.props.length pc, .int .i64 g.states, iv, ev, sv]) (o := 0) m2 rfl) (by rfl) ?_
  have hchk := check_c (hv.chg k12 (Nat.le_refl _) (Nat.le_refl _))
  refine cl callCheckG hchk ?_
  rintro _ w3 ⟨rfl, k3⟩
  cases hc : checkS g with
  | false =>
    refine spT (by decide) ?_
    exact ⟨by simp [accS, hc]; rfl, k12.trans k3⟩
  | true =>
    refine spF (by decide) ?_
    have m3' := k3.own m3 id
    have m2' := k3.own m2 id
    refine ld agree (v := .agg #[stv, lov]) (Own.at_ (xs := [stv, lov]) (o := 0) m3' rfl) (by rfl) ?_
    refine ld agree (Own.at_ (xs := [.slice pa g.props.length pc]) (o := 0) m2' rfl) (by rfl) ?_
    have hwc := wcheck_c (n := g.props.length) (hw.chg (k12.trans k3) (Nat.le_refl _) (Nat.le_refl _)) (check_len hc)
    refine cl callWCheck hwc ?_
    rintro _ w4 ⟨rfl, k4⟩
    have k14 := k12.trans (k3.trans k4)
    cases hk : wordOk x g.props.length with
    | false =>
      refine spT (by decide) ?_
      exact ⟨by simp [accS, hc, hk]; rfl, k14⟩
    | true =>
      refine spF (by decide) ?_
      refine ld agree (v := .agg #[.slice pa g.props.length pc, .int .i64 g.states, iv, ev, sv]) (Own.at_ (xs := [.slice pa g.props.length pc, .int .i64 g.states, iv, ev, sv]) (o := 0) (k4.own m2' id) rfl) (by rfl) ?_
      refine ld agree (v := .agg #[stv, lov]) (Own.at_ (xs := [stv, lov]) (o := 0) (k4.own m3' id) rfl) (by rfl) ?_
      have hb := beside_c (hv.chg k14 (Nat.le_refl _) k14.size) (hw.chg k14 (Nat.le_refl _) k14.size) (Good.of hc) (wordOk_loop hk) hE hP
      refine cl callBeside hb ?_
      rintro _ w5 ⟨k5, r, all, rfl, ha, hr⟩
      have hacc := accepts_c hr (Nat.le_refl _) ha (Good.of hc) (check_sorted hc) (wordOk_loop hk) hP hE
      refine cl callAccepts hacc ?_
      rintro _ w6 ⟨rfl, k6⟩
      exact ⟨by simp [accS, hc, hk]; rfl, k14.trans (k5.trans k6)⟩
theorem callAcceptsG : callable Proofs.Try.prog 23 = true := by kernel_rfl

theorem acceptsB_c {w : World} {pv iv ev fv stv lov : Value} {g : Buchi} {x : Word} (hv : BuchiV 0 w.heap.size w pv iv ev fv g) (hw : WordV 0 w.heap.size w stv lov x) (hE : g.edges.length < 1099511627776) (hP : x.places < 1048576) :
    Calls Proofs.Try.prog 26 [.agg #[pv, .int .i64 g.states, iv, ev, fv], .agg #[stv, lov]].toArray w (Ret fun v w' => v = .tuple #[.bool (accS g.general x).1, .int .i64 (accS g.general x).2] ∧ Kp w w') := by
  obtain ⟨a1, c1, hh1, -⟩ := id hv.props
  obtain ⟨a2, c2, hh2, -⟩ := id hv.init
  obtain ⟨a3, c3, hh3, -⟩ := id hv.edges
  obtain ⟨a4, c4, hh4, -⟩ := id hv.final
  subst hh1 hh2 hh3 hh4
  refine call agree Proofs.Try.func26 rfl Proofs.Try.ntmps26 (by kernel_rfl) ?_
  refine nd fun p2 w1 e1 s1 k1 m1 => ?_
  have m2 : Own w1 p2 31 [.slice a1 g.props.length c1, .int .i64 g.states, .slice a2 g.init.length c2, .slice a3 g.edges.length c3, .slice a4 g.final.length c4] := m1
  refine nd fun p3 w2 e2 s2 k2 m3 => ?_
  have m3 : Own w2 p3 44 [stv, lov] := m3
  have m2 := k2.own m2 id
  have k12 := k1.trans k2
  refine drawnK agree mixed 8 [0, 1, 2, 3, 4, 5, 6, 7] (by kernel_rfl) ?_
  conv => whnf
  refine ldk (v := .agg #[.slice a1 g.props.length c1, .int .i64 g.states, .slice a2 g.init.length c2, .slice a3 g.edges.length c3, .slice a4 g.final.length c4]) agree rfl rfl (fun W h _ => Own.at_ (xs := [.slice a1 g.props.length c1, .int .i64 g.states, .slice a2 g.init.length c2, .slice a3 g.edges.length c3, .slice a4 g.final.length c4]) (o := 0) (h.own m2 id) rfl) (by rfl) fun _ => ?_
  conv => whnf
  refine callf (fun q : Nat => .agg #[.slice a1 g.props.length c1, .int .i64 g.states, .slice a2 g.init.length c2, .slice a3 g.edges.length c3, .slice (some ⟨q, 0, none⟩) 1 1]) (fun q W => W.heap[q]? = some (.cells [.slice a4 g.final.length c4].toArray 24 (0, 0))) rfl rfl rfl (fun q W W' h k => k.heap h id) callGeneral (fun W h _ => (general_c W a1 a2 a3 a4 _ c1 _ c2 _ c3 _ c4 g.states).mono fun en W' hr => ?_) fun q D hD => ?_
  · cases en with
    | returned v =>
      obtain ⟨k, q, h1, h2, h3, h4⟩ := hr
      exact ⟨k, q, h4, h3⟩
    | _ => exact hr.elim
  conv => whnf
  refine ldk (v := .agg #[stv, lov]) agree rfl rfl (fun W h _ => Own.at_ (xs := [stv, lov]) (o := 0) (h.own m3 id) rfl) (by rfl) fun _ => ?_
  conv => whnf
  refine callk (v := .tuple #[.bool (accS g.general x).1, .int .i64 (accS g.general x).2]) rfl rfl rfl callAcceptsG (fun W h h2 => by
    have hq := hD W (h2 1 (by kernel_rfl))
    have hg := (hv.chg (k12.trans h) (Nat.le_refl _) (k12.trans h).size).general hq
    have hlt := lt_of_heap hq
    have hgg := hg.chg (Chg.refl _ W) (Nat.le_refl _) (show max W.heap.size (q + 1) ≤ W.heap.size by omega)
    exact acceptsG_c hgg (hw.chg (k12.trans h) (Nat.le_refl _) (k12.trans h).size) hE hP) fun _ => ?_
  conv => whnf
  intro W h _
  exact ⟨rfl, k12.trans h⟩
theorem callAcceptsB : callable Proofs.Try.prog 26 = true := by kernel_rfl
end Go.Au

namespace Go.Au
open Go Go.RowKit Go.MapKept

abbrev AC1 := Option Addr × Nat
abbrev AC4 := AC1 × AC1 × AC1 × AC1
abbrev agB (g : Buchi) (y : AC4) : Value := .agg #[.slice y.1.1 g.props.length y.1.2, .int .i64 g.states, .slice y.2.1.1 g.init.length y.2.1.2, .slice y.2.2.1.1 g.edges.length y.2.2.1.2, .slice y.2.2.2.1 g.final.length y.2.2.2.2]
abbrev OutY (base : Nat) (w : World) (g : Buchi) (y : AC4) : Prop := OutV base w (.slice y.1.1 g.props.length y.1.2) (.slice y.2.1.1 g.init.length y.2.1.2) (.slice y.2.2.1.1 g.edges.length y.2.2.1.2) (.slice y.2.2.2.1 g.final.length y.2.2.2.2) g
theorem OutV.form {base : Nat} {w : World} {vP vI vE vF : Value} {g : Buchi} (h : OutV base w vP vI vE vF g) : ∃ y : AC4, vP = .slice y.1.1 g.props.length y.1.2 ∧ vI = .slice y.2.1.1 g.init.length y.2.1.2 ∧ vE = .slice y.2.2.1.1 g.edges.length y.2.2.1.2 ∧ vF = .slice y.2.2.2.1 g.final.length y.2.2.2.2 := by
  obtain ⟨a, c, h1⟩ := ownsRow_form h.props
  obtain ⟨a2, c2, h2⟩ := ownsRow_form h.rI
  obtain ⟨a3, c3, h3⟩ := ownsRow_form h.rE
  obtain ⟨a4, c4, h4⟩ := ownsRow_form h.rF
  exact ⟨((a, c), (a2, c2), (a3, c3), (a4, c4)), h1, h2, h3, h4⟩
theorem OutV.chg {S : Nat → Prop} {base : Nat} {w w' : World} {vP vI vE vF : Value} {g : Buchi} (h : OutV base w vP vI vE vF g) (k : Chg S w w') (hS : ∀ b, S b → b < base ∨ w.heap.size ≤ b) : OutV base w' vP vI vE vF g := by
  have hr : ∀ {el size v n xs}, w.ownsRow base el size v n xs → w'.ownsRow base el size v n xs := fun {el size v n xs} h => ownsRow_chg h k fun b hb hs => by
    have := h.lt b hb
    rcases hS b hs with h1 | h1 <;> omega
  exact ⟨hr h.props, hr h.rI, hr h.rE, hr h.rF, h.sep⟩
theorem OutV.low {base base' : Nat} {w : World} {vP vI vE vF : Value} {g : Buchi} (h : OutV base w vP vI vE vF g) (hb : base' ≤ base) : OutV base' w vP vI vE vF g := by
  have hr : ∀ {el size v n xs}, w.ownsRow base el size v n xs → w.ownsRow base' el size v n xs := fun {el size v n xs} h => ⟨h.1, h.2.imp id fun ⟨g, cap, cur, a1, a2, a3⟩ => ⟨g, cap, cur, a1, by omega, a3⟩⟩
  exact ⟨hr h.props, hr h.rI, hr h.rE, hr h.rF, h.sep⟩
/-- the automaton that Degen makes -/
def degG (g : General) : Buchi := degB g.props g.init g.sets (fromS g.edges) (g.states.toNat * max g.sets.length 1)
theorem rising_lt {n : Int} : ∀ {l : List Int} {p : Option Int}, risingFrom n p l = true → l.Pairwise (· < ·) ∧ ∀ y, p = some y → ∀ x ∈ l, y < x
  | [], _, _ => ⟨.nil, by simp⟩
  | x :: r, p, h => by
    simp only [risingFrom, Bool.and_eq_true, Bool.not_eq_true', Bool.or_eq_false_iff, decide_eq_false_iff_not] at h
    obtain ⟨h1, h2⟩ := rising_lt h.2
    have h3 := h2 x rfl
    refine ⟨List.pairwise_cons.2 ⟨h3, h1⟩, fun y hy z hz => ?_⟩
    subst hy
    have h4 : y < x := by have := h.1.2; simp only [decide_eq_false_iff_not] at this; omega
    rcases List.mem_cons.1 hz with rfl | hz
    · exact h4
    · have := h3 z hz; omega
theorem check_init {g : General} (h : checkS g = true) : g.init.Nodup ∧ g.init.Pairwise (· < ·) := by
  simp only [checkS, Bool.and_eq_true] at h
  have := (rising_lt h.1.1.2).1
  exact ⟨this.imp fun h => by omega, this⟩
theorem degenY_c {w : World} {flo fhi lb bb n : Nat} {pv iv sv : Value} {props : List ByteArray} {init : List Int} {sets : List (List Int)} {es : List Edge}
    (hp : Strs 0 w.heap.size w pv props) (hi : Ints 0 w.heap.size w iv init) (hF : FromV w flo fhi lb bb n es) (hfhi : fhi ≤ w.heap.size) (hs : IntRows 0 w.heap.size w sv sets) (hsort : ∀ F ∈ sets, F.Pairwise (· ≤ ·))
    (hpl : props.length < 1000000000000) (hel : es.length < 1000000) (hbox : n * max sets.length 1 < 65536) (hsl : sets.length < 65536) (hini : ∀ s ∈ init, 0 ≤ s ∧ s < n) (hnd : init.Nodup) (hto : ∀ e ∈ es, 0 ≤ e.to ∧ e.to < n) :
    Calls Proofs.Try.prog 82 [.agg #[pv, iv, .func (.func 111) #[] #[pt lb 0], sv]].toArray w (Ret fun r w' => Kp w w' ∧ ∃ y, r = .tuple #[agB (degB props init sets (fromS es) (n * max sets.length 1)) y, .int .i64 0] ∧ OutY w.heap.size w' (degB props init sets (fromS es) (n * max sets.length 1)) y) := by
  refine (degen0_c hp hi hF hfhi hs hsort hpl hel hbox hsl hini hnd hto).mono fun en w' hr => ?_
  cases en with
  | returned v =>
    obtain ⟨k, vP, vI, vE, vF, rfl, h⟩ := hr
    have hf := h.form
    obtain ⟨y, rfl, rfl, rfl, rfl⟩ := hf
    exact ⟨k, y, rfl, h⟩
  | _ => exact hr.elim

theorem callDegen : callable Proofs.Try.prog 39 = true := by kernel_rfl
set_option maxHeartbeats 1000000 in
theorem degen_c {w : World} {pv iv ev sv : Value} {g : General} (hv : GenV 0 w.heap.size w pv iv ev sv g) (hpl : g.props.length < 1000000000000) (hel : g.edges.length < 1000000) (hbox : g.states.toNat * max g.sets.length 1 < 65536) (hsl : g.sets.length < 65536) :
    Calls Proofs.Try.prog 39 [.agg #[pv, .int .i64 g.states, iv, ev, sv]].toArray w (Ret fun r w' => Kp w w' ∧ ((checkS g = false ∧ r = .tuple #[.agg #[nilS, .int .i64 0, nilS, nilS, nilS], .int .i64 100]) ∨ (checkS g = true ∧ ∃ y, r = .tuple #[agB (degG g) y, .int .i64 0] ∧ OutY w.heap.size w' (degG g) y))) := by
  obtain ⟨pa, pc, rfl, -⟩ := id hv.props
  obtain ⟨ia, ic, rfl, -⟩ := id hv.init
  obtain ⟨ea, ec, rfl, -⟩ := id hv.edges
  obtain ⟨sa, sc, rfl, -⟩ := id hv.sets
  refine call agree Proofs.Try.func39 rfl Proofs.Try.ntmps39 (by kernel_rfl) ?_
  refine nd fun b1 w1 e1 z1 k1 m1 => ?_
  have m1 : Own w1 b1 28 [.slice pa g.props.length pc, .int .i64 g.states, .slice ia g.init.length ic, .slice ea g.edges.length ec, .slice sa g.sets.length sc] := m1
  refine nd fun b2 w2 e2 z2 k2 m2 => ?_
  have m2 : Own w2 b2 31 [nilS, .int .i64 0, nilS, nilS, nilS] := m2
  have m1 := k2.own m1 id
  have k12 := k1.trans k2
  refine ld agree (v := .agg #[.slice pa g.props.length pc, .int .i64 g.states, .slice ia g.init.length ic, .slice ea g.edges.length ec, .slice sa g.sets.length sc]) (Own.at_ (xs := [.slice pa g.props.length pc, .int .i64 g.states, .slice ia g.init.length ic, .slice ea g.edges.length ec, .slice sa g.sets.length sc]) (o := 0) m1 rfl) (by rfl) ?_
  have hchk := check_c (hv.chg k12 (Nat.le_refl _) (Nat.le_refl _))
  have hexc : ∃ cc, checkS g = cc := ⟨_, rfl⟩
  obtain ⟨cc, hc⟩ := hexc
  rw [hc] at hchk
  refine cl callCheckG hchk ?_
  rintro _ w3 ⟨rfl, k3⟩
  have m1 := k3.own m1 id
  have m2 := k3.own m2 id
  have K3 := k12.trans k3
  cases cc with
  | false =>
    refine spT (by decide) ?_
    refine st agree m2 rfl (Nat.le_refl 5) rfl ?_
    intro w4 z4 k4 m4
    have m4 : Own w4 b2 31 [nilS, .int .i64 0, nilS, nilS, nilS] := m4
    refine ld agree (v := .agg #[nilS, .int .i64 0, nilS, nilS, nilS]) (Own.at_ (xs := [nilS, .int .i64 0, nilS, nilS, nilS]) (o := 0) m4 rfl) (by rfl) ?_
    exact ⟨K3.newS k4 fun j hj => by omega, .inl ⟨hc, rfl⟩⟩
  | true =>
    refine spF (by decide) ?_
    have hG := Good.of hc
    have hn : ∃ n : Nat, g.states = n := ⟨g.states.toNat, by have := hG.s0; omega⟩
    obtain ⟨n, hn⟩ := hn
    have hs1 := hG.s1
    have hdg : degG g = degB g.props g.init g.sets (fromS g.edges) (n * max g.sets.length 1) := by unfold degG; rw [hn, Int.toNat_natCast]
    rw [hn, Int.toNat_natCast] at hbox
    have hw3 : w2.heap.size ≤ w3.heap.size := k3.size
    have hby : ∀ W, Chg (fun k => k = b2) w3 W → Calls Proofs.Try.prog 81 [.int .i64 g.states, .slice ea g.edges.length ec].toArray W (Ret fun r w' => Kp W w' ∧ ∃ y : Nat × Nat, r = .func (.func 111) #[] #[pt y.1 0] ∧ w3.heap.size ≤ y.1 ∧ ∃ hi, hi ≤ w'.heap.size ∧ FromV w' w3.heap.size hi y.1 y.2 n g.edges) := fun W hW => by
      have kW : Kp w W := K3.newS hW fun j hj => by omega
      have hE : Edges 0 W.heap.size W (.slice ea g.edges.length ec) g.edges := edges_kp hv.edges kW (Nat.le_refl _) kW.size
      rw [hn]
      refine (by_c hE (by omega) (by omega) (fun e he => by have := hG.edges e he; omega)).mono fun en w' hr => ?_
      cases en with
      | returned v =>
        obtain ⟨k, lb, bb, rfl, hlb, hF⟩ := hr
        have hsz := hW.size
        exact ⟨k, (lb, bb), rfl, by omega, _, Nat.le_refl _, hF.mono hsz (Nat.le_refl _)⟩
      | _ => exact hr.elim
    have hdeg : ∀ W, Chg (fun k => k = b2) w3 W → ∀ y : Nat × Nat, w3.heap.size ≤ y.1 → (∃ hi, hi ≤ W.heap.size ∧ FromV W w3.heap.size hi y.1 y.2 n g.edges) → Calls Proofs.Try.prog 82 [.agg #[.slice pa g.props.length pc, .slice ia g.init.length ic, .func (.func 111) #[] #[pt y.1 0], .slice sa g.sets.length sc]].toArray W (Ret fun r w' => Kp W w' ∧ ∃ z, r = .tuple #[agB (degG g) z, .int .i64 0] ∧ OutY w3.heap.size w' (degG g) z) := fun W hW y hy1 hy => by
      obtain ⟨hi, hhi, hF⟩ := hy
      have kW : Kp w W := K3.newS hW fun j hj => by omega
      have hvW := hv.chg kW (Nat.le_refl _) kW.size
      rw [hdg]
      refine (degenY_c hvW.props hvW.init hF hhi hvW.sets (check_sorted hc) hpl hel hbox hsl (fun s hs => by have := hG.init s hs; omega) (check_init hc).1 (fun e he => by have := hG.edges e he; omega)).mono fun en w' hr => ?_
      cases en with
      | returned v =>
        obtain ⟨k, z, e, h⟩ := hr
        exact ⟨k, z, e, h.low hW.size⟩
      | _ => exact hr.elim
    obtain ⟨Q, hQd⟩ : ∃ Q : World → Prop, Q = fun W => ∃ z : AC4, Own W b2 31 [.slice z.1.1 (degG g).props.length z.1.2, .int .i64 (degG g).states, .slice z.2.1.1 (degG g).init.length z.2.1.2, .slice z.2.2.1.1 (degG g).edges.length z.2.2.1.2, .slice z.2.2.2.1 (degG g).final.length z.2.2.2.2] ∧ OutY w3.heap.size W (degG g) z := ⟨_, rfl⟩
    have hQ : ∀ W W', Q W → Chg (fun k => k = b2) W W' → (b2 < W.heap.size → W'.heap[b2]? = W.heap[b2]?) → Q W' := fun W W' h k hs => by
      rw [hQd] at h ⊢
      obtain ⟨z, h1, h2⟩ := h
      exact ⟨z, (hs h1.lt).trans h1, OutV.chg h2 k fun b hb => .inl (by omega)⟩
    have hne : b1 ≠ b2 := by omega
    refine drawnW agree mixed 17 [4, 5, 6, 7, 8, 0, 1, 2, 3, 9, 10, 11, 12, 13, 14, 15, 16] (by kernel_rfl) (ChgQ b2 Q) (preChgQ hQ) (fun W => Own W b2 31 [nilS, .int .i64 0, nilS, nilS, nilS]) 15 m2 ?_
    conv => whnf
    refine ldu (preChgQ hQ) agree rfl rfl (fun W h _ _ => Own.at_ (xs := [.int .i64 g.states]) (o := 1) (h.chg.own m1 hne) rfl) (by rfl) fun _ => ?_
    conv => whnf
    refine ldu (preChgQ hQ) agree rfl rfl (fun W h _ _ => Own.at_ (xs := [.slice ea g.edges.length ec]) (o := 3) (h.chg.own m1 hne) rfl) (by rfl) fun _ => ?_
    conv => whnf
    refine calluk (fun y : Nat × Nat => .func (.func 111) #[] #[pt y.1 0]) (fun y W => w3.heap.size ≤ y.1 ∧ ∃ hi, hi ≤ W.heap.size ∧ FromV W w3.heap.size hi y.1 y.2 n g.edges) rfl rfl rfl (fun y W W' hF hS => ?_) callBy (fun W hS _ => (hby W hS.chg).mono fun en W' hr => ?_) fun y D hD => ?_
    · obtain ⟨h1, hi, h2, h3⟩ := hF
      exact ⟨h1, hi, Nat.le_trans h2 hS.chg.size, h3.chg hS.chg (by omega) (fun b h4 h5 h6 => by omega)⟩
    · cases en with
      | returned v =>
        obtain ⟨k, y, e, h⟩ := hr
        exact ⟨(preChgQ hQ).kp k, fun hU => k.own hU id, y, e, h⟩
      | _ => exact hr.elim
    conv => whnf
    refine ldu (preChgQ hQ) agree rfl rfl (fun W h _ _ => Own.at_ (xs := [.slice pa g.props.length pc]) (o := 0) (h.chg.own m1 hne) rfl) (by rfl) fun _ => ?_
    conv => whnf
    refine ldu (preChgQ hQ) agree rfl rfl (fun W h _ _ => Own.at_ (xs := [.slice ia g.init.length ic]) (o := 2) (h.chg.own m1 hne) rfl) (by rfl) fun _ => ?_
    conv => whnf
    refine ldu (preChgQ hQ) agree rfl rfl (fun W h _ _ => Own.at_ (xs := [.slice sa g.sets.length sc]) (o := 4) (h.chg.own m1 hne) rfl) (by rfl) fun _ => ?_
    conv => whnf
    refine calluk (fun z : AC4 => .tuple #[agB (degG g) z, .int .i64 0]) (fun z W => OutY w3.heap.size W (degG g) z) rfl rfl rfl (fun z W W' hF hS => OutV.chg hF hS.chg fun b hb => .inl (by omega)) callDegen0 (fun W hS hDn => (hdeg W hS.chg y (hD W (hDn 8 (by kernel_rfl))).1 (hD W (hDn 8 (by kernel_rfl))).2).mono fun en W' hr => ?_) fun z D2 hD2 => ?_
    · cases en with
      | returned v =>
        obtain ⟨k, z, e, h⟩ := hr
        exact ⟨(preChgQ hQ).kp k, fun hU => k.own hU id, z, e, h⟩
      | _ => exact hr.elim
    conv => whnf
    refine stu Q rfl (fun W W' h hS => ChgQ.keeps hQ h hS) (fun W h hDn hU => ?_) fun D3 hD3 => ?_
    · have hz := hD2 W (hDn 12 (by kernel_rfl))
      refine st agree (hU rfl) rfl (Nat.le_refl 5) rfl fun W' z' k' o' => ?_
      have hq : Q W' := by
        rw [hQd]
        exact ⟨z, o', OutV.chg hz k' fun b hb => .inl (by omega)⟩
      exact ⟨⟨k', .inr hq⟩, hq⟩
    conv => whnf
    intro W hS hd
    have hq := hD3 W (hd 15)
    rw [hQd] at hq
    obtain ⟨z', hO, hY⟩ := hq
    refine ld agree (v := agB (degG g) z') (Own.at_ (xs := [.slice z'.1.1 (degG g).props.length z'.1.2, .int .i64 (degG g).states, .slice z'.2.1.1 (degG g).init.length z'.2.1.2, .slice z'.2.2.1.1 (degG g).edges.length z'.2.2.1.2, .slice z'.2.2.2.1 (degG g).final.length z'.2.2.2.2]) (o := 0) hO rfl) (by rfl) ?_
    exact ⟨K3.newS hS.chg fun j hj => by omega, .inr ⟨hc, z', rfl, hY.low (by have := K3.size; omega)⟩⟩
end Go.Au

namespace Go.Au
open Go Go.RowKit Go.MapKept

theorem range_head {w : World} {b o : Nat} {x : Value} {r : List Value} (h : w.rangeAt b o (x :: r)) : w.rangeAt b (o + 0) [x] := fun j v hv => by
  match j, hv with
  | 0, hv => exact h 0 v (by simpa using hv)
  | j + 1, hv => simp at hv
theorem byI_c {w : World} {ev : Value} {n : Nat} {st : Int} {es : List Edge} (hst : st = n) (hv : Edges 0 w.heap.size w ev es) (hn : n ≤ 65536) (hE : es.length < 1099511627776) (hr : ∀ e ∈ es, 0 ≤ e.frm ∧ e.frm < n) :
    Calls Proofs.Try.prog 81 [.int .i64 st, ev].toArray w (Ret fun r w' => Kp w w' ∧ ∃ lb bb, r = .func (.func 111) #[] #[pt lb 0] ∧ w.heap.size ≤ lb ∧ FromV w' w.heap.size w'.heap.size lb bb n es) := by
  subst hst
  exact by_c hv hn hE hr
/-- the states that are reached, in their order -/
def breL (n : Nat) (g : Buchi) : List Place := (degS [] (fromS g.edges) ((iniS g.init).1, [], []) (n * 1)).1
theorem callBreadth : callable Proofs.Try.prog 86 = true := by kernel_rfl
set_option maxHeartbeats 2000000 in
theorem breadth_c {w : World} {pv iv ev fv : Value} {g : Buchi} {n : Nat} (hv : BuchiV 0 w.heap.size w pv iv ev fv g) (hn : g.states = n) (hn6 : n < 65536) (hel : g.edges.length < 1000000) (hini : ∀ s ∈ g.init, 0 ≤ s ∧ s < n) (hnd : g.init.Nodup) (hed : ∀ e ∈ g.edges, 0 ≤ e.frm ∧ e.frm < n ∧ 0 ≤ e.to ∧ e.to < n) :
    Calls Proofs.Try.prog 86 [.agg #[pv, .int .i64 g.states, iv, ev, fv]].toArray w (Ret fun r w' => Kp w w' ∧ Ints w.heap.size w'.heap.size w' r ((breL n g).map (·.1))) := by
  obtain ⟨pa, pc, rfl, -⟩ := id hv.props
  obtain ⟨ia, ic, rfl, hic, hir⟩ := id hv.init
  obtain ⟨ea, ec, rfl, -⟩ := id hv.edges
  obtain ⟨fa, fc, rfl, -⟩ := id hv.final
  refine call agree Proofs.Try.func86 rfl Proofs.Try.ntmps86 (by kernel_rfl) ?_
  refine nd fun b1 w1 e1 z1 k1 m1 => ?_
  have m1 : Own w1 b1 31 [.slice pa g.props.length pc, .int .i64 g.states, .slice ia g.init.length ic, .slice ea g.edges.length ec, .slice fa g.final.length fc] := m1
  refine ld agree (Own.at_ (xs := [.int .i64 g.states]) (o := 1) m1 rfl) (by rfl) ?_
  refine ld agree (Own.at_ (xs := [.slice ea g.edges.length ec]) (o := 3) m1 rfl) (by rfl) ?_
  have hby := byI_c hn (edges_kp hv.edges k1 (Nat.le_refl _) k1.size) (by omega) (by omega) (fun e he => by have := hed e he; omega)
  refine cl callBy hby ?_
  rintro r0 w2 ⟨k2, lb, bb, hr0, hlb, hF⟩
  subst hr0
  refine nd fun mm w3 e3 z3 k3 mmm => ?_
  refine nd fun b4 w4 e4 z4 k4 mb4 => ?_
  have mb4 : Own w4 b4 148 [.map (some mm), nilS, .bool false] := mb4
  have k24 : Kp w2 w4 := k3.trans k4
  have k14 : Kp w1 w4 := k2.trans k24
  have nums0 : NumV w4 w4.heap.size b4 mm nilS [] := ⟨mb4, (MapE.made (by
      have : w3.heap[mm]? = some (.map #[] 0) := mmm
      exact k4.heap this id) pval_inj), World.ownsRow_nil _ _ _ _, Nat.le_refl _, List.nodup_nil⟩
  obtain ⟨T4, hT4⟩ : ∃ T4 : Nat → Prop, T4 = fun g => g = b4 ∨ g = mm := ⟨_, rfl⟩
  have T4i : ∀ g, T4 g ↔ (g = b4 ∨ g = mm) := fun g => by rw [hT4]
  have hK : ∀ {V}, Chg T4 w4 V → Kp w2 V := fun {V} hc => k24.newS hc fun g hg => by rw [T4i] at hg; omega
  have hnofC : ∀ {V V' : World} {vN : Value} {L : List Place}, Chg T4 w4 V → NumV V w4.heap.size b4 mm vN L → Chg (fun k => k = b4 ∨ k = mm ∨ some k = vN.ownBlock) V V' → Chg T4 w4 V' := fun {V V' vN L} hc hN h => hc.newT h fun g hg => by
    rcases hg with rfl | rfl | hg
    · exact .inl ((T4i _).2 (.inl rfl))
    · exact .inl ((T4i _).2 (.inr rfl))
    · exact .inr (ownsRow_base hN.row hg.symm)
  have hI0len : ∀ m, m ≤ g.init.length → (iniS (g.init.take m)) = ((g.init.take m).map fun s => (s, (0 : Int)), (List.range m).map fun (i : Nat) => (i : Int)) := fun m hm => by
    have := iniS_eq (l := g.init.take m) (hnd.sublist (List.take_sublist _ _))
    rw [List.length_take, Nat.min_eq_left hm] at this
    exact this
  have hinl : g.init.length ≤ n := by
    have h1 := nodup_sub (l := g.init) (r := (List.range n).map fun (i : Nat) => (i : Int)) hnd fun s hs' => by
      have := hini s hs'
      exact List.mem_map.2 ⟨s.toNat, by rw [List.mem_range]; omega, by omega⟩
    simpa using h1
  have hto' : ∀ s, ∀ e ∈ fromS g.edges s, 0 ≤ e.to ∧ e.to < n := fun s e he => (hed e (List.mem_filter.1 he).1).2.2
  refine ld agree (Own.at_ (xs := [.slice ia g.init.length ic]) (o := 2) (k14.own m1 id) rfl) (by rfl) ?_
  refine loop agree (σ := Nat × Value) (fun t => [(3, .func (.func 111) #[] #[pt lb 0]), (4, pt b4 0), (22, .slice ia g.init.length ic), (23, .int .i64 g.init.length), (24, .int .i64 t.1)])
    (fun t V => t.1 ≤ g.init.length ∧ Chg T4 w4 V ∧ NumV V w4.heap.size b4 mm t.2 (iniS (g.init.take t.1)).1) (fun t => g.init.length - t.1) (0, nilS)
    ⟨rfl, rfl, rfl, rfl, rfl, trivial⟩ ⟨Nat.zero_le _, Chg.refl _ _, nums0⟩ ?_
  rintro ⟨j, xN⟩ ea0 w7 ⟨hj, c7, nums7⟩
  simp only at hj nums7
  refine sp (fun hlt => ?_) (fun hge => ?_)
  · have hj' : j < g.init.length := by simp only at hlt; omega
    have hexs : ∃ s, s = g.init[j] := ⟨_, rfl⟩
    obtain ⟨s, hsd⟩ := hexs
    have hxs : g.init[j]? = some s := by rw [hsd]; simp
    have hsr := hini s (List.mem_of_getElem? hxs)
    have hrj := hir j s hxs
    obtain ⟨q, o, hia, -, -, cs, -, hrd, hcs⟩ := hrj
    subst hia hcs
    have hT1 : (iniS (g.init.take j)).1.length = j := by rw [hI0len j (by omega)]; simp; omega
    have hsnoc : iniS (g.init.take (j + 1)) = iniE (iniS (g.init.take j)) s := by
      rw [List.take_succ_eq_append_getElem hj', iniS_snoc, ← hsd]
    refine ne ⟨by simp only; omega, by simp only; omega⟩ ?_
    refine ld agree (v := .int .i64 s) (by rw [Int.toNat_natCast]; exact ((k1.trans k2).trans (hK c7)).range hrd id) (by rfl) ?_
    have hnf := nof_c nums7 (p := (s, 0)) (show I64 s from ⟨by omega, by omega⟩) (show I64 (0 : Int) from ⟨by decide, by decide⟩) (by omega)
    refine cl callNOf hnf ?_
    rintro r8 w8 ⟨hr8, vN8, nums8, c8, -, -⟩
    subst hr8
    refine aw (by simp only; omega) (by simp only; omega) ?_
    refine again (j + 1, vN8) ⟨rfl, rfl, rfl, rfl, rfl, trivial⟩ ⟨by simp only; omega, hnofC c7 nums7 c8, ?_⟩ (by simp only; omega)
    simp only
    rw [hsnoc]
    exact nums8
  · have hje : j = g.init.length := by simp only at hge; omega
    subst hje
    rewrite [List.take_length] at nums7
    have hexL : ∃ L0, L0 = (iniS g.init).1 := ⟨_, rfl⟩
    obtain ⟨L0, hL0⟩ := hexL
    rewrite [← hL0] at nums7
    have hok0 : DOk n (max ([] : List (List Int)).length 1) (L0, [], []) := ⟨nums7.nd, fun q hq => by
      have hq : q ∈ L0 := hq
      rw [hL0, iniS_eq hnd] at hq
      obtain ⟨s, hs', rfl⟩ := List.mem_map.1 hq
      have := hini s hs'
      exact ⟨this.1, this.2, Int.le_refl _, by show (0 : Int) < ((max 0 1 : Nat) : Int); decide⟩⟩
    refine loop agree (σ := Nat × Value) (fun t => [(3, .func (.func 111) #[] #[pt lb 0]), (4, pt b4 0), (7, .int .i64 t.1)])
      (fun t V => t.1 ≤ (degS [] (fromS g.edges) (L0, [], []) t.1).1.length ∧ Chg T4 w4 V ∧ NumV V w4.heap.size b4 mm t.2 (degS [] (fromS g.edges) (L0, [], []) t.1).1) (fun t => n * 1 - t.1) (0, xN)
      ⟨rfl, rfl, rfl, trivial⟩ ⟨Nat.zero_le _, c7, nums7⟩ ?_
    rintro ⟨i, vN⟩ eb wA ⟨hi1, cA, numsA⟩
    simp only at hi1 numsA
    have hDok := degS_ok hto' hok0 i
    have hLb := box_length hDok.nd hDok.box
    have hLb' : (degS [] (fromS g.edges) (L0, [], []) i).1.length ≤ n * 1 := hLb
    have hexD : ∃ D, D = degS [] (fromS g.edges) (L0, [], []) i := ⟨_, rfl⟩
    obtain ⟨D, hDi⟩ := hexD
    rewrite [← hDi] at hi1 numsA hDok hLb'
    obtain ⟨L, E, F⟩ := D
    simp only at hi1 numsA hLb'
    have hfN := ownsRow_form numsA.row
    obtain ⟨na, nc, hfN⟩ := hfN
    subst hfN
    have hrowN := ownsRow_row (f := pcells) (fun _ => rfl) numsA.row (by decide)
    obtain ⟨na', nc', e1', -, hrN⟩ := hrowN
    injection e1' with e1' _ e2'
    subst e1' e2'
    refine ld agree (Own.at_ (xs := [.slice na L.length nc]) (o := 1) numsA.hdr rfl) (by rfl) ?_
    refine sp (fun hlt => ?_) (fun hge => ?_)
    · have hiL : i < L.length := by simp only at hlt; omega
      have hexp : ∃ pp, pp = L[i] := ⟨_, rfl⟩
      obtain ⟨pp, hpp⟩ := hexp
      have hxi : L[i]? = some pp := by rw [hpp]; simp
      have hbxi := hDok.box pp (List.mem_of_getElem? hxi)
      obtain ⟨pS, pW⟩ := pp
      obtain ⟨q1, q2, q3, q4⟩ := hbxi
      simp only at q1 q2 q3 q4
      have hpW : pW = 0 := by have : pW < ((max 0 1 : Nat) : Int) := q4; omega
      subst hpW
      have hexps : ∃ ps : Nat, pS = ps := ⟨pS.toNat, by omega⟩
      obtain ⟨ps, hps⟩ := hexps
      subst hps
      have hpsn : ps < n := by omega
      have hri := hrN i _ hxi
      obtain ⟨qb, qo, hna, -, -, cs0, -, hrd0, hcs0⟩ := hri
      subst hna hcs0
      refine ld agree (Own.at_ (xs := [.slice (some ⟨qb, qo, none⟩) L.length nc]) (o := 1) numsA.hdr rfl) (by rfl) ?_
      refine ne ⟨Int.natCast_nonneg _, Int.ofNat_lt.2 hiL⟩ ?_
      refine ld agree (v := .int .i64 (ps : Nat)) (by rw [Int.toNat_natCast]; exact range_head hrd0) (by rfl) ?_
      have hexl : ∃ l, l = fromS g.edges (ps : Int) := ⟨_, rfl⟩
      obtain ⟨l, hl⟩ := hexl
      have hbyc := by1_c (hF.kp (hK cA)) hpsn
      rewrite [← hl] at hbyc
      refine cl callBy1 hbyc ?_
      rintro r0 wB ⟨kB, hER0⟩
      have hER := edges_kp hER0 kB (Nat.le_refl _) (Nat.le_refl _)
      obtain ⟨ra, rc, hr0, hrc, hre⟩ := hER
      subst hr0
      have hlm : ∀ e ∈ l, e ∈ g.edges := fun e he => by rw [hl] at he; exact (List.mem_filter.1 he).1
      have hll : l.length ≤ g.edges.length := by rw [hl]; unfold fromS; exact List.length_filter_le _ _
      have cB := cA.newT kB fun _ hf => hf.elim
      have numsB := numsA.chg kB id id fun _ _ => id
      refine loop agree (σ := Nat × Value) (fun t => [(3, .func (.func 111) #[] #[pt lb 0]), (4, pt b4 0), (7, .int .i64 i), (51, .slice ra l.length rc), (52, .int .i64 l.length), (53, .int .i64 t.1)])
        (fun t V => t.1 ≤ l.length ∧ Chg T4 w4 V ∧ NumV V w4.heap.size b4 mm t.2 (rowE1 i 0 (L, E) (l.take t.1)).1) (fun t => l.length - t.1) (0, .slice (some ⟨qb, qo, none⟩) L.length nc)
        ⟨rfl, rfl, rfl, rfl, rfl, rfl, trivial⟩ ⟨Nat.zero_le _, cB, numsB⟩ ?_
      rintro ⟨j, xN2⟩ ec0 wC ⟨hj, cC, numsC⟩
      simp only at hj numsC
      have hexR : ∃ R, R = rowE1 i 0 (L, E) (l.take j) := ⟨_, rfl⟩
      obtain ⟨R, hR⟩ := hexR
      rewrite [← hR] at numsC
      refine sp (fun hlt => ?_) (fun hge => ?_)
      · have hj' : j < l.length := by simp only at hlt; omega
        have hexe : ∃ e, e = l[j] := ⟨_, rfl⟩
        obtain ⟨e, he⟩ := hexe
        have hxj : l[j]? = some e := by rw [he]; simp
        have hem := hlm e (List.mem_of_getElem? hxj)
        have heto := (hed e hem).2.2
        have hrej := hre j e hxj
        obtain ⟨q, o, hra, hq1, hq2, cs, -, hrd, hcs, -⟩ := hrej
        subst hra hcs
        have hsnoc : rowE1 i 0 (L, E) (l.take (j + 1)) = oneE i 0 R e := by
          rw [List.take_succ_eq_append_getElem hj', rowE1_snoc, ← hR, he]
        have hok := rowE1_box (n := n) (k := 1) (i := i) (d := 0) ⟨by decide, by decide⟩ (l.take j) (L, E) (fun x hx => (hed x (hlm x (List.mem_of_mem_take hx))).2.2) hDok.nd hDok.box
        rewrite [← hR] at hok
        have hRl := box_length hok.1 hok.2.1
        refine ne ⟨by simp only; omega, by simp only; omega⟩ ?_
        have kBC : ∀ g, g < w2.heap.size → wC.heap[g]? = wB.heap[g]? := fun g hg => by
          rw [cC.block g (by omega) (by rw [T4i]; omega), cB.block g (by omega) (by rw [T4i]; omega)]
        refine ld agree (v := e.val) (by rw [Int.toNat_natCast]; exact range_of hrd (kBC q (by omega))) (by rfl) ?_
        refine nd fun b9 wD eD zD kD m9 => ?_
        refine st agree (cs := [.int .i64 0, .int .i64 0, .int .u16 0, .int .u16 0]) m9 rfl (Nat.le_refl 4) rfl ?_
        intro wE zE kE m9
        have m9 : Own wE b9 52 e.cells := m9
        have kCE : Kp wC wE := kD.new eD kE
        refine ld agree (Own.at_ (xs := [.int .i64 e.to]) (o := 1) m9 rfl) (by rfl) ?_
        have numsE := numsC.chg kCE id id fun _ _ => id
        have cE := cC.newT kCE fun _ hf => hf.elim
        have hnf := nof_c numsE (p := (e.to, 0)) (show I64 e.to from ⟨by omega, by omega⟩) (show I64 (0 : Int) from ⟨by decide, by decide⟩) (by omega)
        refine cl callNOf hnf ?_
        rintro r8 w8 ⟨hr8, vN8, nums8, c8, -, -⟩
        subst hr8
        refine aw (by simp only; omega) (by simp only; omega) ?_
        refine again (j + 1, vN8) ⟨rfl, rfl, rfl, rfl, rfl, rfl, trivial⟩ ⟨by simp only; omega, hnofC cE numsE c8, ?_⟩ (by simp only; omega)
        simp only
        rw [hsnoc]
        exact nums8
      · have hje : j = l.length := by simp only at hge; omega
        subst hje
        rewrite [List.take_length] at hR
        have hDn : degS [] (fromS g.edges) (L0, [], []) (i + 1) = (R.1, R.2, F ++ if finC [] ((ps : Int), (0 : Int)) = true then [(i : Int)] else []) := by
          show oneS [] (fromS g.edges) i (degS [] (fromS g.edges) (L0, [], []) i) = _
          rw [← hDi]
          unfold oneS
          rw [hxi]
          simp only
          rw [show nextC [] ((ps : Int), (0 : Int)) = 0 from rfl, ← hl, ← hR]
        have hRlen : i + 1 ≤ R.1.length := by
          have h1 := rowE1_grow i 0 l (L, E)
          rw [← hR] at h1
          simp only at h1
          omega
        refine aw (by omega) (by omega) ?_
        refine again (i + 1, xN2) ⟨rfl, rfl, rfl, trivial⟩ ⟨by simp only; rw [hDn]; exact hRlen, cC, by simp only; rw [hDn]; exact numsC⟩ (by simp only; omega)
    · have hiL : L.length ≤ i := by simp only at hge; omega
      have hstop := degS_stop (sets := []) (fr := fromS g.edges) (st0 := (L0, [], [])) (i := i) (by rw [← hDi]; exact hiL) (n * 1) (by omega)
      rewrite [← hDi] at hstop
      have hbre : breL n g = L := by unfold breL; rw [← hL0, hstop]
      refine ld agree (Own.at_ (xs := [.slice na L.length nc]) (o := 1) numsA.hdr rfl) (by rfl) ?_
      have hsz2 : w.heap.size ≤ w4.heap.size := by have := (k1.trans k14).size; exact this
      refine loop agree (σ := Nat × Value) (fun t => [(10, t.2), (66, .slice na L.length nc), (67, .int .i64 L.length), (68, .int .i64 t.1)])
        (fun t V => t.1 ≤ L.length ∧ Kp wA V ∧ V.ownsRow wA.heap.size 3 1 t.2 t.1 (((L.take t.1).map (·.1)).flatMap fN1)) (fun t => L.length - t.1) (0, nilS)
        ⟨rfl, rfl, rfl, rfl, trivial⟩ ⟨Nat.zero_le _, Chg.refl _ _, by simp; exact World.ownsRow_nil _ _ _ _⟩ ?_
      rintro ⟨j, xO⟩ ed0 wC ⟨hj, kC, rO⟩
      simp only at hj rO
      refine sp (fun hlt => ?_) (fun hge => ?_)
      · have hj' : j < L.length := by simp only at hlt; omega
        have hexp : ∃ pp, pp = L[j] := ⟨_, rfl⟩
        obtain ⟨pp, hpp⟩ := hexp
        have hxi : L[j]? = some pp := by rw [hpp]; simp
        have hri := hrN j _ hxi
        obtain ⟨qb, qo, hna, -, -, cs0, -, hrd0, hcs0⟩ := hri
        subst hna hcs0
        refine ne ⟨by simp only; omega, by simp only; omega⟩ ?_
        refine ld agree (v := pval pp) (by rw [Int.toNat_natCast]; exact kC.range hrd0 id) (by rfl) ?_
        refine nd fun b12 wD eD zD kD m12 => ?_
        refine st agree (cs := [.int .i64 0, .int .i64 0]) m12 rfl (Nat.le_refl 2) rfl ?_
        intro wE zE kE m12
        have m12 : Own wE b12 152 (pcells pp) := m12
        have kCE : Kp wC wE := kD.new eD kE
        have rO := ownsRow_chg rO kCE fun _ _ => id
        refine ld agree (Own.at_ (xs := [.int .i64 pp.1]) (o := 0) m12 rfl) (by rfl) ?_
        refine ne (by decide) ?_
        refine nd fun bq wF eF zF kF mq => ?_
        have mq : Own wF bq 3 [.int .i64 pp.1] := mq
        have rO := ownsRow_chg rO kF fun _ _ => id
        refine ap (m := 1) (news := [.int .i64 pp.1]) agree rfl rfl rfl rfl rfl rfl rfl (by decide) rO rfl (Own.at_ (xs := [.int .i64 pp.1]) (o := 0) mq rfl) rfl (by simp only [maxLen]; omega) (by show (_ + 1) * 8 ≤ _; omega) (by have := kC.size; have := kCE.size; omega) fun vO wG rG cG => ?_
        refine aw (by simp only; omega) (by simp only; omega) ?_
        refine again (j + 1, vO) ⟨rfl, rfl, rfl, rfl, trivial⟩ ⟨by simp only; omega, ((kC.trans kCE).trans kF).newS cG fun g hg => ownsRow_base rO hg.symm, ?_⟩ (by simp only; omega)
        simp only
        rw [List.take_succ_eq_append_getElem hj', List.map_append, List.flatMap_append, ← hpp]
        exact rG
      · have hje : j = L.length := by simp only at hge; omega
        subst hje
        rewrite [List.take_length] at rO
        have hrow := ownsRow_row (f := fN1) (l := L.map (·.1)) (fun _ => rfl) rO (by decide)
        have kall : Kp w wC := (((k1.trans k2).trans (hK cA)).trans kC)
        refine ⟨kall, ?_⟩
        rw [hbre]
        exact RowE.mono hrow (fun _ _ h => h) (by have := cA.size; omega) (Nat.le_refl _)
end Go.Au
