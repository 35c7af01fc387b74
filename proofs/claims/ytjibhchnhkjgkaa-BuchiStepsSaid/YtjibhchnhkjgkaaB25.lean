/- Own text of this workplace: a part of the proofs of this place's statements. -/
import Derived.Test.YtjibhchnhkjgkaaB22
set_option linter.unusedVariables false
set_option linter.unusedSimpArgs false
set_option linter.unusedSectionVars false
namespace Go.Au
open Go Go.RowKit

/-! ### the document's words -/
theorem callRGoes : callable Proofs.Try.prog 73 = true := by kernel_rfl
theorem rgoes_c (w : World) (a : Edge) (l : Int) : Calls Proofs.Try.prog 73 [a.val, .int .u16 l].toArray w (Ret fun r w' => r = .bool (goesS a l) ∧ Kp w w') := by
  refine call agree Proofs.Try.func73 rfl Proofs.Try.ntmps73 (by kernel_rfl) ?_
  refine nd fun p w1 e1 s1 k1 m1 => ?_
  have m1 : Own w1 p 52 a.cells := m1
  refine ld agree (Own.at_ (xs := [.int .u16 a.must]) m1 rfl) (by rfl) ?_
  refine ar ?_
  refine ld agree (Own.at_ (xs := [.int .u16 a.must]) m1 rfl) (by rfl) ?_
  refine sp (fun h => ?_) (fun h => ?_)
  · refine ld agree (Own.at_ (xs := [.int .u16 a.no]) m1 rfl) (by rfl) ?_
    refine ar ?_
    refine sp (fun h2 => ?_) (fun h2 => ?_)
    · exact ⟨congrArg Value.bool (by simp [goesS, h, h2]), k1⟩
    · exact ⟨congrArg Value.bool (by simp [goesS, h, h2]), k1⟩
  · exact ⟨congrArg Value.bool (by simp [goesS, h]), k1⟩

theorem callRPlaces : callable Proofs.Try.prog 72 = true := by kernel_rfl
theorem rplaces_c {w : World} (a1 a2 : Option Addr) (c1 c2 : Nat) (x : Word) (ls : x.stem.length < 2305843009213693952) (ll : x.loop.length < 2305843009213693952) :
    Calls Proofs.Try.prog 72 [.agg #[.slice a1 x.stem.length c1, .slice a2 x.loop.length c2]].toArray w (Ret fun r w' => r = .int .i64 (x.places : Nat) ∧ Kp w w') := by
  refine call agree Proofs.Try.func72 rfl Proofs.Try.ntmps72 (by kernel_rfl) ?_
  refine nd fun p w1 e1 s1 k1 m1 => ?_
  have m1 : Own w1 p 44 [.slice a1 x.stem.length c1, .slice a2 x.loop.length c2] := m1
  refine ld agree (Own.at_ (xs := [.slice a2 x.loop.length c2]) m1 rfl) (by rfl) ?_
  refine sp (fun h => ?_) (fun h => ?_)
  · exact ⟨congrArg (Value.int .i64) (by simp [Word.places, show x.loop.length = 0 by omega]), k1⟩
  · refine ld agree (Own.at_ (xs := [.slice a1 x.stem.length c1]) m1 rfl) (by rfl) ?_
    refine ld agree (Own.at_ (xs := [.slice a2 x.loop.length c2]) m1 rfl) (by rfl) ?_
    refine aw (by omega) (by omega) ?_
    exact ⟨congrArg (Value.int .i64) (by unfold Word.places; rw [if_neg (by omega)]; omega), k1⟩

theorem callRBehind : callable Proofs.Try.prog 129 = true := by kernel_rfl
theorem rbehind_c {w : World} (a1 a2 : Option Addr) (c1 c2 : Nat) (x : Word) (ls : x.stem.length < 2305843009213693952) (ll : x.loop.length < 2305843009213693952) (i : Nat) (hi : i < 4611686018427387904) :
    Calls Proofs.Try.prog 129 [.agg #[.slice a1 x.stem.length c1, .slice a2 x.loop.length c2], .int .i64 i].toArray w (Ret fun r w' => r = .int .i64 (x.behind i) ∧ Kp w w') := by
  refine call agree Proofs.Try.func129 rfl Proofs.Try.ntmps129 (by kernel_rfl) ?_
  refine nd fun p w1 e1 s1 k1 m1 => ?_
  have m1 : Own w1 p 44 [.slice a1 x.stem.length c1, .slice a2 x.loop.length c2] := m1
  refine ld agree (Own.at_ (xs := [.slice a1 x.stem.length c1, .slice a2 x.loop.length c2]) (o := 0) m1 rfl) (by rfl) ?_
  have hc := rplaces_c (w := w1) a1 a2 c1 c2 x ls ll
  have hpl : x.places ≤ x.stem.length + x.loop.length := by unfold Word.places; split <;> omega
  refine cl callRPlaces hc ?_
  rintro _ w2 ⟨rfl, k2⟩
  refine spF (by omega) ?_
  refine sp (fun h => ?_) (fun h => ?_)
  · exact ⟨congrArg (Value.int .i64) (by simp [Word.behind, show x.places ≤ i by omega]), k1.trans k2⟩
  · refine aw (by omega) (by omega) ?_
    refine sp (fun h2 => ?_) (fun h2 => ?_)
    · refine aw (by omega) (by omega) ?_
      exact ⟨congrArg (Value.int .i64) (by unfold Word.behind; rw [if_neg (by omega), if_neg (by omega)]), k1.trans k2⟩
    · refine ld agree (Own.at_ (xs := [.slice a1 x.stem.length c1]) (k2.own m1 id) rfl) (by rfl) ?_
      exact ⟨congrArg (Value.int .i64) (by unfold Word.behind; rw [if_neg (by omega), if_pos (by omega)]), k1.trans k2⟩

theorem callRAt : callable Proofs.Try.prog 128 = true := by kernel_rfl
theorem rat_c {w : World} {lo hi : Nat} {sv lv : Value} {x : Word} (hv : WordV lo hi w sv lv x) (i : Nat) (hi : i < 4611686018427387904) :
    Calls Proofs.Try.prog 128 [.agg #[sv, lv], .int .i64 i].toArray w (Ret fun r w' => r = .int .u16 (x.at i) ∧ Kp w w') := by
  have ls := hv.ls
  have ll := hv.ll
  obtain ⟨a1, c1, rfl, -, hs⟩ := hv.stem
  obtain ⟨a2, c2, rfl, -, hl⟩ := hv.loop
  refine call agree Proofs.Try.func128 rfl Proofs.Try.ntmps128 (by kernel_rfl) ?_
  refine nd fun p w1 e1 s1 k1 m1 => ?_
  have m1 : Own w1 p 44 [.slice a1 x.stem.length c1, .slice a2 x.loop.length c2] := m1
  refine ld agree (Own.at_ (xs := [.slice a2 x.loop.length c2]) m1 rfl) (by rfl) ?_
  refine sp (fun h => ?_) (fun h => ?_)
  · exact ⟨congrArg (Value.int .u16) (by simp [Word.at, show x.loop.length = 0 by omega]), k1⟩
  refine spF (by omega) ?_
  refine ld agree (Own.at_ (xs := [.slice a1 x.stem.length c1]) m1 rfl) (by rfl) ?_
  refine sp (fun h2 => ?_) (fun h2 => ?_)
  · refine ld agree (Own.at_ (xs := [.slice a1 x.stem.length c1]) m1 rfl) (by rfl) ?_
    have hi' : i < x.stem.length := by omega
    obtain ⟨b, o, rfl, hlo, hhi, cs, hcs, hrd, rfl, hwf⟩ := hs i x.stem[i] (by simp)
    refine ne ⟨by omega, h2⟩ ?_
    refine ld agree (k1.range hrd id) (by rfl) ?_
    exact ⟨congrArg (Value.int .u16) (by unfold Word.at; rw [if_neg (by omega), if_pos hi']; simp [hi']), k1⟩
  · have hj : (i - x.stem.length) % x.loop.length < x.loop.length := Nat.mod_lt _ (by omega)
    obtain ⟨b, o, rfl, hlo, hhi, cs, hcs, hrd, rfl, hwf⟩ := hl ((i - x.stem.length) % x.loop.length) x.loop[(i - x.stem.length) % x.loop.length] (by simp)
    have hm : ((i : Int) - x.stem.length).tmod x.loop.length = (((i - x.stem.length) % x.loop.length : Nat) : Int) := by
      rw [show (i : Int) - x.stem.length = ((i - x.stem.length : Nat) : Int) by omega, Int.ofNat_tmod]
    have A : ∀ W, Kp w1 W → Own W p 44 [.slice a1 x.stem.length c1, .slice (some ⟨b, o, none⟩) x.loop.length c2] := fun W h => h.heap m1 id
    refine drawn0 agree mixed 14 (by kernel_rfl) (fun _ => False) ?_
    conv => whnf
    refine ldk agree rfl rfl (fun W h _ => Own.at_ (xs := [.slice (some ⟨b, o, none⟩) x.loop.length c2]) (A W h) rfl) (by rfl) fun _ => ?_
    conv => whnf
    refine ldk agree rfl rfl (fun W h _ => Own.at_ (xs := [.slice a1 x.stem.length c1]) (A W h) rfl) (by rfl) fun _ => ?_
    conv => whnf
    refine aw (by omega) (by omega) ?_
    conv => whnf
    refine ldk agree rfl rfl (fun W h _ => Own.at_ (xs := [.slice (some ⟨b, o, none⟩) x.loop.length c2]) (A W h) rfl) (by rfl) fun _ => ?_
    conv => whnf
    refine ne (by omega) ?_
    conv => whnf
    refine ⟨fun y hy => ?_⟩
    rw [hm] at hy
    subst hy
    conv => whnf
    refine ne ⟨by omega, by omega⟩ ?_
    conv => whnf
    refine ldk agree rfl rfl (fun W h _ => (k1.trans h).range hrd id) (by rfl) fun _ => ?_
    conv => whnf
    intro W h _
    exact ⟨congrArg (Value.int .u16) (by unfold Word.at; rw [if_neg (by omega), if_neg (by omega)]; simp [hj]), k1.trans h⟩

theorem callRWCheck : callable Proofs.Try.prog 70 = true := by kernel_rfl
theorem any_take {φ : Int → Bool} {xs : List Int} {i : Nat} (h : (xs.take i).any φ = false) (hi : i < xs.length) : (xs.take (i + 1)).any φ = φ xs[i] := by
  rw [List.take_succ_eq_append_getElem hi, List.any_append, h]; simp
theorem rwcheck_c {w : World} {lo hi : Nat} {sv lv : Value} {x : Word} (hv : WordV lo hi w sv lv x) {n : Nat} (hn : n ≤ 8) :
    Calls Proofs.Try.prog 70 [.agg #[sv, lv], .int .i64 n].toArray w (Ret fun r w' => r = .int .i64 (if wordOk x n then 0 else 50) ∧ Kp w w') := by
  have ls := hv.ls
  have ll := hv.ll
  obtain ⟨a1, c1, rfl, -, hs⟩ := hv.stem
  obtain ⟨a2, c2, rfl, -, hl⟩ := hv.loop
  refine call agree Proofs.Try.func70 rfl Proofs.Try.ntmps70 (by kernel_rfl) ?_
  refine nd fun p w1 e1 s1 k1 m1 => ?_
  have m1 : Own w1 p 44 [.slice a1 x.stem.length c1, .slice a2 x.loop.length c2] := m1
  obtain ⟨e1', e2', e3'⟩ := shl_val hn
  refine spF (by omega) ?_
  refine spF (by omega) ?_
  refine arE (z' := (n : Int)) ?_ ?_
  · show (if (false && decide ((n : Int) % 18446744073709551616 ≥ 9223372036854775808)) = true then (n : Int) % 18446744073709551616 - 18446744073709551616 else (n : Int) % 18446744073709551616) = n
    rw [if_neg (by simp)]; omega
  refine ne (by omega) ?_
  refine arE (z' := 2 ^ n) (by rw [e1']; exact wrap64 (by omega) (by omega)) ?_
  generalize hL : (2 : Int) ^ n = L at *
  have hw : wordOk x n = (!decide (x.loop.length = 0) && !x.stem.any (fun c => decide (L ≤ c)) && !x.loop.any (fun c => decide (L ≤ c))) := by rw [← hL]; rfl
  rw [hw]
  refine ld agree (Own.at_ (xs := [.slice a2 x.loop.length c2]) m1 rfl) (by rfl) ?_
  refine sp (fun h => ?_) (fun h => ?_)
  · exact ⟨congrArg (Value.int .i64) (by rw [decide_eq_true (by omega)]; simp), k1⟩
  rw [decide_eq_false (by omega)]
  refine loop agree (σ := Nat) (fun i => [(2, pt p 0), (5, .int .i64 L), (6, .int .i64 i)]) (fun i w' => Kp w1 w' ∧ i ≤ x.stem.length ∧ (x.stem.take i).any (fun c => decide (L ≤ c)) = false) (fun i => x.stem.length - i) 0
    ⟨rfl, rfl, rfl, trivial⟩ ⟨Chg.refl _ _, by omega, by simp⟩ ?_
  rintro i e0 w2 ⟨k2, hi, ha⟩
  refine ld agree (Own.at_ (xs := [.slice a1 x.stem.length c1]) (o := 0) (k2.own m1 id) rfl) (by rfl) ?_
  refine sp (fun h1 => ?_) (fun h1 => ?_)
  · have hi' : i < x.stem.length := by omega
    obtain ⟨b, o, rfl, -, -, cs, hcs, hrd, rfl, hwf⟩ := hs i x.stem[i] (by simp)
    refine ld agree (Own.at_ (xs := [.slice (some ⟨b, o, none⟩) x.stem.length c1]) (o := 0) (k2.own m1 id) rfl) (by rfl) ?_
    refine ne ⟨by omega, h1⟩ ?_
    refine ld agree ((k1.trans k2).range hrd id) (by rfl) ?_
    refine aw (by have := hwf.1; omega) (by have := hwf.2; omega) ?_
    have hany := any_take ha hi'
    refine sp (fun h2 => ?_) (fun h2 => ?_)
    · refine ⟨congrArg (Value.int .i64) ?_, k1.trans k2⟩
      rw [show x.stem.any (fun c => decide (L ≤ c)) = true from List.any_eq_true.2 ⟨x.stem[i], by simp, by simpa using h2⟩]
      simp
    · refine aw (by omega) (by omega) ?_
      exact again (i + 1) ⟨rfl, rfl, rfl, trivial⟩ ⟨k2, by omega, by rw [hany]; simpa using h2⟩ (by omega)
  · have hst : x.stem.any (fun c => decide (L ≤ c)) = false := by rw [← ha, List.take_of_length_le (by omega)]
    rw [hst]
    refine loop agree (σ := Nat) (fun i => [(2, pt p 0), (5, .int .i64 L), (7, .int .i64 i)]) (fun i w' => Kp w1 w' ∧ i ≤ x.loop.length ∧ (x.loop.take i).any (fun c => decide (L ≤ c)) = false) (fun i => x.loop.length - i) 0
      ⟨rfl, rfl, rfl, trivial⟩ ⟨k2, by omega, by simp⟩ ?_
    rintro j e0 w3 ⟨k3, hj, hb⟩
    refine ld agree (Own.at_ (xs := [.slice a2 x.loop.length c2]) (o := 1) (k3.own m1 id) rfl) (by rfl) ?_
    refine sp (fun h1 => ?_) (fun h1 => ?_)
    · have hj' : j < x.loop.length := by omega
      obtain ⟨b, o, rfl, -, -, cs, hcs, hrd, rfl, hwf⟩ := hl j x.loop[j] (by simp)
      refine ld agree (Own.at_ (xs := [.slice (some ⟨b, o, none⟩) x.loop.length c2]) (o := 1) (k3.own m1 id) rfl) (by rfl) ?_
      refine ne ⟨by omega, h1⟩ ?_
      refine ld agree ((k1.trans k3).range hrd id) (by rfl) ?_
      refine aw (by have := hwf.1; omega) (by have := hwf.2; omega) ?_
      have hany := any_take hb hj'
      refine sp (fun h2 => ?_) (fun h2 => ?_)
      · refine ⟨congrArg (Value.int .i64) ?_, k1.trans k3⟩
        rw [show x.loop.any (fun c => decide (L ≤ c)) = true from List.any_eq_true.2 ⟨x.loop[j], by simp, by simpa using h2⟩]
        simp
      · refine aw (by omega) (by omega) ?_
        exact again (j + 1) ⟨rfl, rfl, rfl, trivial⟩ ⟨k3, by omega, by rw [hany]; simpa using h2⟩ (by omega)
    · have hlo : x.loop.any (fun c => decide (L ≤ c)) = false := by rw [← hb, List.take_of_length_le (by omega)]
      rw [hlo]
      exact ⟨rfl, k1.trans k3⟩
end Go.Au
