/- Own text of this workplace: a part of the proofs of this place's statements. -/
import Derived.Test.YtjibhchnhkjgkaaB6
set_option linter.unusedVariables false
set_option linter.unusedSimpArgs false
set_option linter.unusedSectionVars false
namespace Go.Au
open Go Go.RowKit Go.MapKept
open Go.Maps (Keyed)

def Word.places (x : Word) : Nat := if x.loop.length = 0 then 0 else x.stem.length + x.loop.length
def Word.behind (x : Word) (i : Nat) : Int := if x.places ≤ i then -1 else if i + 1 = x.places then x.stem.length else (i : Int) + 1
def Word.at (x : Word) (i : Nat) : Int := if x.loop.length = 0 then 0 else if i < x.stem.length then x.stem.getD i 0 else x.loop.getD ((i - x.stem.length) % x.loop.length) 0

theorem places_c {w : World} (a1 a2 : Option Addr) (c1 c2 : Nat) (x : Word) (ls : x.stem.length < 2305843009213693952) (ll : x.loop.length < 2305843009213693952) :
    Calls Proofs.Try.prog 127 [.agg #[.slice a1 x.stem.length c1, .slice a2 x.loop.length c2]].toArray w (Ret fun r w' => r = .int .i64 (x.places : Nat) ∧ Kp w w') := by
  refine call agree Proofs.Try.func127 rfl Proofs.Try.ntmps127 (by kernel_rfl) ?_
  refine nd fun p w1 e1 s1 k1 m1 => ?_
  have m1 : Own w1 p 44 [.slice a1 x.stem.length c1, .slice a2 x.loop.length c2] := m1
  refine ld agree (Own.at_ (xs := [.slice a2 x.loop.length c2]) m1 rfl) (by rfl) ?_
  refine sp (fun h => ?_) (fun h => ?_)
  · exact ⟨congrArg (Value.int .i64) (by simp [Word.places, show x.loop.length = 0 by omega]), k1⟩
  · refine ld agree (Own.at_ (xs := [.slice a1 x.stem.length c1]) m1 rfl) (by rfl) ?_
    refine ld agree (Own.at_ (xs := [.slice a2 x.loop.length c2]) m1 rfl) (by rfl) ?_
    refine aw (by omega) (by omega) ?_
    exact ⟨congrArg (Value.int .i64) (by unfold Word.places; rw [if_neg (by omega)]; omega), k1⟩
theorem callPlaces : callable Proofs.Try.prog 127 = true := by kernel_rfl

theorem behind_c {w : World} (a1 a2 : Option Addr) (c1 c2 : Nat) (x : Word) (ls : x.stem.length < 2305843009213693952) (ll : x.loop.length < 2305843009213693952) (i : Nat) (hi : i < 4611686018427387904) :
    Calls Proofs.Try.prog 103 [.agg #[.slice a1 x.stem.length c1, .slice a2 x.loop.length c2], .int .i64 i].toArray w (Ret fun r w' => r = .int .i64 (x.behind i) ∧ Kp w w') := by
  refine call agree Proofs.Try.func103 rfl Proofs.Try.ntmps103 (by kernel_rfl) ?_
  refine nd fun p w1 e1 s1 k1 m1 => ?_
  have m1 : Own w1 p 44 [.slice a1 x.stem.length c1, .slice a2 x.loop.length c2] := m1
  refine ld agree (Own.at_ (xs := [.slice a1 x.stem.length c1, .slice a2 x.loop.length c2]) (o := 0) m1 rfl) (by rfl) ?_
  have hc := places_c (w := w1) a1 a2 c1 c2 x ls ll
  have hpl : x.places ≤ x.stem.length + x.loop.length := by unfold Word.places; split <;> omega
  refine cl callPlaces hc ?_
  rintro _ w2 ⟨rfl, k2⟩
  refine spF (by omega) ?_
  refine sp (fun h => ?_) (fun h => ?_)
  · exact ⟨congrArg (Value.int .i64) (by simp [Word.behind, show x.places ≤ i by omega]), k1.trans k2⟩
  · refine aw (by omega) (by omega) ?_
    refine sp (fun h2 => ?_) (fun h2 => ?_)
    · refine ld agree (Own.at_ (xs := [.slice a1 x.stem.length c1]) (k2.own m1 id) rfl) (by rfl) ?_
      exact ⟨congrArg (Value.int .i64) (by unfold Word.behind; rw [if_neg (by omega), if_pos (by omega)]), k1.trans k2⟩
    · refine aw (by omega) (by omega) ?_
      exact ⟨congrArg (Value.int .i64) (by unfold Word.behind; rw [if_neg (by omega), if_neg (by omega)]), k1.trans k2⟩
theorem callBehind : callable Proofs.Try.prog 103 = true := by kernel_rfl

theorem at_c {w : World} {lo hi : Nat} {sv lv : Value} {x : Word} (hv : WordV lo hi w sv lv x) (i : Nat) (hi : i < 4611686018427387904) :
    Calls Proofs.Try.prog 102 [.agg #[sv, lv], .int .i64 i].toArray w (Ret fun r w' => r = .int .u16 (x.at i) ∧ Kp w w') := by
  have ls := hv.ls
  have ll := hv.ll
  obtain ⟨a1, c1, rfl, -, hs⟩ := hv.stem
  obtain ⟨a2, c2, rfl, -, hl⟩ := hv.loop
  refine call agree Proofs.Try.func102 rfl Proofs.Try.ntmps102 (by kernel_rfl) ?_
  refine nd fun p w1 e1 s1 k1 m1 => ?_
  have m1 : Own w1 p 44 [.slice a1 x.stem.length c1, .slice a2 x.loop.length c2] := m1
  refine spF (by omega) ?_
  refine ld agree (Own.at_ (xs := [.slice a2 x.loop.length c2]) m1 rfl) (by rfl) ?_
  refine sp (fun h => ?_) (fun h => ?_)
  · exact ⟨congrArg (Value.int .u16) (by simp [Word.at, show x.loop.length = 0 by omega]), k1⟩
  refine ld agree (Own.at_ (xs := [.slice a1 x.stem.length c1]) m1 rfl) (by rfl) ?_
  refine sp (fun h2 => ?_) (fun h2 => ?_)
  · refine ld agree (Own.at_ (xs := [.slice a1 x.stem.length c1]) m1 rfl) (by rfl) ?_
    have hi' : i < x.stem.length := by omega
    obtain ⟨b, o, rfl, hlo, hhi, cs, hcs, hrd, rfl, hwf⟩ := hs i x.stem[i] (by simp)
    refine ne ⟨by omega, h2⟩ ?_
    refine ld agree (k1.range hrd id) (by rfl) ?_
    exact ⟨congrArg (Value.int .u16) (by unfold Word.at; rw [if_neg (by omega), if_pos hi']; simp [hi']), k1⟩
  · have hj : (i - x.stem.length) % x.loop.length < x.loop.length := Nat.mod_lt _ (by omega)
    obtain ⟨b, o, rfl, hlo, hhi, cs, hcs, hrd, rfl, hwf⟩ := hl ((i - x.stem.length) % x.loop.length) x.loop[(i - x.stem.length) % x.loop.length] (by simp)
    have hm : ((i : Int) - x.stem.length).tmod x.loop.length = (((i - x.stem.length) % x.loop.length : Nat) : Int) := by
      rw [show (i : Int) - x.stem.length = ((i - x.stem.length : Nat) : Int) by omega, Int.ofNat_tmod]
    have A : ∀ W, Kp w1 W → Own W p 44 [.slice a1 x.stem.length c1, .slice (some ⟨b, o, none⟩) x.loop.length c2] := fun W h => h.heap m1 id
    refine drawn0 agree mixed 14 (by kernel_rfl) (fun _ => False) ?_
    conv => whnf
    refine ldk agree rfl rfl (fun W h _ => Own.at_ (xs := [.slice (some ⟨b, o, none⟩) x.loop.length c2]) (A W h) rfl) (by rfl) fun _ => ?_
    conv => whnf
    refine ldk agree rfl rfl (fun W h _ => Own.at_ (xs := [.slice a1 x.stem.length c1]) (A W h) rfl) (by rfl) fun _ => ?_
    conv => whnf
    refine aw (by omega) (by omega) ?_
    conv => whnf
    refine ldk agree rfl rfl (fun W h _ => Own.at_ (xs := [.slice (some ⟨b, o, none⟩) x.loop.length c2]) (A W h) rfl) (by rfl) fun _ => ?_
    conv => whnf
    refine ne (by omega) ?_
    conv => whnf
    refine ⟨fun y hy => ?_⟩
    rw [hm] at hy
    subst hy
    conv => whnf
    refine ne ⟨by omega, by omega⟩ ?_
    conv => whnf
    refine ldk agree rfl rfl (fun W h _ => (k1.trans h).range hrd id) (by rfl) fun _ => ?_
    conv => whnf
    intro W h _
    exact ⟨congrArg (Value.int .u16) (by unfold Word.at; rw [if_neg (by omega), if_neg (by omega)]; simp [hj]), k1.trans h⟩
theorem callAt : callable Proofs.Try.prog 102 = true := by kernel_rfl
end Go.Au
