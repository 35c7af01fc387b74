/- Own text of this workplace: a part of the proofs of this place's statements. -/
import Derived.Test.YtjibhchnhkjgkaaB15
set_option linter.unusedVariables false
set_option linter.unusedSimpArgs false
set_option linter.unusedSectionVars false
namespace Go.Au
open Go Go.RowKit Go.MapKept
open Go.Maps (Keyed)

def kA : Buchi := { props := [⟨#[97]⟩], states := 1, init := [0], edges := [⟨0, 0, 1, 0⟩], final := [0] }
def kW1 : Word := { stem := [], loop := [1] }
def kW2 : Word := { stem := [1], loop := [1, 0] }
theorem kCheck : checkS kA.general = true := by decide +kernel
theorem kOk1 : wordOk kW1 kA.general.props.length = true := by decide +kernel
theorem kOk2 : wordOk kW2 kA.general.props.length = true := by decide +kernel
theorem kSets : setsOf kA.general = [[0]] := by rfl
theorem kS1 : succ kA.general kW1 (0, 0) = [(0, 0)] := by decide +kernel
theorem kS20 : succ kA.general kW2 (0, 0) = [(0, 1)] := by decide +kernel
theorem kS21 : succ kA.general kW2 (0, 1) = [(0, 2)] := by decide +kernel
theorem kS22 : succ kA.general kW2 (0, 2) = [] := by decide +kernel
theorem kAcc1 : accS kA.general kW1 = (true, 0) := by
  have h : AccP kA.general kW1 := by
    refine ⟨fun p => p = (0, 0), ⟨_, rfl⟩, fun p hp X h1 _ => by rw [hp]; exact h1 0 (by simp [kA, Buchi.general]), fun p hp F hF => ?_⟩
    rw [kSets] at hF
    simp only [List.mem_singleton] at hF
    subst hF hp
    exact .one rfl (by rw [kS1]; simp) rfl (by simp)
  unfold accS
  rw [if_pos kCheck, if_pos kOk1]
  unfold acceptsS
  rw [@decide_eq_true _ (Classical.propDecidable _) h]
theorem kAcc2 : accS kA.general kW2 = (false, 0) := by
  have h : ¬ AccP kA.general kW2 := by
    rintro ⟨X, ⟨p, hp⟩, hr, hX⟩
    have step : ∀ p, X p → ∃ q, q ∈ succ kA.general kW2 p ∧ X q := fun p hp => by
      have := hX p hp [0] (by rw [kSets]; simp)
      cases this with
      | one h1 h2 h3 h4 => exact ⟨_, h2, h3⟩
      | more h1 h2 h3 h4 => exact ⟨_, h2, h3⟩
    have n2 : ¬ X (0, 2) := fun h => by obtain ⟨q, hq, _⟩ := step _ h; rw [kS22] at hq; simp at hq
    have n1 : ¬ X (0, 1) := fun h => by obtain ⟨q, hq, hx⟩ := step _ h; rw [kS21] at hq; simp at hq; subst hq; exact n2 hx
    have n0 : ¬ X (0, 0) := fun h => by obtain ⟨q, hq, hx⟩ := step _ h; rw [kS20] at hq; simp at hq; subst hq; exact n1 hx
    have := hr p hp (fun q => q = (0, 0) ∨ q = (0, 1) ∨ q = (0, 2)) (fun s hs => by simp [kA, Buchi.general] at hs; simp [hs]) (fun a q ha hq => by
      rcases ha with rfl | rfl | rfl
      · rw [kS20] at hq; simp at hq; simp [hq]
      · rw [kS21] at hq; simp at hq; simp [hq]
      · rw [kS22] at hq; simp at hq)
    rcases this with rfl | rfl | rfl
    · exact n0 hp
    · exact n1 hp
    · exact n2 hp
  unfold accS
  rw [if_pos kCheck, if_pos kOk2]
  unfold acceptsS
  rw [@decide_eq_false _ (Classical.propDecidable _) h]

theorem known_c (w : World) : Calls Proofs.Try.prog 9 [].toArray w (Ret fun v w' => v = .bool true ∧ Kp w w') := by
  refine call agree Proofs.Try.func9 rfl Proofs.Try.ntmps9 (by kernel_rfl) ?_
  refine ne (by decide) ?_
  refine nd fun b1 w1 e1 s1 k1 m1 => ?_
  refine ne (by decide) ?_
  refine nd fun b2 w2 e2 s2 k2 m2 => ?_
  refine ne (by decide) ?_
  refine nd fun b3 w3 e3 s3 k3 m3 => ?_
  refine ne (by decide) ?_
  refine nd fun b4 w4 e4 s4 k4 m4 => ?_
  refine nd fun p1 w5 e5 s5 k5 m5 => ?_
  refine st agree (cs := [.slice none 0 0, .int .i64 0, .slice none 0 0, .slice none 0 0, .slice none 0 0]) m5 rfl (Nat.le_refl 5) rfl ?_
  intro w6 s6 k6 m6
  have m6 : Own w6 p1 31 [.slice (some ⟨b1, 0, none⟩) 1 1, .int .i64 1, .slice (some ⟨b2, 0, none⟩) 1 1, .slice (some ⟨b3, 0, none⟩) 1 1, .slice (some ⟨b4, 0, none⟩) 1 1] := m6
  have k46 : Kp w4 w6 := k5.new e5 k6
  have k06 : Kp w w6 := k1.trans (k2.trans (k3.trans (k4.trans k46)))
  have hB : BuchiV 0 w6.heap.size w6 (.slice (some ⟨b1, 0, none⟩) 1 1) (.slice (some ⟨b2, 0, none⟩) 1 1) (.slice (some ⟨b3, 0, none⟩) 1 1) (.slice (some ⟨b4, 0, none⟩) 1 1) kA := by
    have c1 := (k2.trans (k3.trans (k4.trans k46))).own (show Own w1 b1 9 [.string ⟨#[97]⟩] from m1) id
    have c2 := (k3.trans (k4.trans k46)).own (show Own w2 b2 3 [.int .i64 0] from m2) id
    have c3 := (k4.trans k46).own (show Own w3 b3 52 [.int .i64 0, .int .i64 0, .int .u16 1, .int .u16 0] from m3) id
    have c4 := k46.own (show Own w4 b4 3 [.int .i64 0] from m4) id
    have g1 := own_row (f := fun x : ByteArray => [Value.string x]) (l := [⟨#[97]⟩]) (size := 1) (fun _ => rfl) (by decide) c1 (by simp [maxLen])
    have g2 := own_row (f := fun x : Int => [Value.int .i64 x]) (l := [0]) (size := 1) (fun _ => rfl) (by decide) c2 (by simp [maxLen])
    have g3 := own_row (f := Edge.cells) (l := [⟨0, 0, 1, 0⟩]) (size := 4) (fun _ => rfl) (by decide) c3 (by simp [maxLen])
    have g4 := own_row (f := fun x : Int => [Value.int .i64 x]) (l := [0]) (size := 1) (fun _ => rfl) (by decide) c4 (by simp [maxLen])
    exact ⟨g1, g2, g3.and (by simp [Edge.wf]), g4, by simp [kA], by simp [kA], by simp [kA], by simp [kA]⟩
  refine ld agree (v := .agg #[.slice (some ⟨b1, 0, none⟩) 1 1, .int .i64 1, .slice (some ⟨b2, 0, none⟩) 1 1, .slice (some ⟨b3, 0, none⟩) 1 1, .slice (some ⟨b4, 0, none⟩) 1 1]) (Own.at_ (xs := [.slice (some ⟨b1, 0, none⟩) 1 1, .int .i64 1, .slice (some ⟨b2, 0, none⟩) 1 1, .slice (some ⟨b3, 0, none⟩) 1 1, .slice (some ⟨b4, 0, none⟩) 1 1]) (o := 0) m6 rfl) (by rfl) ?_
  refine ne (by decide) ?_
  refine nd fun q1 w7 e7 s7 k7 m7 => ?_
  have d1 := own_row (f := fun x : Int => [Value.int .u16 x]) (l := [1]) (size := 1) (fun _ => rfl) (by decide) (show Own w7 q1 50 [.int .u16 1] from m7) (by simp [maxLen])
  have hW1 : WordV 0 w7.heap.size w7 (.slice none 0 0) (.slice (some ⟨q1, 0, none⟩) 1 1) kW1 :=
    ⟨⟨none, 0, rfl, Nat.le_refl _, fun i x hx => by simp [kW1] at hx⟩, d1.and (by simp [Let16]), by simp [kW1], by simp [kW1]⟩
  have hcall := acceptsB_c (hB.chg k7 (Nat.le_refl _) k7.size) hW1 (by simp [kA]) (by decide)
  rw [kAcc1] at hcall
  refine cl callAcceptsB hcall ?_
  rintro _ w8 ⟨rfl, k8⟩
  have k68 := k7.trans k8
  refine ld agree (v := .agg #[.slice (some ⟨b1, 0, none⟩) 1 1, .int .i64 1, .slice (some ⟨b2, 0, none⟩) 1 1, .slice (some ⟨b3, 0, none⟩) 1 1, .slice (some ⟨b4, 0, none⟩) 1 1]) (Own.at_ (xs := [.slice (some ⟨b1, 0, none⟩) 1 1, .int .i64 1, .slice (some ⟨b2, 0, none⟩) 1 1, .slice (some ⟨b3, 0, none⟩) 1 1, .slice (some ⟨b4, 0, none⟩) 1 1]) (o := 0) (k68.own m6 id) rfl) (by rfl) ?_
  refine ne (by decide) ?_
  refine nd fun q2 w9 e9 s9 k9 m9 => ?_
  refine ne (by decide) ?_
  refine nd fun q3 w10 e10 s10 k10 m10 => ?_
  have d2 := own_row (f := fun x : Int => [Value.int .u16 x]) (l := [1]) (size := 1) (fun _ => rfl) (by decide) (k10.own (show Own w9 q2 50 [.int .u16 1] from m9) id) (by simp [maxLen])
  have d3 := own_row (f := fun x : Int => [Value.int .u16 x]) (l := [1, 0]) (size := 1) (fun _ => rfl) (by decide) (show Own w10 q3 50 [.int .u16 1, .int .u16 0] from m10) (by simp [maxLen])
  have hW2 : WordV 0 w10.heap.size w10 (.slice (some ⟨q2, 0, none⟩) 1 1) (.slice (some ⟨q3, 0, none⟩) 2 2) kW2 :=
    ⟨d2.and (by simp [Let16]), d3.and (by simp [Let16]), by simp [kW2], by simp [kW2]⟩
  have k610 := k68.trans (k9.trans k10)
  have hcall := acceptsB_c (hB.chg k610 (Nat.le_refl _) k610.size) hW2 (by simp [kA]) (by decide)
  rw [kAcc2] at hcall
  refine cl callAcceptsB hcall ?_
  rintro _ w11 ⟨rfl, k11⟩
  have k611 := k610.trans k11
  refine ld agree (v := .agg #[.slice (some ⟨b1, 0, none⟩) 1 1, .int .i64 1, .slice (some ⟨b2, 0, none⟩) 1 1, .slice (some ⟨b3, 0, none⟩) 1 1, .slice (some ⟨b4, 0, none⟩) 1 1]) (Own.at_ (xs := [.slice (some ⟨b1, 0, none⟩) 1 1, .int .i64 1, .slice (some ⟨b2, 0, none⟩) 1 1, .slice (some ⟨b3, 0, none⟩) 1 1, .slice (some ⟨b4, 0, none⟩) 1 1]) (o := 0) (k611.own m6 id) rfl) (by rfl) ?_
  have hchk := checkB_c (hB.chg k611 (Nat.le_refl _) k611.size)
  rw [kCheck] at hchk
  refine cl callCheck hchk ?_
  rintro _ w12 ⟨rfl, k12⟩
  refine spT rfl ?_
  refine spT rfl ?_
  refine spT rfl ?_
  exact ⟨rfl, k06.trans (k611.trans k12)⟩
theorem callKnown : callable Proofs.Try.prog 9 = true := by kernel_rfl
theorem names_c (w : World) : Calls Proofs.Try.prog 3 [].toArray w (Ret fun v w' => v = .bool true ∧ Kp w w') := by
  refine call agree Proofs.Try.func3 rfl Proofs.Try.ntmps3 (by kernel_rfl) ?_
  refine cl callKnown (known_c w) ?_
  rintro _ w1 ⟨rfl, k1⟩
  exact ⟨rfl, k1⟩
end Go.Au
