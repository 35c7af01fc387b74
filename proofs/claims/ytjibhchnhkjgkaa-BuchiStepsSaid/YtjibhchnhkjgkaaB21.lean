/- Own text of this workplace: a part of the proofs of this place's statements. -/
import Derived.Test.YtjibhchnhkjgkaaB20
set_option linter.unusedVariables false
set_option linter.unusedSimpArgs false
set_option linter.unusedSectionVars false
namespace Go.Au
open Go Go.RowKit

/-! ### the document's checks -/
theorem callNamed : callable Proofs.Try.prog 98 = true := by kernel_rfl
theorem named_c (w : World) (s : ByteArray) : Calls Proofs.Try.prog 98 [.string s].toArray w (Ret fun r w' => r = .bool (nameOk s) ∧ Kp w w') := by
  refine call agree Proofs.Try.func98 rfl Proofs.Try.ntmps98 (by kernel_rfl) ?_
  refine loop agree (σ := Nat) (fun i => [(0, .string s), (3, .int .i64 i)]) (fun i w' => Kp w w' ∧ i ≤ s.size ∧ i ≤ 33 ∧ (s.data.toList.take i).all (fun c => !badByte c) = true) (fun i => s.size - i) 0
    ⟨rfl, rfl, trivial⟩ ⟨Chg.refl _ _, by omega, by omega, by simp⟩ ?_
  rintro i e0 w1 ⟨k1, hi, hi33, hall⟩
  have fin : ∀ W, Kp w W → (i = s.size ∨ i = 33) → (∀ b : Bool, b = (decide (0 < (s.size : Int)) && decide ((s.size : Int) ≤ 32)) → (Value.bool b = .bool (nameOk s) ∧ Kp w W)) := fun W k h b hb => by
    refine ⟨?_, k⟩
    subst hb
    congr 1
    unfold nameOk
    rcases h with h | h
    · have ht : s.data.toList.take i = s.data.toList := List.take_of_length_le (by have : s.data.toList.length = s.size := Array.length_toList; omega)
      rw [ht] at hall
      rw [hall, Bool.and_true]
      congr 1 <;> exact decide_eq_decide.2 (by omega)
    · rw [decide_eq_false (p := (s.size : Int) ≤ 32) (by omega), decide_eq_false (p := s.size ≤ 32) (by omega)]
      simp
  refine sp (fun h1 => ?_) (fun h1 => ?_)
  · refine sp (fun h2 => ?_) (fun h2 => ?_)
    · have hj' : i < s.size := by omega
      have hjt : s.data.toList.take (i + 1) = s.data.toList.take i ++ [s[i]] := by
        rw [List.take_succ_eq_append_getElem (by simpa using hj')]
        rfl
      have badb : badByte s[i] = true → nameOk s = false := fun hb => by
        simp only [nameOk, Bool.and_eq_false_iff]
        refine .inr ?_
        rw [List.all_eq_false]
        exact ⟨s[i], by
          have : s[i] ∈ s.data.toList.take (i + 1) := by rw [hjt]; simp
          exact List.mem_of_mem_take this, by simp [hb]⟩
      refine ixS agree rfl rfl rfl rfl hj' ?_
      refine sp (fun h5 => ?_) (fun h5 => ?_)
      · exact ⟨congrArg Value.bool (badb (by simp [badByte, h5])).symm, k1⟩
      refine ixS agree rfl rfl rfl rfl hj' ?_
      refine sp (fun h6 => ?_) (fun h6 => ?_)
      · exact ⟨congrArg Value.bool (badb (by simp [badByte, h6])).symm, k1⟩
      refine ixS agree rfl rfl rfl rfl hj' ?_
      refine sp (fun h7 => ?_) (fun h7 => ?_)
      · exact ⟨congrArg Value.bool (badb (by simp [badByte, h7])).symm, k1⟩
      refine ixS agree rfl rfl rfl rfl hj' ?_
      refine sp (fun h8 => ?_) (fun h8 => ?_)
      · exact ⟨congrArg Value.bool (badb (by simp [badByte, h8])).symm, k1⟩
      refine aw (by omega) (by omega) ?_
      refine again (i + 1) ⟨rfl, rfl, trivial⟩ ⟨k1, by omega, by omega, ?_⟩ (by omega)
      rw [hjt, List.all_append, hall]
      simp [badByte, h5, h6, h7, h8]
    · refine sp (fun h3 => ?_) (fun h3 => ?_)
      · refine sp (fun h4 => ?_) (fun h4 => ?_)
        · exact fin _ k1 (by omega) _ (by rw [decide_eq_true h3, decide_eq_true h4]; rfl)
        · exact fin _ k1 (by omega) _ (by rw [decide_eq_true h3, decide_eq_false h4]; rfl)
      · exact fin _ k1 (by omega) _ (by rw [decide_eq_false h3]; rfl)
  · refine sp (fun h3 => ?_) (fun h3 => ?_)
    · refine sp (fun h4 => ?_) (fun h4 => ?_)
      · exact fin _ k1 (by omega) _ (by rw [decide_eq_true h3, decide_eq_true h4]; rfl)
      · exact fin _ k1 (by omega) _ (by rw [decide_eq_true h3, decide_eq_false h4]; rfl)
    · exact fin _ k1 (by omega) _ (by rw [decide_eq_false h3]; rfl)

theorem callRising : callable Proofs.Try.prog 63 = true := by kernel_rfl
theorem rising_c {w : World} {lo hi : Nat} {v : Value} {xs : List Int} {n : Int} (h : Ints lo hi w v xs) (hl : xs.length < 4611686018427387904) :
    Calls Proofs.Try.prog 63 [v, .int .i64 n].toArray w (Ret fun r w' => r = .bool (risingFrom n none xs) ∧ Kp w w') := by
  obtain ⟨a, cap, rfl, hcap, hx⟩ := h
  refine call agree Proofs.Try.func63 rfl Proofs.Try.ntmps63 (by kernel_rfl) ?_
  refine loop agree (σ := Nat) (fun i => [(0, .slice a xs.length cap), (1, .int .i64 n), (5, .int .i64 i)])
    (fun i w' => Kp w w' ∧ i ≤ xs.length ∧ risingFrom n none xs = risingFrom n (if i = 0 then none else xs[i-1]?) (xs.drop i)) (fun i => xs.length - i) 0
    ⟨rfl, rfl, rfl, trivial⟩ ⟨Chg.refl _ _, by omega, by simp⟩ ?_
  rintro i e0 w1 ⟨hk, hi, hr⟩
  refine sp (fun h1 => ?_) (fun h1 => ?_)
  · obtain ⟨b, o, rfl, hlo, hhi, cs, hcs, hrd, rfl⟩ := hx i xs[i] (by simp)
    have hi' : i < xs.length := by omega
    rw [List.drop_eq_getElem_cons hi'] at hr
    refine drawn0 agree mixed 29 (by kernel_rfl) (fun _ => False) ?_
    conv => whnf
    refine ne ⟨by omega, h1⟩ ?_
    conv => whnf
    refine ldk agree rfl rfl (fun W h _ => (hk.trans h).range hrd id) rfl fun _ => ?_
    conv => whnf
    refine sp (fun h2 => ?_) (fun h2 => ?_)
    · conv => whnf
      intro W h _
      exact ⟨congrArg Value.bool (by rw [hr]; simp [risingFrom, h2]), hk.trans h⟩
    conv => whnf
    refine ne ⟨by omega, h1⟩ ?_
    conv => whnf
    refine ldk agree rfl rfl (fun W h _ => (hk.trans h).range hrd id) rfl fun _ => ?_
    conv => whnf
    refine sp (fun h3 => ?_) (fun h3 => ?_)
    · conv => whnf
      intro W h _
      exact ⟨congrArg Value.bool (by rw [hr]; simp [risingFrom, h3]), hk.trans h⟩
    conv => whnf
    refine sp (fun h4 => ?_) (fun h4 => ?_)
    · conv => whnf
      refine ne ⟨by omega, h1⟩ ?_
      conv => whnf
      refine ldk agree rfl rfl (fun W h _ => (hk.trans h).range hrd id) rfl fun _ => ?_
      conv => whnf
      refine aw (by omega) (by omega) ?_
      conv => whnf
      obtain ⟨b', o', hb', -, -, cs', hcs', hrd', rfl⟩ := hx (i - 1) xs[i-1] (by simp)
      cases hb'
      refine ne ⟨by omega, by omega⟩ ?_
      conv => whnf
      refine ldk agree (o := o + ((i : Int) - 1).toNat * 1) rfl rfl (fun W h _ => (hk.trans h).range (by rw [show ((i : Int) - 1).toNat = i - 1 by omega]; exact hrd') id) rfl fun _ => ?_
      conv => whnf
      have h0 : i ≠ 0 := by omega
      rw [if_neg h0, List.getElem?_eq_getElem (by omega)] at hr
      refine sp (fun h5 => ?_) (fun h5 => ?_)
      · conv => whnf
        intro W h _
        exact ⟨congrArg Value.bool (by rw [hr]; simp [risingFrom, h5]), hk.trans h⟩
      · conv => whnf
        intro W h _
        refine aw (by omega) (by omega) ?_
        refine again (i + 1) ⟨rfl, rfl, rfl, trivial⟩ ⟨hk.trans h, by omega, ?_⟩ (by omega)
        rw [hr]; simp [risingFrom, h2, h3, h5, List.getElem?_eq_getElem hi']
    · conv => whnf
      intro W h _
      refine aw (by omega) (by omega) ?_
      refine again (i + 1) ⟨rfl, rfl, rfl, trivial⟩ ⟨hk.trans h, by omega, ?_⟩ (by omega)
      have h0 : i = 0 := by omega
      subst h0
      rw [hr]; simp [risingFrom, h2, h3, List.getElem?_eq_getElem hi']
  · refine ⟨congrArg Value.bool (by rw [hr, List.drop_eq_nil_of_le (by omega)]; rfl), hk⟩

theorem cmp3_eq0 {a b : Int} : cmp3 a b = 0 ↔ a = b := by
  unfold cmp3; split
  · simp; omega
  · split
    · simp; omega
    · simp; omega
theorem cmp3_lt0 {a b : Int} : cmp3 a b < 0 ↔ a < b := by
  unfold cmp3; split
  · simp; omega
  · split
    · simp; omega
    · simp; omega
theorem first_cons (x : Int) (r : List Int) : firstOf (x :: r) = if x = 0 then firstOf r else x := rfl
theorem callAhead : callable Proofs.Try.prog 64 = true := by kernel_rfl
def aheadS (a b : Edge) : Bool := decide (orderS a b < 0)
theorem ahead_c (w : World) (a b : Edge) : Calls Proofs.Try.prog 64 [a.val, b.val].toArray w (Ret fun r w' => r = .bool (aheadS a b) ∧ Kp w w') := by
  refine call agree Proofs.Try.func64 rfl Proofs.Try.ntmps64 (by kernel_rfl) ?_
  refine nd fun p w1 e1 s1 k1 m1 => ?_
  refine nd fun q w2 e2 s2 k2 m2 => ?_
  have A : Own w2 p 52 a.cells := k2.own m1 id
  have B : Own w2 q 52 b.cells := m2
  have K := k1.trans k2
  have fin : ∀ c : Bool, c = aheadS a b → (Value.bool c = .bool (aheadS a b) ∧ Kp w w2) := fun c hc => ⟨by rw [hc], K⟩
  refine ld agree (Own.at_ (xs := [.int .i64 a.frm]) (o := 0) A rfl) rfl ?_
  refine ld agree (Own.at_ (xs := [.int .i64 b.frm]) (o := 0) B rfl) rfl ?_
  refine sp (fun h1 => ?_) (fun h1 => ?_)
  · refine ld agree (Own.at_ (xs := [.int .i64 a.frm]) (o := 0) A rfl) rfl ?_
    refine ld agree (Own.at_ (xs := [.int .i64 b.frm]) (o := 0) B rfl) rfl ?_
    refine spB ?_
    refine fin _ ?_
    unfold aheadS orderS
    rw [first_cons, if_neg (fun h => h1 (cmp3_eq0.1 h))]
    exact decide_eq_decide.2 cmp3_lt0.symm
  refine ld agree (Own.at_ (xs := [.int .i64 a.to]) (o := 1) A rfl) rfl ?_
  refine ld agree (Own.at_ (xs := [.int .i64 b.to]) (o := 1) B rfl) rfl ?_
  have h1 : a.frm = b.frm := Decidable.not_not.1 h1
  refine sp (fun h2 => ?_) (fun h2 => ?_)
  · refine ld agree (Own.at_ (xs := [.int .i64 a.to]) (o := 1) A rfl) rfl ?_
    refine ld agree (Own.at_ (xs := [.int .i64 b.to]) (o := 1) B rfl) rfl ?_
    refine spB ?_
    refine fin _ ?_
    unfold aheadS orderS
    rw [first_cons, if_pos (cmp3_eq0.2 h1), first_cons, if_neg (fun h => h2 (cmp3_eq0.1 h))]
    exact decide_eq_decide.2 cmp3_lt0.symm
  refine ld agree (Own.at_ (xs := [.int .u16 a.must]) (o := 2) A rfl) rfl ?_
  refine ld agree (Own.at_ (xs := [.int .u16 b.must]) (o := 2) B rfl) rfl ?_
  have h2 : a.to = b.to := Decidable.not_not.1 h2
  refine sp (fun h3 => ?_) (fun h3 => ?_)
  · refine ld agree (Own.at_ (xs := [.int .u16 a.must]) (o := 2) A rfl) rfl ?_
    refine ld agree (Own.at_ (xs := [.int .u16 b.must]) (o := 2) B rfl) rfl ?_
    refine spB ?_
    refine fin _ ?_
    unfold aheadS orderS
    rw [first_cons, if_pos (cmp3_eq0.2 h1), first_cons, if_pos (cmp3_eq0.2 h2), first_cons, if_neg (fun h => h3 (cmp3_eq0.1 h))]
    exact decide_eq_decide.2 cmp3_lt0.symm
  have h3 : a.must = b.must := Decidable.not_not.1 h3
  refine ld agree (Own.at_ (xs := [.int .u16 a.no]) (o := 3) A rfl) rfl ?_
  refine ld agree (Own.at_ (xs := [.int .u16 b.no]) (o := 3) B rfl) rfl ?_
  refine spB ?_
  refine fin _ ?_
  unfold aheadS orderS
  rw [first_cons, if_pos (cmp3_eq0.2 h1), first_cons, if_pos (cmp3_eq0.2 h2), first_cons, if_pos (cmp3_eq0.2 h3), first_cons]
  by_cases h4 : cmp3 a.no b.no = 0
  · rw [if_pos h4]
    have := cmp3_eq0.1 h4
    exact decide_eq_decide.2 (by simp [firstOf]; omega)
  · rw [if_neg h4]
    exact decide_eq_decide.2 cmp3_lt0.symm

theorem callRNames : callable Proofs.Try.prog 62 = true := by kernel_rfl
theorem rnames_c {w : World} {lo hi : Nat} {v : Value} {l : List ByteArray} (h : Strs lo hi w v l) (hl : l.length < 4611686018427387904) :
    Calls Proofs.Try.prog 62 [v].toArray w (Ret fun r w' => r = .bool (namesOk l) ∧ Kp w w') := by
  obtain ⟨a, cap, rfl, hcap, hx⟩ := h
  refine call agree Proofs.Try.func62 rfl Proofs.Try.ntmps62 (by kernel_rfl) ?_
  refine sp (fun h8 => ?_) (fun h8 => ?_)
  · exact ⟨congrArg Value.bool (by unfold namesOk; rw [decide_eq_false (p := l.length ≤ 8) (by omega), Bool.and_false]), Chg.refl _ _⟩
  refine loop agree (σ := Nat) (fun i => [(0, .slice a l.length cap), (3, .int .i64 i)])
    (fun i w' => Kp w w' ∧ i ≤ l.length ∧ (l.take i).Nodup ∧ (l.take i).all nameOk = true) (fun i => l.length - i) 0
    ⟨rfl, rfl, trivial⟩ ⟨Chg.refl _ _, by omega, by simp, by simp⟩ ?_
  rintro i e0 w1 ⟨k1, hi, hnd, hall⟩
  refine sp (fun h1 => ?_) (fun h1 => ?_)
  · have hi' : i < l.length := by omega
    obtain ⟨b, o, rfl, -, -, cs, hcs, hrd, rfl⟩ := hx i l[i] (by simp)
    have htk : l.take (i + 1) = l.take i ++ [l[i]] := by simp
    refine ne ⟨by omega, h1⟩ ?_
    refine ld agree (k1.range hrd id) rfl ?_
    cases hnm : nameOk l[i] with
    | false =>
      have hc := named_c w1 l[i]
      rw [hnm] at hc
      refine cl callNamed hc ?_
      rintro _ w2 ⟨rfl, k2⟩
      refine ⟨congrArg Value.bool ?_, k1.trans k2⟩
      unfold namesOk
      rw [List.all_eq_false.2 ⟨l[i], by simp, by simp [hnm]⟩]
      simp
    | true =>
      have hc := named_c w1 l[i]
      rw [hnm] at hc
      refine cl callNamed hc ?_
      rintro _ w2 ⟨rfl, k2⟩
      refine loop agree (σ := Nat) (fun j => [(0, .slice (some ⟨b, o, none⟩) l.length cap), (3, .int .i64 i), (4, .int .i64 j)])
        (fun j w' => Kp w w' ∧ j ≤ i ∧ l[i] ∉ l.take j) (fun j => i - j) 0 ⟨rfl, rfl, rfl, trivial⟩ ⟨k1.trans k2, by omega, by simp⟩ ?_
      rintro j e1 w3 ⟨k3, hj, hno⟩
      refine sp (fun h2 => ?_) (fun h2 => ?_)
      · have hj' : j < l.length := by omega
        obtain ⟨b', o', hb', -, -, cs', hcs', hrd', rfl⟩ := hx j l[j] (by simp)
        cases hb'
        refine drawn0 agree mixed 9 (by kernel_rfl) (fun _ => False) ?_
        conv => whnf
        refine ne ⟨by omega, by omega⟩ ?_
        conv => whnf
        refine ldk agree rfl rfl (fun W h _ => (k3.trans h).range hrd' id) rfl fun _ => ?_
        conv => whnf
        refine ne ⟨by omega, by omega⟩ ?_
        conv => whnf
        refine ldk agree rfl rfl (fun W h _ => (k3.trans h).range hrd id) rfl fun _ => ?_
        conv => whnf
        refine sp (fun h3 => ?_) (fun h3 => ?_)
        · conv => whnf
          intro W h _
          refine ⟨congrArg Value.bool ?_, k3.trans h⟩
          unfold namesOk
          rw [decide_eq_false]
          · rfl
          · intro hn
            exact absurd ((List.getElem_inj hn).1 h3) (by omega)
        · conv => whnf
          intro W h _
          refine aw (by omega) (by omega) ?_
          refine again (j + 1) ⟨rfl, rfl, rfl, trivial⟩ ⟨k3.trans h, by omega, ?_⟩ (by omega)
          rw [List.take_succ_eq_append_getElem hj', List.mem_append]
          rintro (hm | hm)
          · exact hno hm
          · simp at hm; exact h3 hm.symm
      · have : j = i := by omega
        subst this
        refine aw (by omega) (by omega) ?_
        refine again (j + 1) ⟨rfl, rfl, trivial⟩ ⟨k3, by omega, ?_, ?_⟩ (by omega)
        · rw [htk, List.nodup_append]
          refine ⟨hnd, by simp, fun x hx y hy he => ?_⟩
          simp at hy
          exact hno (hy ▸ he ▸ hx)
        · rw [htk, List.all_append, hall]
          simp [hnm]
  · have : l.take i = l := List.take_of_length_le (by omega)
    rw [this] at hnd hall
    exact ⟨congrArg Value.bool (by unfold namesOk; rw [hall, decide_eq_true hnd, decide_eq_true (by omega)]; rfl), k1⟩
end Go.Au
