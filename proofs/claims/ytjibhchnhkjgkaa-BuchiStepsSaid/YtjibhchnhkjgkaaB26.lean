/- Own text of this workplace: a part of the proofs of this place's statements. -/
import Derived.Test.YtjibhchnhkjgkaaB25
import Derived.Test.YtjibhchnhkjgkaaA15
set_option linter.unusedVariables false
set_option linter.unusedSimpArgs false
set_option linter.unusedSectionVars false
namespace Go.Au
open Go Go.RowKit

/-! ### the document's runs -/
abbrev fB (b : Bool) : List Value := [.bool b]
abbrev Bools := RowE (fun _ cs (b : Bool) => cs = [.bool b]) 1
abbrev BoolRows (lo hi : Nat) := RowE (fun w cs (xs : List Bool) => ∃ u, cs = [u] ∧ Bools lo hi w u xs) 1 lo hi
theorem BoolRows.chg {lo hi : Nat} {w w' : World} {v : Value} {xs : List (List Bool)} (h : BoolRows lo hi w v xs) (k : Kp w w') : BoolRows lo hi w' v xs :=
  RowE.chg h k (fun _ _ _ h => h) fun _ _ ⟨u, h1, h2⟩ => ⟨u, h1, h2.chg k (fun _ _ _ h => h) (fun _ _ h => h)⟩
def membS (N : Nat) (l : List Int) : List Bool := (List.range N).map fun (i : Nat) => decide ((i : Int) ∈ l)
theorem flatB (l : List Bool) : l.flatMap fB = l.map Value.bool := by induction l <;> simp_all
theorem repB (n : Nat) (b : Bool) : rep [.bool b] n = (List.replicate n b).flatMap fB := by
  induction n with
  | zero => rfl
  | succ n ih => simp [rep, ih, List.replicate_succ]
theorem setB (l : List Bool) (i : Nat) (b : Bool) (o : Nat) (ho : o = i) : lay (l.flatMap fB) o [.bool b] = (l.set i b).flatMap fB := by
  subst ho
  show (l.flatMap fB).set o (.bool b) = _
  rw [flatB, flatB, ← List.map_set]
theorem getB {l : List Bool} {i : Nat} (h : i < l.length) : (l.flatMap fB)[i]? = some (.bool l[i]) := by rw [flatB]; simp [h]
theorem membS_snoc (N : Nat) (l : List Int) (s : Nat) (hs : s < N) : (membS N l).set s true = membS N (l ++ [(s : Int)]) := by
  unfold membS
  apply List.ext_getElem?
  intro i
  rw [List.getElem?_set]
  simp only [List.getElem?_map, List.length_map, List.length_range]
  by_cases hi : i < N
  · rw [List.getElem?_range hi]
    by_cases hsi : s = i
    · subst hsi
      rw [if_pos rfl, if_pos hs]
      simp
    · rw [if_neg hsi]
      have : ¬ (i : Int) = (s : Int) := by omega
      simp [this]
  · rw [List.getElem?_eq_none (by simpa using hi)]
    split
    · omega
    · rfl
theorem membS_get {N : Nat} {l : List Int} {i : Nat} (h : i < N) : (membS N l)[i]? = some (decide ((i : Int) ∈ l)) := by simp [membS, h]
theorem membS_len (N : Nat) (l : List Int) : (membS N l).length = N := by simp [membS]

theorem callMembers : callable Proofs.Try.prog 107 = true := by kernel_rfl
theorem members_c {w : World} {lo hi : Nat} {pv iv ev sv : Value} {g : General} (hv : GenV lo hi w pv iv ev sv g) (hg : Good g) {N : Nat} (hN : g.states = N) (hS : g.sets.length < 1000000) :
    Calls Proofs.Try.prog 107 [.agg #[pv, .int .i64 g.states, iv, ev, sv]].toArray w (Ret fun r w' => Kp w w' ∧ BoolRows w.heap.size w'.heap.size w' r (g.sets.map (membS N))) := by
  have h0 := hg.s0
  have h1 := hg.s1
  have hls := hv.ls
  obtain ⟨sa, sc, rfl, -, hsets⟩ := id hv.sets
  refine call agree Proofs.Try.func107 rfl Proofs.Try.ntmps107 (by kernel_rfl) ?_
  refine nd fun p w1 e1 s1 k1 m1 => ?_
  have m1 : Own w1 p 28 [pv, .int .i64 g.states, iv, ev, .slice sa g.sets.length sc] := m1
  refine loop agree (σ := Nat × Value × List Value) (fun t => [(1, pt p 0), (3, t.2.1), (4, .int .i64 t.1)])
    (fun t w' => Kp w1 w' ∧ t.1 ≤ g.sets.length ∧ w'.ownsRow w1.heap.size 64 1 t.2.1 t.1 t.2.2 ∧ ∀ (j : Nat) (x : List Int), (g.sets.take t.1)[j]? = some x → ∃ b : Nat, t.2.2[j]? = some (Value.slice (some ⟨b, 0, none⟩) N N) ∧ w1.heap.size ≤ b ∧ Own w' b 4 ((membS N x).flatMap fB)) (fun t => g.sets.length - t.1) (0, nilS, [])
    ⟨rfl, rfl, rfl, trivial⟩ ⟨Chg.refl _ _, by simp, World.ownsRow_nil _ _ _ _, by simp⟩ ?_
  rintro ⟨s, ov, vs⟩ e0 w2 ⟨k2, hs, ho, hrows⟩
  refine ld agree (Own.at_ (xs := [.slice sa g.sets.length sc]) (o := 4) (k2.own m1 id) rfl) (by rfl) ?_
  refine sp (fun hlt => ?_) (fun hge => ?_)
  · have hs' : s < g.sets.length := by simp only at hlt; omega
    obtain ⟨bs, os, rfl, -, -, cs, hcs, hrd, u, rfl, ⟨ua, uc, rfl, huc, hel⟩, hul⟩ := hsets s g.sets[s] (by simp)
    have hgs := hg.sets g.sets[s] (by simp)
    refine ld agree (Own.at_ (xs := [.int .i64 g.states]) (o := 1) (k2.own m1 id) rfl) (by rfl) ?_
    refine ms agree rfl rfl rfl rfl rfl rfl h0 (Int.le_refl _) (by show (1 : Int) * _ ≤ _; omega) (by omega) fun b w3 e3 s3 k3 m3 => ?_
    have m3 : Own w3 b 4 ((membS N []).flatMap fB) := by
      have m3 : Own w3 b 4 (rep [.bool false] g.states.toNat) := m3
      rw [hN, Int.toNat_natCast, repB] at m3
      have : List.replicate N false = membS N [] := by
        apply List.ext_getElem?; intro i; simp only [membS, List.getElem?_map, List.getElem?_replicate]
        by_cases hi : i < N
        · rw [if_pos hi, List.getElem?_range hi]; simp
        · rw [if_neg hi, List.getElem?_eq_none (by simpa using hi)]; rfl
      rwa [this] at m3
    have hk13 : Kp w1 w3 := k2.trans k3
    have hb1 : w1.heap.size ≤ b := by have := k2.size; omega
    refine loop agree (σ := Nat) (fun i => [(1, pt p 0), (3, ov), (4, .int .i64 s), (5, .slice (some ⟨b, 0, none⟩) N N), (6, .int .i64 i)])
      (fun i w' => Chg (fun k => k = b) w3 w' ∧ w'.heap.size = w3.heap.size ∧ i ≤ g.sets[s].length ∧ Own w' b 4 ((membS N (g.sets[s].take i)).flatMap fB)) (fun i => g.sets[s].length - i) 0
      ⟨rfl, rfl, rfl, ?_, rfl, trivial⟩ ⟨Chg.refl _ _, rfl, by omega, by simpa using m3⟩ ?_
    · show Value.slice _ g.states.toNat g.states.toNat = _
      rw [hN, Int.toNat_natCast]
    rintro i e1' w4 ⟨c4, s4, hi, m4⟩
    have k4 : Kp w1 w4 := hk13.newS c4 fun j hj => by omega
    have B4 : Own w4 p 28 [pv, .int .i64 g.states, iv, ev, .slice (some ⟨bs, os, none⟩) g.sets.length sc] := k4.own m1 id
    have R4 : w4.rangeAt bs (os + s * 1) [.slice ua g.sets[s].length uc] := (k1.trans k4).range hrd id
    refine ld agree (Own.at_ (xs := [.slice (some ⟨bs, os, none⟩) g.sets.length sc]) (o := 4) B4 rfl) (by rfl) ?_
    refine ne ⟨by omega, by omega⟩ ?_
    refine ld agree R4 (by rfl) ?_
    refine sp (fun hlt2 => ?_) (fun hge2 => ?_)
    · have hi' : i < g.sets[s].length := by omega
      obtain ⟨bi, oi, rfl, -, -, cs, hcs, hrdi, rfl⟩ := hel i g.sets[s][i] (by simp)
      have hr := hgs g.sets[s][i] (by simp)
      obtain ⟨k, hk⟩ : ∃ k : Nat, g.sets[s][i] = k := ⟨g.sets[s][i].toNat, by omega⟩
      refine ld agree (Own.at_ (xs := [.slice (some ⟨bs, os, none⟩) g.sets.length sc]) (o := 4) B4 rfl) (by rfl) ?_
      refine ne ⟨by omega, by omega⟩ ?_
      refine ld agree R4 (by rfl) ?_
      refine ne ⟨by omega, hlt2⟩ ?_
      refine ld agree ((k1.trans k4).range hrdi id) (by rfl) ?_
      refine ne ⟨by omega, by omega⟩ ?_
      have hkN : k < N := by omega
      refine st agree (o := 0 + g.sets[s][i].toNat * 1) m4 rfl (by rw [hk, Int.toNat_natCast, flatB, List.length_map, membS_len]; show 0 + k * 1 + 1 ≤ N; omega) rfl ?_
      intro w5 s5 k5 m5
      refine aw (by omega) (by omega) ?_
      refine again (i + 1) ⟨rfl, rfl, rfl, rfl, rfl, trivial⟩ ⟨c4.trans k5, by omega, by omega, ?_⟩ (by omega)
      have m5 : Own w5 b 4 (lay ((membS N (g.sets[s].take i)).flatMap fB) (0 + g.sets[s][i].toNat * 1) [.bool true]) := m5
      rw [setB _ k _ _ (by omega), membS_snoc _ _ _ hkN] at m5
      rw [List.take_succ_eq_append_getElem hi', hk]
      exact m5
    · have hall : g.sets[s].take i = g.sets[s] := List.take_of_length_le (by omega)
      rw [hall] at m4
      have o4 : w4.ownsRow w1.heap.size 64 1 ov s vs := ownsRow_chg (ownsRow_chg ho k3 fun _ _ h => h) c4 fun b' hb' hbb => by
        subst hbb
        have := (ho.lt b' hb').2
        omega
      have hne : ov.ownBlock ≠ some b := ownsRow_ne o4 m4 (fun cs fr hh => by injection hh with _ h2; exact absurd h2 (by decide))
      refine ne (by decide) ?_
      refine nd fun q w5 e5 s5 k5 m5 => ?_
      have o5 := ownsRow_chg o4 k5 fun _ _ h => h
      have hw1 := k4.size
      refine ap (m := 1) (news := [.slice (some ⟨b, 0, none⟩) N N]) agree rfl rfl rfl rfl rfl rfl rfl (by decide) o5 rfl (Own.at_ (o := 0) m5 rfl) rfl (by simp only [maxLen]; omega) (by show (_ + 1) * 24 ≤ _; omega) (by omega) ?_
      intro v' w6 o6 c6
      have k6 : Kp w1 w6 := (k4.trans k5).newS c6 fun j hj => (o5.lt j hj.symm).1
      have hT : ∀ b' cs, Own w5 b' 4 cs → ¬ some b' = ov.ownBlock := fun b' cs hb' he => ownsRow_ne o5 hb' (fun cs fr hh => by injection hh with _ h2; exact absurd h2 (by decide)) he.symm
      refine aw (by omega) (by omega) ?_
      refine again (s + 1, v', vs ++ [Value.slice (some ⟨b, 0, none⟩) N N]) ⟨rfl, rfl, rfl, trivial⟩ ⟨k6, by simp only; omega, o6, fun j x hj => ?_⟩ (by simp only; omega)
      have hvl : vs.length = s := by have := ho.1; simpa using this
      have hj' := (List.getElem?_eq_some_iff.1 hj).1
      simp only [List.length_take] at hj'
      rcases Nat.lt_or_ge j s with hjs | hjs
      · obtain ⟨b', q1, q2, q3⟩ := hrows j x (by rw [List.getElem?_take, if_pos hjs]; rw [List.getElem?_take, if_pos (by omega)] at hj; exact hj)
        have hb'b : b' ≠ b := by have := q3.lt; omega
        have q5 : Own w5 b' 4 ((membS N x).flatMap fB) := k5.own (c4.own (k3.own q3 id) hb'b) id
        exact ⟨b', by rw [List.getElem?_append_left (by omega), q1], q2, c6.own q5 (hT b' _ q5)⟩
      · have : j = s := by omega
        subst this
        rw [List.getElem?_take, if_pos (by omega), List.getElem?_eq_getElem hs'] at hj
        cases hj
        have q5 := k5.own m4 id
        exact ⟨b, by rw [List.getElem?_append_right (by omega), hvl, Nat.sub_self]; rfl, hb1, c6.own q5 (hT b _ q5)⟩
  · have hsn : s = g.sets.length := by simp only at hge; omega
    subst hsn
    have hz := k1.size
    refine ⟨k1.trans k2, ?_⟩
    have : BoolRows w1.heap.size w2.heap.size w2 ov (g.sets.map (membS N)) := ownsRow_rowR ho (by simp) fun i x hx => by
      rw [List.getElem?_map] at hx
      cases hg' : g.sets[i]? with
      | none => rw [hg'] at hx; cases hx
      | some y =>
        rw [hg'] at hx
        cases hx
        obtain ⟨b, q1, q2, q3⟩ := hrows i y (by rw [List.take_of_length_le (Nat.le_refl _), hg'])
        refine ⟨_, q1, _, rfl, ?_⟩
        have := own_row (f := fB) (l := membS N y) (fun _ => rfl) (by decide) q3 (by rw [membS_len]; simp only [maxLen]; omega)
        rw [membS_len] at this
        exact (this.lo1 q2).mono (fun _ _ h => h) (Nat.le_refl _) (Nat.le_refl _)
    exact this.mono (fun _ _ ⟨u, h1, h2⟩ => ⟨u, h1, h2.mono (fun _ _ h => h) hz (Nat.le_refl _)⟩) hz (Nat.le_refl _)
end Go.Au
