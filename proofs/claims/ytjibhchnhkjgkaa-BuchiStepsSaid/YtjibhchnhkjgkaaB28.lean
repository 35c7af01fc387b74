/- Own text of this workplace: a part of the proofs of this place's statements. -/
import Derived.Test.YtjibhchnhkjgkaaB27
set_option linter.unusedVariables false
set_option linter.unusedSimpArgs false
set_option linter.unusedSectionVars false
namespace Go.Au
open Go Go.RowKit

/-- from which one comes, in one step at least, to one of some -/
def Rch (ps : List (List Int)) (gl : Nat → Prop) (i : Nat) : Prop := ∀ X : Nat → Prop, (∀ t f : Nat, (f : Int) ∈ ps.getD t [] → (gl t ∨ X t) → X f) → X i
theorem Rch.step {ps : List (List Int)} {gl : Nat → Prop} {t f : Nat} (h : (f : Int) ∈ ps.getD t []) (ht : gl t ∨ Rch ps gl t) : Rch ps gl f :=
  fun X hX => hX t f h (ht.imp id fun h => h X hX)

def gT (l : List Bool) (i : Nat) : Prop := l[i]? = some true
instance (l : List Bool) (i : Nat) : Decidable (gT l i) := inferInstanceAs (Decidable (_ = _))
structure RI (ps : List (List Int)) (gl : List Bool) (M : Nat) (rl : List Nat) (ol : List Bool) : Prop where
  len : ol.length = M
  snd : ∀ j, gT ol j → Rch ps (gT gl) j
  nd : rl.Nodup
  inn : ∀ j ∈ rl, j < M ∧ (gT gl j ∨ gT ol j)
  cov : ∀ j, gT gl j ∨ gT ol j → j ∈ rl
theorem RI.rlen {ps : List (List Int)} {gl : List Bool} {M : Nat} {rl : List Nat} {ol : List Bool} (h : RI ps gl M rl ol) : rl.length ≤ M := by
  have := nodup_sub h.nd (r := List.range M) fun x hx => by simpa using (h.inn x hx).1
  simpa using this
theorem gT_set {l : List Bool} {f j : Nat} (hf : f < l.length) : gT (l.set f true) j ↔ j = f ∨ gT l j := by
  unfold gT
  rw [List.getElem?_set]
  by_cases h : f = j
  · subst h; simp [hf]
  · rw [if_neg h]; constructor
    · exact .inr
    · rintro (h' | h')
      · omega
      · exact h'
theorem RI.mark {ps : List (List Int)} {gl : List Bool} {M : Nat} {rl : List Nat} {ol : List Bool} (h : RI ps gl M rl ol) {f t : Nat} (hf : f < M) (ht : t ∈ rl) (hp : (f : Int) ∈ ps.getD t []) (hg : gT gl f) : RI ps gl M rl (ol.set f true) := by
  have hfl : f < ol.length := by rw [h.len]; exact hf
  refine ⟨by simp [h.len], fun j hj => ?_, h.nd, fun j hj => ?_, fun j hj => ?_⟩
  · rcases (gT_set hfl).1 hj with rfl | hj
    · exact .step hp ((h.inn t ht).2.imp id (h.snd t))
    · exact h.snd j hj
  · exact ⟨(h.inn j hj).1, (h.inn j hj).2.imp id fun h' => (gT_set hfl).2 (.inr h')⟩
  · rcases hj with hj | hj
    · exact h.cov j (.inl hj)
    · rcases (gT_set hfl).1 hj with rfl | hj
      · exact h.cov j (.inl hg)
      · exact h.cov j (.inr hj)
theorem RI.push {ps : List (List Int)} {gl : List Bool} {M : Nat} {rl : List Nat} {ol : List Bool} (h : RI ps gl M rl ol) {f t : Nat} (hf : f < M) (ht : t ∈ rl) (hp : (f : Int) ∈ ps.getD t []) (hg : ¬ gT gl f) (ho : ¬ gT ol f) : RI ps gl M (rl ++ [f]) (ol.set f true) := by
  have hfl : f < ol.length := by rw [h.len]; exact hf
  have hn : f ∉ rl := fun hm => ((h.inn f hm).2).elim hg ho
  refine ⟨by simp [h.len], fun j hj => ?_, ?_, fun j hj => ?_, fun j hj => ?_⟩
  · rcases (gT_set hfl).1 hj with rfl | hj
    · exact .step hp ((h.inn t ht).2.imp id (h.snd t))
    · exact h.snd j hj
  · rw [List.nodup_append]
    exact ⟨h.nd, by simp, fun x hx y hy he => by simp at hy; exact hn (hy ▸ he ▸ hx)⟩
  · rcases List.mem_append.1 hj with hj | hj
    · exact ⟨(h.inn j hj).1, (h.inn j hj).2.imp id fun h' => (gT_set hfl).2 (.inr h')⟩
    · simp at hj; subst hj; exact ⟨hf, .inr ((gT_set hfl).2 (.inl rfl))⟩
  · rcases hj with hj | hj
    · exact List.mem_append_left _ (h.cov j (.inl hj))
    · rcases (gT_set hfl).1 hj with rfl | hj
      · simp
      · exact List.mem_append_left _ (h.cov j (.inr hj))
/-- all done -/
theorem RI.done {ps : List (List Int)} {gl : List Bool} {M : Nat} {rl : List Nat} {ol : List Bool} (h : RI ps gl M rl ol) (hall : ∀ t ∈ rl, ∀ f : Nat, (f : Int) ∈ ps.getD t [] → gT ol f) (j : Nat) : gT ol j ↔ Rch ps (gT gl) j :=
  ⟨h.snd j, fun hr => hr (gT ol) fun t f hf ht => hall t (h.cov t ht) f hf⟩

abbrev fN (n : Nat) : List Value := [.int .i64 n]
theorem callReaches : callable Proofs.Try.prog 108 = true := by kernel_rfl
set_option maxHeartbeats 2000000 in
theorem reaches_c {w : World} {lo hi lo2 hi2 M : Nat} {pv gv : Value} {ps : List (List Int)} {gl : List Bool} (hp : PairRows lo hi w pv ps) (hgv : Bools lo2 hi2 w gv gl) (hpl : ps.length = M) (hgl : gl.length = M) (hM : M ≤ 1800) (hin : ∀ l ∈ ps, l.length ≤ 9000 ∧ ∀ f ∈ l, 0 ≤ f ∧ f < (M : Int)) :
    Calls Proofs.Try.prog 108 [pv, gv].toArray w (Ret fun r w' => Kp w w' ∧ ∃ b ol, r = .slice (some ⟨b, 0, none⟩) M M ∧ w.heap.size ≤ b ∧ Own w' b 4 (ol.flatMap fB) ∧ ol.length = M ∧ ∀ j, gT ol j ↔ Rch ps (gT gl) j) := by
  obtain ⟨pa, pc, rfl, hpc, hps⟩ := hp
  obtain ⟨ga, gc, rfl, hgc, hgs⟩ := hgv
  rw [hpl] at hpc ⊢
  rw [hgl] at hgc ⊢
  refine call agree Proofs.Try.func108 rfl Proofs.Try.ntmps108 (by kernel_rfl) ?_
  refine ms agree rfl rfl rfl rfl rfl rfl (by omega) (Int.le_refl _) (by show (1 : Int) * _ ≤ _; omega) (by omega) fun b w1 e1 s1 k1 m1 => ?_
  have m1 : Own w1 b 4 ((List.replicate M false).flatMap fB) := by
    have m1 : Own w1 b 4 (rep [.bool false] ((M : Nat) : Int).toNat) := m1
    rwa [Int.toNat_natCast, repB] at m1
  rw [Int.toNat_natCast]
  refine loop agree (σ := Nat × Value) (fun t => [(0, .slice pa M pc), (1, .slice ga M gc), (5, .slice (some ⟨b, 0, none⟩) M M), (6, t.2), (7, .int .i64 t.1)])
    (fun t w' => Kp w1 w' ∧ t.1 ≤ M ∧ w'.ownsRow w1.heap.size 3 1 t.2 ((List.range t.1).filter fun j => decide (gT gl j)).length (((List.range t.1).filter fun j => decide (gT gl j)).flatMap fN)) (fun t => M - t.1) (0, nilS)
    ⟨rfl, rfl, rfl, rfl, rfl, trivial⟩ ⟨Chg.refl _ _, by simp, World.ownsRow_nil _ _ _ _⟩ ?_
  rintro ⟨i, rv⟩ e0 w2 ⟨k2, hi, ho⟩
  simp only at hi ho
  refine sp (fun hlt => ?_) (fun hge => ?_)
  · have hi' : i < M := by simp only at hlt; omega
    obtain ⟨bg, og, rfl, -, -, cs, hcs, hrd, rfl⟩ := hgs i gl[i] (by simp)
    refine ne ⟨by omega, by omega⟩ ?_
    refine ld agree ((k1.trans k2).range hrd id) (by rfl) ?_
    have hfl := List.length_filter_le (fun j => decide (gT gl j)) (List.range i)
    rw [List.length_range] at hfl
    cases hgi : gl[i] with
    | false =>
      have hng : ¬ gT gl i := by unfold gT; simp [hgi, hi', hgl]
      refine aw (by omega) (by omega) ?_
      refine again (i + 1, rv) ⟨rfl, rfl, rfl, rfl, rfl, trivial⟩ ⟨k2, by simp only; omega, ?_⟩ (by simp only; omega)
      simp only
      rw [List.range_succ, List.filter_append]
      simp only [List.filter_cons, List.filter_nil, decide_eq_false hng, Bool.false_eq_true, if_false, List.append_nil]
      exact ho
    | true =>
      have hng : gT gl i := by unfold gT; simp [hgi, hi', hgl]
      refine ne (by decide) ?_
      refine nd fun q w3 e3 s3 k3 m3 => ?_
      have o3 := ownsRow_chg ho k3 fun _ _ h => h
      obtain ⟨ra, rc, rfl⟩ := ownsRow_form ho
      refine ap (m := 1) (news := fN i) agree rfl rfl rfl rfl rfl rfl rfl (by decide) o3 rfl (Own.at_ (o := 0) m3 rfl) rfl (by simp only [maxLen]; omega) (by show (_ + 1) * 8 ≤ _; omega) (by have := k2.size; omega) ?_
      intro v' w4 o4 c4
      refine aw (by omega) (by omega) ?_
      refine again (i + 1, v') ⟨rfl, rfl, rfl, rfl, rfl, trivial⟩ ⟨(k2.trans k3).newS c4 fun j hj => (o3.lt j hj.symm).1, by simp only; omega, ?_⟩ (by simp only; omega)
      simp only
      rw [List.range_succ, List.filter_append]
      simp only [List.filter_cons, List.filter_nil, decide_eq_true hng, if_true, List.length_append, List.flatMap_append, List.length_cons, List.length_nil, List.flatMap_cons, List.flatMap_nil, List.append_nil]
      exact o4
  have hiM : i = M := by simp only at hge; omega
  subst hiM
  have hRI0 : RI ps gl i ((List.range i).filter fun j => decide (gT gl j)) (List.replicate i false) := by
    refine ⟨by simp, fun j hj => ?_, List.nodup_range.sublist List.filter_sublist, fun j hj => ?_, fun j hj => ?_⟩
    · unfold gT at hj; rw [List.getElem?_replicate] at hj; split at hj <;> simp at hj
    · simp only [List.mem_filter, List.mem_range, decide_eq_true_eq] at hj; exact ⟨hj.1, .inl hj.2⟩
    · rcases hj with hj | hj
      · simp only [List.mem_filter, List.mem_range, decide_eq_true_eq]
        refine ⟨?_, hj⟩
        unfold gT at hj
        have := (List.getElem?_eq_some_iff.1 hj).1
        omega
      · unfold gT at hj; rw [List.getElem?_replicate] at hj; split at hj <;> simp at hj
  have hb1 : w.heap.size ≤ b := by omega
  clear hge hi
  generalize hrl0 : ((List.range i).filter fun j => decide (gT gl j)) = rl0 at *
  refine loop agree (σ := Nat × Value × List Nat × List Bool) (fun t => [(0, .slice pa i pc), (1, .slice ga i gc), (5, .slice (some ⟨b, 0, none⟩) i i), (6, t.2.1), (8, .int .i64 t.1)])
    (fun t w' => Kp w w' ∧ w1.heap.size ≤ w'.heap.size ∧ t.1 ≤ t.2.2.1.length ∧ w'.ownsRow w1.heap.size 3 1 t.2.1 t.2.2.1.length (t.2.2.1.flatMap fN) ∧ Own w' b 4 (t.2.2.2.flatMap fB) ∧ RI ps gl i t.2.2.1 t.2.2.2 ∧ ∀ a j, a < t.1 → t.2.2.1[a]? = some j → ∀ f : Nat, (f : Int) ∈ ps.getD j [] → gT t.2.2.2 f) (fun t => i - t.1) (0, rv, rl0, List.replicate i false)
    ⟨rfl, rfl, rfl, rfl, rfl, trivial⟩ ⟨k1.trans k2, k2.size, by simp, ho, k2.own m1 id, hRI0, by simp⟩ ?_
  rintro ⟨a, rv, rl, ol⟩ e0 w3 ⟨k3, z3, ha, ho, mb, hRI, hdone⟩
  simp only at ha ho mb hRI hdone
  have hrl := hRI.rlen
  obtain ⟨ra, rc, rfl⟩ := ownsRow_form ho
  refine sp (fun hlt => ?_) (fun hge => ?_)
  · have ha' : a < rl.length := by simp only at hlt; omega
    obtain ⟨j, hj⟩ : ∃ j, rl[a]? = some j := ⟨_, List.getElem?_eq_getElem ha'⟩
    have hjM := (hRI.inn j (List.mem_of_getElem? hj)).1
    obtain ⟨l, hl⟩ : ∃ l, ps[j]? = some l := ⟨_, List.getElem?_eq_getElem (by omega)⟩
    have hlD : ps.getD j [] = l := by rw [List.getD_eq_getElem?_getD, hl]; rfl
    obtain ⟨hll, hlf⟩ := hin l (List.mem_of_getElem? hl)
    obtain ⟨bp, op, rfl, -, -, cs, hcs, hrdp, u, rfl, ⟨ua, uc, rfl, huc, hel⟩⟩ := hps j l hl
    refine loop agree (σ := Nat × Value × List Nat × List Bool) (fun t => [(0, .slice (some ⟨bp, op, none⟩) i pc), (1, .slice ga i gc), (5, .slice (some ⟨b, 0, none⟩) i i), (6, t.2.1), (8, .int .i64 a), (9, .int .i64 t.1)])
      (fun t w' => Kp w w' ∧ w1.heap.size ≤ w'.heap.size ∧ t.1 ≤ l.length ∧ t.2.2.1[a]? = some j ∧ w'.ownsRow w1.heap.size 3 1 t.2.1 t.2.2.1.length (t.2.2.1.flatMap fN) ∧ Own w' b 4 (t.2.2.2.flatMap fB) ∧ RI ps gl i t.2.2.1 t.2.2.2 ∧ (∀ c j', c < a → t.2.2.1[c]? = some j' → ∀ f : Nat, (f : Int) ∈ ps.getD j' [] → gT t.2.2.2 f) ∧ ∀ c f : Nat, c < t.1 → l[c]? = some (f : Int) → gT t.2.2.2 f) (fun t => l.length - t.1) (0, .slice ra rl.length rc, rl, ol)
      ⟨rfl, rfl, rfl, rfl, rfl, rfl, trivial⟩ ⟨k3, z3, by simp, hj, ho, mb, hRI, hdone, by simp⟩ ?_
    clear hRI hdone mb ho hj hrl
    rintro ⟨c, rv, rl, ol⟩ e0' w4 ⟨k4, z4, hc, hj, ho, mb, hRI, hdone, hdl⟩
    simp only at hc hj ho mb hRI hdone hdl
    have hrl := hRI.rlen
    have ha' : a < rl.length := (List.getElem?_eq_some_iff.1 hj).1
    obtain ⟨rb, rc, rfl, hrb1, hrb2, -, -⟩ := ownsRow_some ho (by omega)
    have hR : w4.rangeAt rb (0 + a * 1) (fN j) := flat_range (cs := []) (f := fN) (fun _ => rfl) hj (by rw [List.append_nil]; exact ownsRow_range ho)
    have hP : w4.rangeAt bp (op + j * 1) [.slice ua l.length uc] := k4.range hrdp id
    refine ne ⟨by omega, by omega⟩ ?_
    refine ld agree hR (by rfl) ?_
    refine ne ⟨by omega, by omega⟩ ?_
    refine ld agree hP (by rfl) ?_
    refine sp (fun hlt2 => ?_) (fun hge2 => ?_)
    · have hc' : c < l.length := by simp only at hlt2; omega
      have hfr := hlf l[c] (by simp)
      obtain ⟨f, hf⟩ : ∃ f : Nat, l[c] = f := ⟨l[c].toNat, by omega⟩
      have hfM : f < i := by omega
      obtain ⟨be, oe, rfl, -, -, cs, hcs, hrde, rfl⟩ := hel c l[c] (by simp)
      have hmem : (f : Int) ∈ ps.getD j [] := by rw [hlD, ← hf]; simp
      refine ne ⟨by omega, by omega⟩ ?_
      refine ld agree hR (by rfl) ?_
      refine ne ⟨by omega, by omega⟩ ?_
      refine ld agree hP (by rfl) ?_
      refine ne ⟨by omega, hlt2⟩ ?_
      refine ld (v := .int .i64 f) agree (k4.range hrde id) (by rw [hf]; rfl) ?_
      refine ne ⟨by omega, by omega⟩ ?_
      have hol : f < ol.length := by rw [hRI.len]; exact hfM
      refine ld (v := .bool ol[f]) agree (Own.one mb (getB hol) (by rw [Int.toNat_natCast]; show 0 + f * 1 = f; omega)) (by rfl) ?_
      have next : ∀ (W : World) (rv' : Value) (rl' : List Nat) (ol' : List Bool), Kp w W → w1.heap.size ≤ W.heap.size → rl'[a]? = some j → W.ownsRow w1.heap.size 3 1 rv' rl'.length (rl'.flatMap fN) → Own W b 4 (ol'.flatMap fB) → RI ps gl i rl' ol' → (∀ g, gT ol g → gT ol' g) → gT ol' f → (∀ c j', c < a → rl'[c]? = some j' → rl[c]? = some j') → ∀ e',
          Has e' [(0, .slice (some ⟨bp, op, none⟩) i pc), (1, .slice ga i gc), (5, .slice (some ⟨b, 0, none⟩) i i), (6, rv'), (8, .int .i64 a), (9, .int .i64 (c + 1 : Nat))] → e' mark = undef →
          Again (σ := Nat × Value × List Nat × List Bool) (fun t => [(0, .slice (some ⟨bp, op, none⟩) i pc), (1, .slice ga i gc), (5, .slice (some ⟨b, 0, none⟩) i i), (6, t.2.1), (8, .int .i64 a), (9, .int .i64 t.1)])
            (fun t w' => Kp w w' ∧ w1.heap.size ≤ w'.heap.size ∧ t.1 ≤ l.length ∧ t.2.2.1[a]? = some j ∧ w'.ownsRow w1.heap.size 3 1 t.2.1 t.2.2.1.length (t.2.2.1.flatMap fN) ∧ Own w' b 4 (t.2.2.2.flatMap fB) ∧ RI ps gl i t.2.2.1 t.2.2.2 ∧ (∀ c j', c < a → t.2.2.1[c]? = some j' → ∀ f : Nat, (f : Int) ∈ ps.getD j' [] → gT t.2.2.2 f) ∧ ∀ c f : Nat, c < t.1 → l[c]? = some (f : Int) → gT t.2.2.2 f) (fun t => l.length - t.1) (c, .slice (some ⟨rb, 0, none⟩) rl.length rc, rl, ol) e' W :=
        fun W rv' rl' ol' q1 q2 q3 q4 q5 q6 q7 q8 q9 e' he hmk => again (hm := hmk) (c + 1, rv', rl', ol') he ⟨q1, q2, by simp only; omega, q3, q4, q5, q6, fun c' j' h1 h2 g hg => q7 g (hdone c' j' h1 (q9 c' j' h1 h2) g hg), fun c' g h1 h2 => by
          rcases Nat.lt_or_ge c' c with h3 | h3
          · exact q7 g (hdl c' g h3 h2)
          · have : c' = c := by simp only at h1; omega
            subst this
            rw [List.getElem?_eq_getElem hc', hf] at h2
            have : f = g := by have := Option.some.inj h2; omega
            exact this ▸ q8⟩ (by simp only; omega)
      cases hof : ol[f] with
      | true =>
        refine aw (by omega) (by omega) ?_
        exact next w4 _ rl ol k4 z4 hj ho mb hRI (fun _ h => h) (by unfold gT; rw [List.getElem?_eq_getElem hol, hof]) (fun _ _ _ h => h) _ ⟨rfl, rfl, rfl, rfl, rfl, rfl, trivial⟩ rfl
      | false =>
        have hnof : ¬ gT ol f := by unfold gT; rw [List.getElem?_eq_getElem hol, hof]; simp
        refine ne ⟨by omega, by omega⟩ ?_
        refine st agree (o := 0 + ((f : Nat) : Int).toNat * 1) mb rfl (by rw [Int.toNat_natCast, flatB, List.length_map]; show 0 + f * 1 + 1 ≤ _; omega) rfl ?_
        intro w5 s5 k5 m5
        have n5 : Own w5 b 4 ((ol.set f true).flatMap fB) := by
          have m5 : Own w5 b 4 (lay (ol.flatMap fB) (0 + ((f : Nat) : Int).toNat * 1) [.bool true]) := m5
          rwa [setB _ f _ _ (by rw [Int.toNat_natCast]; omega)] at m5
        have k5' : Kp w w5 := k4.newS k5 fun j hj => by omega
        have o5 : w5.ownsRow w1.heap.size 3 1 (.slice (some ⟨rb, 0, none⟩) rl.length rc) rl.length (rl.flatMap fN) := ownsRow_chg ho k5 fun b' hb' hbb => ownsRow_ne ho mb (fun cs fr hh => by injection hh with _ h2; exact absurd h2 (by decide)) (hbb ▸ hb')
        obtain ⟨bg, og, rfl, -, -, cs, hcs, hrdg, rfl⟩ := hgs f gl[f] (by simp)
        refine ne ⟨by omega, by omega⟩ ?_
        refine ld (v := .bool gl[f]) agree (k5'.range (by rw [Int.toNat_natCast]; exact hrdg) id) (by rfl) ?_
        cases hgf : gl[f] with
        | true =>
          refine aw (by omega) (by omega) ?_
          exact next w5 _ rl (ol.set f true) k5' (by omega) hj o5 n5 (hRI.mark hfM (List.mem_of_getElem? hj) hmem (by unfold gT; rw [List.getElem?_eq_getElem (by omega), hgf])) (fun g hg => (gT_set hol).2 (.inr hg)) ((gT_set hol).2 (.inl rfl)) (fun _ _ _ h => h) _ ⟨rfl, rfl, rfl, rfl, rfl, rfl, trivial⟩ rfl
        | false =>
          have hnl : rl.length < i := by
            have := nodup_sub (l := rl ++ [f]) (r := List.range i) (hRI.push hfM (List.mem_of_getElem? hj) hmem (by unfold gT; rw [List.getElem?_eq_getElem (by omega), hgf]; simp) hnof).nd fun x hx => by simpa using ((hRI.push hfM (List.mem_of_getElem? hj) hmem (by unfold gT; rw [List.getElem?_eq_getElem (by omega), hgf]; simp) hnof).inn x hx).1
            simp at this; omega
          refine ne (by decide) ?_
          refine nd fun q w6 e6 s6 k6 m6 => ?_
          have o6 := ownsRow_chg o5 k6 fun _ _ h => h
          refine ap (m := 1) (news := fN f) agree rfl rfl rfl rfl rfl rfl rfl (by decide) o6 rfl (Own.at_ (o := 0) m6 rfl) rfl (by simp only [maxLen]; omega) (by show (_ + 1) * 8 ≤ _; omega) (by omega) ?_
          intro v' w7 o7 c7
          have hbne : ¬ some b = Value.ownBlock (.slice (some ⟨rb, 0, none⟩) rl.length rc) := fun he => ownsRow_ne o6 (k6.own n5 id) (fun cs fr hh => by injection hh with _ h2; exact absurd h2 (by decide)) he.symm
          refine aw (by omega) (by omega) ?_
          refine next w7 v' (rl ++ [f]) (ol.set f true) ((k5'.trans k6).newS c7 fun j hj => by have := (o6.lt j hj.symm).1; have := k1.size; omega) (by have := c7.size; omega) (by rw [List.getElem?_append_left ha', hj]) ?_ (c7.own (k6.own n5 id) hbne)
            (hRI.push hfM (List.mem_of_getElem? hj) hmem (by unfold gT; rw [List.getElem?_eq_getElem (by omega), hgf]; simp) hnof) (fun g hg => (gT_set hol).2 (.inr hg)) ((gT_set hol).2 (.inl rfl)) (fun c' j' h1 h2 => by rwa [List.getElem?_append_left (by omega)] at h2) _ ⟨rfl, rfl, rfl, rfl, rfl, rfl, trivial⟩ rfl
          have o7 : w7.ownsRow w1.heap.size 3 1 v' (rl.length + 1) (rl.flatMap fN ++ fN f) := o7
          rw [List.length_append, List.flatMap_append]
          simpa using o7
    · have hcl : c = l.length := by simp only at hge2; omega
      subst hcl
      refine aw (by omega) (by omega) ?_
      refine again (a + 1, _, rl, ol) ⟨rfl, rfl, rfl, rfl, rfl, trivial⟩ ⟨k4, z4, by simp only; omega, ho, mb, hRI, fun c' j' h1 h2 f hf => ?_⟩ (by simp only; omega)
      simp only at h1 h2
      rcases Nat.lt_or_ge c' a with h3 | h3
      · exact hdone c' j' h3 h2 f hf
      · have : c' = a := by omega
        subst this
        rw [hj] at h2
        cases h2
        rw [hlD] at hf
        obtain ⟨c'', hc'', hcc⟩ := List.getElem_of_mem hf
        exact hdl c'' f hc'' (by rw [List.getElem?_eq_getElem hc'', hcc])
  · have hal : a = rl.length := by simp only at hge; omega
    subst hal
    refine ⟨k3, b, ol, rfl, hb1, mb, hRI.len, hRI.done fun t ht f hf => ?_⟩
    obtain ⟨c, hc, rfl⟩ := List.getElem_of_mem ht
    exact hdone c rl[c] hc (by simp) f hf
end Go.Au
