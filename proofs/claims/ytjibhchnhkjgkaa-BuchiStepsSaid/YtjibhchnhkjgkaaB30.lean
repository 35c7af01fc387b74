/- Own text of this workplace: a part of the proofs of this place's statements. -/
import Derived.Test.YtjibhchnhkjgkaaB29
set_option linter.unusedVariables false
set_option linter.unusedSimpArgs false
set_option linter.unusedSectionVars false
namespace Go.Au
open Go Go.RowKit

/-! ### the document's answer is the program's -/
section
variable {g : General} {x : Word} {N : Nat}
def plc (x : Word) (i : Nat) : Place := (((i / x.places : Nat) : Int), ((i % x.places : Nat) : Int))
def enc (x : Word) (p : Place) : Nat := p.1.toNat * x.places + p.2.toNat

theorem succ_iff {p q : Place} : q ∈ succ g x p ↔ ∃ e ∈ g.edges, e.frm = p.1 ∧ goesS e (x.at p.2.toNat) = true ∧ q = (e.to, x.behind p.2.toNat) := by
  simp only [succ, succOf, fromS, List.mem_map, List.mem_filter, decide_eq_true_eq]
  constructor
  · rintro ⟨e, ⟨⟨h1, h2⟩, h3⟩, rfl⟩; exact ⟨e, h1, h2, h3, rfl⟩
  · rintro ⟨e, h1, h2, h3, rfl⟩; exact ⟨e, ⟨⟨h1, h2⟩, h3⟩, rfl⟩
theorem enc_plc (hx : x.loop.length ≠ 0) (i : Nat) : enc x (plc x i) = i := by
  simp only [enc, plc, Int.toNat_natCast]
  rw [Nat.mul_comm]; exact Nat.div_add_mod i x.places
theorem plc_enc (hx : x.loop.length ≠ 0) {p : Place} (hp : InBox g x p) : plc x (enc x p) = p := by
  obtain ⟨h1, h2, h3, h4⟩ := hp
  have hn := (places_pos hx).1
  obtain ⟨a, b⟩ := p
  simp only at h1 h2 h3 h4
  obtain ⟨a, rfl⟩ : ∃ k : Nat, a = k := ⟨a.toNat, by omega⟩
  obtain ⟨b, rfl⟩ : ∃ k : Nat, b = k := ⟨b.toNat, by omega⟩
  simp only [enc, plc, Int.toNat_natCast]
  have hb : b < x.places := by omega
  rw [Nat.mul_comm, Nat.mul_add_div hn, Nat.div_eq_of_lt hb, Nat.mul_add_mod, Nat.mod_eq_of_lt hb]
  simp
theorem enc_lt (hN : g.states = N) {p : Place} (hp : InBox g x p) : enc x p < N * x.places := by
  obtain ⟨h1, h2, h3, h4⟩ := hp
  exact idx_lt (by omega) (by omega)
theorem plc_box (hx : x.loop.length ≠ 0) (hN : g.states = N) {i : Nat} (hi : i < N * x.places) : InBox g x (plc x i) := by
  have hn := (places_pos hx).1
  have h1 : i / x.places < N := Nat.div_lt_of_lt_mul (by rw [Nat.mul_comm]; exact hi)
  have h2 : i % x.places < x.places := Nat.mod_lt _ hn
  exact ⟨Int.natCast_nonneg _, by show ((i / x.places : Nat) : Int) < _; rw [hN]; exact Int.ofNat_lt.2 h1, Int.natCast_nonneg _, Int.ofNat_lt.2 h2⟩

theorem pair_iff (hg : Good g) (hx : x.loop.length ≠ 0) (hN : g.states = N) {t f : Nat} : (f : Int) ∈ (pairsS g x N).getD t [] ↔ t < N * x.places ∧ f < N * x.places ∧ plc x t ∈ succ g x (plc x f) := by
  have hn := (places_pos hx).1
  have hget : (pairsS g x N).getD t [] = if t < N * x.places then keyed (pairsL x g.edges) t else [] := by
    unfold pairsS
    rw [List.getD_eq_getElem?_getD, List.getElem?_map]
    by_cases h : t < N * x.places
    · rw [List.getElem?_range h, if_pos h]; rfl
    · rw [List.getElem?_eq_none (by simpa using h), if_neg h]; rfl
  rw [hget]
  constructor
  · intro h
    split at h
    · rename_i ht
      rw [keyed_mem] at h
      simp only [pairsL, pairsOf, List.mem_flatMap, List.mem_range] at h
      obtain ⟨e, he, p, hp, h⟩ := h
      unfold pairOf at h
      split at h
      · rename_i hgo
        simp only [List.mem_singleton, Prod.mk.injEq] at h
        obtain ⟨h1, h2⟩ := h
        have her := hg.edges e he
        have hbe := behind_lt hx hp
        obtain ⟨a, ha⟩ : ∃ k : Nat, e.frm = k := ⟨e.frm.toNat, by omega⟩
        obtain ⟨c, hc⟩ : ∃ k : Nat, e.to = k := ⟨e.to.toNat, by omega⟩
        obtain ⟨d, hd⟩ : ∃ k : Nat, x.behind p = k := ⟨(x.behind p).toNat, by omega⟩
        rw [ha, ← Int.natCast_mul, ← Int.natCast_add] at h2
        rw [hc, hd, ← Int.natCast_mul, ← Int.natCast_add] at h1
        have h1 := Int.ofNat_inj.1 h1
        have h2 := Int.ofNat_inj.1 h2
        have hbp : InBox g x (e.frm, (p : Int)) := ⟨her.1, her.2.1, Int.natCast_nonneg _, by simp; omega⟩
        have hbq : InBox g x (e.to, x.behind p) := ⟨her.2.2.1, her.2.2.2, hbe.1, hbe.2⟩
        have e1 : enc x (e.frm, (p : Int)) = f := by simp only [enc, ha, Int.toNat_natCast]; omega
        have e2 : enc x (e.to, x.behind p) = t := by simp only [enc, hc, hd, Int.toNat_natCast]; omega
        refine ⟨ht, by rw [← e1]; exact enc_lt hN hbp, ?_⟩
        rw [← e1, ← e2, plc_enc hx hbp, plc_enc hx hbq, succ_iff]
        exact ⟨e, he, rfl, by simpa using hgo, by simp⟩
      · simp at h
    · simp at h
  · rintro ⟨ht, hf, h⟩
    rw [if_pos ht, keyed_mem]
    rw [succ_iff] at h
    obtain ⟨e, he, h1, h2, h3⟩ := h
    simp only [plc, Int.toNat_natCast] at h1 h2 h3
    simp only [Prod.mk.injEq] at h3
    simp only [pairsL, pairsOf, List.mem_flatMap, List.mem_range]
    refine ⟨e, he, f % x.places, Nat.mod_lt _ hn, ?_⟩
    unfold pairOf
    rw [if_pos h2, h1, ← h3.1, ← h3.2, ← Int.natCast_mul, ← Int.natCast_mul, ← Int.natCast_add, ← Int.natCast_add, Nat.mul_comm (t / x.places), Nat.mul_comm (f / x.places), Nat.div_add_mod, Nat.div_add_mod]
    simp

theorem sets_iff (hN : g.states = N) {F : List Int} : F ∈ setsOf g ↔ ∃ s, s < max g.sets.length 1 ∧ (if g.sets.length = 0 then F = upTo g.states else g.sets[s]? = some F) := by
  unfold setsOf
  by_cases h : g.sets.length = 0
  · rw [if_pos h]
    constructor
    · intro hF; simp at hF; exact ⟨0, by omega, by rw [if_pos h]; exact hF⟩
    · rintro ⟨s, -, hs⟩; rw [if_pos h] at hs; simp [hs]
  · rw [if_neg h]
    constructor
    · intro hF
      obtain ⟨s, hs, rfl⟩ := List.getElem_of_mem hF
      exact ⟨s, by omega, by rw [if_neg h]; simp⟩
    · rintro ⟨s, -, hs⟩; rw [if_neg h] at hs; exact List.mem_of_getElem? hs
theorem inF_iff (hx : x.loop.length ≠ 0) (hN : g.states = N) {F : List Int} {s : Nat} (hF : if g.sets.length = 0 then F = upTo g.states else g.sets[s]? = some F) {t : Nat} (ht : t < N * x.places) : InF g x s t ↔ (plc x t).1 ∈ F := by
  unfold InF plc
  by_cases h : g.sets.length = 0
  · rw [if_pos h] at hF
    subst hF
    have h1 : t / x.places < N := Nat.div_lt_of_lt_mul (by rw [Nat.mul_comm]; exact ht)
    refine ⟨fun _ => ?_, fun _ => .inl h⟩
    simp only [upTo, List.mem_map, List.mem_range]
    exact ⟨t / x.places, by rw [hN]; simpa using h1, rfl⟩
  · rw [if_neg h] at hF
    constructor
    · rintro (h' | ⟨l, hl, hm⟩)
      · exact absurd h' h
      · rw [hF] at hl; cases hl; exact hm
    · intro hm; exact .inr ⟨F, hF, hm⟩

theorem reach_box (hg : Good g) (hx : x.loop.length ≠ 0) {p : Place} (h : Reachable g x p) : InBox g x p :=
  h _ (fun s hs => by
    have := hg.init s hs
    have := places_pos hx
    exact ⟨by simp; omega, by simp; omega, by simp, by simp; omega⟩) fun p q hp hq => succ_box hg hx hp q hq

/-- what leads to some -/
def Lead (g : General) (x : Word) (X : Place → Prop) (p : Place) : Prop := ∀ Y : Place → Prop, (∀ a, X a → Y a) → (∀ a b, b ∈ succ g x a → Y b → Y a) → Y p

def GP (g : General) (x : Word) (N i : Nat) : Prop := ∃ Z, Post g x N Z ∧ Z i
theorem GP.post : Post g x N (GP g x N) := fun i ⟨Z, hZ, hi⟩ => ⟨(hZ i hi).1, fun s hs => ((hZ i hi).2 s hs).mono fun t ht => ⟨Z, hZ, ht⟩⟩
theorem GP.pred {t f : Nat} (h : (f : Int) ∈ (pairsS g x N).getD t []) (hf : f < N * x.places) (ht : GP g x N t) : GP g x N f := by
  refine ⟨fun i => GP g x N i ∨ i = f, fun i hi => ?_, .inr rfl⟩
  have hpo : ∀ s, s < max g.sets.length 1 → ∀ i, GP g x N i → Clo g x N (fun i => GP g x N i ∨ i = f) s i := fun s hs i hi => ((GP.post i hi).2 s hs).mono fun _ => .inl
  rcases hi with hi | rfl
  · exact ⟨(GP.post i hi).1, fun s hs => hpo s hs i hi⟩
  · exact ⟨hf, fun s hs => Rch.step h (.inr (hpo s hs t ht))⟩

theorem accP_iff (hg : Good g) (hx : x.loop.length ≠ 0) (hN : g.states = N) : (∃ s ∈ g.init, GP g x N (s.toNat * x.places)) ↔ AccP g x := by
  have hn := (places_pos hx).1
  have hinit : ∀ s ∈ g.init, InBox g x (s, 0) := fun s hs => by
    have := hg.init s hs
    exact ⟨by simp; omega, by simp; omega, by simp, by simp; omega⟩
  constructor
  · rintro ⟨s, hs, hz⟩
    refine ⟨fun p => Reachable g x p ∧ GP g x N (enc x p), ⟨(s, 0), fun X h1 _ => h1 s hs, by simpa [enc] using hz⟩, fun p hp => hp.1, ?_⟩
    rintro p ⟨hr, hp⟩ F hF
    obtain ⟨k, hk, hFk⟩ := (sets_iff hN).1 hF
    have hbox := reach_box hg hx hr
    have key := ((GP.post _ hp).2 k hk) (fun i => Reachable g x (plc x i) → Plus g x (fun p => Reachable g x p ∧ GP g x N (enc x p)) (fun q => q.1 ∈ F) (plc x i)) (fun t f hf ht hrf => by
      obtain ⟨h1, h2, h3⟩ := (pair_iff hg hx hN).1 hf
      have hrt : Reachable g x (plc x t) := fun X a b => b _ _ (hrf X a b) h3
      have gt : GP g x N t := by
        rcases ht with ht | ht
        · exact ht.1
        · have := (ht hrt).self.2
          rwa [enc_plc hx] at this
      have gf : GP g x N f := GP.pred hf h2 gt
      rcases ht with ht | ht
      · exact .one ⟨hrf, by rw [enc_plc hx]; exact gf⟩ h3 ⟨hrt, by rw [enc_plc hx]; exact gt⟩ ((inF_iff hx hN hFk h1).1 ht.2)
      · exact .more ⟨hrf, by rw [enc_plc hx]; exact gf⟩ h3 ⟨hrt, by rw [enc_plc hx]; exact gt⟩ (ht hrt))
    rw [plc_enc hx hbox] at key
    exact key hr
  · rintro ⟨X, ⟨p, hp⟩, hr, hX⟩
    have hXb : ∀ p, X p → InBox g x p := fun p hp => reach_box hg hx (hr p hp)
    have hlead : ∃ s ∈ g.init, Lead g x X (s, 0) := by
      have := hr p hp (fun q => ∃ s ∈ g.init, ∀ Y : Place → Prop, Y q → (∀ a b, b ∈ succ g x a → Y b → Y a) → Y (s, 0)) (fun s hs => ⟨s, hs, fun Y h _ => h⟩) (fun a b ⟨s, hs, h⟩ hb => ⟨s, hs, fun Y hy hc => h Y (hc a b hb hy) hc⟩)
      obtain ⟨s, hs, h⟩ := this
      exact ⟨s, hs, fun Y h1 h2 => h Y (h1 p hp) h2⟩
    obtain ⟨s, hs, hl⟩ := hlead
    refine ⟨s, hs, fun i => i < N * x.places ∧ Lead g x X (plc x i), ?_, ?_⟩
    · rintro i ⟨hi, hli⟩
      refine ⟨hi, fun k hk => ?_⟩
      obtain ⟨F, hFk⟩ : ∃ F, if g.sets.length = 0 then F = upTo g.states else g.sets[k]? = some F := by
        by_cases h : g.sets.length = 0
        · exact ⟨_, by rw [if_pos h]⟩
        · exact ⟨g.sets[k]'(by omega), by rw [if_neg h]; simp⟩
      have hF : F ∈ setsOf g := (sets_iff hN).2 ⟨k, hk, hFk⟩
      have hpl : ∀ q, Plus g x X (fun q => q.1 ∈ F) q → Clo g x N (fun i => i < N * x.places ∧ Lead g x X (plc x i)) k (enc x q) := by
        intro q hq
        induction hq with
        | @one a b h1 h2 h3 h4 =>
          have ha := hXb a h1
          have hb := hXb b h3
          refine Rch.step (t := enc x b) ((pair_iff hg hx hN).2 ⟨enc_lt hN hb, enc_lt hN ha, by rw [plc_enc hx ha, plc_enc hx hb]; exact h2⟩) (.inl ⟨⟨enc_lt hN hb, ?_⟩, ?_⟩)
          · rw [plc_enc hx hb]; exact fun Y h _ => h b h3
          · rw [inF_iff hx hN hFk (enc_lt hN hb), plc_enc hx hb]; exact h4
        | @more a b h1 h2 h3 _ ih =>
          have ha := hXb a h1
          have hb := hXb b h3
          exact Rch.step (t := enc x b) ((pair_iff hg hx hN).2 ⟨enc_lt hN hb, enc_lt hN ha, by rw [plc_enc hx ha, plc_enc hx hb]; exact h2⟩) (.inr ih)
      have := hli (fun q => InBox g x q → Clo g x N (fun i => i < N * x.places ∧ Lead g x X (plc x i)) k (enc x q)) (fun a ha _ => hpl a (hX a ha F hF)) (fun a b hb ih ha => by
        have hbb := succ_box hg hx ha b hb
        exact Rch.step (t := enc x b) ((pair_iff hg hx hN).2 ⟨enc_lt hN hbb, enc_lt hN ha, by rw [plc_enc hx ha, plc_enc hx hbb]; exact hb⟩) (.inr (ih hbb)))
      have h2 := this (plc_box hx hN hi)
      rwa [enc_plc hx] at h2
    · have hb := hinit s hs
      have he : enc x (s, 0) = s.toNat * x.places := by simp [enc]
      exact ⟨by rw [← he]; exact enc_lt hN hb, by rw [← he, plc_enc hx hb]; exact hl⟩
end
end Go.Au
