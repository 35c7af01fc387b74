/- Own text of this workplace: a part of the proofs of this place's statements. -/
import Derived.Test.YtjibhchnhkjgkaaB13
set_option linter.unusedVariables false
set_option linter.unusedSimpArgs false
set_option linter.unusedSectionVars false
namespace Go.Au
open Go Go.RowKit Go.MapKept
open Go.Maps (Keyed)

/-- one comes to one of T by one step or more, within X -/
inductive Plus (g : General) (x : Word) (X T : Place → Prop) : Place → Prop
  | one {p q : Place} : X p → q ∈ succ g x p → X q → T q → Plus g x X T p
  | more {p q : Place} : X p → q ∈ succ g x p → X q → Plus g x X T q → Plus g x X T p
theorem Plus.mono {g : General} {x : Word} {X T X' T' : Place → Prop} (hX : ∀ p, X p → X' p) (hT : ∀ p, X p → T p → T' p) {p : Place} (h : Plus g x X T p) : Plus g x X' T' p := by
  induction h with
  | one h1 h2 h3 h4 => exact .one (hX _ h1) h2 (hX _ h3) (hT _ h3 h4)
  | more h1 h2 h3 _ ih => exact .more (hX _ h1) h2 (hX _ h3) ih
theorem Plus.self {g : General} {x : Word} {X T : Place → Prop} {p : Place} (h : Plus g x X T p) : X p := by cases h <;> assumption
theorem Comes.plus {g : General} {x : Word} {lin lto : List Place} {p : Place} (h : Comes g x lin lto p) : Plus g x (· ∈ lin) (· ∈ lto) p := by
  induction h with
  | one h1 h2 h3 h4 => exact .one h1 h2 h3 h4
  | more h1 h2 h3 _ ih => exact .more h1 h2 h3 ih
theorem Plus.comes {g : General} {x : Word} {lin lto : List Place} {p : Place} (h : Plus g x (· ∈ lin) (· ∈ lto) p) : Comes g x lin lto p := by
  induction h with
  | one h1 h2 h3 h4 => exact .one h1 h2 h3 h4
  | more h1 h2 h3 _ ih => exact .more h1 h2 h3 ih

def upTo (n : Int) : List Int := (List.range n.toNat).map fun (i : Nat) => (i : Int)
def setsOf (g : General) : List (List Int) := if g.sets.length = 0 then [upTo g.states] else g.sets
def Reachable (g : General) (x : Word) (p : Place) : Prop := ∀ X : Place → Prop, (∀ s ∈ g.init, X (s, 0)) → (∀ p q, X p → q ∈ succ g x p → X q) → X p
/-- some run meets each set again and again -/
def AccP (g : General) (x : Word) : Prop := ∃ X : Place → Prop, (∃ p, X p) ∧ (∀ p, X p → Reachable g x p) ∧ ∀ p, X p → ∀ F ∈ setsOf g, Plus g x X (fun q => q.1 ∈ F) p

theorem nodup_same {α : Type} [DecidableEq α] {l r : List α} (hl : l.Nodup) (hs : ∀ x ∈ l, x ∈ r) (he : r.length ≤ l.length) : ∀ x ∈ r, x ∈ l := fun x hx => Classical.byContradiction fun hn => by
  have := nodup_sub (l := x :: l) (r := r) (List.nodup_cons.2 ⟨hn, hl⟩) fun y hy => by
    rcases List.mem_cons.1 hy with rfl | hy
    · exact hx
    · exact hs y hy
  simp at this
  omega

structure AccI (g : General) (x : Word) (all lin : List Place) : Prop where
  nodup : lin.Nodup
  sub : ∀ p ∈ lin, p ∈ all
  great : ∀ X : Place → Prop, (∀ p, X p → p ∈ all) → (∀ p, X p → ∀ F ∈ setsOf g, Plus g x X (fun q => q.1 ∈ F) p) → ∀ p, X p → p ∈ lin
def Fixed (g : General) (x : Word) (lin : List Place) (Fs : List (List Int)) : Prop := ∀ p ∈ lin, ∀ F ∈ Fs, Plus g x (· ∈ lin) (fun q => q.1 ∈ F) p

theorem AccI.accP {g : General} {x : Word} {all lin : List Place} (ha : AllOf g x all) (h : AccI g x all lin) (hf : Fixed g x lin (setsOf g)) : 0 < lin.length ↔ AccP g x := by
  constructor
  · intro h0
    refine ⟨(· ∈ lin), ⟨lin[0], by simp⟩, fun p hp X h1 h2 => ha.least X h1 h2 p (h.sub p hp), hf⟩
  · rintro ⟨X, ⟨p, hp⟩, hr, hX⟩
    have := h.great X (fun q hq => hr q hq _ ha.init fun p q hp hq => ha.closed p hp q hq) hX p hp
    exact List.length_pos_of_mem this

/-- one round for one set -/
structure CutI (g : General) (x : Word) (lin0 lin : List Place) (Fs : List (List Int)) : Prop where
  sub : ∀ p ∈ lin, p ∈ lin0
  fixed : lin.length = lin0.length → (∀ p ∈ lin0, p ∈ lin) ∧ Fixed g x lin0 Fs
theorem CutI.step {g : General} {x : Word} {all lin0 lin lto lin' : List Place} {Fs : List (List Int)} {F : List Int} (h0 : AccI g x all lin0) (h : AccI g x all lin) (hc : CutI g x lin0 lin Fs) (hF : F ∈ setsOf g)
    (hto : ∀ p, p ∈ lto ↔ p ∈ all ∧ p.1 ∈ F ∧ p ∈ lin) (hn : lin'.Nodup) (hl : ∀ p, p ∈ lin' ↔ p ∈ all ∧ Comes g x lin lto p) : AccI g x all lin' ∧ CutI g x lin0 lin' (Fs ++ [F]) := by
  have hsub : ∀ p ∈ lin', p ∈ lin := fun p hp => ((hl p).1 hp).2.plus.self
  refine ⟨⟨hn, fun p hp => h.sub p (hsub p hp), fun X h1 h2 p hp => ?_⟩, ⟨fun p hp => hc.sub p (hsub p hp), fun he => ?_⟩⟩
  · have hXl := h.great X h1 h2
    refine (hl p).2 ⟨h1 p hp, ?_⟩
    exact (Plus.mono (fun q hq => hXl q hq) (fun q hq hqF => (hto q).2 ⟨h1 q hq, hqF, hXl q hq⟩) (h2 p hp F hF)).comes
  · have e1 := nodup_sub hn hsub
    have e2 := nodup_sub h.nodup hc.sub
    obtain ⟨f1, f2⟩ := hc.fixed (by omega)
    have e3 := nodup_same hn hsub (by omega)
    refine ⟨fun p hp => e3 p (f1 p hp), fun p hp G hG => ?_⟩
    rcases List.mem_append.1 hG with hG | hG
    · exact f2 p hp G hG
    · simp only [List.mem_singleton] at hG
      subst hG
      have := ((hl p).1 (e3 p (f1 p hp))).2.plus
      exact this.mono (fun q hq => hc.sub q hq) (fun q _ hq => ((hto q).1 hq).2.1)

theorem upTo_sorted (n : Int) : (upTo n).Pairwise (· ≤ ·) := by
  unfold upTo
  rw [List.pairwise_map]
  exact (List.pairwise_lt_range).imp fun h => by omega

theorem RunV.chg {lo hi hi' r : Nat} {w w' : World} {g : General} {x : Word} {all : List Place} (h : RunV lo hi w r g x all) (k : Kp w w') (hh : hi ≤ hi') : RunV lo hi' w' r g x all := by
  obtain ⟨pv, iv, ev, sv, stv, lov, mn, av, nl, mr, hr1, hr2, hn1, hn2, hgv, hav, hnext, hrows⟩ := h.h
  exact ⟨_, _, _, _, _, _, mn, _, nl, k.own mr id, hr1, by omega, hn1, by omega, hgv.chg k (Nat.le_refl _) hh, (hav.chg k (fun _ _ _ h => h) (fun _ _ h => h)).mono (fun _ _ h => h) (Nat.le_refl _) hh, hnext.chg k id,
    fun p hp => ((hrows p hp).chg k (fun _ _ _ h => h) (fun _ _ h => h)).mono (fun _ _ h => h) (Nat.le_refl _) hh⟩
noncomputable def acceptsS (g : General) (x : Word) : Bool := @decide (AccP g x) (Classical.propDecidable _)

set_option maxHeartbeats 4000000 in
theorem accepts_c {w : World} {lo hi r : Nat} {g : General} {x : Word} {all : List Place} (hr : RunV lo hi w r g x all) (hhi : hi ≤ w.heap.size) (ha : AllOf g x all) (hg : Good g) (hs : ∀ l ∈ g.sets, l.Pairwise (· ≤ ·)) (hx : x.loop.length ≠ 0) (hP : x.places < 1048576) (hE : g.edges.length < 1099511627776) :
    Calls Proofs.Try.prog 68 [pt r 0].toArray w (Ret fun v w' => v = .bool (acceptsS g x) ∧ Kp w w') := by
  obtain ⟨pv, iv, ev, sv, stv, lov, mn, av, nl, mr, hr1, hr2, hn1, hn2, hgv, hav, hnext, hrows⟩ := id hr.h
  have hbox := ha.box hg hx
  have hls := hgv.ls
  have hlen : all.length < 1099511627776 := by
    have h1 := box_len ha.nodup hg hbox
    have h2 : g.states.toNat * x.places ≤ 65536 * 1048576 := Nat.mul_le_mul (by have := hg.s1; omega) (by omega)
    omega
  have hI : ∀ p ∈ all, I64 p.1 ∧ I64 p.2 := fun p hp => by
    obtain ⟨a, b, c, d⟩ := hbox p hp
    have := hg.s1
    exact ⟨⟨by omega, by omega⟩, ⟨by omega, by omega⟩⟩
  have hsorted : ∀ F ∈ setsOf g, F.Pairwise (· ≤ ·) := fun F hF => by
    unfold setsOf at hF
    split at hF
    · simp only [List.mem_singleton] at hF
      rw [hF]
      exact upTo_sorted _
    · exact hs F hF
  obtain ⟨ava, avc, rfl, havc, hread⟩ := id hav
  refine call agree Proofs.Try.func68 rfl Proofs.Try.ntmps68 (by kernel_rfl) ?_
  refine nd fun m3 w1 e1 s1 k1 m1 => ?_
  have hm3 : OnesE w1 m3 (ones []) := MapE.made m1 pval_inj
  refine ld agree (Own.at_ (xs := [.slice ava all.length avc]) (k1.own mr id) rfl) (by rfl) ?_
  refine loop agree (σ := Nat) (fun i => [(0, pt r 0), (3, .map (some m3)), (20, .slice ava all.length avc), (21, .int .i64 all.length), (22, .int .i64 i)])
    (fun i W => i ≤ all.length ∧ Kp w W ∧ OnesE W m3 (ones (all.take i))) (fun i => all.length - i) 0
    ⟨rfl, rfl, rfl, rfl, rfl, trivial⟩ ⟨by omega, k1, hm3⟩ ?_
  rintro i env w2 ⟨hi2, k2, hm⟩
  refine sp (fun hlt => ?_) (fun hge => ?_)
  · have hi' : i < all.length := by omega
    obtain ⟨b, o, rfl, hlo, hhi, cs, hcs, hrd, rfl⟩ := hread i all[i] (by simp)
    have hp := hI all[i] (by simp)
    refine ne ⟨by omega, hlt⟩ ?_
    refine ld agree (v := pval all[i]) (k2.range hrd id) rfl ?_
    refine nd fun p5 w4 e4 s4 k4 m4 => ?_
    refine st agree (cs := [.int .i64 0, .int .i64 0]) m4 rfl (Nat.le_refl 2) rfl ?_
    intro w5 s5 k5 m5
    have m10 : Own w5 p5 133 (pcells all[i]) := m5
    have k25 : Kp w2 w5 := k4.new e4 k5
    have hm5 := hm.chg k25 id
    have hnot : all[i] ∉ all.take i := fun hmem => by
      have hd := ha.nodup
      rw [← List.take_append_drop i all, List.nodup_append] at hd
      exact hd.2.2 _ hmem _ (by rw [List.drop_eq_getElem_cons hi']; exact List.mem_cons_self) rfl
    have n10 : p5 ≠ m3 := hm5.ne m10
    have hpre := preMapR Proofs.Try.prog 133 pval (fun n : Int => .int .i64 n) 0 m3 all[i]
    refine drawnR agree mixed 6 (by kernel_rfl) _ hpre ?_
    conv => whnf
    refine ldr (v := pval all[i]) hpre agree rfl rfl (fun W h _ => h.chg.range (Own.at_ (xs := pcells all[i]) (o := 0) m10 rfl) n10) (by rfl) fun _ => ?_
    conv => whnf
    refine lkr (v := .int .i64 0) hpre rfl (fun W h _ => by
      obtain ⟨x1, hm1, he1⟩ := h.map _ hm5
      have := MapE.get agree placeKeyed (t := 131) rfl rfl rfl rfl (z := 0) hm1 all[i] (placeKey hp.1 hp.2)
      rw [he1.get, ones, aget_ones, if_neg hnot] at this
      exact this) fun _ => ?_
    conv => whnf
    refine aw (by omega) (by omega) ?_
    conv => whnf
    refine enr agree placeKeyed (t := 131) rfl rfl rfl rfl rfl rfl (z := 0) rfl hm5 (placeKey hp.1 hp.2) fun st D hD => ?_
    conv => whnf
    intro W10 hW10 hDs
    obtain ⟨x1, hen, he1⟩ := hD W10 (hDs 4)
    refine mu (hen.store 1) ?_
    rintro w11 ⟨hm11, hs11, hc11⟩
    have hones : aput x1 all[i] 1 = ones (all.take i ++ [all[i]]) := by
      rw [he1.put, ones, ones, aput_new fun y hy he => by
        obtain ⟨z, hz, rfl⟩ := List.mem_map.1 hy
        exact hnot (he ▸ hz)]
      rw [List.map_append]; rfl
    rw [hones] at hm11
    refine aw (by omega) (by omega) ?_
    have k11 : Kp w w11 := (k2.trans k25).newS (hW10.chg.trans hc11) fun k hk => by omega
    refine again (i + 1) ⟨rfl, rfl, rfl, rfl, rfl, trivial⟩ ⟨by omega, k11, ?_⟩ (by omega)
    rw [show all.take (i + 1) = all.take i ++ [all[i]] by simp]
    exact hm11
  have hall : all.take i = all := List.take_of_length_le (by omega)
  rw [hall] at hm
  clear hall
  refine ld agree (Own.at_ (xs := [sv]) (k2.own mr id) rfl) (by rfl) ?_
  obtain ⟨sa, sc, rfl, hsc, hsr⟩ := id hgv.sets
  refine sp (fun h0 => ?A) (fun h0 => ?B)
  case' A =>
    refine ne (by decide) ?_
    refine nd fun sb w3 e3 s3 k3 m3' => ?_
    have msb : Own w3 sb 24 [nilS] := m3'
    refine ld agree (Own.at_ (xs := [.int .i64 g.states]) ((k2.trans k3).own mr id) rfl) (by rfl) ?_
    have hs0 := hg.s0
    have hs1 := hg.s1
    refine loop agree (σ := Nat × Value) (fun t => [(0, pt r 0), (3, .map (some m3)), (6, .slice (some ⟨sb, 0, none⟩) 1 1), (46, .int .i64 g.states), (47, .int .i64 t.1)])
      (fun t W => t.1 ≤ g.states.toNat ∧ Kp w2 W ∧ Own W sb 24 [t.2] ∧ W.ownsRow w3.heap.size 3 1 t.2 t.1 (((List.range t.1).map fun (i : Nat) => (i : Int)).flatMap fun x => [.int .i64 x])) (fun t => g.states.toNat - t.1) (0, nilS)
      ⟨rfl, rfl, rfl, rfl, rfl, trivial⟩ ⟨by simp only; omega, k3, msb, World.ownsRow_nil _ _ _ _⟩ ?_
    rintro ⟨j, v⟩ env2 w4 ⟨hj, k4, hsb, hrow⟩
    simp only at hj hsb hrow
    refine sp (fun hlt2 => ?_) (fun hge2 => ?C)
    case' C =>
      have hjn : j = g.states.toNat := by omega
      subst hjn
      have hrr := ownsRow_row (f := fun x : Int => [Value.int .i64 x]) (fun _ => rfl) hrow (by decide)
      have hsets : IntRows 0 w4.heap.size w4 (.slice (some ⟨sb, 0, none⟩) (setsOf g).length 1) (setsOf g) := by
        have hset1 : setsOf g = [upTo g.states] := by unfold setsOf; rw [if_pos (by omega)]
        rw [hset1]
        refine row1R hsb (fun q y hy => ?_) rfl (Nat.le_refl _) (Nat.zero_le _) hsb.lt
        cases q with
        | zero =>
          simp at hy
          subst hy
          exact ⟨v, rfl, v, rfl, hrr.mono (fun _ _ h => h) (Nat.zero_le _) (Nat.le_refl _), by unfold upTo; simp; omega⟩
        | succ q => simp at hy
      have kws : Kp w2 w4 := k4
      have hSL : (setsOf g).length = 1 := by unfold setsOf; rw [if_pos (by omega)]; rfl
      obtain ⟨A0, C0, hA0, hC0, hset⟩ := hsets
      have hA1 := (Value.slice.inj hA0).1
      subst hA1

      have hm4 : OnesE w4 m3 (ones all) := hm.chg kws id
      have hk4 : Kp w w4 := k2.trans kws
      refine loop agree (σ := Int × Nat × List Place) (fun t => [(0, pt r 0), (3, .map (some t.2.1)), (6, .slice (some ⟨sb, 0, none⟩) 1 1), (8, .int .i64 t.1)])
        (fun t W => Kp w4 W ∧ OnesE W t.2.1 (ones t.2.2) ∧ AccI g x all t.2.2 ∧ (t.1 = t.2.2.length → Fixed g x t.2.2 (setsOf g))) (fun t => t.2.2.length + (if t.1 = t.2.2.length then 0 else 1)) (-1, m3, all)
        ⟨rfl, rfl, rfl, rfl, trivial⟩ ⟨Chg.refl _ _, hm4, ⟨ha.nodup, fun _ h => h, fun X h1 _ => h1⟩, fun h => by simp only at h; omega⟩ ?_
      rintro ⟨was, mi, lin⟩ env5 W5 ⟨kW, hmi, hA, hfx⟩
      simp only at hmi hA hfx
      have hlin := nodup_sub hA.nodup hA.sub
      have hol : (ones lin).length = lin.length := by simp [ones]
      refine lm (t := 131) agree rfl rfl rfl rfl hmi ?_
      rw [hol]
      refine sp (fun hne => ?_) (fun heq => ?_)
      · refine lm (t := 131) agree rfl rfl rfl rfl hmi ?_
        rw [hol]
        refine loop agree (σ := Nat × Nat × List Place) (fun t => [(0, pt r 0), (3, .map (some t.2.1)), (6, .slice (some ⟨sb, 0, none⟩) 1 1), (8, .int .i64 lin.length), (65, .slice (some ⟨sb, 0, none⟩) 1 1), (66, .int .i64 (1 : Nat)), (67, .int .i64 t.1)])
          (fun t W => t.1 ≤ (setsOf g).length ∧ Kp w4 W ∧ OnesE W t.2.1 (ones t.2.2) ∧ AccI g x all t.2.2 ∧ CutI g x lin t.2.2 ((setsOf g).take t.1)) (fun t => (setsOf g).length - t.1) (0, mi, lin)
          ⟨rfl, rfl, rfl, rfl, rfl, rfl, rfl, trivial⟩ ⟨Nat.zero_le _, kW, hmi, hA, ⟨fun _ h => h, fun _ => ⟨fun _ h => h, fun _ _ _ h => by simp at h⟩⟩⟩ ?_
        rintro ⟨j, mj, linj⟩ env6 W6 ⟨hj6, k6, hm6, hA6, hC6⟩
        simp only at hj6 hm6 hA6 hC6
        refine sp (fun hlt6 => ?_) (fun hge6 => ?_)
        · have hj' : j < (setsOf g).length := by rw [hSL]; omega
          obtain ⟨b6, o6, hAe, hlo6, hhi6, cs6, hcs6, hrd6, u, rfl, hu, hul⟩ := hset j (setsOf g)[j] (by simp)
          obtain rfl : sb = b6 := congrArg Addr.block (Option.some.inj hAe)
          obtain rfl : 0 = o6 := congrArg Addr.off (Option.some.inj hAe)
          refine ne ⟨by omega, hlt6⟩ ?_
          refine ld agree (v := u) (k6.range hrd6 id) (by rfl) ?_
          refine nd fun mt w7 e7 s7 k7 m7 => ?_
          have hmt : OnesE w7 mt (ones []) := MapE.made m7 pval_inj
          refine ld agree (Own.at_ (xs := [.slice ava all.length avc]) ((hk4.trans (k6.trans k7)).own mr id) rfl) (by rfl) ?_
          refine loop agree (σ := Nat × List Place) (fun t => [(0, pt r 0), (3, .map (some mj)), (6, .slice (some ⟨sb, 0, none⟩) 1 1), (8, .int .i64 lin.length), (10, u), (11, .map (some mt)), (65, .slice (some ⟨sb, 0, none⟩) 1 1), (66, .int .i64 (1 : Nat)), (67, .int .i64 j), (75, .slice ava all.length avc), (76, .int .i64 all.length), (77, .int .i64 t.1)])
            (fun t W => t.1 ≤ all.length ∧ Kp W6 W ∧ OnesE W mt (ones t.2) ∧ t.2 = (all.take t.1).filter (fun p => decide (p.1 ∈ (setsOf g)[j] ∧ p ∈ linj))) (fun t => all.length - t.1) (0, [])
            ⟨rfl, rfl, rfl, rfl, rfl, rfl, rfl, rfl, rfl, rfl, rfl, rfl, trivial⟩ ⟨Nat.zero_le _, k7, hmt, by simp⟩ ?_
          rintro ⟨i, lto⟩ env7 w8 ⟨hi8, k8, hmt8, hlto⟩
          simp only at hi8 hmt8 hlto
          refine sp (fun hlt8 => ?_) (fun hge8 => ?_)
          · have hi' : i < all.length := by omega
            obtain ⟨b, o, rfl, hlo, hhi9, cs, hcs, hrd, rfl⟩ := hread i all[i] (by simp)
            have hp := hI all[i] (by simp)
            refine ne ⟨by omega, hlt8⟩ ?_
            have k08 : Kp w w8 := hk4.trans (k6.trans k8)
            refine ld agree (v := pval all[i]) (k08.range hrd id) rfl ?_
            refine nd fun p13 w9 e9 s9 k9 m9 => ?_
            refine st agree (cs := [.int .i64 0, .int .i64 0]) m9 rfl (Nat.le_refl 2) rfl ?_
            intro w10 s10 k10 m10
            have m13 : Own w10 p13 133 (pcells all[i]) := m10
            have k810 : Kp w8 w10 := k9.new e9 k10
            refine ld agree (Own.at_ (xs := [.int .i64 all[i].1]) m13 rfl) (by rfl) ?_
            have hbin := binary_c (hu.chg (k6.trans (k8.trans k810)) (fun _ _ _ h => h) (fun _ _ h => h)) hul (hsorted _ (List.getElem_mem hj')) all[i].1
            obtain ⟨d, hd⟩ : ∃ d, d = decide (all[i].1 ∈ (setsOf g)[j]) := ⟨_, rfl⟩
            rw [← hd] at hbin
            refine cl callBinary hbin ?_
            rintro _ w11 ⟨⟨kk, rfl⟩, k11⟩
            have k8b : Kp w8 w11 := k810.trans k11
            have hmt11 : OnesE w11 mt (ones lto) := hmt8.chg k8b id
            have m13' : Own w11 p13 133 (pcells all[i]) := k11.own m13 id
            have hsnoc : all.take (i + 1) = all.take i ++ [all[i]] := by simp
            have hfl : (all.take (i + 1)).filter (fun p => decide (p.1 ∈ (setsOf g)[j] ∧ p ∈ linj)) = lto ++ if all[i].1 ∈ (setsOf g)[j] ∧ all[i] ∈ linj then [all[i]] else [] := by
              rw [hsnoc, List.filter_append, ← hlto]
              congr 1
              by_cases hc : all[i].1 ∈ (setsOf g)[j] ∧ all[i] ∈ linj
              · rw [if_pos hc, List.filter_cons_of_pos (by simpa using hc)]; rfl
              · rw [if_neg hc, List.filter_cons_of_neg (by simpa using hc)]; rfl
            cases d with
            | false =>
              have hd' := of_decide_eq_false hd.symm
              refine aw (by omega) (by omega) ?_
              refine again (i + 1, lto) ⟨rfl, rfl, rfl, rfl, rfl, rfl, rfl, rfl, rfl, rfl, rfl, rfl, trivial⟩ ⟨by simp only; omega, k8.trans k8b, hmt11, ?_⟩ (by simp only; omega)
              simp only [hfl]
              rw [if_neg fun h => hd' h.1, List.append_nil]
            | true =>
              have hd' := of_decide_eq_true hd.symm
              refine ld agree (v := pval all[i]) (Own.at_ (xs := pcells all[i]) (o := 0) m13' rfl) (by rfl) ?_
              refine lk (get1 (hm6.chg (k8.trans k8b) id) hp.1 hp.2) ?_
              by_cases c2 : all[i] ∈ linj
              · rw [if_pos c2]
                refine spT (by decide) ?_
                have hnot : all[i] ∉ lto := fun hmem => by
                  rw [hlto] at hmem
                  have hmem := (List.mem_filter.1 hmem).1
                  have hd := ha.nodup
                  rw [← List.take_append_drop i all, List.nodup_append] at hd
                  exact hd.2.2 _ hmem _ (by rw [List.drop_eq_getElem_cons hi']; exact List.mem_cons_self) rfl
                have n13 : p13 ≠ mt := hmt11.ne m13'
                have hpre := preMapR Proofs.Try.prog 133 pval (fun n : Int => .int .i64 n) 0 mt all[i]
                refine drawnR agree mixed 6 (by kernel_rfl) _ hpre ?_
                conv => whnf
                refine ldr (v := pval all[i]) hpre agree rfl rfl (fun W h _ => h.chg.range (Own.at_ (xs := pcells all[i]) (o := 0) m13' rfl) n13) (by rfl) fun _ => ?_
                conv => whnf
                refine lkr (v := .int .i64 0) hpre rfl (fun W h _ => by
                  obtain ⟨x1, hm1, he1⟩ := h.map _ hmt11
                  have := MapE.get agree placeKeyed (t := 131) rfl rfl rfl rfl (z := 0) hm1 all[i] (placeKey hp.1 hp.2)
                  rw [he1.get, ones, aget_ones, if_neg hnot] at this
                  exact this) fun _ => ?_
                conv => whnf
                refine aw (by omega) (by omega) ?_
                conv => whnf
                refine enr agree placeKeyed (t := 131) rfl rfl rfl rfl rfl rfl (z := 0) rfl hmt11 (placeKey hp.1 hp.2) fun st D hD => ?_
                conv => whnf
                intro W10 hW10 hDs
                obtain ⟨x1, hen, he1⟩ := hD W10 (hDs 4)
                refine mu (hen.store 1) ?_
                rintro w11' ⟨hm11, hs11, hc11⟩
                have hones : aput x1 all[i] 1 = ones (lto ++ [all[i]]) := by
                  rw [he1.put, ones, ones, aput_new fun y hy he => by
                    obtain ⟨z, hz, rfl⟩ := List.mem_map.1 hy
                    exact hnot (he ▸ hz)]
                  rw [List.map_append]; rfl
                rw [hones] at hm11
                refine aw (by omega) (by omega) ?_
                have k11' : Kp W6 w11' := (k8.trans k8b).newS (hW10.chg.trans hc11) fun k hk => by omega
                refine again (i + 1, lto ++ [all[i]]) ⟨rfl, rfl, rfl, rfl, rfl, rfl, rfl, rfl, rfl, rfl, rfl, rfl, trivial⟩ ⟨by simp only; omega, k11', hm11, ?_⟩ (by simp only; omega)
                simp only [hfl]
                rw [if_pos ⟨hd', c2⟩]
              · rw [if_neg c2]
                refine spF (by decide) ?_
                refine aw (by omega) (by omega) ?_
                refine again (i + 1, lto) ⟨rfl, rfl, rfl, rfl, rfl, rfl, rfl, rfl, rfl, rfl, rfl, rfl, trivial⟩ ⟨by simp only; omega, k8.trans k8b, hmt11, ?_⟩ (by simp only; omega)
                simp only [hfl]
                rw [if_neg fun h => c2 h.2, List.append_nil]
          · have k08 : Kp w w8 := hk4.trans (k6.trans k8)
            have htk : all.take i = all := List.take_of_length_le (by omega)
            rw [htk] at hlto
            have hbef := before_c (hr.chg k08 (Nat.le_refl _)) ha hg hx hP hE (hm6.chg k8 id) hmt8
            refine cl callBefore hbef ?_
            rintro _ w9 ⟨k9, mo, lout, rfl, hmo, hsz, hnd, hl⟩
            refine aw (by omega) (by omega) ?_
            obtain ⟨hA', hC'⟩ := hC6.step hA hA6 (List.getElem_mem hj') (fun p => by rw [hlto, List.mem_filter, decide_eq_true_eq]) hnd hl
            refine again (j + 1, mo, lout) ⟨rfl, rfl, rfl, rfl, rfl, rfl, rfl, trivial⟩ ⟨by simp only; omega, k6.trans (k8.trans k9), hmo, hA', ?_⟩ (by simp only; omega)
            rw [show (setsOf g).take (j + 1) = (setsOf g).take j ++ [(setsOf g)[j]] by simp]
            exact hC'
        · rw [List.take_of_length_le (by omega)] at hC6
          have hll := nodup_sub hA6.nodup hC6.sub
          refine again ((lin.length : Int), mj, linj) ⟨rfl, rfl, rfl, rfl, trivial⟩ ⟨k6, hm6, hA6, fun he => ?_⟩ ?_
          · simp only at he
            obtain ⟨f1, f2⟩ := hC6.fixed (by omega)
            exact fun p hp F hF => (f2 p (hC6.sub p hp) F hF).mono (fun q hq => f1 q hq) fun _ _ h => h
          · simp only
            rw [if_neg hne]
            split <;> omega
      · have heq' : was = (lin.length : Int) := Classical.byContradiction fun h => heq h
        refine lm (t := 131) agree rfl rfl rfl rfl hmi ?_
        rw [hol]
        refine spB ?_
        refine ⟨congrArg Value.bool ?_, hk4.trans kW⟩
        have := hA.accP ha (hfx heq')
        unfold acceptsS
        by_cases hc : AccP g x
        · rw [@decide_eq_true _ (Classical.propDecidable _) hc, decide_eq_true (by have := this.2 hc; omega)]
        · rw [@decide_eq_false _ (Classical.propDecidable _) hc, decide_eq_false (by intro h; exact hc (this.1 (by omega)))]
    obtain ⟨va, vc, rfl⟩ := ownsRow_form hrow
    refine ne (by decide) ?_
    refine ld agree (Own.at_ (xs := [.slice va j vc]) hsb rfl) (by rfl) ?_
    refine ne (by decide) ?_
    refine nd fun q w5 e5 s5 k5 m5 => ?_
    have hrow5 := ownsRow_chg hrow k5 (fun _ _ => id)
    refine ap (m := 1) (news := [.int .i64 j]) agree rfl rfl rfl rfl rfl rfl rfl (by decide) hrow5 rfl (Own.at_ (xs := [.int .i64 j]) (o := 0) m5 rfl) rfl (by simp only [maxLen]; omega) (by show (_ + 1) * 8 ≤ _; omega) (by have := hsb.lt; omega) fun v' w6 hown hc6 => ?_
    refine ne (by decide) ?_
    have hsb5 := k5.own hsb id
    have hsb6 := hc6.own hsb5 fun he => ownsRow_ne hrow5 hsb5 (fun cs fr hh => by injection hh with _ h2; exact absurd h2 (by decide)) he.symm
    obtain ⟨a', cap', rfl⟩ := ownsRow_form hown
    refine st agree hsb6 rfl (Nat.le_refl 1) rfl ?_
    intro w7 s7 k7 m7
    have hb7 : ∀ b, (Value.slice a' (j + 1) cap').ownBlock = some b → ¬ b = sb := fun b hb he => by
      subst he
      exact ownsRow_ne hown hsb6 (fun cs fr hh => by injection hh with _ h2; exact absurd h2 (by decide)) hb
    refine aw (by omega) (by omega) ?_
    refine again (j + 1, .slice a' (j + 1) cap') ⟨rfl, rfl, rfl, rfl, rfl, trivial⟩ ⟨by simp only; omega, ?_, m7, ?_⟩ (by simp only; omega)
    · refine (k4.trans k5).newS ((hc6.mono (S' := fun k => some k = (Value.slice va j vc).ownBlock ∨ k = sb) fun _ => .inl).trans (k7.mono fun _ => .inr)) fun k hk => ?_
      rcases hk with hk | hk
      · have := (hrow.lt k hk.symm).1; have := k3.size; omega
      · omega
    · have h1 := ownsRow_chg hown k7 hb7
      rw [List.range_succ, List.map_append, List.flatMap_append]
      exact h1
  case' B =>
    have kws : Kp w2 w2 := Chg.refl _ _
    have hSe : setsOf g = g.sets := by unfold setsOf; rw [if_neg (by omega)]
    have hSL : (setsOf g).length = g.sets.length := by rw [hSe]
    have hset : ∀ i xs, (setsOf g)[i]? = some xs → ∃ b o, sa = some ⟨b, o, none⟩ ∧ 0 ≤ b ∧ b < w.heap.size ∧ ∃ cs, cs.length = 1 ∧ w2.rangeAt b (o + i * 1) cs ∧ ∃ u, cs = [u] ∧ Ints 0 w.heap.size w2 u xs ∧ xs.length < 4611686018427387904 := by
      intro i xs hi
      rw [hSe] at hi
      obtain ⟨b, o, h1, h2, h3, cs, h4, h5, u, h6, h7, h8⟩ := hsr i xs hi
      exact ⟨b, o, h1, h2, by omega, cs, h4, k2.range h5 id, u, h6, (h7.chg k2 (fun _ _ _ h => h) (fun _ _ h => h)).mono (fun _ _ h => h) (Nat.le_refl _) hhi, h8⟩

    have hm4 : OnesE w2 m3 (ones all) := hm.chg kws id
    have hk4 : Kp w w2 := k2.trans kws
    refine loop agree (σ := Int × Nat × List Place) (fun t => [(0, pt r 0), (3, .map (some t.2.1)), (6, .slice sa g.sets.length sc), (8, .int .i64 t.1)])
      (fun t W => Kp w2 W ∧ OnesE W t.2.1 (ones t.2.2) ∧ AccI g x all t.2.2 ∧ (t.1 = t.2.2.length → Fixed g x t.2.2 (setsOf g))) (fun t => t.2.2.length + (if t.1 = t.2.2.length then 0 else 1)) (-1, m3, all)
      ⟨rfl, rfl, rfl, rfl, trivial⟩ ⟨Chg.refl _ _, hm4, ⟨ha.nodup, fun _ h => h, fun X h1 _ => h1⟩, fun h => by simp only at h; omega⟩ ?_
    rintro ⟨was, mi, lin⟩ env5 W5 ⟨kW, hmi, hA, hfx⟩
    simp only at hmi hA hfx
    have hlin := nodup_sub hA.nodup hA.sub
    have hol : (ones lin).length = lin.length := by simp [ones]
    refine lm (t := 131) agree rfl rfl rfl rfl hmi ?_
    rw [hol]
    refine sp (fun hne => ?_) (fun heq => ?_)
    · refine lm (t := 131) agree rfl rfl rfl rfl hmi ?_
      rw [hol]
      refine loop agree (σ := Nat × Nat × List Place) (fun t => [(0, pt r 0), (3, .map (some t.2.1)), (6, .slice sa g.sets.length sc), (8, .int .i64 lin.length), (65, .slice sa g.sets.length sc), (66, .int .i64 (g.sets.length : Nat)), (67, .int .i64 t.1)])
        (fun t W => t.1 ≤ (setsOf g).length ∧ Kp w2 W ∧ OnesE W t.2.1 (ones t.2.2) ∧ AccI g x all t.2.2 ∧ CutI g x lin t.2.2 ((setsOf g).take t.1)) (fun t => (setsOf g).length - t.1) (0, mi, lin)
        ⟨rfl, rfl, rfl, rfl, rfl, rfl, rfl, trivial⟩ ⟨Nat.zero_le _, kW, hmi, hA, ⟨fun _ h => h, fun _ => ⟨fun _ h => h, fun _ _ _ h => by simp at h⟩⟩⟩ ?_
      rintro ⟨j, mj, linj⟩ env6 W6 ⟨hj6, k6, hm6, hA6, hC6⟩
      simp only at hj6 hm6 hA6 hC6
      refine sp (fun hlt6 => ?_) (fun hge6 => ?_)
      · have hj' : j < (setsOf g).length := by rw [hSL]; omega
        obtain ⟨b6, o6, hAe, hlo6, hhi6, cs6, hcs6, hrd6, u, rfl, hu, hul⟩ := hset j (setsOf g)[j] (by simp)
        subst hAe
        refine ne ⟨by omega, hlt6⟩ ?_
        refine ld agree (v := u) (k6.range hrd6 id) (by rfl) ?_
        refine nd fun mt w7 e7 s7 k7 m7 => ?_
        have hmt : OnesE w7 mt (ones []) := MapE.made m7 pval_inj
        refine ld agree (Own.at_ (xs := [.slice ava all.length avc]) ((hk4.trans (k6.trans k7)).own mr id) rfl) (by rfl) ?_
        refine loop agree (σ := Nat × List Place) (fun t => [(0, pt r 0), (3, .map (some mj)), (6, .slice (some ⟨b6, o6, none⟩) g.sets.length sc), (8, .int .i64 lin.length), (10, u), (11, .map (some mt)), (65, .slice (some ⟨b6, o6, none⟩) g.sets.length sc), (66, .int .i64 (g.sets.length : Nat)), (67, .int .i64 j), (75, .slice ava all.length avc), (76, .int .i64 all.length), (77, .int .i64 t.1)])
          (fun t W => t.1 ≤ all.length ∧ Kp W6 W ∧ OnesE W mt (ones t.2) ∧ t.2 = (all.take t.1).filter (fun p => decide (p.1 ∈ (setsOf g)[j] ∧ p ∈ linj))) (fun t => all.length - t.1) (0, [])
          ⟨rfl, rfl, rfl, rfl, rfl, rfl, rfl, rfl, rfl, rfl, rfl, rfl, trivial⟩ ⟨Nat.zero_le _, k7, hmt, by simp⟩ ?_
        rintro ⟨i, lto⟩ env7 w8 ⟨hi8, k8, hmt8, hlto⟩
        simp only at hi8 hmt8 hlto
        refine sp (fun hlt8 => ?_) (fun hge8 => ?_)
        · have hi' : i < all.length := by omega
          obtain ⟨b, o, rfl, hlo, hhi9, cs, hcs, hrd, rfl⟩ := hread i all[i] (by simp)
          have hp := hI all[i] (by simp)
          refine ne ⟨by omega, hlt8⟩ ?_
          have k08 : Kp w w8 := hk4.trans (k6.trans k8)
          refine ld agree (v := pval all[i]) (k08.range hrd id) rfl ?_
          refine nd fun p13 w9 e9 s9 k9 m9 => ?_
          refine st agree (cs := [.int .i64 0, .int .i64 0]) m9 rfl (Nat.le_refl 2) rfl ?_
          intro w10 s10 k10 m10
          have m13 : Own w10 p13 133 (pcells all[i]) := m10
          have k810 : Kp w8 w10 := k9.new e9 k10
          refine ld agree (Own.at_ (xs := [.int .i64 all[i].1]) m13 rfl) (by rfl) ?_
          have hbin := binary_c (hu.chg (k6.trans (k8.trans k810)) (fun _ _ _ h => h) (fun _ _ h => h)) hul (hsorted _ (List.getElem_mem hj')) all[i].1
          obtain ⟨d, hd⟩ : ∃ d, d = decide (all[i].1 ∈ (setsOf g)[j]) := ⟨_, rfl⟩
          rw [← hd] at hbin
          refine cl callBinary hbin ?_
          rintro _ w11 ⟨⟨kk, rfl⟩, k11⟩
          have k8b : Kp w8 w11 := k810.trans k11
          have hmt11 : OnesE w11 mt (ones lto) := hmt8.chg k8b id
          have m13' : Own w11 p13 133 (pcells all[i]) := k11.own m13 id
          have hsnoc : all.take (i + 1) = all.take i ++ [all[i]] := by simp
          have hfl : (all.take (i + 1)).filter (fun p => decide (p.1 ∈ (setsOf g)[j] ∧ p ∈ linj)) = lto ++ if all[i].1 ∈ (setsOf g)[j] ∧ all[i] ∈ linj then [all[i]] else [] := by
            rw [hsnoc, List.filter_append, ← hlto]
            congr 1
            by_cases hc : all[i].1 ∈ (setsOf g)[j] ∧ all[i] ∈ linj
            · rw [if_pos hc, List.filter_cons_of_pos (by simpa using hc)]; rfl
            · rw [if_neg hc, List.filter_cons_of_neg (by simpa using hc)]; rfl
          cases d with
          | false =>
            have hd' := of_decide_eq_false hd.symm
            refine aw (by omega) (by omega) ?_
            refine again (i + 1, lto) ⟨rfl, rfl, rfl, rfl, rfl, rfl, rfl, rfl, rfl, rfl, rfl, rfl, trivial⟩ ⟨by simp only; omega, k8.trans k8b, hmt11, ?_⟩ (by simp only; omega)
            simp only [hfl]
            rw [if_neg fun h => hd' h.1, List.append_nil]
          | true =>
            have hd' := of_decide_eq_true hd.symm
            refine ld agree (v := pval all[i]) (Own.at_ (xs := pcells all[i]) (o := 0) m13' rfl) (by rfl) ?_
            refine lk (get1 (hm6.chg (k8.trans k8b) id) hp.1 hp.2) ?_
            by_cases c2 : all[i] ∈ linj
            · rw [if_pos c2]
              refine spT (by decide) ?_
              have hnot : all[i] ∉ lto := fun hmem => by
                rw [hlto] at hmem
                have hmem := (List.mem_filter.1 hmem).1
                have hd := ha.nodup
                rw [← List.take_append_drop i all, List.nodup_append] at hd
                exact hd.2.2 _ hmem _ (by rw [List.drop_eq_getElem_cons hi']; exact List.mem_cons_self) rfl
              have n13 : p13 ≠ mt := hmt11.ne m13'
              have hpre := preMapR Proofs.Try.prog 133 pval (fun n : Int => .int .i64 n) 0 mt all[i]
              refine drawnR agree mixed 6 (by kernel_rfl) _ hpre ?_
              conv => whnf
              refine ldr (v := pval all[i]) hpre agree rfl rfl (fun W h _ => h.chg.range (Own.at_ (xs := pcells all[i]) (o := 0) m13' rfl) n13) (by rfl) fun _ => ?_
              conv => whnf
              refine lkr (v := .int .i64 0) hpre rfl (fun W h _ => by
                obtain ⟨x1, hm1, he1⟩ := h.map _ hmt11
                have := MapE.get agree placeKeyed (t := 131) rfl rfl rfl rfl (z := 0) hm1 all[i] (placeKey hp.1 hp.2)
                rw [he1.get, ones, aget_ones, if_neg hnot] at this
                exact this) fun _ => ?_
              conv => whnf
              refine aw (by omega) (by omega) ?_
              conv => whnf
              refine enr agree placeKeyed (t := 131) rfl rfl rfl rfl rfl rfl (z := 0) rfl hmt11 (placeKey hp.1 hp.2) fun st D hD => ?_
              conv => whnf
              intro W10 hW10 hDs
              obtain ⟨x1, hen, he1⟩ := hD W10 (hDs 4)
              refine mu (hen.store 1) ?_
              rintro w11' ⟨hm11, hs11, hc11⟩
              have hones : aput x1 all[i] 1 = ones (lto ++ [all[i]]) := by
                rw [he1.put, ones, ones, aput_new fun y hy he => by
                  obtain ⟨z, hz, rfl⟩ := List.mem_map.1 hy
                  exact hnot (he ▸ hz)]
                rw [List.map_append]; rfl
              rw [hones] at hm11
              refine aw (by omega) (by omega) ?_
              have k11' : Kp W6 w11' := (k8.trans k8b).newS (hW10.chg.trans hc11) fun k hk => by omega
              refine again (i + 1, lto ++ [all[i]]) ⟨rfl, rfl, rfl, rfl, rfl, rfl, rfl, rfl, rfl, rfl, rfl, rfl, trivial⟩ ⟨by simp only; omega, k11', hm11, ?_⟩ (by simp only; omega)
              simp only [hfl]
              rw [if_pos ⟨hd', c2⟩]
            · rw [if_neg c2]
              refine spF (by decide) ?_
              refine aw (by omega) (by omega) ?_
              refine again (i + 1, lto) ⟨rfl, rfl, rfl, rfl, rfl, rfl, rfl, rfl, rfl, rfl, rfl, rfl, trivial⟩ ⟨by simp only; omega, k8.trans k8b, hmt11, ?_⟩ (by simp only; omega)
              simp only [hfl]
              rw [if_neg fun h => c2 h.2, List.append_nil]
        · have k08 : Kp w w8 := hk4.trans (k6.trans k8)
          have htk : all.take i = all := List.take_of_length_le (by omega)
          rw [htk] at hlto
          have hbef := before_c (hr.chg k08 (Nat.le_refl _)) ha hg hx hP hE (hm6.chg k8 id) hmt8
          refine cl callBefore hbef ?_
          rintro _ w9 ⟨k9, mo, lout, rfl, hmo, hsz, hnd, hl⟩
          refine aw (by omega) (by omega) ?_
          obtain ⟨hA', hC'⟩ := hC6.step hA hA6 (List.getElem_mem hj') (fun p => by rw [hlto, List.mem_filter, decide_eq_true_eq]) hnd hl
          refine again (j + 1, mo, lout) ⟨rfl, rfl, rfl, rfl, rfl, rfl, rfl, trivial⟩ ⟨by simp only; omega, k6.trans (k8.trans k9), hmo, hA', ?_⟩ (by simp only; omega)
          rw [show (setsOf g).take (j + 1) = (setsOf g).take j ++ [(setsOf g)[j]] by simp]
          exact hC'
      · rw [List.take_of_length_le (by omega)] at hC6
        have hll := nodup_sub hA6.nodup hC6.sub
        refine again ((lin.length : Int), mj, linj) ⟨rfl, rfl, rfl, rfl, trivial⟩ ⟨k6, hm6, hA6, fun he => ?_⟩ ?_
        · simp only at he
          obtain ⟨f1, f2⟩ := hC6.fixed (by omega)
          exact fun p hp F hF => (f2 p (hC6.sub p hp) F hF).mono (fun q hq => f1 q hq) fun _ _ h => h
        · simp only
          rw [if_neg hne]
          split <;> omega
    · have heq' : was = (lin.length : Int) := Classical.byContradiction fun h => heq h
      refine lm (t := 131) agree rfl rfl rfl rfl hmi ?_
      rw [hol]
      refine spB ?_
      refine ⟨congrArg Value.bool ?_, hk4.trans kW⟩
      have := hA.accP ha (hfx heq')
      unfold acceptsS
      by_cases hc : AccP g x
      · rw [@decide_eq_true _ (Classical.propDecidable _) hc, decide_eq_true (by have := this.2 hc; omega)]
      · rw [@decide_eq_false _ (Classical.propDecidable _) hc, decide_eq_false (by intro h; exact hc (this.1 (by omega)))]
theorem callAccepts : callable Proofs.Try.prog 68 = true := by kernel_rfl
end Go.Au
