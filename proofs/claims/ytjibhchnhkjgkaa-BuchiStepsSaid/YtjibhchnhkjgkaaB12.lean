/- Own text of this workplace: a part of the proofs of this place's statements. -/
import Derived.Test.YtjibhchnhkjgkaaB11
set_option linter.unusedVariables false
set_option linter.unusedSimpArgs false
set_option linter.unusedSectionVars false
namespace Go.Au
open Go Go.RowKit Go.MapKept
open Go.Maps (Keyed)

def ones {α : Type} (l : List α) : List (α × Int) := l.map fun p => (p, 1)
/-- among some places, one comes to one of these by one step or more -/
inductive Comes (g : General) (x : Word) (lin lto : List Place) : Place → Prop
  | one {p q : Place} : p ∈ lin → q ∈ succ g x p → q ∈ lin → q ∈ lto → Comes g x lin lto p
  | more {p q : Place} : p ∈ lin → q ∈ succ g x p → q ∈ lin → Comes g x lin lto q → Comes g x lin lto p

structure BefI (g : General) (x : Word) (all lin lto lout : List Place) : Prop where
  nodup : lout.Nodup
  sub : ∀ p ∈ lout, p ∈ all
  comes : ∀ p ∈ lout, Comes g x lin lto p
def hit (lin lto lout : List Place) (q : Place) : Prop := q ∈ lin ∧ (q ∈ lto ∨ q ∈ lout)
/-- nothing is to be added for this one -/
def still (g : General) (x : Word) (lin lto lout : List Place) (p : Place) : Prop := p ∈ lin → p ∉ lout → ∀ q ∈ succ g x p, ¬ hit lin lto lout q

theorem get1 {w : World} {m : Nat} {l : List Place} (h : OnesE w m (ones l)) {p : Place} (h1 : I64 p.1) (h2 : I64 p.2) :
    (Instr.lookup 131 (.map (some m)) (pval p) false).run Proofs.Try.prog w = .ok (.int .i64 (if p ∈ l then 1 else 0)) w := by
  have hg := MapE.get agree placeKeyed (t := 131) rfl rfl rfl rfl (z := 0) h p (placeKey h1 h2)
  rw [ones, aget_ones] at hg
  exact hg

set_option maxHeartbeats 4000000 in
theorem before_c {w : World} {lo hi r mi mt : Nat} {g : General} {x : Word} {all lin lto : List Place} (hr : RunV lo hi w r g x all) (ha : AllOf g x all) (hg : Good g) (hx : x.loop.length ≠ 0) (hP : x.places < 1048576) (hE : g.edges.length < 1099511627776)
    (hi_ : OnesE w mi (ones lin)) (ht : OnesE w mt (ones lto)) :
    Calls Proofs.Try.prog 104 [pt r 0, .map (some mi), .map (some mt)].toArray w (Ret fun v w' => Kp w w' ∧ ∃ mo lout, v = .map (some mo) ∧ OnesE w' mo (ones lout) ∧ w.heap.size ≤ mo ∧ lout.Nodup ∧ ∀ p, p ∈ lout ↔ p ∈ all ∧ Comes g x lin lto p) := by
  obtain ⟨pv, iv, ev, sv, stv, lov, mn, av, nl, mr, hr1, hr2, hn1, hn2, hgv, hav, hnext, hrows⟩ := hr.h
  have hbox := ha.box hg hx
  have hlen : all.length < 1099511627776 := by
    have h1 := box_len ha.nodup hg hbox
    have h2 : g.states.toNat * x.places ≤ 65536 * 1048576 := Nat.mul_le_mul (by have := hg.s1; omega) (by omega)
    omega
  have hI : ∀ p ∈ all, I64 p.1 ∧ I64 p.2 := fun p hp => by
    obtain ⟨a, b, c, d⟩ := hbox p hp
    have := hg.s1
    exact ⟨⟨by omega, by omega⟩, ⟨by omega, by omega⟩⟩
  obtain ⟨ava, avc, rfl, havc, hread⟩ := hav
  refine call agree Proofs.Try.func104 rfl Proofs.Try.ntmps104 (by kernel_rfl) ?_
  refine nd fun mo w1 e1 s1 k1 m1 => ?_
  have hmo : OnesE w1 mo (ones []) := MapE.made m1 pval_inj
  refine loop agree (σ := Bool × List Place) (fun t => [(0, pt r 0), (1, .map (some mi)), (2, .map (some mt)), (7, .map (some mo)), (8, .bool t.1)])
    (fun t W => Kp w W ∧ OnesE W mo (ones t.2) ∧ BefI g x all lin lto t.2 ∧ (t.1 = false → ∀ p ∈ all, still g x lin lto t.2 p)) (fun t => (all.length - t.2.length) * 2 + (if t.1 then 1 else 0)) (true, [])
    ⟨rfl, rfl, rfl, rfl, rfl, trivial⟩ ⟨k1, hmo, ⟨by simp, by simp, by simp⟩, by simp⟩ ?_
  rintro ⟨more, lout⟩ env W ⟨k2, hm2, hB, hst⟩
  cases more with
  | false =>
    have hst := hst rfl
    refine ⟨k2, mo, lout, rfl, hm2, by omega, hB.nodup, fun p => ⟨fun hp => ⟨hB.sub p hp, hB.comes p hp⟩, fun ⟨hpa, hc⟩ => ?_⟩⟩
    simp only at hst
    induction hc with
    | one h1 h2 h3 h4 => exact Classical.byContradiction fun hn => hst _ hpa h1 hn _ h2 ⟨h3, .inl h4⟩
    | more h1 h2 h3 h4 ih => exact Classical.byContradiction fun hn => hst _ hpa h1 hn _ h2 ⟨h3, .inr (ih ⟨ha.closed _ hpa _ h2, h4⟩ (ha.closed _ hpa _ h2))⟩
  | true =>
    refine ld agree (Own.at_ (xs := [.slice ava all.length avc]) (k2.own mr id) rfl) (by rfl) ?_
    refine loop agree (σ := Nat × Bool × List Place) (fun t => [(0, pt r 0), (1, .map (some mi)), (2, .map (some mt)), (7, .map (some mo)), (8, .bool t.2.1), (18, .slice ava all.length avc), (19, .int .i64 all.length), (20, .int .i64 t.1)])
      (fun t W => t.1 ≤ all.length ∧ Kp w W ∧ OnesE W mo (ones t.2.2) ∧ BefI g x all lin lto t.2.2 ∧ (t.2.1 = false → t.2.2 = lout ∧ ∀ p ∈ all.take t.1, still g x lin lto lout p) ∧ (t.2.1 = true → lout.length < t.2.2.length)) (fun t => all.length - t.1) (0, false, lout)
      ⟨rfl, rfl, rfl, rfl, rfl, rfl, rfl, rfl, trivial⟩ ⟨by omega, k2, hm2, hB, by simp, by simp⟩ ?_
    rintro ⟨i, more, lout2⟩ env2 W3 ⟨hi3, k3, hm3, hB3, hs3, ht3⟩
    simp only at hi3 hm3 hB3 hs3 ht3
    refine sp (fun hlt => ?_) (fun hge => ?_)
    · have hi' : i < all.length := by omega
      obtain ⟨b, o, rfl, hlo, hhi, cs, hcs, hrd, rfl⟩ := hread i all[i] (by simp)
      have hp := hI all[i] (by simp)
      refine ne ⟨by omega, hlt⟩ ?_
      refine ld agree (v := pval all[i]) (k3.range hrd id) rfl ?_
      refine nd fun p10 w4 e4 s4 k4 m4 => ?_
      refine st agree (cs := [.int .i64 0, .int .i64 0]) m4 rfl (Nat.le_refl 2) rfl ?_
      intro w5 s5 k5 m5
      have m10 : Own w5 p10 133 (pcells all[i]) := m5
      have k35 : Kp W3 w5 := k4.new e4 k5
      have hm5 : OnesE w5 mo (ones lout2) := hm3.chg k35 id
      refine ld agree (v := pval all[i]) (Own.at_ (xs := pcells all[i]) (o := 0) m10 rfl) (by rfl) ?_
      refine lk (get1 ((hi_.chg k3 id).chg k35 id) hp.1 hp.2) ?_
      have hsnoc : all.take (i + 1) = all.take i ++ [all[i]] := by simp
      have skip : still g x lin lto lout all[i] ∨ more = true → ∀ W, Kp W3 W → OnesE W mo (ones lout2) → ∀ e',
          Has e' [(0, pt r 0), (1, .map (some mi)), (2, .map (some mt)), (7, .map (some mo)), (8, .bool more), (18, .slice (some ⟨b, o, none⟩) all.length avc), (19, .int .i64 all.length), (20, .int .i64 (i + 1 : Nat))] → e' mark = undef →
          Again (σ := Nat × Bool × List Place) (fun t => [(0, pt r 0), (1, .map (some mi)), (2, .map (some mt)), (7, .map (some mo)), (8, .bool t.2.1), (18, .slice (some ⟨b, o, none⟩) all.length avc), (19, .int .i64 all.length), (20, .int .i64 t.1)])
            (fun t W => t.1 ≤ all.length ∧ Kp w W ∧ OnesE W mo (ones t.2.2) ∧ BefI g x all lin lto t.2.2 ∧ (t.2.1 = false → t.2.2 = lout ∧ ∀ p ∈ all.take t.1, still g x lin lto lout p) ∧ (t.2.1 = true → lout.length < t.2.2.length)) (fun t => all.length - t.1) (i, more, lout2) e' W := fun h W hW hmW e' he hmk =>
        again (hm := hmk) (i + 1, more, lout2) he ⟨by simp only; omega, k3.trans hW, hmW, hB3, fun hf => ⟨(hs3 hf).1, fun p hp' => by
          simp only [hsnoc] at hp'
          rcases List.mem_append.1 hp' with hp' | hp'
          · exact (hs3 hf).2 p hp'
          · simp only [List.mem_singleton] at hp'
            rw [hp']
            exact h.resolve_right fun h => by rw [h] at hf; cases hf⟩, ht3⟩ (by simp only; omega)
      by_cases hin : all[i] ∈ lin
      · rw [if_pos hin]
        refine spF (by decide) ?_
        refine ld agree (v := pval all[i]) (Own.at_ (xs := pcells all[i]) (o := 0) m10 rfl) (by rfl) ?_
        refine lk (get1 hm5 hp.1 hp.2) ?_
        by_cases hout : all[i] ∈ lout2
        · rw [if_pos hout]
          refine spT (by decide) ?_
          refine aw (by omega) (by omega) ?_
          refine skip ?_ w5 k35 hm5 _ ⟨rfl, rfl, rfl, rfl, rfl, rfl, rfl, rfl, trivial⟩ rfl
          cases more with
          | true => exact .inr rfl
          | false => exact .inl fun _ hn => absurd ((hs3 rfl).1 ▸ hout) hn
        · rw [if_neg hout]
          refine spF (by decide) ?_
          have hrow := hrows all[i] (by simp)
          obtain ⟨na, nc, hnv, hnc, hnr⟩ := id hrow
          have A10 : ∀ W, Kp w5 W → Own W p10 133 (pcells all[i]) := fun W h => h.own m10 id
          refine drawnK agree mixed 8 [0, 1, 2, 3, 4, 5, 6, 7] (by kernel_rfl) ?_
          conv => whnf
          refine ldk (v := .map (some mn)) agree rfl rfl (fun W h _ => Own.at_ (xs := [.map (some mn)]) ((k3.trans (k35.trans h)).own mr id) rfl) (by rfl) fun _ => ?_
          conv => whnf
          refine ldk (v := pval all[i]) agree rfl rfl (fun W h _ => Own.at_ (xs := pcells all[i]) (o := 0) (A10 W h) rfl) (by rfl) fun _ => ?_
          conv => whnf
          refine lkr (v := .slice na (succ g x all[i]).length nc) (preChg _) rfl (fun W h _ => by
            have := MapE.get agree placeKeyed (t := 126) rfl rfl rfl rfl (z := nilS) (hnext.chg (k3.trans (k35.trans h)) id) all[i] (placeKey hp.1 hp.2)
            rw [hnv] at this
            exact this) fun _ => ?_
          conv => whnf
          intro w6 k6 _
          have k36 : Kp W3 w6 := k35.trans k6
          have hsl : (succ g x all[i]).length < 1099511627776 := by
            unfold succ succOf fromS
            rw [List.length_map]
            exact Nat.lt_of_le_of_lt (Nat.le_trans (List.length_filter_le _ _) (List.length_filter_le _ _)) hE
          refine loop agree (σ := Nat) (fun j => [(0, pt r 0), (1, .map (some mi)), (2, .map (some mt)), (7, .map (some mo)), (8, .bool more), (10, pt p10 0), (18, .slice (some ⟨b, o, none⟩) all.length avc), (19, .int .i64 all.length), (20, .int .i64 i), (39, .slice na (succ g x all[i]).length nc), (40, .int .i64 (succ g x all[i]).length), (41, .int .i64 j)])
            (fun j W => Kp w6 W ∧ j ≤ (succ g x all[i]).length ∧ ∀ q ∈ (succ g x all[i]).take j, ¬ hit lin lto lout2 q) (fun j => (succ g x all[i]).length - j) 0
            ⟨rfl, rfl, rfl, rfl, rfl, rfl, rfl, rfl, rfl, rfl, rfl, rfl, trivial⟩ ⟨Chg.refl _ _, by omega, by simp⟩ ?_
          rintro j env3 w7 ⟨k7, hj, hno⟩
          refine sp (fun hlt2 => ?_) (fun hge2 => ?_)
          · have hj' : j < (succ g x all[i]).length := by omega
            obtain ⟨q, hq⟩ : ∃ q, q = (succ g x all[i])[j] := ⟨_, rfl⟩
            have hqj : (succ g x all[i])[j]? = some q := by rw [hq]; simp
            have hqs : q ∈ succ g x all[i] := List.mem_of_getElem? hqj
            have hqa := ha.closed all[i] (by simp) q hqs
            have hqI := hI q hqa
            obtain ⟨b3, o3, rfl, hlo3, hhi3, cs3, hcs3, hrd3, rfl⟩ := hnr j q hqj
            refine ne ⟨by omega, hlt2⟩ ?_
            refine ld agree (v := pval q) ((k3.trans (k36.trans k7)).range hrd3 id) (by rfl) ?_
            refine nd fun p12 w8 e8 s8 k8 m8 => ?_
            refine st agree (cs := [.int .i64 0, .int .i64 0]) m8 rfl (Nat.le_refl 2) rfl ?_
            intro w9 s9 k9 m9
            have m12 : Own w9 p12 133 (pcells q) := m9
            have k39 : Kp W3 w9 := k36.trans (k7.trans (k8.new e8 k9))
            have k69 : Kp w6 w9 := k7.trans (k8.new e8 k9)
            have hm9 : OnesE w9 mo (ones lout2) := hm3.chg k39 id
            refine ld agree (v := pval q) (Own.at_ (xs := pcells q) (o := 0) m12 rfl) (by rfl) ?_
            refine lk (get1 (hi_.chg (k3.trans k39) id) hqI.1 hqI.2) ?_
            by_cases c1 : q ∈ lin
            · rw [if_pos c1]
              refine spT (by decide) ?_
              refine ld agree (v := pval q) (Own.at_ (xs := pcells q) (o := 0) m12 rfl) (by rfl) ?_
              refine lk (get1 (ht.chg (k3.trans k39) id) hqI.1 hqI.2) ?_
              by_cases c2 : q ∈ lto
              · rw [if_pos c2]
                refine spT (by decide) ?_
                have hh : hit lin lto lout2 q := ⟨c1, .inl c2⟩
                have hpre := preMapR Proofs.Try.prog 133 pval (fun n : Int => .int .i64 n) 0 mo all[i]
                have m10' : Own w9 p10 133 (pcells all[i]) := (k6.trans k69).own m10 id
                have n10 : p10 ≠ mo := hm9.ne m10'
                refine drawnR agree mixed 6 (by kernel_rfl) _ hpre ?_
                conv => whnf
                refine ldr (v := pval all[i]) hpre agree rfl rfl (fun W h _ => h.chg.range (Own.at_ (xs := pcells all[i]) (o := 0) m10' rfl) n10) (by rfl) fun _ => ?_
                conv => whnf
                refine lkr (v := .int .i64 0) hpre rfl (fun W h _ => by
                  obtain ⟨x1, hm1, he1⟩ := h.map _ hm9
                  have := MapE.get agree placeKeyed (t := 131) rfl rfl rfl rfl (z := 0) hm1 all[i] (placeKey hp.1 hp.2)
                  rw [he1.get, ones, aget_ones, if_neg hout] at this
                  exact this) fun _ => ?_
                conv => whnf
                refine aw (by omega) (by omega) ?_
                conv => whnf
                refine enr agree placeKeyed (t := 131) rfl rfl rfl rfl rfl rfl (z := 0) rfl hm9 (placeKey hp.1 hp.2) fun st D hD => ?_
                conv => whnf
                intro W10 hW10 hDs
                obtain ⟨x1, hen, he1⟩ := hD W10 (hDs 4)
                refine mu (hen.store 1) ?_
                rintro w11 ⟨hm11, hs11, hc11⟩
                have hones : aput x1 all[i] 1 = ones (lout2 ++ [all[i]]) := by
                  rw [he1.put, ones, ones, aput_new fun y hy he => by
                    obtain ⟨z, hz, rfl⟩ := List.mem_map.1 hy
                    exact hout (he ▸ hz)]
                  simp
                rw [hones] at hm11
                refine aw (by omega) (by omega) ?_
                have k11 : Kp w w11 := (k3.trans k39).newS (hW10.chg.trans hc11) fun k hk => by omega
                refine again (i + 1, true, lout2 ++ [all[i]]) ⟨rfl, rfl, rfl, rfl, rfl, rfl, rfl, rfl, trivial⟩ ⟨by simp only; omega, k11, hm11, ⟨?_, ?_, ?_⟩, (fun hf => by cases hf), fun _ => ?_⟩ (by simp only; omega)
                · simp only
                  rw [List.nodup_append]
                  refine ⟨hB3.nodup, by simp, fun a ha b hb he => ?_⟩
                  simp only [List.mem_singleton] at hb
                  exact hout (hb ▸ he ▸ ha)
                · intro p hpm
                  rcases List.mem_append.1 hpm with hpm | hpm
                  · exact hB3.sub p hpm
                  · simp only [List.mem_singleton] at hpm
                    rw [hpm]; simp
                · intro p hpm
                  rcases List.mem_append.1 hpm with hpm | hpm
                  · exact hB3.comes p hpm
                  · simp only [List.mem_singleton] at hpm
                    rw [hpm]
                    rcases hh.2 with h | h
                    · exact .one hin hqs hh.1 h
                    · exact .more hin hqs hh.1 (hB3.comes q h)
                · simp only [List.length_append, List.length_singleton]
                  cases more with
                  | true => have := ht3 rfl; omega
                  | false => rw [(hs3 rfl).1]; omega
              · rw [if_neg c2]
                refine spF (by decide) ?_
                refine ld agree (v := pval q) (Own.at_ (xs := pcells q) (o := 0) m12 rfl) (by rfl) ?_
                refine lk (get1 hm9 hqI.1 hqI.2) ?_
                by_cases c3 : q ∈ lout2
                · rw [if_pos c3]
                  refine spT (by decide) ?_
                  have hh : hit lin lto lout2 q := ⟨c1, .inr c3⟩
                  have hpre := preMapR Proofs.Try.prog 133 pval (fun n : Int => .int .i64 n) 0 mo all[i]
                  have m10' : Own w9 p10 133 (pcells all[i]) := (k6.trans k69).own m10 id
                  have n10 : p10 ≠ mo := hm9.ne m10'
                  refine drawnR agree mixed 6 (by kernel_rfl) _ hpre ?_
                  conv => whnf
                  refine ldr (v := pval all[i]) hpre agree rfl rfl (fun W h _ => h.chg.range (Own.at_ (xs := pcells all[i]) (o := 0) m10' rfl) n10) (by rfl) fun _ => ?_
                  conv => whnf
                  refine lkr (v := .int .i64 0) hpre rfl (fun W h _ => by
                    obtain ⟨x1, hm1, he1⟩ := h.map _ hm9
                    have := MapE.get agree placeKeyed (t := 131) rfl rfl rfl rfl (z := 0) hm1 all[i] (placeKey hp.1 hp.2)
                    rw [he1.get, ones, aget_ones, if_neg hout] at this
                    exact this) fun _ => ?_
                  conv => whnf
                  refine aw (by omega) (by omega) ?_
                  conv => whnf
                  refine enr agree placeKeyed (t := 131) rfl rfl rfl rfl rfl rfl (z := 0) rfl hm9 (placeKey hp.1 hp.2) fun st D hD => ?_
                  conv => whnf
                  intro W10 hW10 hDs
                  obtain ⟨x1, hen, he1⟩ := hD W10 (hDs 4)
                  refine mu (hen.store 1) ?_
                  rintro w11 ⟨hm11, hs11, hc11⟩
                  have hones : aput x1 all[i] 1 = ones (lout2 ++ [all[i]]) := by
                    rw [he1.put, ones, ones, aput_new fun y hy he => by
                      obtain ⟨z, hz, rfl⟩ := List.mem_map.1 hy
                      exact hout (he ▸ hz)]
                    simp
                  rw [hones] at hm11
                  refine aw (by omega) (by omega) ?_
                  have k11 : Kp w w11 := (k3.trans k39).newS (hW10.chg.trans hc11) fun k hk => by omega
                  refine again (i + 1, true, lout2 ++ [all[i]]) ⟨rfl, rfl, rfl, rfl, rfl, rfl, rfl, rfl, trivial⟩ ⟨by simp only; omega, k11, hm11, ⟨?_, ?_, ?_⟩, (fun hf => by cases hf), fun _ => ?_⟩ (by simp only; omega)
                  · simp only
                    rw [List.nodup_append]
                    refine ⟨hB3.nodup, by simp, fun a ha b hb he => ?_⟩
                    simp only [List.mem_singleton] at hb
                    exact hout (hb ▸ he ▸ ha)
                  · intro p hpm
                    rcases List.mem_append.1 hpm with hpm | hpm
                    · exact hB3.sub p hpm
                    · simp only [List.mem_singleton] at hpm
                      rw [hpm]; simp
                  · intro p hpm
                    rcases List.mem_append.1 hpm with hpm | hpm
                    · exact hB3.comes p hpm
                    · simp only [List.mem_singleton] at hpm
                      rw [hpm]
                      rcases hh.2 with h | h
                      · exact .one hin hqs hh.1 h
                      · exact .more hin hqs hh.1 (hB3.comes q h)
                  · simp only [List.length_append, List.length_singleton]
                    cases more with
                    | true => have := ht3 rfl; omega
                    | false => rw [(hs3 rfl).1]; omega
                · rw [if_neg c3]
                  refine spF (by decide) ?_
                  refine aw (by omega) (by omega) ?_
                  refine again (j + 1) ⟨rfl, rfl, rfl, rfl, rfl, rfl, rfl, rfl, rfl, rfl, rfl, rfl, trivial⟩ ⟨k69, by omega, fun y hy => ?_⟩ (by omega)
                  rw [show (succ g x all[i]).take (j + 1) = (succ g x all[i]).take j ++ [q] by rw [hq]; simp] at hy
                  rcases List.mem_append.1 hy with hy | hy
                  · exact hno y hy
                  · simp only [List.mem_singleton] at hy
                    rw [hy]
                    exact fun h => h.2.elim c2 c3
            · rw [if_neg c1]
              refine spF (by decide) ?_
              refine aw (by omega) (by omega) ?_
              refine again (j + 1) ⟨rfl, rfl, rfl, rfl, rfl, rfl, rfl, rfl, rfl, rfl, rfl, rfl, trivial⟩ ⟨k69, by omega, fun y hy => ?_⟩ (by omega)
              rw [show (succ g x all[i]).take (j + 1) = (succ g x all[i]).take j ++ [q] by rw [hq]; simp] at hy
              rcases List.mem_append.1 hy with hy | hy
              · exact hno y hy
              · simp only [List.mem_singleton] at hy
                rw [hy]
                exact fun h => c1 h.1
          · refine aw (by omega) (by omega) ?_
            rw [List.take_of_length_le (by omega)] at hno
            refine skip ?_ w7 (k36.trans k7) (hm3.chg (k36.trans k7) id) _ ⟨rfl, rfl, rfl, rfl, rfl, rfl, rfl, rfl, trivial⟩ rfl
            cases more with
            | true => exact .inr rfl
            | false => exact .inl fun _ _ q hq => (hs3 rfl).1 ▸ hno q hq
      · rw [if_neg hin]
        refine spT rfl ?_
        refine aw (by omega) (by omega) ?_
        exact skip (.inl fun h => absurd h hin) w5 k35 hm5 _ ⟨rfl, rfl, rfl, rfl, rfl, rfl, rfl, rfl, trivial⟩ rfl
    have hall : all.take i = all := List.take_of_length_le (by omega)
    rw [hall] at hs3
    have hl2 := nodup_sub hB3.nodup hB3.sub
    refine again (more, lout2) ⟨rfl, rfl, rfl, rfl, rfl, trivial⟩ ⟨k3, hm3, hB3, fun hf => ?_⟩ ?_
    · simp only at hf
      simp only
      rw [(hs3 hf).1]
      exact (hs3 hf).2
    · cases more with
      | false => simp only [(hs3 rfl).1]; simp
      | true =>
        have := ht3 rfl
        simp only [if_true]
        omega
theorem callBefore : callable Proofs.Try.prog 104 = true := by kernel_rfl
end Go.Au
