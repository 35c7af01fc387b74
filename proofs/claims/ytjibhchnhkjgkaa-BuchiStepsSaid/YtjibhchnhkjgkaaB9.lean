/- Own text of this workplace: a part of the proofs of this place's statements. -/
import Derived.Test.YtjibhchnhkjgkaaB8
import Derived.Test.YtjibhchnhkjgkaaA10
set_option linter.unusedVariables false
set_option linter.unusedSimpArgs false
set_option linter.unusedSectionVars false
namespace Go.Au
open Go Go.RowKit Go.MapKept
open Go.Maps (Keyed)

def flat (l : List Place) : List Value := l.flatMap pcells
theorem flat_snoc (l : List Place) (p : Place) : flat (l ++ [p]) = flat l ++ pcells p := by simp [flat]
abbrev PlaceBag (w : World) (base : Nat) (L : List (Value × List Value)) := Bag w base 133 2 L
abbrev OnesE (w : World) (m : Nat) (xs : List (Place × Int)) := MapE Proofs.Try.prog 133 pval (fun n : Int => .int .i64 n) w m xs

structure PutV (w : World) (base p9 p5 r ms mn : Nat) (cs : List Value) (av : Value) (all : List Place) (L : List (Value × List Value)) : Prop where
  m9 : Own w p9 131 [.map (some ms)]
  m5 : Own w p5 94 [pt r 0]
  mr : Own w r 129 (cs ++ [.map (some mn), av])
  len : cs.length = 7
  seen : OnesE w ms (all.map fun p => (p, 1))
  bag : PlaceBag w base ((av, flat all) :: L)
  base : base ≤ w.heap.size

theorem alook_one {α : Type} [DecidableEq α] {l : List α} {s : α} (h : s ∈ l) : alook (l.map fun s => (s, (1 : Int))) s = some 1 := by
  induction l with
  | nil => simp at h
  | cons a r ih =>
    simp only [List.map_cons, alook]
    by_cases h' : a = s
    · rw [if_pos h']
    · rw [if_neg h', ih ((List.mem_cons.1 h).resolve_left (Ne.symm h'))]
theorem aget_ones {all : List Place} {p : Place} : aget (all.map fun p => (p, (1 : Int))) 0 p = if p ∈ all then 1 else 0 := by
  unfold aget
  by_cases h : p ∈ all
  · rw [if_pos h, alook_one h]; rfl
  · rw [if_neg h, alook_none fun q hq he => by
      obtain ⟨x, hx, rfl⟩ := List.mem_map.1 hq
      exact h (he ▸ hx)]
    rfl

theorem put_c {w : World} {base p9 p5 r ms mn : Nat} {cs : List Value} {av : Value} {all : List Place} {L : List (Value × List Value)} (h : PutV w base p9 p5 r ms mn cs av all L) {p : Place} (h1 : I64 p.1) (h2 : I64 p.2) (hl : all.length < 1099511627776) :
    Calls Proofs.Try.prog 101 [pval p, pt p9 0, pt p5 0].toArray w (Ret fun _ w' => ∃ av', PutV w' base p9 p5 r ms mn cs av' (if p ∈ all then all else all ++ [p]) L ∧
      Chg (fun k => k = r ∨ k = ms ∨ some k = av.ownBlock) w w' ∧ ∀ g, av'.ownBlock = some g → av.ownBlock = some g ∨ w.heap.size ≤ g) := by
  refine call agree Proofs.Try.func101 rfl Proofs.Try.ntmps101 (by kernel_rfl) ?_
  refine nd fun q w1 e1 s1 k1 m1 => ?_
  have mq : Own w1 q 133 (pcells p) := m1
  have m9 := k1.own h.m9 id
  have m5 := k1.own h.m5 id
  have mr := k1.own h.mr id
  have seen := h.seen.chg k1 id
  have bag := h.bag.kp k1
  refine ld agree (Own.at_ (xs := [.map (some ms)]) m9 rfl) (by rfl) ?_
  refine ld agree (v := pval p) (Own.at_ (xs := pcells p) (o := 0) mq rfl) (by rfl) ?_
  have hg := MapE.get agree placeKeyed (t := 131) rfl rfl rfl rfl (z := 0) seen p (placeKey h1 h2)
  rw [aget_ones] at hg
  refine lk hg ?_
  by_cases hp : p ∈ all
  · rw [if_pos hp, if_pos hp]
    refine spF (by decide) ?_
    exact ⟨av, ⟨m9, m5, mr, h.len, seen, bag, Nat.le_trans h.base k1.size⟩, k1.mono fun _ hf => hf.elim, fun g hg => .inl hg⟩
  rw [if_neg hp, if_neg hp]
  rw [if_neg hp] at hg
  refine spT (by decide) ?_
  have n9 : p9 ≠ ms := seen.ne m9
  have nq : q ≠ ms := seen.ne mq
  have hpre := preMapR Proofs.Try.prog 133 pval (fun n : Int => .int .i64 n) 0 ms p
  refine drawnR agree mixed 6 (by kernel_rfl) _ hpre ?_
  conv => whnf
  refine ldr hpre agree rfl rfl (fun W h _ => h.chg.range (Own.at_ (xs := [.map (some ms)]) m9 rfl) n9) (by rfl) fun _ => ?_
  conv => whnf
  refine ldr (v := pval p) hpre agree rfl rfl (fun W h _ => h.chg.range (Own.at_ (xs := pcells p) (o := 0) mq rfl) nq) (by rfl) fun _ => ?_
  conv => whnf
  refine lkr (v := .int .i64 0) hpre rfl (fun W h _ => by
    obtain ⟨x1, hm1, he1⟩ := h.map _ seen
    have := MapE.get agree placeKeyed (t := 131) rfl rfl rfl rfl (z := 0) hm1 p (placeKey h1 h2)
    rw [he1.get, aget_ones, if_neg hp] at this
    exact this) fun _ => ?_
  conv => whnf
  refine aw (by omega) (by omega) ?_
  conv => whnf
  refine enr agree placeKeyed (t := 131) rfl rfl rfl rfl rfl rfl (z := 0) rfl seen (placeKey h1 h2) fun s D hD => ?_
  conv => whnf
  intro W hW hDs
  obtain ⟨x1, hen, he1⟩ := hD W (hDs 4)
  refine mu (hen.store 1) ?_
  rintro w3 ⟨hm3, hs3, hc3⟩
  have hones : aput x1 p 1 = (all ++ [p]).map fun p => (p, (1 : Int)) := by
    rw [he1.put, aput_new fun x hx he => by
      obtain ⟨y, hy, rfl⟩ := List.mem_map.1 hx
      exact hp (he ▸ hy)]
    simp
  rw [hones] at hm3
  have hc : Chg (fun k => k = ms) w1 w3 := hW.chg.trans hc3
  have nr : r ≠ ms := seen.ne mr
  have n5 : p5 ≠ ms := seen.ne m5
  have m9 := hc.own m9 n9
  have m5 := hc.own m5 n5
  have mr := hc.own mr nr
  have mq := hc.own mq nq
  obtain ⟨es, clock, hms, -⟩ := seen.h
  have bag := bag.chg hc fun x hx b hb hs => by
    subst hs
    exact bag.ne hms (by simp) x hx hb
  obtain ⟨n, hrow⟩ := bag.own _ List.mem_cons_self
  have hn : n = all.length := by
    have := hrow.1
    simp only [flat] at this
    rw [flat_len (size := 2) (fun x => rfl)] at this
    omega
  subst hn
  have ha : (cs ++ [.map (some mn), av]).length = 9 := by simp [h.len]
  obtain ⟨c0, c1, c2, c3, c4, c5, c6, rfl⟩ : ∃ c0 c1 c2 c3 c4 c5 c6, cs = [c0, c1, c2, c3, c4, c5, c6] := by
    have := h.len
    match cs, this with
    | [c0, c1, c2, c3, c4, c5, c6], _ => exact ⟨_, _, _, _, _, _, _, rfl⟩
  have hlt : ∀ g, av.ownBlock = some g → g < w3.heap.size := fun g hg => (hrow.lt g hg).2
  have ne_of : ∀ {b t cs}, Own w3 b t cs → t ≠ 133 → some b ≠ av.ownBlock := fun {b t cs} ho ht he =>
    ownsRow_ne hrow ho (fun cs fr hh => by injection hh with _ h2; exact ht h2) he.symm
  have ne_q : some q ≠ av.ownBlock := fun he => by
    have := (h.bag.lt _ List.mem_cons_self q he.symm).2
    omega
  have hpre3 := preAppR w3 av (all.length * 2) (pcells p)
  refine drawnR agree mixed 10 (by kernel_rfl) _ hpre3 ?_
  conv => whnf
  refine ldr hpre3 agree rfl rfl (fun W h _ => h.chg.range (Own.at_ (xs := [pt r 0]) m5 rfl) (ne_of m5 (by decide))) (by rfl) fun _ => ?_
  conv => whnf
  refine ldr hpre3 agree rfl rfl (fun W h _ => h.chg.range (Own.at_ (xs := [pt r 0]) m5 rfl) (ne_of m5 (by decide))) (by rfl) fun _ => ?_
  conv => whnf
  refine ldr hpre3 agree rfl rfl (fun W h _ => h.chg.range (Own.at_ (xs := [av]) mr rfl) (ne_of mr (by decide))) (by rfl) fun _ => ?_
  conv => whnf
  refine ldr (v := pval p) hpre3 agree rfl rfl (fun W h _ => h.chg.range (Own.at_ (xs := pcells p) (o := 0) mq rfl) ne_q) (by rfl) fun _ => ?_
  conv => whnf
  refine bsr hpre3 rfl rfl rfl rfl rfl (by decide) (fun b o W W' hb ho hS => hS.chg.heap ho fun hc => by have := hlt b hc.symm; omega) (fun W hS => hS.chg.size) fun b D hD => ?_
  conv => whnf
  refine apr (m := 1) (news := pcells p) agree rfl rfl rfl rfl rfl rfl rfl (by decide) hrow rfl (fun W hS hDn => Own.at_ (xs := pcells p) (o := 0) (hD W (hDn 6 (by kernel_rfl))).1 rfl) rfl (by simp only [maxLen]; omega) (by show (all.length + 1) * 16 ≤ _; omega) (by have := k1.size; have := hc.size; have := h.base; omega) fun av' D2 hD2 => ?_
  conv => whnf
  intro W hS hDn
  obtain ⟨hown', hnew⟩ := hD2 W (hDn 7)
  have mrW := hS.chg.own mr (ne_of mr (by decide))
  obtain ⟨a', cap', rfl⟩ := ownsRow_form hown'
  refine st agree mrW rfl (Nat.le_refl 9) rfl ?_
  intro w4 s4 k4 m4
  refine ⟨.slice a' (all.length + 1) cap', ⟨k4.own (hS.chg.own m9 (ne_of m9 (by decide))) ?_, k4.own (hS.chg.own m5 (ne_of m5 (by decide))) ?_, m4, rfl, ?_, ?_, ?_⟩, ?_, ?_⟩
  · exact own_ne m9 mr (by decide)
  · exact own_ne m5 mr (by decide)
  · obtain ⟨es3, clock3, hms3, -⟩ := hm3.h
    exact (hm3.chg hS.chg fun he => bag.ne hms3 (by simp) _ List.mem_cons_self he.symm).chg k4 (Ne.symm nr)
  · rw [flat_snoc]
    have hb := bag.head hS.chg (fun b h => .inl h) hown' hnew
    exact hb.chg k4 fun x hx b hb' hs => by subst hs; exact hb.ne mrW (fun cs fr hh => by injection hh with _ h2; exact absurd h2 (by decide)) x hx hb'
  · have := k1.size; have := hc.size; have := h.base; have := hS.chg.size; omega
  · have e1 : Chg (fun k => k = r ∨ k = ms ∨ some k = av.ownBlock) w1 w3 := hc.mono fun _ h => .inr (.inl h)
    have e2 : Chg (fun k => k = r ∨ k = ms ∨ some k = av.ownBlock) w3 W := hS.chg.mono fun _ h => .inr (.inr h)
    have e3 : Chg (fun k => k = r ∨ k = ms ∨ some k = av.ownBlock) W w4 := k4.mono fun _ h => .inl h
    exact ((k1.mono fun _ hf => hf.elim).trans e1).trans (e2.trans e3)
  · intro g hg
    exact (hnew g hg).imp id fun h => by have := k1.size; have := hc.size; omega
theorem callPut : callable Proofs.Try.prog 101 = true := by kernel_rfl
end Go.Au
