/- Own text of this workplace: a part of the proofs of this place's statements. -/
import Derived.Test.YtocoblgmjogalaaGreatDoorP0
import Derived.Test.YtocoblgmjogalaaGreatDoorG
import Derived.Test.YtocoblgmjogalaaGreatDoorP2
import Derived.Test.YtocoblgmjogalaaGreatDoorP3
set_option maxRecDepth 40000
set_option linter.unusedVariables false
set_option linter.unusedSimpArgs false
set_option linter.unusedSectionVars false
namespace Go.Au
open Go Go.RowKit

/-! ### Subs -/
theorem cp_spec {xs : List Sz} (h : xs.Pairwise fun a b => Fm.ord a.1 b.1 ≤ 0) : ∀ p, p ≤ xs.length →
    (cpP xs p).Pairwise (fun a b => Fm.ord a.1 b.1 < 0) ∧ (∀ x, x ∈ (cpP xs p).map (·.1) ↔ x ∈ (xs.take p).map (·.1)) ∧ ∀ y ∈ cpP xs p, y ∈ xs.take p
  | 0, _ => ⟨List.Pairwise.nil, fun x => by simp [cpP], fun y hy => by simp [cpP] at hy⟩
  | p + 1, hp => by
    obtain ⟨h1, h2, h3⟩ := cp_spec h p (by omega)
    have hx : xs[p]? = some xs[p] := List.getElem?_eq_getElem hp
    obtain ⟨X, hX⟩ : ∃ X, X = xs[p] := ⟨_, rfl⟩
    rw [← hX] at hx
    have htk : xs.take (p + 1) = xs.take p ++ [X] := by rw [List.take_succ_eq_append_getElem hp, hX]
    by_cases hc : 0 < p ∧ at1 xs (p - 1) = some X.1
    · rw [cpP_old hx hc.1 hc.2]
      refine ⟨h1, fun x => ?_, fun y hy => by rw [htk]; exact List.mem_append_left _ (h3 y hy)⟩
      rw [h2, htk, List.map_append, List.mem_append]
      refine ⟨.inl, fun hh => hh.elim id fun hh => ?_⟩
      simp only [List.map_cons, List.map_nil, List.mem_singleton] at hh
      subst hh
      have hc2 := hc.2
      unfold at1 at hc2
      cases hq : xs[p - 1]? with
      | none => rw [hq] at hc2; cases hc2
      | some q =>
        rw [hq] at hc2
        injection hc2 with hc2
        refine List.mem_map.2 ⟨q, ?_, hc2⟩
        exact List.mem_of_getElem? (i := p - 1) (by rw [List.getElem?_take, if_pos (by omega)]; exact hq)
    · rw [cpP_new hx fun h0 he => hc ⟨h0, he⟩]
      refine ⟨?_, fun x => ?_, fun y hy => ?_⟩
      · rw [List.pairwise_append]
        refine ⟨h1, List.pairwise_singleton _ _, fun y hy b hb => ?_⟩
        simp only [List.mem_singleton] at hb
        subst hb
        obtain ⟨j, hj⟩ := List.getElem?_of_mem (h3 y hy)
        rw [List.getElem?_take] at hj
        split at hj
        · rename_i hjp
          obtain ⟨hjl, hj'⟩ := List.getElem?_eq_some_iff.1 hj
          have hle := List.pairwise_iff_getElem.1 h j p hjl (by omega) hjp
          rw [hj', ← hX] at hle
          rcases Int.lt_or_eq_of_le hle with hlt | heq
          · exact hlt
          · exfalso
            apply hc
            refine ⟨by omega, ?_⟩
            have hpl : p - 1 < xs.length := by omega
            unfold at1
            rw [List.getElem?_eq_getElem hpl]
            simp only [Option.map_some, Option.some.injEq]
            have hyx := Fm.ord_zero heq
            have a2 : Fm.ord xs[p - 1].1 b.1 ≤ 0 := by
              have := List.pairwise_iff_getElem.1 h (p - 1) p hpl (by omega) (by omega)
              rw [← hX] at this; exact this
            have a1 : Fm.ord y.1 xs[p - 1].1 ≤ 0 := by
              rcases Nat.lt_or_ge j (p - 1) with h4 | h4
              · have := List.pairwise_iff_getElem.1 h j (p - 1) hjl hpl h4
                rw [hj'] at this; exact this
              · have : j = p - 1 := by omega
                subst this
                rw [hj', Fm.ord_self]; exact Int.le_refl _
            rw [hyx] at a1
            have n1 := Fm.ord_neg b.1 xs[p - 1].1
            exact Fm.ord_zero (by omega)
        · cases hj
      · rw [List.map_append, htk, List.map_append, List.mem_append, List.mem_append, h2]
      · rw [htk]
        rcases List.mem_append.1 hy with hy | hy
        · exact List.mem_append_left _ (h3 y hy)
        · exact List.mem_append_right _ hy
theorem cp_subs {xs : List Sz} {f : Fm} (h : xs.Pairwise fun a b => Fm.ord a.1 b.1 ≤ 0) (hm : ∀ x, x ∈ xs.map (·.1) ↔ x ∈ f.all) : (cpE xs).map (·.1) = f.subs := by
  obtain ⟨h1, h2, -⟩ := cp_spec h xs.length (Nat.le_refl _)
  refine Fm.sorted_eq ?_ (Fm.subs_sorted f) fun x => ?_
  · unfold Fm.Sorted
    rw [List.pairwise_map]
    exact h1
  · rw [Fm.mem_subs, ← hm]
    have := h2 x
    rw [List.take_length] at this
    exact this
theorem ownsRow_zero {w : World} {base b cap : Nat} {el : TypeId} {size : Nat} {cs : List Value} (h : Own w b el cs) (hb : base ≤ b) (hl : cs.length = cap * size) (hc : cap ≤ maxLen) : w.ownsRow base el size (.slice (some ⟨b, 0, none⟩) 0 cap) 0 [] :=
  ⟨by simp, .inr ⟨b, cap, cs.toArray, rfl, hb, h, Nat.zero_le _, hc, by simpa using hl, by simp⟩⟩
theorem callSubs2 : callable Proofs.Tryz.prog 133 = true := by kernel_rfl
theorem subs2_c {n lo hi o : Nat} {w : World} {p q : Sz} (ho : Own w o 187 [.func (.func 130) #[] #[]]) (hp : KidsN n lo hi w p.2 p.1.kids) (hq : KidsN n lo hi w q.2 q.1.kids) (hs : p.1.size < 4611686018427387904) :
    Calls Proofs.Tryz.prog 133 [szA p, szA q, pt o 0].toArray w (Ret fun r w' => r = .bool (decide (p.1 = q.1)) ∧ Kp w w') := by
  obtain ⟨f, u⟩ := p
  obtain ⟨g, v⟩ := q
  simp only at hp hq hs
  obtain ⟨ua, uc, rfl, -⟩ := hp.slice
  obtain ⟨va, vc, rfl, -⟩ := hq.slice
  refine call agree Proofs.Tryz.func133 rfl Proofs.Tryz.ntmps133 (by kernel_rfl) ?_
  refine nd fun p w1 e1 s1 k1 m1 => ?_
  refine nd fun q w2 e2 s2 k2 m2 => ?_
  have m1 : Own w2 p 186 (szC (f, .slice ua f.kids.length uc)) := k2.heap m1 id
  have m2 : Own w2 q 186 (szC (g, .slice va g.kids.length vc)) := m2
  have k12 := k1.trans k2
  refine ld agree (Own.at_ (xs := [.func (.func 130) #[] #[]]) (k12.own ho id) rfl) (by rfl) ?_
  refine ld agree (Own.at_ (xs := szC (f, .slice ua f.kids.length uc)) m1 rfl) (by rfl) ?_
  refine ld agree (Own.at_ (xs := szC (g, .slice va g.kids.length vc)) m2 rfl) (by rfl) ?_
  refine cl callOrd (ord_c (p := (f, .slice ua f.kids.length uc)) (q := (g, .slice va g.kids.length vc)) (hp.kp k12) (hq.kp k12) hs) ?_
  rintro _ w3 ⟨rfl, k3⟩
  refine sp (fun h => ?_) (fun h => ?_)
  · exact ⟨congrArg Value.bool (decide_eq_true (Fm.ord_zero h)).symm, k12.trans k3⟩
  · exact ⟨congrArg Value.bool (decide_eq_false fun he => h (Fm.ord_zero_iff.2 he)).symm, k12.trans k3⟩
theorem callSubs : callable Proofs.Tryz.prog 57 = true := by kernel_rfl
set_option maxHeartbeats 1000000 in
theorem subs_c {n lo hi : Nat} {w : World} {v : Value} {f : Fm} (h : KidsN n lo hi w v f.kids) (hhi : hi ≤ w.heap.size) (hs : f.size < 100000000) :
    Calls Proofs.Tryz.prog 57 [fmA f v].toArray w (Ret fun r w' => Kp w w' ∧ KidsN (n + 1) w.heap.size w'.heap.size w' r f.subs) := by
  have hob := h.slice
  obtain ⟨a, c, rfl, hc⟩ := hob
  refine call agree Proofs.Tryz.func57 rfl Proofs.Tryz.ntmps57 (by kernel_rfl) ?_
  refine nd fun p w1 e1 s1 k1 m1 => ?_
  have m1 : Own w1 p 26 (fmC f (.slice a f.kids.length c)) := m1
  refine ld agree (Own.at_ (xs := fmC f (.slice a f.kids.length c)) m1 rfl) (by rfl) ?_
  refine cl callGather (gather_c n lo hi w1 _ f w1.heap.size nilS [] ⟨rfl, .inl ⟨rfl, rfl⟩⟩ (h.kp k1) (by omega) (Nat.le_refl _) (by simp; omega)) ?_
  rintro _ w2 ⟨vl, M, rfl, hM, hMk, hc2, hr2, hg2⟩
  rewrite [List.nil_append] at hr2
  have hob := row_slice hr2
  obtain ⟨va, vc, rfl, -, hvb⟩ := hob
  have k2 : Kp w1 w2 := hc2.mono fun j hj => by cases hj
  have hMl : M.length = f.size := by
    have := congrArg List.length hM
    rewrite [List.length_map, Fm0.post_len] at this
    exact this
  have hMs : ∀ p ∈ M, p.1.size ≤ f.size := fun p hp => by
    have : p.1 ∈ Fm0.post f := hM ▸ List.mem_map.2 ⟨p, hp, rfl⟩
    rcases Fm.all_size (Fm0.mem_post.1 this) with h1 | h1
    · rw [h1]; exact Nat.le_refl _
    · omega
  refine nd fun o w3 e3 s3 k3 m3 => ?_
  refine st agree m3 rfl (Nat.le_refl 1) rfl fun w4 e4 k4 m4 => ?_
  have m4 : Own w4 o 187 [.func (.func 130) #[] #[]] := m4
  have k24 : Kp w2 w4 := k3.newS k4 (fun j hj => by subst hj; omega)
  refine ld agree (Own.at_ (xs := [.func (.func 130) #[] #[]]) m4 rfl) (by rfl) ?_
  have hr4 := ownsRow_chg hr2 k24 fun _ _ => id
  have hMk4 := fun q hq => (hMk q hq).kp k24
  refine cl callSortSz (sortSz_c hr4 (by omega) (fun q hq => ⟨hMk4 q hq, by have := hMs q hq; omega⟩) (show hi ≤ w1.heap.size by omega)) ?_
  rintro _ w5 ⟨hc5, L, hperm, hsort, hr5⟩
  have hnS : ∀ j, some j = (Value.slice va M.length vc).ownBlock → w1.heap.size ≤ j ∧ j < o := fun j hj => ⟨(hvb j hj.symm).1, by have := (hvb j hj.symm).2; omega⟩
  have hLl := hperm.length_eq
  have k05 : Kp w w5 := ((k1.trans k2).trans k24).newS hc5 fun j hj => by have := (hnS j hj).1; omega
  have m5 : Own w5 o 187 [.func (.func 130) #[] #[]] := hc5.own m4 fun hj => by have := (hnS o hj).2; omega
  have hLk : ∀ q ∈ L, KidsN n lo hi w5 q.2 q.1.kids ∧ q.1.size < 4611686018427387904 := fun q hq => by
    have hq' := hperm.mem_iff.1 hq
    exact ⟨(hMk4 q hq').chg hc5 fun j h1 h2 hj => by have := (hnS j hj).1; omega, by have := hMs q hq'; omega⟩
  have hr5' : w5.ownsRow w1.heap.size 186 4 (.slice va M.length vc) L.length (L.flatMap szC) := by rewrite [hLl]; exact hr5
  refine cl callCompactF (compactF_c (cap := [pt o 0]) hr5' (by omega) (fun q hq => by
      have hob := (hLk q hq).1.slice
      obtain ⟨b, d, hb, -⟩ := hob
      exact ⟨b, _, d, hb⟩) _ callSubs2 fun W x y hW hx hy => subs2_c (n := n) (lo := lo) (hi := hi) (hW.own m5 fun hj => by have := (hnS o hj).2; omega)
      ((hLk x hx).1.chg hW fun j h1 h2 hj => by have := (hnS j hj).1; omega) ((hLk y hy).1.chg hW fun j h1 h2 hj => by have := (hnS j hj).1; omega) (hLk x hx).2) ?_
  rintro r w6 ⟨hc6, hr6, ho6⟩
  have k06 : Kp w w6 := k05.newS hc6 fun j hj => by have := (hnS j hj).1; omega
  have hfst : (cpE L).map (·.1) = f.subs := cp_subs hsort fun x => by
    rw [← Fm0.mem_post, ← hM]
    exact (hperm.map (·.1)).mem_iff
  have hcl : (cpE L).length = f.subs.length := by rw [← hfst, List.length_map]
  have hcle := cpP_len L L.length
  have hck : ∀ q ∈ cpE L, KidsN n lo hi w6 q.2 q.1.kids ∧ q.1.size ≤ f.size := fun q hq => by
    have hq' : q ∈ L.take L.length := (cp_spec hsort L.length (Nat.le_refl _)).2.2 q hq
    rewrite [List.take_length] at hq'
    exact ⟨(hLk q hq').1.chg hc6 fun j h1 h2 hj => by have := (hnS j hj).1; omega, hMs q (hperm.mem_iff.1 hq')⟩
  have hob := row_slice hr6
  obtain ⟨ra, rc, rfl, -, -⟩ := hob
  have hrow := ownsRow_row (f := szC) (fun _ => rfl) hr6 (by decide)
  have hcl8 : (cpE L).length < 100000000 := by unfold cpE; omega
  refine ms agree rfl rfl rfl rfl rfl rfl (by omega) (by omega) (by show (48 : Int) * _ ≤ _; omega) (by omega) fun b w7 e7 e8 k7 m7 => ?_
  have m7 : Own w7 b 26 (rep [.int .u8 0, .string ⟨#[]⟩, nilS] (cpE L).length) := m7
  have hrep : ∀ (z : List Value) (k : Nat), (rep z k).length = k * z.length := fun z k => by
    induction k with
    | zero => simp [rep]
    | succ k ih => simp [rep, ih, Nat.succ_mul]; omega
  refine loop agree (σ := Nat × Value × List (Fm × Value)) (fun s => [(6, s.2.1), (23, .slice ra (cpE L).length rc), (24, .int .i64 (cpE L).length), (25, .int .i64 s.1)])
    (fun s W => Kp w6 W ∧ s.1 ≤ (cpE L).length ∧ s.2.2.map (·.1) = f.subs.take s.1 ∧ OwnK n w6.heap.size 26 W s.2.1 s.2.2) (fun s => (cpE L).length - s.1) (0, .slice (some ⟨b, 0, none⟩) 0 (cpE L).length, [])
    ⟨rfl, rfl, rfl, rfl, trivial⟩ ⟨k7, by simp only; omega, rfl, ⟨ownsRow_zero (size := 3) m7 (by omega) (by rw [hrep]; rfl) (by simp only [maxLen]; omega), fun _ hp => by cases hp⟩⟩ ?_
  rintro ⟨i, vo, Lo⟩ e0 W ⟨hk, hi, hLo, hown⟩
  simp only at hk hi hLo hown
  have hlen : Lo.length = i := by
    have := congrArg List.length hLo
    rewrite [List.length_map, List.length_take] at this
    omega
  refine sp (fun h1 => ?_) (fun h1 => ?_)
  · simp only at h1
    have hi' : i < (cpE L).length := by omega
    have hx := List.getElem?_eq_getElem hi'
    generalize (cpE L)[i] = x at hx
    have hxm := List.mem_of_getElem? hx
    obtain ⟨ra2, rc2, hre, -, hrx⟩ := hrow
    injection hre with hre1 _ _
    subst hre1
    have hob := hrx i x hx
    obtain ⟨b2, o2, rfl, -, -, cs, -, hrd, rfl⟩ := hob
    obtain ⟨f1, u1⟩ := x
    have hob := hck _ hxm
    obtain ⟨hku, hsx⟩ := hob
    simp only at hku hsx
    have hob := hku.slice
    obtain ⟨ua, uc, rfl, -⟩ := hob
    refine ne ⟨by omega, h1⟩ ?_
    refine ld agree (hk.range hrd id) (by rfl) ?_
    refine nd fun m8 w8 e8 s8 k8 hm8 => ?_
    refine st agree hm8 rfl (Nat.le_refl 4) rfl fun w9 e9 k9 hm9 => ?_
    have hm9 : Own w9 m8 186 (szC (f1, .slice ua f1.kids.length uc)) := hm9
    have k89 : Kp W w9 := k8.newS k9 (fun j hj => by subst hj; omega)
    replace hk := hk.trans k89
    replace hown := hown.kp k89
    refine ld agree (Own.at_ (xs := fmC f1 (.slice ua f1.kids.length uc)) hm9 rfl) (by rfl) ?_
    refine cl callCopy (copy_c n lo _ w9 _ f1 (hku.kp hk) (by omega)) ?_
    rintro _ w10 ⟨k10, u, rfl, hku'⟩
    have hob := hku'.slice
    obtain ⟨ya, yc, rfl, -⟩ := hob
    refine ne (by decide) ?_
    refine nd fun m11 w11 e11 s11 k11 hm11 => ?_
    have hm11 : Own w11 m11 26 (fmC f1 (.slice ya f1.kids.length yc)) := hm11
    have hob := row_slice hown.row
    obtain ⟨ga, gc, rfl, -, hgb⟩ := hob
    have hown11 := (hown.kp k10).kp k11
    have hk11 := (hk.trans k10).trans k11
    refine apP (m := 1) (news := fmC f1 (.slice ya f1.kids.length yc)) agree rfl rfl rfl rfl rfl rfl rfl (by decide) hown11.row rfl (Own.at_ (o := 0) hm11 rfl) rfl (by simp only [maxLen]; omega) (by show (_ + 1) * 48 ≤ _; omega) (by have := hk11.size; omega) fun v' w12 hrow12 hc12 hnew12 _ => ?_
    have hk10 := k10.size
    have hnb : ∀ j, some j = (Value.slice ga Lo.length gc).ownBlock → w6.heap.size ≤ j := fun j hj => (hgb j hj.symm).1
    have hpush := hown11.push (p := (f1, .slice ya f1.kids.length yc)) (hku'.kp k11) (by have := hk.size; omega) (by omega) (fun g hg => by
      have := (hgb g hg).2
      exact .inl (by omega)) hc12 hrow12 hnew12
    refine aw (by simp only; omega) (by simp only; omega) ?_
    exact again (i + 1, v', Lo ++ [(f1, Value.slice ya f1.kids.length yc)]) ⟨rfl, rfl, rfl, rfl, trivial⟩ ⟨hk11.newS hc12 hnb, by simp only; omega, map_fst_snoc hLo (by rw [← hfst, List.getElem?_map, hx]; rfl), hpush⟩ (by simp only; omega)
  · simp only at h1
    have hil : i = f.subs.length := by omega
    subst hil
    rewrite [List.take_length] at hLo
    have hfin := hown.len
    rewrite [hLo] at hfin
    exact ⟨k06.trans hk, hfin.mono k06.size (Nat.le_refl _)⟩
end Go.Au

namespace Go.Au
open Go Go.RowKit

/-! ### ranges over functions whose values are told by a relation -/
/-- what holds cells of a type stays -/
def FrT (T : TypeId) (W W' : World) : Prop := ∀ (k : Nat) (cs : Array Value), W.heap[k]? = some (.cells cs T (0, 0)) → W'.heap[k]? = some (.cells cs T (0, 0))
theorem FrT.refl (T : TypeId) (W : World) : FrT T W W := fun _ _ h => h
theorem FrT.trans {T : TypeId} {a b c : World} (h : FrT T a b) (k : FrT T b c) : FrT T a c := fun i cs hi => k i cs (h i cs hi)
theorem FrT.chg {T : TypeId} {S : Nat → Prop} {W W' : World} (h : Chg S W W') (hS : ∀ k, S k → k < W.heap.size → ∀ cs, W.heap[k]? ≠ some (.cells cs T (0, 0))) : FrT T W W' := fun k cs hk => (h.block k (lt_of_heap hk) fun hs => hS k hs (lt_of_heap hk) cs hk).trans hk
theorem FrT.kp {T : TypeId} {W W' : World} (h : Kp W W') : FrT T W W' := FrT.chg h fun _ hf => hf.elim
theorem FrT.own {T : TypeId} {W W' : World} {b : Nat} {cs : List Value} (h : FrT T W W') (ho : Own W b T cs) : Own W' b T cs := h b _ ho
theorem FrT.obj {T : TypeId} {W : World} {l : Nat} {r : Loop} {o : Obj} (h : W.heap[l]? = some (.loop r)) : FrT T W (W.putObj l o) := fun k cs hk => by
  have hne : k ≠ l := fun he => by subst he; rw [h] at hk; cases hk
  rw [World.putObj_heap_other hne]; exact hk
theorem yieldMono {F : Fence} {m : Nat} {P : Program} {l : Nat} {args : Array Value} {W : World} {R R' : Ending → World → Prop} (h : YieldAt F m P l args W R) (hr : ∀ e w, R e w → R' e w) : YieldAt F m P l args W R' := by
  obtain ⟨fn, tmps, assign, body, hy, hR⟩ := h
  exact ⟨fn, tmps, assign, body, hy, hR.mono hr⟩
structure IterV (T : TypeId) {α : Type} (P : Program) (g : FuncId) (cap : List Value) (E : World → α → List Value → Prop) (xs : List α) (C : World → Prop) : Prop where
  h : ∀ (l : Nat) (J Jx : List α → World → Prop) (W : World), (∀ pre W W', J pre W → Kp W W' → J pre W') → (∀ pre W W', Jx pre W → Kp W W' → Jx pre W') → (∀ pre W, J pre W → C W) →
    (∀ pre x vs W, J pre W → pre ++ [x] <+: xs → E W x vs → YieldAt Fence.wide 0 P l vs.toArray W (Ret fun v W' => (v = .bool true ∧ J (pre ++ [x]) W' ∧ FrT T W W') ∨ (v = .bool false ∧ Jx (pre ++ [x]) W'))) → J [] W →
    Calls P g (.func (.yield l) #[] #[] :: cap).toArray W (Ret fun _ W' => J xs W' ∨ ∃ pre, Jx pre W')
section
variable {P : Program} {Γ : List (Nat × TI)} {n : Nat} {ds : List Deferred} {rd : Option Nat}
theorem range_coreV (hG : Agree P Γ) {T : TypeId} {α : Type} {f : Operand} {ps : Array Tmp} {asn body : Code} {Q : Exit → Env → World → Prop} {e e' : Env} {w : World} {g : FuncId} {cap : Array Value} {E : World → α → List Value → Prop} {xs : List α} {C : World → Prop}
    (l : Nat) (mk : List Deferred) (w1 : FuncId → World) (D : Nat) (sz : Nat)
    (henter : ∀ fn, (Instr.enterLoop fn (ag n ds e).tmps ps asn body rd).run P w = .ok (l, mk) (w1 fn))
    (hrec : ∀ fn, (w1 fn).heap[l]? = some (.loop { state := .ready, pending := none, fn := fn, tmps := (ag n ds e).tmps, params := ps, assign := asn, body := body, defers := D }))
    (hold : ∀ fn, Kp w (w1 fn)) (hsz : ∀ fn, (w1 fn).heap.size = sz) (hl : w.heap.size ≤ l) (hmk : ({ ag n ds e with defers := mk ++ (ag n ds e).defers } : Act) = ag n ds e')
    (hf : ev e f = .func (.func g) #[] cap) (hg : callable P g = true) (it : IterV T P g cap.toList E xs C) (hps : ∀ W x vs, E W x vs → vs.length = ps.size)
    (J : List α → World → Prop) (Jx : Exit → List α → World → Prop)
    (hJ : ∀ pre W W', J pre W → Chg (fun k => w.heap.size ≤ k ∧ k < sz) W W' → J pre W') (hJx : ∀ x pre W W', Jx x pre W → Chg (fun k => w.heap.size ≤ k ∧ k < sz) W W' → Jx x pre W') (hC : ∀ pre W, J pre W → C W) (h0 : J [] w)
    (hbody : ∀ pre x vs W, J pre W → pre ++ [x] <+: xs → E W x vs → sz ≤ W.heap.size → (∃ r, W.heap[l]? = some (.loop r)) → VCC P Γ n [] (some l) asn (fun y e1 W1 => match y with
      | .normal => Kp W W1 ∧ ∀ W2, W2.heap.size = W1.heap.size → Chg (fun k => k = l) W1 W2 → (∃ r, W2.heap[l]? = some (.loop r)) → VCC P Γ n [] (some l) body (roundQ (fun V => J (pre ++ [x]) V ∧ FrT T W2 V) (fun y => Jx y (pre ++ [x])) (keepB w.heap.size sz W2)) e1 W2
      | _ => False) (setPs (upd e mark undef) (ps.toList.zip vs)) W)
    (hdone : ∀ fn W, J xs W → (∀ k, w.heap.size ≤ k → k < sz → k ≠ l → W.heap[k]? = (w1 fn).heap[k]?) → Q .normal e' W)
    (hstop : ∀ fn W x pre, Jx x pre W → (∀ k, w.heap.size ≤ k → k < sz → k ≠ l → W.heap[k]? = (w1 fn).heap[k]?) → (match x with | .ret => Q .ret e' W | .exit i => Q (.exit i) e' W | _ => False)) :
    Piece P n ds rd (.rangeFunc f ps asn body) Q e w := by
  intro hok
  simp only [okC, Bool.and_eq_true] at hok
  obtain ⟨⟨⟨⟨o1, o2⟩, o3⟩, o4⟩, o5⟩ := hok
  have o5 := Nat.le_of_ble_eq_true o5
  refine wpIn_rangeFunc ?_
  intro fn _
  obtain ⟨rec, hr⟩ : ∃ rec : LoopState → Option Code → Loop, rec = fun st pe => { state := st, pending := pe, fn := fn, tmps := (ag n ds e).tmps, params := ps, assign := asn, body := body, defers := D } := ⟨_, rfl⟩
  have hlw : l < sz := by rw [← hsz fn]; exact (Array.getElem?_eq_some_iff.1 (hrec fn)).1
  have hrec0 : (w1 fn).heap[l]? = some (.loop (rec .ready none)) := by rw [hr]; exact hrec fn
  refine ⟨l, mk, w1 fn, { target := .fn (.func g) cap, args := #[.func (.yield l) #[] #[]] }, w1 fn, g, #[.func (.yield l) #[] #[]] ++ cap, w1 fn, henter fn, ?_, fun _ _ => trivial, ?_, fun h => by simp [fen, Fence.wide] at h, ?_⟩
  · simp only [resolve, rangeCall, ag_eval o1, hf]
    simp [go_sem]
  · simp [invoke, go_sem, run_callFunc hg]
  rw [hmk]
  have hargs : (#[.func (.yield l) #[] #[]] ++ cap : Array Value) = (.func (.yield l) #[] #[] :: cap.toList).toArray := by
    apply Array.toList_inj.1; simp
  rw [hargs]
  have keepT : ∀ {W W' : World}, (∀ k, w.heap.size ≤ k → k < sz → k ≠ l → W.heap[k]? = (w1 fn).heap[k]?) → sz ≤ W.heap.size → Kp W W' → ∀ k, w.heap.size ≤ k → k < sz → k ≠ l → W'.heap[k]? = (w1 fn).heap[k]? := fun h hs hk k h1 h2 h3 => (hk.block k (by omega) id).trans (h k h1 h2 h3)
  have hcall := it.h l (fun pre W => J pre W ∧ W.heap[l]? = some (.loop (rec .ready none)) ∧ sz ≤ W.heap.size ∧ ∀ k, w.heap.size ≤ k → k < sz → k ≠ l → W.heap[k]? = (w1 fn).heap[k]?)
    (fun pre W => ∃ x c, ((x = .ret ∧ c = .ret) ∨ ∃ i, x = .exit i ∧ c = .exit i) ∧ Jx x pre W ∧ W.heap[l]? = some (.loop (rec .done (some c))) ∧ sz ≤ W.heap.size ∧ ∀ k, w.heap.size ≤ k → k < sz → k ≠ l → W.heap[k]? = (w1 fn).heap[k]?)
    (w1 fn) (fun pre W W' ⟨a, b, c, d⟩ hk => ⟨hJ _ _ _ a (hk.mono fun _ hf => hf.elim), (hk.block l (by omega) id).trans b, Nat.le_trans c hk.size, keepT d c hk⟩)
    (fun pre W W' ⟨x, cd, hx, a, b, c, d⟩ hk => ⟨x, cd, hx, hJx _ _ _ _ a (hk.mono fun _ hf => hf.elim), (hk.block l (by omega) id).trans b, Nat.le_trans c hk.size, keepT d c hk⟩)
    (fun pre W h => hC pre W h.1) ?_ ⟨hJ _ _ _ h0 ((hold fn).mono fun _ hf => hf.elim), hrec0, by rw [hsz fn]; exact Nat.le_refl _, fun _ _ _ _ => rfl⟩
  · have hcall' : CallsIn (fen rd) (0 - 1) P g (.func (.yield l) #[] #[] :: cap.toList).toArray (w1 fn) _ := (callsIn_wide (n := 0)).2 hcall
    refine hcall'.mono ?_
    intro en W2 hr2
    cases en with
    | returned v =>
      rcases hr2 with ⟨a, b, c, d⟩ | ⟨pre, x, cd, hx, a, b, c, d⟩
      · have hend := run_endLoop (P := P) b (by rw [hr]; simp)
        rw [hr] at hend
        refine ⟨none, _, hend, e', rfl, hdone fn _ (hJ _ _ _ a (putObj_chg _ _ ⟨hl, hlw⟩)) fun k h1 h2 h3 => ?_⟩
        rw [World.putObj_heap_other h3]; exact d k h1 h2 h3
      · have hend := run_endLoop (P := P) b (by rw [hr]; simp)
        rw [hr] at hend
        refine ⟨some cd, _, hend, ?_⟩
        rcases hx with ⟨rfl, rfl⟩ | ⟨i, rfl, rfl⟩
        · exact wpIn_ret ⟨e', rfl, hstop fn _ .ret pre (hJx _ _ _ _ a (putObj_chg _ _ ⟨hl, hlw⟩)) (fun k h1 h2 h3 => by rw [World.putObj_heap_other h3]; exact d k h1 h2 h3)⟩
        · exact wpIn_exit ⟨e', rfl, hstop fn _ (.exit i) pre (hJx _ _ _ _ a (putObj_chg _ _ ⟨hl, hlw⟩)) (fun k h1 h2 h3 => by rw [World.putObj_heap_other h3]; exact d k h1 h2 h3)⟩
    | _ => exact hr2.elim
  · rintro pre x vs W ⟨hj, hl2, hs2, hk2⟩ hpre hE
    have hrun := run_yield (P := P) (args := vs.toArray) hl2 (by rw [hr]; simp [hps W x vs hE])
    rw [hr] at hrun
    refine ⟨fn, _, asn, body, hrun, roundIn_of_wpIn trivial ?_⟩
    have hag : ({ tmps := (ps.zip vs.toArray).foldl (fun tmps (p : Tmp × Value) => tmps.setIfInBounds p.1 p.2) (ag n ds e).tmps, defers := [] } : Act) = ag n [] (setPs (upd e mark undef) (ps.toList.zip vs)) := by
      have h1 := setPs_ag n (ps.toList.zip vs) (upd e mark undef) (fun p hp => by
        have h2 := List.all_eq_true.1 o4 p.1 (List.of_mem_zip hp).1
        simpa [Nat.blt_eq] using h2)
      rw [← h1]
      have ht : (ag n [] (upd e mark undef)).tmps = (ag n ds e).tmps := by
        simp only [ag]
        congr 1
        refine List.map_congr_left fun t ht => ?_
        have : t < n := by simpa using ht
        simp only [upd, beqf (show ¬ t = mark by omega), cond_false]
      have hu : upd e mark undef mark = undef := by simp only [upd, show Nat.beq mark mark = true from Nat.beq_refl mark, cond_true]
      have hd : (ag n [] (upd e mark undef)).defers = [] := by show dsOf (upd e mark undef mark) ++ [] = []; rw [hu]; rfl
      rw [ht, hd]
      congr 1
      rw [← Array.foldl_toList, Array.toList_zip]
    rw [hag]
    have hs := VCC_sound (rd := some l) hG asn o2 (hbody pre x vs W hj hpre hE hs2 ⟨_, hl2⟩)
    refine wpIn_mono (F := fen (some l)) hs ?_
    rintro y a W1 ⟨e1, rfl, hq⟩
    cases y with
    | normal =>
      obtain ⟨hk1, hq⟩ := hq
      have hlW := (Array.getElem?_eq_some_iff.1 hl2).1
      have hz1 := hk1.size
      replace hl2 := (hk1.block l hlW id).trans hl2
      replace hk2 : ∀ k, w.heap.size ≤ k → k < sz → k ≠ l → W1.heap[k]? = (w1 fn).heap[k]? := fun k h1 h2 h3 => (hk1.block k (by omega) id).trans (hk2 k h1 h2 h3)
      refine ⟨_, run_beginRound hl2 (by rw [hr]), ?_⟩
      have hl3 : (W1.putObj l (.loop { rec .ready none with state := .busy })).heap[l]? = some (.loop { rec .ready none with state := .busy }) := World.putObj_heap_same (by omega)
      have hb := VCC_sound (rd := some l) hG body o3 (hq _ (by simp [World.putObj]) (putObj_chg _ _ rfl) ⟨_, hl3⟩)
      refine wpIn_mono (F := fen (some l)) hb ?_
      rintro y a W2 ⟨e2, rfl, hq2⟩
      have fin : ∀ (jump : Option Code), keepB w.heap.size sz (W1.putObj l (.loop { rec .ready none with state := .busy })) W2 →
          (Instr.endRound l jump).run P W2 = .ok (.bool jump.isNone) (W2.putObj l (.loop (rec (if jump.isNone then .ready else .done) jump))) ∧
          (W2.putObj l (.loop (rec (if jump.isNone then .ready else .done) jump))).heap[l]? = some (.loop (rec (if jump.isNone then .ready else .done) jump)) ∧
          sz ≤ (W2.putObj l (.loop (rec (if jump.isNone then .ready else .done) jump))).heap.size ∧
          ∀ k, w.heap.size ≤ k → k < sz → k ≠ l → (W2.putObj l (.loop (rec (if jump.isNone then .ready else .done) jump))).heap[k]? = (w1 fn).heap[k]? := fun jump hk => by
        have hl4 := (hk l hl hlw).trans hl3
        have hend := run_endRound (P := P) jump hl4
        have hlt := (Array.getElem?_eq_some_iff.1 hl4).1
        refine ⟨by rw [hr] at hend ⊢; exact hend, World.putObj_heap_same hlt, ?_, fun k h1 h2 h3 => ?_⟩
        · have : sz ≤ W2.heap.size := by
            rcases Nat.lt_or_ge W2.heap.size sz with h | h
            · exfalso
              have h5 := hk (sz - 1) (by omega) (by omega)
              rw [Array.getElem?_eq_none (by omega), Array.getElem?_eq_getElem (by simp [World.putObj]; omega)] at h5
              cases h5
            · exact h
          simpa [World.putObj] using this
        · rw [World.putObj_heap_other h3, hk k h1 h2, World.putObj_heap_other h3]
          exact hk2 k h1 h2 h3
      cases y with
      | normal =>
        obtain ⟨⟨hj2, hfr⟩, hkp⟩ := hq2
        obtain ⟨f1, f2, f3, f4⟩ := fin none hkp
        have hl4 := (hkp l hl hlw).trans hl3
        exact ⟨_, _, f1, .inl ⟨rfl, ⟨hJ _ _ _ hj2 (putObj_chg _ _ ⟨hl, hlw⟩), f2, f3, f4⟩, (FrT.kp hk1).trans ((FrT.obj hl2).trans (hfr.trans (FrT.obj hl4)))⟩⟩
      | ret =>
        obtain ⟨hj2, hkp⟩ := hq2
        obtain ⟨f1, f2, f3, f4⟩ := fin (some .ret) hkp
        exact ⟨_, _, f1, .inr ⟨rfl, .ret, .ret, .inl ⟨rfl, rfl⟩, hJx _ _ _ _ hj2 (putObj_chg _ _ ⟨hl, hlw⟩), f2, f3, f4⟩⟩
      | exit i =>
        obtain ⟨hj2, hkp⟩ := hq2
        obtain ⟨f1, f2, f3, f4⟩ := fin (some (.exit i)) hkp
        exact ⟨_, _, f1, .inr ⟨rfl, .exit i, .exit i, .inr ⟨i, rfl, rfl⟩, hJx _ _ _ _ hj2 (putObj_chg _ _ ⟨hl, hlw⟩), f2, f3, f4⟩⟩
      | _ => exact hq2.elim
    | _ => exact hq.elim

/-- a range over a function, outside of any round -/
theorem rangeFV (hG : Agree P Γ) {T : TypeId} {α : Type} {f : Operand} {ps : Array Tmp} {asn body : Code} {Q : Exit → Env → World → Prop} {e : Env} {w : World} {g : FuncId} {cap : Array Value} {E : World → α → List Value → Prop} {xs : List α} {C : World → Prop}
    (J : List α → World → Prop) (Jx : Exit → List α → World → Prop)
    (hf : ev e f = .func (.func g) #[] cap) (hg : callable P g = true) (it : IterV T P g cap.toList E xs C) (hps : ∀ W x vs, E W x vs → vs.length = ps.size)
    (hJ : ∀ pre W W', J pre W → Chg (fun k => w.heap.size ≤ k ∧ k < w.heap.size + 2) W W' → J pre W') (hJx : ∀ x pre W W', Jx x pre W → Chg (fun k => w.heap.size ≤ k ∧ k < w.heap.size + 2) W W' → Jx x pre W') (hC : ∀ pre W, J pre W → C W) (h0 : J [] w)
    (hbody : ∀ l pre x vs W, l = w.heap.size + 1 → J pre W → pre ++ [x] <+: xs → E W x vs → w.heap.size + 2 ≤ W.heap.size → (∃ r, W.heap[l]? = some (.loop r)) → VCC P Γ n [] (some l) asn (fun y e1 W1 => match y with
      | .normal => Kp W W1 ∧ ∀ W2, W2.heap.size = W1.heap.size → Chg (fun k => k = l) W1 W2 → (∃ r, W2.heap[l]? = some (.loop r)) → VCC P Γ n [] (some l) body (roundQ (fun V => J (pre ++ [x]) V ∧ FrT T W2 V) (fun y => Jx y (pre ++ [x])) (keepB w.heap.size (w.heap.size + 2) W2)) e1 W2
      | _ => False) (setPs (upd e mark undef) (ps.toList.zip vs)) W)
    (hdone : ∀ D W, D = w.heap.size → J xs W → W.heap[D]? = some (.deferred (some [])) → Q .normal (upd e mark (pushD D (e mark))) W)
    (hstop : ∀ D W x pre, D = w.heap.size → Jx x pre W → W.heap[D]? = some (.deferred (some [])) → (match x with | .ret => Q .ret (upd e mark (pushD D (e mark))) W | .exit i => Q (.exit i) (upd e mark (pushD D (e mark))) W | _ => False)) :
    Piece P n ds none (.rangeFunc f ps asn body) Q e w := by
  intro hok
  have hnm : n ≤ mark := by
    simp only [okC, Bool.and_eq_true] at hok
    exact Nat.le_of_ble_eq_true hok.2
  refine range_coreV (e' := upd e mark (pushD w.heap.size (e mark))) hG (w.heap.size + 1) [{ target := .collected w.heap.size, args := #[] }]
    (fun fn => (w.alloc (.deferred (some []))).alloc (.loop { state := .ready, pending := none, fn := fn, tmps := (ag n ds e).tmps, params := ps, assign := asn, body := body, defers := w.heap.size })) w.heap.size (w.heap.size + 2)
    (fun fn => run_enterLoop_outer _ _ _ _ _) (fun fn => ?_) (fun fn => (Chg.alloc _ _ _).trans (Chg.alloc _ _ _)) (fun fn => by simp) (by omega) ?_ hf hg it hps J Jx hJ hJx hC h0 (fun pre x vs W a b c d e => hbody _ pre x vs W rfl a b c d e)
    (fun fn W a b => hdone _ W rfl a ?_) (fun fn W x pre a b => hstop _ W x pre rfl a ?_) hok
  · have := World.alloc_heap_new (w.alloc (.deferred (some []))) (.loop { state := .ready, pending := none, fn := fn, tmps := (ag n ds e).tmps, params := ps, assign := asn, body := body, defers := w.heap.size })
    rwa [World.size_alloc] at this
  · have hu : upd e mark (pushD w.heap.size (e mark)) mark = pushD w.heap.size (e mark) := by simp only [upd, show Nat.beq mark mark = true from Nat.beq_refl mark, cond_true]
    simp only [ag, hu, dsOf, dsN_push, List.map_cons, List.cons_append, List.nil_append]
    congr 2
    refine List.map_congr_left fun t ht => ?_
    have : t < n := by simpa using ht
    simp only [upd, beqf (show ¬ t = mark by omega), cond_false]
  · rw [b w.heap.size (Nat.le_refl _) (by omega) (by omega)]
    exact (Below.heap_alloc _ _ _ (by simp)).trans (World.alloc_heap_new w _)
  · rw [b w.heap.size (Nat.le_refl _) (by omega) (by omega)]
    exact (Below.heap_alloc _ _ _ (by simp)).trans (World.alloc_heap_new w _)

end
end Go.Au

namespace Go.Au
open Go Go.RowKit

/-! ### numbers as texts, paths, walks -/
theorem callSmall : callable Proofs.Tryz.prog 274 = true := by kernel_rfl
theorem callFmtInt : callable Proofs.Tryz.prog 271 = true := by kernel_rfl
theorem callItoa0 : callable Proofs.Tryz.prog 248 = true := by kernel_rfl
theorem callItoa : callable Proofs.Tryz.prog 232 = true := by kernel_rfl
theorem itoa_c (w : World) (i : Nat) (hi : i < 10) : Calls Proofs.Tryz.prog 232 [.int .i64 i].toArray w (Ret fun r w' => (∃ s : ByteArray, r = .string s ∧ s.size ≤ 1) ∧ Kp w w') := by
  have h1 : ∀ w, Calls Proofs.Tryz.prog 274 [.int .i64 i].toArray w (Ret fun r w' => (∃ s : ByteArray, r = .string s ∧ s.size ≤ 1) ∧ Kp w w') := fun w => by
    refine call agree Proofs.Tryz.func274 rfl Proofs.Tryz.ntmps274 (by kernel_rfl) ?_
    refine spT (by omega) ?_
    refine aw (by omega) (by omega) ?_
    refine ne ⟨by omega, by omega, by show (i : Int) + 1 ≤ 36; omega⟩ ?_
    refine ⟨⟨_, rfl, ?_⟩, Chg.refl _ _⟩
    rw [ByteArray.size_extract]
    omega
  have h2 : ∀ w, Calls Proofs.Tryz.prog 271 [.int .i64 i, .int .i64 10].toArray w (Ret fun r w' => (∃ s : ByteArray, r = .string s ∧ s.size ≤ 1) ∧ Kp w w') := fun w => by
    refine call agree Proofs.Tryz.func271 rfl Proofs.Tryz.ntmps271 (by kernel_rfl) ?_
    refine spT rfl ?_
    refine spT (by omega) ?_
    refine spT (by omega) ?_
    refine cl callSmall (h1 w) ?_
    rintro _ w1 ⟨⟨s, rfl, hs⟩, k1⟩
    exact ⟨⟨s, rfl, hs⟩, k1⟩
  have h3 : ∀ w, Calls Proofs.Tryz.prog 248 [.int .i64 i].toArray w (Ret fun r w' => (∃ s : ByteArray, r = .string s ∧ s.size ≤ 1) ∧ Kp w w') := fun w => by
    refine call agree Proofs.Tryz.func248 rfl Proofs.Tryz.ntmps248 (by kernel_rfl) ?_
    refine cl callFmtInt (h2 w) ?_
    rintro _ w1 ⟨⟨s, rfl, hs⟩, k1⟩
    exact ⟨⟨s, rfl, hs⟩, k1⟩
  refine call agree Proofs.Tryz.func232 rfl Proofs.Tryz.ntmps232 (by kernel_rfl) ?_
  refine cl callItoa0 (h3 w) ?_
  rintro _ w1 ⟨⟨s, rfl, hs⟩, k1⟩
  exact ⟨⟨s, rfl, hs⟩, k1⟩
theorem callBelow : callable Proofs.Tryz.prog 234 = true := by kernel_rfl
theorem below_c (w : World) (path : ByteArray) (i : Nat) (hi : i < 10) (hp : path.size < 1099511627776) : Calls Proofs.Tryz.prog 234 [.string path, .int .i64 i].toArray w (Ret fun r w' => (∃ s : ByteArray, r = .string s ∧ s.size ≤ path.size + 2) ∧ Kp w w') := by
  refine call agree Proofs.Tryz.func234 rfl Proofs.Tryz.ntmps234 (by kernel_rfl) ?_
  refine sp (fun h => ?_) (fun h => ?_)
  · refine cl callItoa (itoa_c w i hi) ?_
    rintro _ w1 ⟨⟨s, rfl, hs⟩, k1⟩
    exact ⟨⟨s, rfl, by omega⟩, k1⟩
  · refine ne (by show ((path.size + 1 : Nat) : Int) ≤ _; omega) ?_
    refine cl callItoa (itoa_c w i hi) ?_
    rintro _ w1 ⟨⟨s, rfl, hs⟩, k1⟩
    have hsz : (path ++ (⟨#[46]⟩ : ByteArray)).size = path.size + 1 := by rw [ByteArray.size_append]; rfl
    refine ne (by show (((path ++ (⟨#[46]⟩ : ByteArray)).size + s.size : Nat) : Int) ≤ _; rw [hsz]; omega) ?_
    refine ⟨⟨_, rfl, ?_⟩, k1⟩
    rw [ByteArray.size_append, hsz]
    omega
def EW (_ : World) (x : Fm) (vs : List Value) : Prop := ∃ s a c, vs = [.string s, fmA x (.slice a x.kids.length c)]
theorem alls_take {k : List Fm} {i : Nat} {x : Fm} (h : k[i]? = some x) : Fm.alls (k.take (i + 1)) = Fm.alls (k.take i) ++ x.all := by
  obtain ⟨hi, rfl⟩ := List.getElem?_eq_some_iff.1 h
  rw [List.take_succ_eq_append_getElem hi, Fm.alls_append]
  simp [Fm.alls]
theorem all_kids (f : Fm) : f.all = f :: Fm.alls f.kids := by obtain ⟨o, n, k⟩ := f; rfl
theorem alls_split (k : List Fm) (i : Nat) : Fm.alls k = Fm.alls (k.take i) ++ Fm.alls (k.drop i) := by rw [← Fm.alls_append, List.take_append_drop]
theorem kids_two {f : Fm} (h : Fm.formed Fm.future f = true) : f.kids.length ≤ 2 := by
  have h1 := (Fm.headOk_spec (Fm.formed_kids h).1)
  have h2 := kidsTab_range h1.1
  have h3 := h1.2.2.1
  omega
theorem callWalk : callable Proofs.Tryz.prog 194 = true := by kernel_rfl
theorem walk_c {l : Nat} {J Jx : List Fm → World → Prop} {xs : List Fm} {w0 : World} {lo hi : Nat} (hJ : ∀ pre W W', J pre W → Kp W W' → J pre W') (hC : ∀ pre W, J pre W → Chg (fun k => ¬ (lo ≤ k ∧ k < hi)) w0 W)
    (hy : ∀ pre x vs W, J pre W → pre ++ [x] <+: xs → EW W x vs → YieldAt Fence.wide 0 Proofs.Tryz.prog l vs.toArray W (Ret fun v W' => (v = .bool true ∧ J (pre ++ [x]) W' ∧ FrT 26 W W') ∨ (v = .bool false ∧ Jx (pre ++ [x]) W'))) :
    ∀ (n : Nat) (v : Value) (f : Fm) (path : ByteArray) (pre : List Fm) (W : World), KidsN n lo hi w0 v f.kids → Fm.formed Fm.future f = true → f.size < 100000000 → path.size + 2 * f.depth < 1000000000 → pre ++ f.all <+: xs → J pre W →
    Calls Proofs.Tryz.prog 194 [fmA f v, .string path, .func (.yield l) #[] #[]].toArray W (Ret fun r W' => (r = .bool true ∧ J (pre ++ f.all) W' ∧ FrT 26 W W') ∨ (r = .bool false ∧ ∃ q, Jx q W')) := by
  intro n
  induction n using Nat.strongRecOn with
  | ind n ih =>
    intro v f path pre W h hf hs hpa hpre hj
    have hob := h.slice
    obtain ⟨a, c, rfl, hc⟩ := hob
    have hkl := kids_two hf
    have hfs := size_kids f
    have hfd := depth_kids f
    have hfk := (Fm.formed_kids hf).2
    have hall := all_kids f
    have hreg : ∀ k, lo ≤ k → k < hi → ¬ ¬ (lo ≤ k ∧ k < hi) := fun k h1 h2 hn => hn ⟨h1, h2⟩
    refine call agree Proofs.Tryz.func194 rfl Proofs.Tryz.ntmps194 (by kernel_rfl) ?_
    refine nd fun p w1 e1 s1 k1 m1 => ?_
    have m1 : Own w1 p 26 (fmC f (.slice a f.kids.length c)) := m1
    refine ld agree (Own.at_ (xs := fmC f (.slice a f.kids.length c)) m1 rfl) (by rfl) ?_
    have hj1 := hJ _ _ _ hj k1
    refine cl callCopy (copy_c n lo hi w1 _ f (h.chg (hC _ _ hj1) hreg) (by omega)) ?_
    rintro _ w2 ⟨k2, u, rfl, hu⟩
    have hob := hu.slice
    obtain ⟨ua, uc, rfl, -⟩ := hob
    have hj2 := hJ _ _ _ hj1 k2
    have hpre1 : pre ++ [f] <+: xs := by
      refine List.IsPrefix.trans ?_ hpre
      rw [hall]
      exact ⟨Fm.alls f.kids, by simp⟩
    refine ⟨yieldMono (hy pre f _ w2 hj2 hpre1 ⟨path, ua, uc, rfl⟩) ?_⟩
    intro en w3 hr
    cases en with
    | returned v =>
      rcases hr with ⟨rfl, hj3, hfr⟩ | ⟨rfl, hx⟩
      · have m3 : Own w3 p 26 (fmC f (.slice a f.kids.length c)) := hfr.own (k2.own m1 id)
        have hf0 : FrT 26 W w3 := (FrT.kp (k1.trans k2)).trans hfr
        refine ld agree (Own.at_ (xs := [.slice a f.kids.length c]) m3 rfl) (by rfl) ?_
        refine loop agree (σ := Nat) (fun i => [(1, .string path), (2, .func (.yield l) #[] #[]), (16, .slice a f.kids.length c), (17, .int .i64 f.kids.length), (18, .int .i64 i)])
          (fun i V => i ≤ f.kids.length ∧ J (pre ++ (f :: Fm.alls (f.kids.take i))) V ∧ FrT 26 W V) (fun i => f.kids.length - i) 0 ⟨rfl, rfl, rfl, rfl, rfl, trivial⟩ ⟨by omega, hj3, hf0⟩ ?_
        rintro i e0 w4 ⟨hi, hj4, hf4⟩
        refine sp (fun h1 => ?_) (fun h1 => ?_)
        · have hi' : i < f.kids.length := by omega
          have hx := List.getElem?_eq_getElem hi'
          have hst := sizes_take hx
          have hsl := sizes_take_le f.kids (i + 1)
          have hat := alls_take hx
          have hasp := alls_split f.kids (i + 1)
          generalize f.kids[i] = x at hx hst hat
          have hxm := List.mem_of_getElem? hx
          have hxd := Fm.depths_mem hxm
          obtain _ | n := n
          · exact (h.kid0 hx).elim
          have hob := h.kid hx
          obtain ⟨b, o, u, rfl, hlo, hbh, hrd, hku⟩ := hob
          have hob := hku.slice
          obtain ⟨va, vc, rfl, -⟩ := hob
          refine ne ⟨by omega, h1⟩ ?_
          refine ld agree ((hC _ _ hj4).range hrd (hreg b hlo hbh)) (by rfl) ?_
          refine nd fun m5 w5 e5 s5 k5 hm5 => ?_
          refine st agree hm5 rfl (Nat.le_refl 3) rfl fun w6 e6 k6 hm6 => ?_
          have hm6 : Own w6 m5 26 (fmC x (.slice va x.kids.length vc)) := hm6
          have k46 : Kp w4 w6 := k5.newS k6 (fun j hj => by subst hj; omega)
          have hj6 := hJ _ _ _ hj4 k46
          refine drawnK agree mixed 5 [1, 2, 3, 0, 4] (by kernel_rfl) ?_
          conv => whnf
          refine callf (τ := ByteArray) (fun s => .string s) (fun s _ => s.size ≤ path.size + 2) rfl rfl rfl (fun _ _ _ h _ => h) callBelow (fun V hV _ => ?_) fun s D hD => ?_
          · refine (below_c V path i (by omega) (by omega)).mono ?_
            intro en V' he
            cases en with
            | returned r =>
              obtain ⟨⟨s, rfl, hs⟩, k⟩ := he
              exact ⟨k, s, rfl, hs⟩
            | _ => exact he
          conv => whnf
          refine ldk agree rfl rfl (fun V h _ => Own.at_ (xs := fmC x (.slice va x.kids.length vc)) (h.own hm6 id) rfl) (by rfl) fun _ => ?_
          conv => whnf
          intro V hV h2
          have hs2 : s.size ≤ path.size + 2 := hD V (h2 3)
          have hjV := hJ _ _ _ hj6 hV
          have hprex : (pre ++ (f :: Fm.alls (f.kids.take i))) ++ x.all <+: xs := by
            refine List.IsPrefix.trans ?_ hpre
            rw [hall, hasp, hat]
            exact ⟨Fm.alls (f.kids.drop (i + 1)), by simp⟩
          refine cl callWalk (ih n (by omega) _ x s _ V hku (hfk x hxm) (by omega) (by omega) hprex hjV) ?_
          rintro _ w7 (⟨rfl, hj7, hf7⟩ | ⟨rfl, q, hq⟩)
          · refine aw (by omega) (by omega) ?_
            refine again (i + 1) ⟨rfl, rfl, rfl, rfl, rfl, trivial⟩ ⟨by omega, ?_, (hf4.trans (FrT.kp (k46.trans hV))).trans hf7⟩ (by omega)
            rw [hat]
            simpa using hj7
          · exact .inr ⟨rfl, q, hq⟩
        · have hil : i = f.kids.length := by omega
          subst hil
          rw [List.take_length] at hj4
          exact .inl ⟨rfl, by rw [hall]; exact hj4, hf4⟩
      · exact .inr ⟨rfl, _, hx⟩
    | _ => exact hr.elim
end Go.Au

namespace Go.Au
open Go Go.RowKit Go.MapKept
open Go.Maps (Keyed)

/-! ### All, Names -/
theorem strKeyed : Keyed Proofs.Tryz.prog 9 := Maps.string_keyed Proofs.Tryz.underlying9
theorem strKey {s : ByteArray} (h : s.size ≤ 32) : ∃ lit, keyOf Proofs.Tryz.prog 9 (.string s) = some lit := ⟨_, WideMaps.keyOf_string_mk Proofs.Tryz.underlying9 (by simp only [maxLen]; omega)⟩
theorem alook_ones {l : List ByteArray} {s : ByteArray} (h : s ∈ l) : alook (l.map fun s => (s, (1 : Int))) s = some 1 := by
  induction l with
  | nil => simp at h
  | cons a r ih =>
    simp only [List.map_cons, alook]
    by_cases h' : a = s
    · rw [if_pos h']
    · rw [if_neg h', ih ((List.mem_cons.1 h).resolve_left (Ne.symm h'))]
theorem alook_zeros {l : List ByteArray} {s : ByteArray} (h : s ∉ l) : alook (l.map fun s => (s, (1 : Int))) s = none :=
  alook_none fun p hp he => by
    obtain ⟨x, hx, rfl⟩ := List.mem_map.1 hp
    exact h (he ▸ hx)
abbrev fS1 (x : ByteArray) : List Value := [.string x]
theorem ownsRow_lo {w : World} {base base' size n : Nat} {el : TypeId} {v : Value} {xs : List Value} (h : w.ownsRow base el size v n xs) (hb : base' ≤ base) : w.ownsRow base' el size v n xs := by
  refine ⟨h.1, h.2.imp id ?_⟩
  rintro ⟨g, cap, cur, a1, a2, a3⟩
  exact ⟨g, cap, cur, a1, by omega, a3⟩
theorem callAll1 : callable Proofs.Tryz.prog 193 = true := by kernel_rfl
theorem allI {w0 : World} {o lo n : Nat} {u : Value} {f : Fm} (hlo : lo ≤ o) (ho : Own w0 o 26 (fmC f u)) (h : KidsN n lo o w0 u f.kids) (hf : Fm.formed Fm.future f = true) (hs : f.size < 100000000) :
    IterV 26 Proofs.Tryz.prog 193 [pt o 0] EW f.all (fun W => Chg (fun k => ¬ (lo ≤ k ∧ k < o + 1)) w0 W) := by
  constructor
  intro l J Jx W hJ hJx hC hy h0
  have hds := Fm.depth_le_size f
  have hob := h.slice
  obtain ⟨a, c, rfl, hc⟩ := hob
  have hC0 := hC _ _ h0
  refine call agree Proofs.Tryz.func193 rfl Proofs.Tryz.ntmps193 (by kernel_rfl) ?_
  refine ld agree (Own.at_ (xs := fmC f (.slice a f.kids.length c)) (hC0.own ho fun hn => hn ⟨hlo, by omega⟩) rfl) (by rfl) ?_
  refine cl callWalk (walk_c (lo := lo) (hi := o + 1) hJ hC hy n _ f ⟨#[]⟩ [] W (h.mono (Nat.le_refl _) (by omega)) hf hs (by show 0 + 2 * f.depth < _; omega) (List.prefix_refl _) h0) ?_
  rintro _ w7 (⟨rfl, hj7, hf7⟩ | ⟨rfl, q, hq⟩)
  · exact .inl hj7
  · exact .inr ⟨q, hq⟩
theorem callAll : callable Proofs.Tryz.prog 167 = true := by kernel_rfl
theorem all_c {n lo hi : Nat} {w : World} {v : Value} {f : Fm} (h : KidsN n lo hi w v f.kids) (hs : f.size < 100000000) :
    Calls Proofs.Tryz.prog 167 [fmA f v].toArray w (Ret fun r w' => Kp w w' ∧ ∃ o u, r = .func (.func 193) #[] #[pt o 0] ∧ w.heap.size ≤ o ∧ o < w'.heap.size ∧ Own w' o 26 (fmC f u) ∧ KidsN n w.heap.size o w' u f.kids) := by
  have hob := h.slice
  obtain ⟨a, c, rfl, hc⟩ := hob
  refine call agree Proofs.Tryz.func167 rfl Proofs.Tryz.ntmps167 (by kernel_rfl) ?_
  refine nd fun p w1 e1 s1 k1 m1 => ?_
  have m1 : Own w1 p 26 (fmC f (.slice a f.kids.length c)) := m1
  refine ld agree (Own.at_ (xs := fmC f (.slice a f.kids.length c)) m1 rfl) (by rfl) ?_
  refine cl callCopy (copy_c n lo hi w1 _ f (h.kp k1) (by omega)) ?_
  rintro _ w2 ⟨k2, u, rfl, hu⟩
  have hob := hu.slice
  obtain ⟨ua, uc, rfl, -⟩ := hob
  refine nd fun o w3 e3 s3 k3 m3 => ?_
  refine st agree m3 rfl (Nat.le_refl 3) rfl fun w4 e4 k4 m4 => ?_
  have m4 : Own w4 o 26 (fmC f (.slice ua f.kids.length uc)) := m4
  have k24 : Kp w2 w4 := k3.newS k4 (fun j hj => by subst hj; omega)
  have z2 := k2.size
  exact ⟨(k1.trans k2).trans k24, o, _, rfl, by omega, by omega, m4, (hu.kp k24).mono (by omega) (by omega)⟩
theorem names_bound (f : Fm) : (Fm.names f).length ≤ f.size := by
  have : ∀ (l : List Fm) (a : List ByteArray), (l.foldl Fm.addN a).length ≤ a.length + l.length := fun l => by
    induction l with
    | nil => intro a; simp
    | cons x r ih =>
      intro a
      have h1 := ih (Fm.addN a x)
      have h2 : (Fm.addN a x).length ≤ a.length + 1 := by unfold Fm.addN; split <;> simp
      simp only [List.foldl_cons, List.length_cons]
      omega
  have h := this f.all []
  rw [Fm.all_len] at h
  simpa [Fm.names] using h
theorem pre_bound {pre : List Fm} {f : Fm} (h : pre <+: f.all) : (pre.foldl Fm.addN []).length ≤ pre.length ∧ pre.length ≤ f.size := by
  refine ⟨?_, by rw [← Fm.all_len]; exact h.length_le⟩
  have : ∀ (l : List Fm) (a : List ByteArray), (l.foldl Fm.addN a).length ≤ a.length + l.length := fun l => by
    induction l with
    | nil => intro a; simp
    | cons x r ih =>
      intro a
      have h1 := ih (Fm.addN a x)
      have h2 : (Fm.addN a x).length ≤ a.length + 1 := by unfold Fm.addN; split <;> simp
      simp only [List.foldl_cons, List.length_cons]
      omega
  simpa using this pre []
theorem nameB_size {s : ByteArray} (h : Fm.nameB s = true) : s.size ≤ 32 := by
  simp only [Fm.nameB, Bool.and_eq_true, decide_eq_true_eq] at h
  exact h.1.2
theorem formed_name {f : Fm} (h : Fm.formed Fm.future f = true) (h3 : f.op = 3) : Fm.nameB f.name = true := by
  have h1 := (Fm.headOk_spec (Fm.formed_kids h).1).2.2.2.2
  unfold Fm.nmOk at h1
  rw [if_pos h3] at h1
  exact h1
theorem callNames : callable Proofs.Tryz.prog 127 = true := by kernel_rfl
set_option maxHeartbeats 1000000 in
theorem names_c {n lo hi : Nat} {w : World} {v : Value} {f : Fm} (h : KidsN n lo hi w v f.kids) (hs : f.size < 100000000) (hf : Fm.formed Fm.future f = true) :
    Calls Proofs.Tryz.prog 127 [fmA f v].toArray w (Ret fun r w' => Kp w w' ∧ w'.ownsRow w.heap.size 9 1 r (Fm.names f).length ((Fm.names f).flatMap fS1)) := by
  have hob := h.slice
  obtain ⟨a, c, rfl, hc⟩ := hob
  refine call agree Proofs.Tryz.func127 rfl Proofs.Tryz.ntmps127 (by kernel_rfl) ?_
  refine nd fun p w1 e1 s1 k1 m1 => ?_
  have m1 : Own w1 p 26 (fmC f (.slice a f.kids.length c)) := m1
  refine nd fun b3 w2 e2 s2 k2 m2 => ?_
  have m2 : Own w2 b3 27 [nilS] := m2
  refine nd fun m w3 e3 s3 k3 hm => ?_
  refine nd fun b4 w4 e4 s4 k4 m4 => ?_
  refine st agree m4 rfl (Nat.le_refl 1) rfl fun w5 e5 k5 m5 => ?_
  have m5 : Own w5 b4 230 [.map (some m)] := m5
  have k45 : Kp w3 w5 := k4.newS k5 (fun j hj => by subst hj; omega)
  have k25 : Kp w2 w5 := k3.trans k45
  have k05 : Kp w w5 := (k1.trans k2).trans k25
  have hme : MapE Proofs.Tryz.prog 9 (fun s => .string s) (fun n : Int => .int .i64 n) w5 m ((([] : List Fm).foldl Fm.addN []).map fun s => (s, (1 : Int))) := (MapE.made hm fun x y h => by injection h).chg k45 id
  refine ld agree (Own.at_ (xs := fmC f (.slice a f.kids.length c)) ((k2.trans k25).own m1 id) rfl) (by rfl) ?_
  refine cl callAll (all_c (h.kp k05) hs) ?_
  rintro _ w6 ⟨k6, o, u, rfl, ho1, ho2, mo, hou⟩
  have m2 := k6.own (k25.own m2 id) id
  have m5 := k6.own m5 id
  have hme := hme.chg k6 id
  have hbb : w.heap.size ≤ b3 ∧ b3 < m ∧ m < b4 ∧ b4 < w6.heap.size := by have := k6.size; omega
  refine rangeFV agree (cap := #[pt o 0]) (xs := f.all) (E := EW)
    (fun pre W => pre <+: f.all ∧ ∃ vn, Chg (fun k => k = b3 ∨ k = m) w6 W ∧ Own W b3 27 [vn] ∧ Own W b4 230 [.map (some m)] ∧ W.ownsRow (w6.heap.size + 2) 9 1 vn (pre.foldl Fm.addN []).length ((pre.foldl Fm.addN []).flatMap fS1) ∧ MapE Proofs.Tryz.prog 9 (fun s => .string s) (fun n : Int => .int .i64 n) W m ((pre.foldl Fm.addN []).map fun s => (s, (1 : Int))))
    (fun _ _ _ => False) rfl callAll1 (allI (by omega) mo hou hf hs) (fun W x vs ⟨s, a, c, h⟩ => by rw [h]; rfl) ?_ (fun _ _ _ _ h => h.elim) ?_ ⟨List.nil_prefix, nilS, Chg.refl _ _, m2, m5, ⟨rfl, .inl ⟨rfl, rfl⟩⟩, hme⟩ ?_ ?_ (fun _ _ _ _ _ h => h.elim)
  · rintro pre W W' ⟨hp, vn, h1, h2, h3, h4, h5⟩ hk
    exact ⟨hp, vn, h1.newT hk fun j hj => .inr hj.1, hk.own h2 (by omega), hk.own h3 (by omega), ownsRow_chg h4 hk fun g hg => by have := ownsRow_base h4 hg; omega, h5.chg hk (by omega)⟩
  · rintro pre W ⟨hp, vn, h1, -⟩
    exact h1.mono fun j hj => by omega
  · rintro l pre x vs W hl ⟨hp, vn, hc1, n3, n4, hrow, hmp⟩ hpre hE hsz -
    obtain ⟨sx, xa, xc, rfl⟩ := hE
    refine nd fun b6 wa ea sa ka ma => ?_
    refine st agree ma rfl (Nat.le_refl 3) rfl fun wb eb kb mb => ?_
    have mb : Own wb b6 26 (fmC x (.slice xa x.kids.length xc)) := mb
    have kWb : Kp W wb := ka.newS kb (fun j hj => by subst hj; omega)
    refine ⟨kWb, fun W2 hs2 hc2 hl2 => ?_⟩
    have hxm : x ∈ f.all := hpre.subset (by simp)
    have hfx := Fm.formed_all hf hxm
    have hrg := row_slice hrow
    obtain ⟨va, vc, rfl, -, hvb⟩ := hrg
    have hb6 : W.heap.size = b6 := ea
    have n3 : Own W2 b3 27 [.slice va (pre.foldl Fm.addN []).length vc] := hc2.own (kWb.own n3 id) (by omega)
    have n4 : Own W2 b4 230 [.map (some m)] := hc2.own (kWb.own n4 id) (by omega)
    have mb : Own W2 b6 26 (fmC x (.slice xa x.kids.length xc)) := hc2.own mb (by omega)
    have hrow := ownsRow_chg (ownsRow_chg hrow kWb fun _ _ => id) hc2 fun g hg => by have := (hvb g hg).1; omega
    have hmp := (hmp.chg kWb id).chg hc2 (by omega)
    have hc2 : Chg (fun k => k = b3 ∨ k = m) w6 W2 := (hc1.newT kWb fun _ hf => hf.elim).newT hc2 fun j hj => .inr (by omega)
    have hz2 := hc2.size
    have hbn := pre_bound hp
    have hfo : (pre ++ [x]).foldl Fm.addN [] = Fm.addN (pre.foldl Fm.addN []) x := by rw [List.foldl_append]; rfl
    generalize hN : pre.foldl Fm.addN [] = N at *
    have hnew : ∀ k, w6.heap.size ≤ k → k < w6.heap.size + 2 → k ≠ b3 ∧ k ≠ m := fun k h1 h2 => by omega
    refine ld agree (Own.at_ (xs := [.int .u8 x.op]) mb rfl) (by rfl) ?_
    refine sp (fun h3 => ?_) (fun h3 => ?_)
    · have h3' : x.op = 3 := by omega
      have hsz32 := nameB_size (formed_name hfx h3')
      refine ld agree (Own.at_ (xs := [.map (some m)]) n4 rfl) (by rfl) ?_
      refine ld agree (Own.at_ (xs := [.string x.name]) mb rfl) (by rfl) ?_
      have hlk := MapE.lookup agree strKeyed (t := 230) rfl rfl rfl hmp x.name (strKey hsz32) false
      by_cases hin : x.name ∈ N
      · rewrite [alook_ones hin] at hlk
        refine lk hlk ?_
        refine spF (by decide) ?_
        have hadd : Fm.addN N x = N := by unfold Fm.addN; rw [if_neg fun hh => Fm.idx_neg.1 hh.2 hin]
        rewrite [hadd] at hfo
        refine ⟨⟨⟨hpre, _, hc2, n3, n4, ?_, ?_⟩, FrT.refl _ _⟩, fun k _ _ => rfl⟩
        · rewrite [hfo]; exact hrow
        · rewrite [hfo]; exact hmp
      · rewrite [alook_zeros hin] at hlk
        have hadd : Fm.addN N x = N ++ [x.name] := by unfold Fm.addN; rw [if_pos ⟨h3', Fm.idx_neg.2 hin⟩]
        rewrite [hadd] at hfo
        refine lk hlk ?_
        refine spT (by decide) ?_
        refine ld agree (Own.at_ (xs := [.map (some m)]) n4 rfl) (by rfl) ?_
        refine ld agree (Own.at_ (xs := [.string x.name]) mb rfl) (by rfl) ?_
        refine lk hlk ?_
        refine aw (by decide) (by decide) ?_
        refine mu (MapE.update agree strKeyed (t := 230) rfl rfl hmp x.name 1 (strKey hsz32)) ?_
        rintro V ⟨hmV, hsV, hcV⟩
        rewrite [aput_new (fun p hp he => by
          obtain ⟨s, hs, rfl⟩ := List.mem_map.1 hp
          exact hin (he ▸ hs))] at hmV
        have hrow2 := hrow
        have n32 := n3
        have n3 := hcV.own n3 (by omega)
        have n4 := hcV.own n4 (by omega)
        have hne6 : b6 ≠ m := by omega
        have mb := hcV.own mb hne6
        have hrow := ownsRow_chg hrow hcV fun g hg => by have := (hvb g hg).1; omega
        refine ld agree (Own.at_ (xs := [.slice va N.length vc]) n3 rfl) (by rfl) ?_
        refine ld agree (Own.at_ (xs := [.string x.name]) mb rfl) (by rfl) ?_
        refine ne (by decide) ?_
        refine nd fun bq Vq eq sq kq mq => ?_
        have mq : Own Vq bq 9 [.string x.name] := mq
        refine apP (m := 1) (news := [.string x.name]) agree rfl rfl rfl rfl rfl rfl rfl (by decide) (ownsRow_chg hrow kq fun _ _ => id) rfl (Own.at_ (o := 0) mq rfl) rfl (by simp only [maxLen]; omega) (by show (_ + 1) * 16 ≤ _; omega) (by have := kq.size; omega) fun v' U hrowU hcU hnewU _ => ?_
        have hvb2 : ∀ j, some j = (Value.slice va N.length vc).ownBlock → w6.heap.size + 2 ≤ j := fun j hj => (hvb j hj.symm).1
        have n3 := hcU.own (kq.own n3 id) fun hj => by have := hvb2 b3 hj; omega
        have n4 := hcU.own (kq.own n4 id) fun hj => by have := hvb2 b4 hj; omega
        have hmU := (hmV.chg kq id).chg hcU fun hj => by have := hvb2 m hj; omega
        have hrg := row_slice hrowU
        obtain ⟨ua, uc, rfl, -, hub⟩ := hrg
        refine st agree n3 rfl (Nat.le_refl 1) rfl fun Z eZ kZ mZ => ?_
        have mZ : Own Z b3 27 [.slice ua (N.length + 1) uc] := mZ
        have hcA : Chg (fun k => k = m ∨ some k = (Value.slice va N.length vc).ownBlock ∨ k = b3) W2 Z :=
          ((hcV.mono fun j hj => .inl hj).newT (kq.trans (Chg.refl _ _)) fun _ hf => hf.elim).newT (hcU.mono (S' := fun k => some k = (Value.slice va N.length vc).ownBlock) fun j hj => hj) (fun j hj => .inl (.inr (.inl hj))) |>.newT kZ fun j hj => .inl (.inr (.inr hj))
        refine ⟨⟨⟨hpre, .slice ua (N.length + 1) uc, hc2.newT hcA fun j hj => ?_, mZ, kZ.own n4 (by omega), ?_, ?_⟩, ?_⟩, ?_⟩
        · rcases hj with h | h | h
          · exact .inl (.inr h)
          · exact .inr (by have := hvb2 j h; omega)
          · exact .inl (.inl h)
        · rewrite [hfo, List.length_append, List.flatMap_append]
          exact ownsRow_chg hrowU kZ fun g hg => by have := (hub g hg).1; omega
        · rewrite [hfo]
          have := hmU.chg kZ (by omega)
          simpa using this
        · refine FrT.chg hcA fun k hk hkl cs hcs => ?_
          rcases hk with h | h | h
          · subst h
            obtain ⟨es, cl, hh, -⟩ := hmp.h
            rw [hh] at hcs; cases hcs
          · obtain ⟨cur, hcur⟩ := ownsRow_cells2 hrow2 h.symm
            rw [hcur] at hcs
            injection hcs with hcs
            injection hcs with _ h9 _
            exact absurd h9 (by decide)
          · have n32 : W2.heap[b3]? = _ := n32
            rw [h, n32] at hcs
            injection hcs with hcs
            injection hcs with _ h9 _
            exact absurd h9 (by decide)
        · intro k hk1 hk2
          refine hcA.block k (by omega) ?_
          rintro (h | h | h)
          · omega
          · have := hvb2 k h; omega
          · omega
    · have hadd : Fm.addN N x = N := by unfold Fm.addN; rw [if_neg fun hh => by omega]
      rewrite [hadd] at hfo
      refine ⟨⟨⟨hpre, _, hc2, n3, n4, ?_, ?_⟩, FrT.refl _ _⟩, fun k _ _ => rfl⟩
      · rewrite [hfo]; exact hrow
      · rewrite [hfo]; exact hmp
  · rintro D W hD ⟨-, vn, hc1, n3, n4, hrow, hmp⟩ hdef
    have kW : Kp w W := (k05.trans k6).newS hc1 fun j hj => by omega
    have hrg := row_slice hrow
    obtain ⟨va, vc, rfl, -, hvb⟩ := hrg
    refine ld agree (Own.at_ (xs := [.slice va (f.all.foldl Fm.addN []).length vc]) n3 rfl) (by rfl) ?_
    refine ⟨fun d hd => ?_, List.nodup_cons.2 ⟨fun h => (by cases h), List.nodup_nil⟩, fun w' hs' hk' => ?_⟩
    · have hdD : d = D := by
        cases hd with
        | head => rfl
        | tail _ h => cases h
      rw [hdD]; exact hdef
    · have hin : ∀ j, j ∈ [D] → j = D := fun j hj => by simpa using hj
      have hr := ownsRow_chg hrow hk' fun g hg hj => by have := hin g hj; have := (hvb g hg).1; omega
      have kE : Kp w w' := kW.newS hk' fun j hj => by have := hin j hj; omega
      exact ⟨kE, ownsRow_lo hr (by omega)⟩
end Go.Au

namespace Go.Au
open Go Go.RowKit
open Fm (idx)

/-! ### lists of names -/
theorem callBName : callable Proofs.Tryz.prog 124 = true := by kernel_rfl
theorem bname_c (w : World) (s : ByteArray) : Calls Proofs.Tryz.prog 124 [.string s].toArray w (Ret fun r w' => r = .bool (Fm.nameB s) ∧ Kp w w') := by
  refine call agree Proofs.Tryz.func124 rfl Proofs.Tryz.ntmps124 (by kernel_rfl) ?_
  refine sp (fun h => ?_) (fun h => ?_)
  · subst h
    exact ⟨congrArg Value.bool rfl, Chg.refl _ _⟩
  · have hpos : 1 ≤ s.size := by
      rcases Nat.eq_zero_or_pos s.size with h0 | h0
      · exact absurd (by obtain ⟨⟨l⟩⟩ := s; have : l.length = 0 := h0; rw [List.eq_nil_of_length_eq_zero this]) h
      · exact h0
    refine sp (fun h2 => ?_) (fun h2 => ?_)
    · exact ⟨congrArg Value.bool (by unfold Fm.nameB; rw [decide_eq_false (p := s.size ≤ 32) (by omega)]; simp), Chg.refl _ _⟩
    · refine loop agree (σ := Nat) (fun j => [(0, .string s), (13, .int .i64 s.size), (14, .int .i64 j)])
        (fun j w' => w' = w ∧ j ≤ s.size ∧ (s.data.toList.take j).all (fun c => !Fm.badB c) = true) (fun j => s.size - j) 0 ⟨rfl, rfl, rfl, trivial⟩ ⟨rfl, by omega, by simp⟩ ?_
      rintro j e1 w4 ⟨rfl, hj, hja⟩
      refine sp (fun h4 => ?_) (fun h4 => ?_)
      · have hj' : j < s.size := by omega
        have hjt : s.data.toList.take (j + 1) = s.data.toList.take j ++ [s[j]] := by
          rw [List.take_succ_eq_append_getElem (by simpa using hj')]
          rfl
        have badb : Fm.badB s[j] = true → Fm.nameB s = false := fun hb => by
          simp only [Fm.nameB, Bool.and_eq_false_iff]
          refine .inr ?_
          rw [List.all_eq_false]
          exact ⟨s[j], by
            have : s[j] ∈ s.data.toList.take (j + 1) := by rw [hjt]; simp
            exact List.mem_of_mem_take this, by simp [hb]⟩
        refine ixS agree rfl rfl rfl rfl hj' ?_
        refine sp (fun h5 => ?_) (fun h5 => ?_)
        · exact ⟨congrArg Value.bool (badb (by simp [Fm.badB, h5])).symm, Chg.refl _ _⟩
        refine sp (fun h6 => ?_) (fun h6 => ?_)
        · exact ⟨congrArg Value.bool (badb (by simp [Fm.badB, h6])).symm, Chg.refl _ _⟩
        refine sp (fun h7 => ?_) (fun h7 => ?_)
        · exact ⟨congrArg Value.bool (badb (by simp [Fm.badB, h7])).symm, Chg.refl _ _⟩
        refine sp (fun h8 => ?_) (fun h8 => ?_)
        · exact ⟨congrArg Value.bool (badb (by simp [Fm.badB, h8])).symm, Chg.refl _ _⟩
        refine aw (by omega) (by omega) ?_
        refine again (j + 1) ⟨rfl, rfl, rfl, trivial⟩ ⟨rfl, by omega, ?_⟩ (by omega)
        rw [hjt, List.all_append, hja]
        simp [Fm.badB, h5, h6, h7, h8]
      · refine ⟨congrArg Value.bool ?_, Chg.refl _ _⟩
        have hjl : j = s.size := by omega
        subst hjl
        have : s.data.toList.take s.size = s.data.toList := List.take_of_length_le (by simp)
        rw [this] at hja
        unfold Fm.nameB
        rw [hja, decide_eq_true hpos, decide_eq_true (p := s.size ≤ 32) (by omega)]
        rfl
theorem idx_drop {l : List ByteArray} {s : ByteArray} {i : Nat} (h : s ∉ l.take i) (hi : i < l.length) (hx : l[i] = s) : idx l s = i := by
  rcases Fm.idx_range (x := s) l with ⟨h1, h2⟩ | ⟨j, h1, h2, h3⟩
  · exact absurd (hx ▸ List.getElem_mem hi) h2
  · rw [h1]
    rcases Nat.lt_trichotomy j i with h4 | h4 | h4
    · exact absurd (List.mem_of_getElem? (i := j) (by rw [List.getElem?_take, if_pos h4]; exact h2)) h
    · rw [h4]
    · exact absurd (by rw [List.getElem?_eq_getElem hi, hx]) (h3 i h4)
theorem not_take {l : List ByteArray} {s : ByteArray} {i : Nat} (h : s ∉ l.take i) (hi : i < l.length) (hx : l[i] ≠ s) : s ∉ l.take (i + 1) := by
  rw [List.take_succ_eq_append_getElem hi, List.mem_append]
  rintro (h1 | h1)
  · exact h h1
  · simp only [List.mem_singleton] at h1
    exact hx h1.symm
theorem callIdxS : callable Proofs.Tryz.prog 155 = true := by kernel_rfl
theorem idxS_c {w : World} {lo hi : Nat} {v : Value} {l : List ByteArray} (h : Strs lo hi w v l) (hl : l.length < 4611686018427387904) (s : ByteArray) :
    Calls Proofs.Tryz.prog 155 [v, .string s].toArray w (Ret fun r w' => r = .int .i64 (idx l s) ∧ Kp w w') := by
  obtain ⟨a, cap, rfl, hcap, hx⟩ := h
  refine call agree Proofs.Tryz.func155 rfl Proofs.Tryz.ntmps155 (by kernel_rfl) ?_
  refine loop agree (σ := Nat) (fun i => [(0, .slice a l.length cap), (1, .string s), (7, .int .i64 l.length), (8, .int .i64 i)]) (fun i w' => Kp w w' ∧ i ≤ l.length ∧ s ∉ l.take i) (fun i => l.length - i) 0
    ⟨rfl, rfl, rfl, rfl, trivial⟩ ⟨Chg.refl _ _, by omega, by simp⟩ ?_
  rintro i e0 w1 ⟨hk, hi, hr⟩
  refine sp (fun h1 => ?_) (fun h1 => ?_)
  · have hi' : i < l.length := by omega
    obtain ⟨b, o, rfl, hlo, hhi, cs, hcs, hrd, rfl⟩ := hx i l[i] (by simp)
    refine ne ⟨by omega, h1⟩ ?_
    refine ld agree (hk.range hrd id) (by rfl) ?_
    refine sp (fun h2 => ?_) (fun h2 => ?_)
    · exact ⟨congrArg (Value.int .i64) (idx_drop hr hi' h2.symm).symm, hk⟩
    · refine aw (by omega) (by omega) ?_
      exact again (i + 1) ⟨rfl, rfl, rfl, rfl, trivial⟩ ⟨hk, by omega, not_take hr hi' (Ne.symm h2)⟩ (by omega)
  · rw [List.take_of_length_le (by omega)] at hr
    exact ⟨congrArg (Value.int .i64) (Fm.idx_none hr).symm, hk⟩
theorem callContS : callable Proofs.Tryz.prog 125 = true := by kernel_rfl
theorem contS_c {w : World} {lo hi : Nat} {v : Value} {l : List ByteArray} (h : Strs lo hi w v l) (hl : l.length < 4611686018427387904) (s : ByteArray) :
    Calls Proofs.Tryz.prog 125 [v, .string s].toArray w (Ret fun r w' => r = .bool (decide (0 ≤ idx l s)) ∧ Kp w w') := by
  refine call agree Proofs.Tryz.func125 rfl Proofs.Tryz.ntmps125 (by kernel_rfl) ?_
  refine cl callIdxS (idxS_c h hl s) ?_
  rintro _ w1 ⟨rfl, k1⟩
  refine sp (fun h => ?_) (fun h => ?_)
  · exact ⟨congrArg Value.bool (decide_eq_true h).symm, k1⟩
  · exact ⟨congrArg Value.bool (decide_eq_false h).symm, k1⟩
def idxBy (φ : ByteArray → Bool) : Nat → List ByteArray → Int
  | _, [] => -1
  | i, x :: r => if φ x then i else idxBy φ (i + 1) r
theorem idxBy_any (φ : ByteArray → Bool) : ∀ (xs : List ByteArray) (i : Nat), (0 ≤ idxBy φ i xs) ↔ xs.any φ = true
  | [], i => by simp [idxBy]
  | x :: r, i => by
    simp only [idxBy, List.any_cons]
    cases h : φ x with
    | true => simp
    | false => simpa using idxBy_any φ r (i + 1)
theorem callIdxFS : callable Proofs.Tryz.prog 166 = true := by kernel_rfl
theorem idxFS_c {w : World} {lo hi : Nat} {v : Value} {xs : List ByteArray} (h : Strs lo hi w v xs) (hl : xs.length < 4611686018427387904) (g : FuncId) (cap : List Value) (φ : ByteArray → Bool) (hg : callable Proofs.Tryz.prog g = true)
    (hf : ∀ W x, Kp w W → Calls Proofs.Tryz.prog g (.string x :: cap).toArray W (Ret fun r w' => r = .bool (φ x) ∧ Kp W w')) :
    Calls Proofs.Tryz.prog 166 [v, .func (.func g) #[] cap.toArray].toArray w (Ret fun r w' => r = .int .i64 (idxBy φ 0 xs) ∧ Kp w w') := by
  obtain ⟨a, c, rfl, hcap, hx⟩ := h
  refine call agree Proofs.Tryz.func166 rfl Proofs.Tryz.ntmps166 (by kernel_rfl) ?_
  refine loop agree (σ := Nat) (fun i => [(0, .slice a xs.length c), (1, .func (.func g) #[] cap.toArray), (7, .int .i64 xs.length), (8, .int .i64 i)])
    (fun i w' => Kp w w' ∧ i ≤ xs.length ∧ idxBy φ 0 xs = idxBy φ i (xs.drop i)) (fun i => xs.length - i) 0
    ⟨rfl, rfl, rfl, rfl, trivial⟩ ⟨Chg.refl _ _, by omega, by simp⟩ ?_
  rintro i e0 w1 ⟨hk, hi, hr⟩
  refine sp (fun h1 => ?_) (fun h1 => ?_)
  · have hi' : i < xs.length := by omega
    obtain ⟨b, o, rfl, hlo, hhi, cs, hcs, hrd, rfl⟩ := hx i xs[i] (by simp)
    rw [List.drop_eq_getElem_cons hi'] at hr
    refine ne ⟨by omega, h1⟩ ?_
    refine ld agree (hk.range hrd id) (by rfl) ?_
    have hcall := hf w1 xs[i] hk
    cases hb : φ xs[i] with
    | true =>
      rw [hb] at hcall
      refine cl hg hcall ?_
      rintro _ w2 ⟨rfl, k2⟩
      exact ⟨congrArg (Value.int .i64) (by rw [hr]; simp [idxBy, hb]), hk.trans k2⟩
    | false =>
      rw [hb] at hcall
      refine cl hg hcall ?_
      rintro _ w2 ⟨rfl, k2⟩
      refine aw (by omega) (by omega) ?_
      refine again (i + 1) ⟨rfl, rfl, rfl, rfl, trivial⟩ ⟨hk.trans k2, by omega, ?_⟩ (by omega)
      rw [hr]; simp [idxBy, hb]
  · exact ⟨congrArg (Value.int .i64) (by rw [hr, List.drop_eq_nil_of_le (by omega)]; rfl), hk⟩
theorem callContFS : callable Proofs.Tryz.prog 126 = true := by kernel_rfl
theorem contFS_c {w : World} {lo hi : Nat} {v : Value} {xs : List ByteArray} (h : Strs lo hi w v xs) (hl : xs.length < 4611686018427387904) (g : FuncId) (cap : List Value) (φ : ByteArray → Bool) (hg : callable Proofs.Tryz.prog g = true)
    (hf : ∀ W x, Kp w W → Calls Proofs.Tryz.prog g (.string x :: cap).toArray W (Ret fun r w' => r = .bool (φ x) ∧ Kp W w')) :
    Calls Proofs.Tryz.prog 126 [v, .func (.func g) #[] cap.toArray].toArray w (Ret fun r w' => r = .bool (xs.any φ) ∧ Kp w w') := by
  refine call agree Proofs.Tryz.func126 rfl Proofs.Tryz.ntmps126 (by kernel_rfl) ?_
  refine cl callIdxFS (idxFS_c h hl g cap φ hg hf) ?_
  rintro _ w1 ⟨rfl, k1⟩
  refine sp (fun h => ?_) (fun h => ?_)
  · exact ⟨congrArg Value.bool ((idxBy_any φ xs 0).1 h).symm, k1⟩
  · refine ⟨congrArg Value.bool ?_, k1⟩
    rw [idxBy_any φ xs 0] at h
    simpa using h
theorem callRight1 : callable Proofs.Tryz.prog 128 = true := by kernel_rfl
theorem right1_c {w : World} {lo hi q : Nat} {v : Value} {l : List ByteArray} (hq : Own w q 27 [v]) (h : Strs lo hi w v l) (hl : l.length < 4611686018427387904) (s : ByteArray) :
    Calls Proofs.Tryz.prog 128 [.string s, pt q 0].toArray w (Ret fun r w' => r = .bool (!decide (0 ≤ idx l s)) ∧ Kp w w') := by
  have h0 := h
  obtain ⟨a, cap, rfl, hcap, hx⟩ := h0
  refine call agree Proofs.Tryz.func128 rfl Proofs.Tryz.ntmps128 (by kernel_rfl) ?_
  refine ld agree (Own.at_ (xs := [.slice a l.length cap]) hq rfl) (by rfl) ?_
  refine cl callContS (contS_c h hl s) ?_
  rintro _ w1 ⟨rfl, k1⟩
  exact ⟨rfl, k1⟩
theorem callRightB : callable Proofs.Tryz.prog 56 = true := by kernel_rfl
theorem strs_own {w : World} {base : Nat} {v : Value} {l : List ByteArray} (h : w.ownsRow base 9 1 v l.length (l.flatMap fS1)) : Strs base w.heap.size w v l := ownsRow_row (f := fS1) (fun _ => rfl) h (by decide)
theorem rightB_c {n lo hi lo' hi' : Nat} {w : World} {v nv : Value} {f : Fm} {names : List ByteArray} (h : KidsN n lo hi w v f.kids) (hs : f.size < 100000000) (hf : Fm.formed Fm.future f = true) (hn : Strs lo' hi' w nv names) (hl : names.length < 4611686018427387904) :
    Calls Proofs.Tryz.prog 56 [fmA f v, nv].toArray w (Ret fun r w' => r = .bool (Tb.nameOk names && Tb.overNames f names) ∧ Kp w w') := by
  have hob := h.slice
  obtain ⟨a, c, rfl, hc⟩ := hob
  have hn0 := hn
  obtain ⟨na, nc, rfl, hcap, hx⟩ := hn0
  refine call agree Proofs.Tryz.func56 rfl Proofs.Tryz.ntmps56 (by kernel_rfl) ?_
  refine nd fun p w1 e1 s1 k1 m1 => ?_
  have m1 : Own w1 p 26 (fmC f (.slice a f.kids.length c)) := m1
  refine nd fun q w2 e2 s2 k2 m2 => ?_
  have m2 : Own w2 q 27 [.slice na names.length nc] := m2
  have m1 := k2.own m1 id
  have k02 := k1.trans k2
  refine ld agree (Own.at_ (xs := [.slice na names.length nc]) m2 rfl) (by rfl) ?_
  refine sp (fun h1 => ?_) (fun h1 => ?_)
  · exact ⟨congrArg Value.bool (by unfold Tb.nameOk; rw [decide_eq_false (p := names.length ≤ 8) (by omega)]; rfl), k02⟩
  have hbad : Unit → ∀ i (hi : i < names.length), (Fm.nameB names[i] = false ∨ names[i] ∈ names.take i) → Tb.nameOk names = false := fun _ i hi hh => by
    unfold Tb.nameOk
    rcases hh with hh | hh
    · have : names.all Fm.nameB = false := List.all_eq_false.2 ⟨names[i], List.getElem_mem hi, by simp [hh]⟩
      rw [this, Bool.and_false]
    · have : ¬ names.Nodup := fun hn => by
        have hn' : (names.take (i + 1)).Nodup := hn.sublist (List.take_sublist _ _)
        rw [List.take_succ_eq_append_getElem hi, List.nodup_append] at hn'
        exact hn'.2.2 _ hh _ (by simp) rfl
      rw [decide_eq_false this]
      simp
  refine ld agree (Own.at_ (xs := [.slice na names.length nc]) m2 rfl) (by rfl) ?_
  refine loop agree (σ := Nat) (fun i => [(2, pt p 0), (3, pt q 0), (10, .slice na names.length nc), (11, .int .i64 names.length), (12, .int .i64 i)]) (fun i W => Kp w2 W ∧ i ≤ names.length ∧ (names.take i).Nodup ∧ (names.take i).all Fm.nameB = true) (fun i => names.length - i) 0
    ⟨rfl, rfl, rfl, rfl, rfl, trivial⟩ ⟨Chg.refl _ _, by omega, by simp, by simp⟩ ?_
  rintro i e0 W ⟨hk, hi, hnd, hall⟩
  refine sp (fun h2 => ?_) (fun h2 => ?_)
  · have hi' : i < names.length := by omega
    have hob := hx i names[i] (by simp)
    obtain ⟨b, o, rfl, hlo, hhi, cs, hcs, hrd, rfl⟩ := hob
    have hbi := hbad () i hi'
    have htk : names.take (i + 1) = names.take i ++ [names[i]] := List.take_succ_eq_append_getElem hi'
    generalize names[i] = s at *
    refine ne ⟨by omega, h2⟩ ?_
    refine ld agree ((k02.trans hk).range hrd id) (by rfl) ?_
    have hcall := bname_c W s
    cases hb : Fm.nameB s with
    | false =>
      rewrite [hb] at hcall
      refine cl callBName hcall ?_
      rintro _ w3 ⟨rfl, k3⟩
      exact ⟨congrArg Value.bool (by rw [hbi (.inl hb)]; rfl), (k02.trans hk).trans k3⟩
    | true =>
      rewrite [hb] at hcall
      refine cl callBName hcall ?_
      rintro _ w3 ⟨rfl, k3⟩
      have hk3 := hk.trans k3
      refine ld agree (Own.at_ (xs := [.slice (some ⟨b, o, none⟩) names.length nc]) (hk3.own m2 id) rfl) (by rfl) ?_
      refine ne ⟨by omega, by omega, by omega⟩ ?_
      have hrt := rowT (k := i) (RowE.chg hn (k02.trans hk3) (fun _ _ _ => id) fun _ _ h => h) hi
      have hltk : (names.take i).length = i := by rw [List.length_take]; omega
      have hcc := contS_c hrt (by rw [hltk]; omega) s
      by_cases hin : s ∈ names.take i
      · have hidx : 0 ≤ idx (names.take i) s := by
          obtain ⟨j, hj, -⟩ := Fm.idx_mem hin
          omega
        rewrite [decide_eq_true hidx] at hcc
        refine cl callContS hcc ?_
        rintro _ w4 ⟨rfl, k4⟩
        exact ⟨congrArg Value.bool (by rw [hbi (.inr hin)]; rfl), (k02.trans hk3).trans k4⟩
      · rewrite [decide_eq_false (p := 0 ≤ idx (names.take i) s) (by rw [Fm.idx_none hin]; decide)] at hcc
        refine cl callContS hcc ?_
        rintro _ w4 ⟨rfl, k4⟩
        refine aw (by omega) (by omega) ?_
        refine again (i + 1) ⟨rfl, rfl, rfl, rfl, rfl, trivial⟩ ⟨hk3.trans k4, by omega, ?_, ?_⟩ (by omega)
        · rw [htk, List.nodup_append]
          refine ⟨hnd, by simp, fun x hx y hy he => ?_⟩
          simp only [List.mem_singleton] at hy
          exact hin (hy ▸ he ▸ hx)
        · rw [htk, List.all_append, hall]
          simp [hb]
  · have hil : i = names.length := by omega
    subst hil
    rewrite [List.take_length] at hnd hall
    have hok : Tb.nameOk names = true := by
      unfold Tb.nameOk
      rw [hall, decide_eq_true hnd, decide_eq_true (p := names.length ≤ 8) (by omega)]
      rfl
    refine ld agree (Own.at_ (xs := fmC f (.slice a f.kids.length c)) (hk.own m1 id) rfl) (by rfl) ?_
    have kW := k02.trans hk
    refine cl callNames (names_c (h.kp kW) hs hf) ?_
    rintro r w3 ⟨k3, hr3⟩
    have hnb := names_bound f
    have hst := strs_own hr3
    have hq3 := k3.own (hk.own m2 id) id
    have hrg := row_slice hr3
    obtain ⟨ra, rc, rfl, -, -⟩ := hrg
    refine cl callContFS (contFS_c (φ := fun s => !decide (0 ≤ idx names s)) (cap := [pt q 0]) hst (by omega) _ callRight1 fun V x hV => right1_c (hV.own hq3 id) (RowE.chg hn ((kW.trans k3).trans hV) (fun _ _ _ => id) fun _ _ h => h) hl x) ?_
    rintro _ w4 ⟨rfl, k4⟩
    refine ⟨congrArg Value.bool ?_, (kW.trans k3).trans k4⟩
    rw [hok, Bool.true_and]
    unfold Tb.overNames
    rw [List.not_any_eq_all_not]
    simp
end Go.Au
