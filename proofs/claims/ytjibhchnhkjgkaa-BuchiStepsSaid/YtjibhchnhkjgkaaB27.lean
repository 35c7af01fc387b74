/- Own text of this workplace: a part of the proofs of this place's statements. -/
import Derived.Test.YtjibhchnhkjgkaaB26
set_option linter.unusedVariables false
set_option linter.unusedSimpArgs false
set_option linter.unusedSectionVars false
namespace Go.Au
open Go Go.RowKit

/-- as small as the statements ask -/
structure Few (g : General) (x : Word) : Prop where
  st : g.states ≤ 60
  ed : g.edges.length ≤ 300
  se : g.sets.length ≤ 6
  pl : x.stem.length + x.loop.length ≤ 30
theorem Few.places {g : General} {x : Word} (h : Few g x) : x.places ≤ 30 := by have := h.pl; unfold Word.places; split <;> omega
theorem idx_lt {t b N n : Nat} (h1 : t < N) (h2 : b < n) : t * n + b < N * n := by
  have : (t + 1) * n ≤ N * n := Nat.mul_le_mul_right _ h1
  rw [Nat.add_mul] at this; omega

def pairOf (x : Word) (e : Edge) (p : Nat) : List (Int × Int) := if goesS e (x.at p) = true then [(e.to * x.places + x.behind p, e.frm * x.places + p)] else []
def pairsOf (x : Word) (e : Edge) (k : Nat) : List (Int × Int) := (List.range k).flatMap (pairOf x e)
def pairsL (x : Word) (es : List Edge) : List (Int × Int) := es.flatMap fun e => pairsOf x e x.places
theorem pairOf_len (x : Word) (e : Edge) (p : Nat) : (pairOf x e p).length ≤ 1 := by unfold pairOf; split <;> simp
theorem pairsOf_succ (x : Word) (e : Edge) (k : Nat) : pairsOf x e (k + 1) = pairsOf x e k ++ pairOf x e k := by simp [pairsOf, List.range_succ]
theorem pairsOf_len (x : Word) (e : Edge) : ∀ k, (pairsOf x e k).length ≤ k
  | 0 => by simp [pairsOf]
  | k + 1 => by rw [pairsOf_succ, List.length_append]; have := pairsOf_len x e k; have := pairOf_len x e k; omega
theorem pairsL_len (x : Word) : ∀ es : List Edge, (pairsL x es).length ≤ es.length * x.places
  | [] => by simp [pairsL]
  | e :: r => by
    have := pairsL_len x r
    have := pairsOf_len x e x.places
    simp only [pairsL, List.flatMap_cons, List.length_append, List.length_cons, Nat.add_mul] at *
    omega

abbrev PairRows (lo hi : Nat) := RowE (fun w cs (xs : List Int) => ∃ u, cs = [u] ∧ RowE (fun _ cs x => cs = fI x) 1 lo hi w u xs) 1 lo hi
def pairsS (g : General) (x : Word) (N : Nat) : List (List Int) := (List.range (N * x.places)).map fun (s : Nat) => keyed (pairsL x g.edges) s

theorem callPairs : callable Proofs.Try.prog 106 = true := by kernel_rfl
set_option maxHeartbeats 2000000 in
theorem pairs_c {w : World} {pv iv ev sv stv lov : Value} {g : General} {x : Word} (hv : GenV 0 w.heap.size w pv iv ev sv g) (hw : WordV 0 w.heap.size w stv lov x) (hg : Good g) (hx : x.loop.length ≠ 0) (hF : Few g x) {N : Nat} (hN : g.states = N) :
    Calls Proofs.Try.prog 106 [.agg #[pv, .int .i64 g.states, iv, ev, sv], .agg #[stv, lov]].toArray w (Ret fun r w' => Kp w w' ∧ PairRows w.heap.size w'.heap.size w' r (pairsS g x N)) := by
  obtain ⟨f1, f2, f3, f4⟩ := hF
  have hpl := Few.places ⟨f1, f2, f3, f4⟩
  have ls := hw.ls
  have ll := hw.ll
  obtain ⟨ea, ec, rfl, hec, hedges⟩ := id hv.edges
  obtain ⟨wa1, wc1, rfl, -⟩ := id hw.stem
  obtain ⟨wa2, wc2, rfl, -⟩ := id hw.loop
  have h0 := hg.s0
  have hNn : N * x.places ≤ 60 * 30 := Nat.mul_le_mul (by omega) hpl
  refine call agree Proofs.Try.func106 rfl Proofs.Try.ntmps106 (by kernel_rfl) ?_
  refine nd fun p2 w1 e1 s1 k1 m1 => ?_
  have m2 : Own w1 p2 28 [pv, .int .i64 g.states, iv, .slice ea g.edges.length ec, sv] := m1
  refine nd fun p3 w2 e2 s2 k2 m3 => ?_
  have m3 : Own w2 p3 44 [.slice wa1 x.stem.length wc1, .slice wa2 x.loop.length wc2] := m3
  have m2 := k2.own m2 id
  refine ld (v := .agg #[.slice wa1 x.stem.length wc1, .slice wa2 x.loop.length wc2]) agree (Own.at_ (xs := [.slice wa1 x.stem.length wc1, .slice wa2 x.loop.length wc2]) (o := 0) m3 rfl) (by rfl) ?_
  refine cl callRPlaces (rplaces_c wa1 wa2 wc1 wc2 x ls ll) ?_
  rintro _ w3 ⟨rfl, k3⟩
  have k23 := k3
  have k13 : Kp w w3 := k1.trans (k2.trans k3)
  refine ld agree (Own.at_ (xs := [.int .i64 g.states]) (o := 1) (k3.own m2 id) rfl) (by rfl) ?_
  refine arE (z' := ((N * x.places : Nat) : Int)) (by rw [hN, ← Int.natCast_mul]; exact wrap64 (by omega) (by omega)) ?_
  refine ms agree rfl rfl rfl rfl rfl rfl (by omega) (Int.le_refl _) (by show (24 : Int) * _ ≤ _; omega) (by omega) fun bb w4 e4 s4 k4 m4 => ?_
  have m4 : Own w4 bb 24 (rep [nilS] ((N * x.places : Nat) : Int).toNat) := m4
  rw [Int.toNat_natCast] at m4 ⊢
  have hby0 : RowsV 24 3 1 fI w4 bb bb (N * x.places) (rep [nilS] (N * x.places)) [] := RowsV.zero m4
  have hbb : w.heap.size ≤ bb := by have := k13.size; omega
  have m2 := (k3.trans k4).own m2 id
  have m3 := (k3.trans k4).own m3 id
  have k14 := k13.trans k4
  have keep4 : ∀ {W : World}, Kp w4 W → Kp w W := fun h => k14.trans h
  refine loop agree (σ := Nat × List Value) (fun t => [(2, pt p2 0), (3, pt p3 0), (5, .int .i64 (x.places : Nat)), (6, .slice (some ⟨bb, 0, none⟩) (N * x.places) (N * x.places)), (7, .int .i64 t.1)])
    (fun t w' => t.1 ≤ g.edges.length ∧ Kp w3 w' ∧ Own w' p2 28 [pv, .int .i64 g.states, iv, .slice ea g.edges.length ec, sv] ∧ Own w' p3 44 [.slice wa1 x.stem.length wc1, .slice wa2 x.loop.length wc2] ∧ RowsV 24 3 1 fI w' bb bb (N * x.places) t.2 (pairsL x (g.edges.take t.1))) (fun t => g.edges.length - t.1) (0, rep [nilS] (N * x.places))
    ⟨rfl, rfl, rfl, rfl, rfl, trivial⟩ ⟨by simp, k4, m2, m3, hby0⟩ ?_
  rintro ⟨i, vs⟩ e0 w5 ⟨hi, k35, M2, M3, hby⟩
  simp only at hi M2 M3 hby
  refine ld agree (Own.at_ (xs := [.slice ea g.edges.length ec]) (o := 3) M2 rfl) (by rfl) ?_
  refine sp (fun hlt => ?_) (fun hge => ?_)
  · have hi' : i < g.edges.length := by simp only at hlt; omega
    obtain ⟨b, o, rfl, hlo, hhi, cs, hcs, hrd, rfl, hwf⟩ := hedges i g.edges[i] (by simp)
    have her := hg.edges g.edges[i] (by simp)
    refine ld agree (Own.at_ (xs := [.slice (some ⟨b, o, none⟩) g.edges.length ec]) (o := 3) M2 rfl) (by rfl) ?_
    refine ne ⟨by omega, by omega⟩ ?_
    refine ld agree (v := g.edges[i].val) ((k13.trans k35).range hrd id) rfl ?_
    refine nd fun q w6 e6 s6 k6 m6 => ?_
    refine st agree (cs := [.int .i64 0, .int .i64 0, .int .u16 0, .int .u16 0]) m6 rfl (Nat.le_refl 4) rfl ?_
    intro w7 s7 k7 m7
    have m7 : Own w7 q 52 g.edges[i].cells := m7
    have k57 : Kp w5 w7 := k6.new e6 k7
    have hL : ∀ k, (pairsL x (g.edges.take i) ++ pairsOf x g.edges[i] k).length ≤ 300 * 30 + k := fun k => by
      rw [List.length_append]
      have h1 := pairsL_len x (g.edges.take i)
      have h2 := pairsOf_len x g.edges[i] k
      have h3 : (g.edges.take i).length * x.places ≤ 300 * 30 := Nat.mul_le_mul (by simp; omega) hpl
      omega
    refine loop agree (σ := Nat × List Value) (fun t => [(2, pt p2 0), (3, pt p3 0), (5, .int .i64 (x.places : Nat)), (6, .slice (some ⟨bb, 0, none⟩) (N * x.places) (N * x.places)), (7, .int .i64 i), (8, pt q 0), (9, .int .i64 t.1)])
      (fun t w' => t.1 ≤ x.places ∧ Kp w3 w' ∧ Own w' p2 28 [pv, .int .i64 g.states, iv, .slice (some ⟨b, o, none⟩) g.edges.length ec, sv] ∧ Own w' p3 44 [.slice wa1 x.stem.length wc1, .slice wa2 x.loop.length wc2] ∧ Own w' q 52 g.edges[i].cells ∧ RowsV 24 3 1 fI w' bb bb (N * x.places) t.2 (pairsL x (g.edges.take i) ++ pairsOf x g.edges[i] t.1)) (fun t => x.places - t.1) (0, vs)
      ⟨rfl, rfl, rfl, rfl, rfl, rfl, rfl, trivial⟩ ⟨by simp, k35.trans k57, k57.own M2 id, k57.own M3 id, m7, by simpa [pairsOf] using hby.kp k57⟩ ?_
    rintro ⟨p, vs2⟩ e0' w8 ⟨hp, k38, N2, N3, N8, hby⟩
    simp only at hp N2 N3 N8 hby
    refine sp (fun hlt2 => ?_) (fun hge2 => ?_)
    · have hp' : p < x.places := by simp only at hlt2; omega
      have hWV : ∀ W, Kp w8 W → WordV 0 w.heap.size W (.slice wa1 x.stem.length wc1) (.slice wa2 x.loop.length wc2) x := fun W h => hw.chg (k13.trans (k38.trans h)) (Nat.le_refl _) (Nat.le_refl _)
      refine drawnK agree mixed 5 [1, 2, 3, 0, 4] (by kernel_rfl) ?_
      conv => whnf
      refine ldk (v := .agg #[.slice wa1 x.stem.length wc1, .slice wa2 x.loop.length wc2]) agree rfl rfl (fun W h _ => Own.at_ (xs := [.slice wa1 x.stem.length wc1, .slice wa2 x.loop.length wc2]) (o := 0) (h.own N3 id) rfl) (by rfl) fun _ => ?_
      conv => whnf
      refine callk (v := .int .u16 (x.at p)) rfl rfl rfl callRAt (fun W h _ => rat_c (hWV W h) p (by omega)) fun _ => ?_
      conv => whnf
      refine ldk (v := g.edges[i].val) agree rfl rfl (fun W h _ => Own.at_ (xs := g.edges[i].cells) (o := 0) (h.own N8 id) rfl) (by rfl) fun _ => ?_
      conv => whnf
      cases hgo : goesS g.edges[i] (x.at p) with
      | false =>
        refine callk (v := .bool false) rfl rfl rfl callRGoes (fun W h _ => by have := rgoes_c W g.edges[i] (x.at p); rw [hgo] at this; exact this) fun _ => ?_
        conv => whnf
        intro W h _
        refine aw (by omega) (by omega) ?_
        refine again (p + 1, vs2) ⟨rfl, rfl, rfl, rfl, rfl, rfl, rfl, trivial⟩ ⟨by simp only; omega, k38.trans h, h.own N2 id, h.own N3 id, h.own N8 id, ?_⟩ (by simp only; omega)
        rw [pairsOf_succ]
        have : pairOf x g.edges[i] p = [] := by unfold pairOf; rw [hgo]; simp
        rw [this, List.append_nil]
        exact hby.kp h
      | true =>
        refine callk (v := .bool true) rfl rfl rfl callRGoes (fun W h _ => by have := rgoes_c W g.edges[i] (x.at p); rw [hgo] at this; exact this) fun _ => ?_
        conv => whnf
        intro W h _
        have K3 := k38.trans h
        have N2 := h.own N2 id
        have N3 := h.own N3 id
        have N8 := h.own N8 id
        have hby := hby.kp h
        have hWV : ∀ W', Kp W W' → WordV 0 w.heap.size W' (.slice wa1 x.stem.length wc1) (.slice wa2 x.loop.length wc2) x := fun W' h' => hWV W' (h.trans h')
        clear h
        obtain ⟨t, ht⟩ : ∃ t : Nat, g.edges[i].to = t := ⟨g.edges[i].to.toNat, by omega⟩
        obtain ⟨f, hf⟩ : ∃ f : Nat, g.edges[i].frm = f := ⟨g.edges[i].frm.toNat, by omega⟩
        have hbe := behind_lt hx hp'
        obtain ⟨bh, hbh⟩ : ∃ bh : Nat, x.behind p = bh := ⟨(x.behind p).toNat, by omega⟩
        have hT : t * x.places + bh < N * x.places := idx_lt (by omega) (by omega)
        have hFp : f * x.places + p < N * x.places := idx_lt (by omega) (by omega)
        have htn : t * x.places ≤ t * x.places + bh := Nat.le_add_right _ _
        have hfn : f * x.places ≤ f * x.places + p := Nat.le_add_right _ _
        refine drawnK agree mixed 9 [4, 5, 6, 0, 1, 2, 3, 7, 8] (by kernel_rfl) ?_
        conv => whnf
        refine ldk (v := .agg #[.slice wa1 x.stem.length wc1, .slice wa2 x.loop.length wc2]) agree rfl rfl (fun W' h _ => Own.at_ (xs := [.slice wa1 x.stem.length wc1, .slice wa2 x.loop.length wc2]) (o := 0) (h.own N3 id) rfl) (by rfl) fun _ => ?_
        conv => whnf
        refine callk (v := .int .i64 (x.behind p)) rfl rfl rfl callRBehind (fun W' h _ => rbehind_c wa1 wa2 wc1 wc2 x ls ll p (by omega)) fun _ => ?_
        conv => whnf
        refine ldk agree rfl rfl (fun W' h _ => Own.at_ (xs := [.int .i64 g.edges[i].to]) (o := 1) (h.own N8 id) rfl) (by rfl) fun _ => ?_
        conv => whnf
        refine arE (z' := ((t * x.places : Nat) : Int)) (by rw [ht, ← Int.natCast_mul]; exact wrap64 (by omega) (by omega)) ?_
        conv => whnf
        refine arE (z' := ((t * x.places + bh : Nat) : Int)) (by rw [hbh, ← Int.natCast_add]; exact wrap64 (by omega) (by omega)) ?_
        conv => whnf
        intro W' h _
        have K3 := K3.trans h
        have N2 := h.own N2 id
        have N3 := h.own N3 id
        have N8 := h.own N8 id
        have hby := hby.kp h
        clear h
        have hrow := hby.at_ (fun _ => rfl) (by decide) hT
        have hmb := hby.mb
        have hml := keyed_len (pairsL x (g.edges.take i) ++ pairsOf x g.edges[i] p) ((t * x.places + bh : Nat) : Int)
        have hml2 := hL p
        have hltB : ∀ k, (vs2.getD (t * x.places + bh) nilS).ownBlock = some k → bb ≤ k ∧ k < W'.heap.size := fun k hk => hrow.lt k hk
        have hnq : some q ≠ (vs2.getD (t * x.places + bh) nilS).ownBlock := fun he => ownsRow_ne hrow N8 (fun cs fr hh => by injection hh with _ h2; exact absurd h2 (by decide)) he.symm
        have hn2 : some p2 ≠ (vs2.getD (t * x.places + bh) nilS).ownBlock := fun he => ownsRow_ne hrow N2 (fun cs fr hh => by injection hh with _ h2; exact absurd h2 (by decide)) he.symm
        have hn3 : some p3 ≠ (vs2.getD (t * x.places + bh) nilS).ownBlock := fun he => ownsRow_ne hrow N3 (fun cs fr hh => by injection hh with _ h2; exact absurd h2 (by decide)) he.symm
        have hnb : some bb ≠ (vs2.getD (t * x.places + bh) nilS).ownBlock := fun he => ownsRow_ne hrow hmb (fun cs fr hh => by injection hh with _ h2; exact absurd h2 (by decide)) he.symm
        have hvf := hby.get hT
        obtain ⟨va, vc, hvs⟩ := ownsRow_form hrow
        have hpre := preAppR W' (vs2.getD (t * x.places + bh) nilS) ((keyed (pairsL x (g.edges.take i) ++ pairsOf x g.edges[i] p) ((t * x.places + bh : Nat) : Int)).length * 1) (fI ((f * x.places + p : Nat) : Int))
        refine drawnR agree mixed 15 (by kernel_rfl) _ hpre ?_
        conv => whnf
        refine ne ⟨by omega, by omega⟩ ?_
        conv => whnf
        refine ldr (v := vs2.getD (t * x.places + bh) nilS) hpre agree rfl rfl (fun W2 h _ => h.chg.range (Own.one hmb hvf (by rw [Int.toNat_natCast]; show 0 + _ * 1 = _; omega)) hnb) (by rfl) fun _ => ?_
        conv => whnf
        refine ldr hpre agree rfl rfl (fun W2 h _ => h.chg.range (Own.at_ (xs := [.int .i64 g.edges[i].frm]) (o := 0) N8 rfl) hnq) (by rfl) fun _ => ?_
        conv => whnf
        refine arE (z' := ((f * x.places : Nat) : Int)) (by rw [hf, ← Int.natCast_mul]; exact wrap64 (by omega) (by omega)) ?_
        conv => whnf
        refine arE (z' := ((f * x.places + p : Nat) : Int)) (by rw [← Int.natCast_add]; exact wrap64 (by omega) (by omega)) ?_
        conv => whnf
        refine bsr hpre rfl rfl rfl rfl rfl (by decide) (fun b o W W' hb ho hS => hS.chg.heap ho fun hc => by have := (hltB b hc.symm).2; omega) (fun W hS => hS.chg.size) fun q2 D hD => ?_
        conv => whnf
        refine apr (m := 1) (news := fI ((f * x.places + p : Nat) : Int)) agree rfl rfl rfl rfl rfl rfl rfl (by decide) hrow rfl (fun W hS hDn => Own.at_ (xs := fI ((f * x.places + p : Nat) : Int)) (o := 0) (hD W (hDn 12 (by kernel_rfl))).1 rfl) rfl (by simp only [maxLen]; omega) (by show (_ + 1) * 8 ≤ _; omega) (Nat.le_of_lt hmb.lt) fun v' D2 hD2 => ?_
        conv => whnf
        refine ne ⟨by omega, by omega⟩ ?_
        conv => whnf
        intro W2 hS hDn
        obtain ⟨hown', hnew⟩ := hD2 W2 (hDn 13)
        have hmbW := hS.chg.own hmb hnb
        obtain ⟨a', cap', rfl⟩ := ownsRow_form hown'
        refine st agree hmbW (by rfl) ?_ rfl ?_
        · rw [Int.toNat_natCast]; show 0 + (t * x.places + bh) * 1 + 1 ≤ vs2.length
          rw [hby.len]; omega
        intro w11 s11 k11 m11
        refine aw (by omega) (by omega) ?_
        have m11 : Own w11 bb 24 (vs2.set (t * x.places + bh) (.slice a' ((keyed (pairsL x (g.edges.take i) ++ pairsOf x g.edges[i] p) ((t * x.places + bh : Nat) : Int)).length + 1) cap')) := by
          have m11 : Own w11 bb 24 (vs2.set (0 + ((t * x.places + bh : Nat) : Int).toNat * 1) (.slice a' ((keyed (pairsL x (g.edges.take i) ++ pairsOf x g.edges[i] p) ((t * x.places + bh : Nat) : Int)).length + 1) cap')) := m11
          rwa [Int.toNat_natCast, show 0 + (t * x.places + bh) * 1 = t * x.places + bh by omega] at m11
        have hby11 := hby.set (a := ((t * x.places + bh : Nat) : Int)) (x := ((f * x.places + p : Nat) : Int)) (by decide) rfl hT hS.chg hown' hnew k11 m11
        have kk : Kp w3 w11 := (K3.newS hS.chg fun j hj => by have := (hltB j hj.symm).1; omega).newS k11 fun j hj => by omega
        refine again (p + 1, vs2.set (t * x.places + bh) (.slice a' ((keyed (pairsL x (g.edges.take i) ++ pairsOf x g.edges[i] p) ((t * x.places + bh : Nat) : Int)).length + 1) cap')) ⟨rfl, rfl, rfl, rfl, rfl, rfl, rfl, trivial⟩
          ⟨by simp only; omega, kk, k11.own (hS.chg.own N2 hn2) (own_ne N2 hmb (by decide)), k11.own (hS.chg.own N3 hn3) (own_ne N3 hmb (by decide)), k11.own (hS.chg.own N8 hnq) (own_ne N8 hmb (by decide)), ?_⟩ (by simp only; omega)
        have hp1 : pairOf x g.edges[i] p = [(((t * x.places + bh : Nat) : Int), ((f * x.places + p : Nat) : Int))] := by
          unfold pairOf
          rw [if_pos hgo, ht, hf, hbh]
          simp
        rw [pairsOf_succ, hp1, ← List.append_assoc]
        exact hby11
    · have hpn : p = x.places := by simp only at hge2; omega
      subst hpn
      refine aw (by omega) (by omega) ?_
      refine again (i + 1, vs2) ⟨rfl, rfl, rfl, rfl, rfl, trivial⟩ ⟨by simp only; omega, k38, N2, N3, ?_⟩ (by simp only; omega)
      have : pairsL x (g.edges.take (i + 1)) = pairsL x (g.edges.take i) ++ pairsOf x g.edges[i] x.places := by
        rw [List.take_succ_eq_append_getElem hi']
        simp only [pairsL, List.flatMap_append, List.flatMap_cons, List.flatMap_nil, List.append_nil]
      rw [this]
      exact hby
  · have hall : g.edges.take i = g.edges := List.take_of_length_le (by simp only at hge; omega)
    rw [hall] at hby
    have hrow := hby.row (Nat.le_refl _) (fun _ => rfl) (by decide)
    refine ⟨k13.trans k35, ?_⟩
    exact hrow.mono (fun _ _ ⟨u, h1, h2⟩ => ⟨u, h1, h2.mono (fun _ _ h => h) hbb (Nat.le_refl _)⟩) hbb (Nat.le_refl _)
end Go.Au
