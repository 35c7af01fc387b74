/- Own text of this workplace: a part of the proofs of this place's statements. -/
import Derived.Test.YtjibhchnhkjgkaaB37
import Derived.Test.YtjibhchnhkjgkaaB26
set_option linter.unusedVariables false
set_option linter.unusedSimpArgs false
set_option linter.unusedSectionVars false
namespace Go.Au
open Go Go.RowKit

/-! ### steps -/
def stepG (W : List Nat) (l : Int) (e : Edge) : Bool := hasI W e.frm && goesS e l
def stepW (n : Nat) (es : List Edge) (W : List Nat) (l : Int) : List Nat := es.foldl (fun A e => if stepG W l e = true then putI n A e.to else A) (List.replicate ((n + 63) / 64) 0)
theorem stepW_snoc (n : Nat) (es : List Edge) (W : List Nat) (l : Int) (i : Nat) (e : Edge) (he : es[i]? = some e) : stepW n (es.take (i + 1)) W l = if stepG W l e = true then putI n (stepW n (es.take i) W l) e.to else stepW n (es.take i) W l := by
  unfold stepW
  rw [List.take_add_one, he, List.foldl_append]
  rfl
theorem callStp : callable Proofs.Try.prog 77 = true := by kernel_rfl
theorem stp_c {w : World} {lo hi p q n : Nat} {ev : Value} {es : List Edge} {W : List Nat} (hv : Edges lo hi w ev es) (hS : SetV w p q n W) (hl : es.length < 4611686018427387904) (l : Int) :
    Calls Proofs.Try.prog 77 [ev, pt p 0, .int .u16 l].toArray w (Ret fun r w' => Kp w w' ∧ ∃ p' q', r = pt p' 0 ∧ w.heap.size ≤ p' ∧ w.heap.size ≤ q' ∧ SetV w' p' q' n (stepW n es W l)) := by
  obtain ⟨a, c, rfl, hc, hx⟩ := hv
  refine call agree Proofs.Try.func77 rfl Proofs.Try.ntmps77 (by kernel_rfl) ?_
  refine cl callWidth (width_c hS) ?_
  rintro _ w1 ⟨rfl, k1⟩
  have hcall := new_c w1 n hS.nb
  refine cl callNew hcall ?_
  rintro _ w2 ⟨k2, p2, q2, rfl, hp2, hq2, hS2⟩
  have z1 := k1.size
  have k12 := k1.trans k2
  have hSp := hS.hdr.lt
  have hSq := hS.row.lt
  refine loop agree (σ := Nat) (fun i => [(1, pt p 0), (2, .int .u16 l), (7, pt p2 0), (13, .slice a es.length c), (14, .int .i64 es.length), (15, .int .i64 i)]) (fun i w' => Kp w w' ∧ i ≤ es.length ∧ SetV w' p2 q2 n (stepW n (es.take i) W l)) (fun i => es.length - i) 0
    ⟨rfl, rfl, rfl, rfl, rfl, rfl, trivial⟩ ⟨k12, by omega, hS2⟩ ?_
  rintro i e0 w3 ⟨k3, hi, hA⟩
  refine sp (fun hlt => ?_) (fun hge => ?_)
  · have hi' : i < es.length := by omega
    have hgi : es[i]? = some es[i] := by simp [hi']
    obtain ⟨b, o, rfl, -, -, cs, -, hrd, rfl, -⟩ := hx i es[i] hgi
    refine ne ⟨by omega, by omega⟩ ?_
    refine ld agree (v := es[i].val) (k3.range hrd id) rfl ?_
    refine nd fun r w4 e4 s4 k4 m4 => ?_
    refine st agree (cs := [.int .i64 0, .int .i64 0, .int .u16 0, .int .u16 0]) m4 rfl (Nat.le_refl 4) rfl ?_
    intro w5 s5 k5 m5
    have m5 : Own w5 r 52 es[i].cells := m5
    have k35 : Kp w3 w5 := k4.new e4 k5
    have k05 := k3.trans k35
    have hS5 : SetV w5 p q n W := hS.chg k05 id id
    have hA5 := hA.chg k35 id id
    refine ld agree (Own.at_ (xs := [.int .i64 es[i].frm]) (o := 0) m5 rfl) (by rfl) ?_
    refine cl callHas (has_c hS5 es[i].frm) ?_
    rintro _ w6 ⟨rfl, k6⟩
    have hsn := stepW_snoc n es W l i _ hgi
    unfold stepG at hsn
    cases hh : hasI W es[i].frm with
    | false =>
      refine aw (by omega) (by omega) ?_
      refine again (i + 1) ⟨rfl, rfl, rfl, rfl, rfl, rfl, trivial⟩ ⟨k05.trans k6, by omega, ?_⟩ (by omega)
      rw [hsn, hh, Bool.false_and, if_neg (by decide)]
      exact hA5.chg k6 id id
    | true =>
      have m6 := k6.own m5 id
      refine ld agree (v := es[i].val) (Own.at_ (xs := es[i].cells) (o := 0) m6 rfl) (by rfl) ?_
      refine cl callGoes (goes_c w6 es[i] l) ?_
      rintro _ w7 ⟨rfl, k7⟩
      have k57 := k6.trans k7
      cases hg : goesS es[i] l with
      | false =>
        refine aw (by omega) (by omega) ?_
        refine again (i + 1) ⟨rfl, rfl, rfl, rfl, rfl, rfl, trivial⟩ ⟨k05.trans k57, by omega, ?_⟩ (by omega)
        rw [hsn, hh, hg, Bool.and_false, if_neg (by decide)]
        exact hA5.chg k57 id id
      | true =>
        refine ld agree (Own.at_ (xs := [.int .i64 es[i].to]) (o := 1) (k7.own m6 id) rfl) (by rfl) ?_
        have hcall := sput_c (hA5.chg k57 id id) es[i].to
        refine cl callSPut hcall ?_
        rintro _ w8 ⟨k8, hA8⟩
        refine aw (by omega) (by omega) ?_
        refine again (i + 1) ⟨rfl, rfl, rfl, rfl, rfl, rfl, trivial⟩ ⟨(k05.trans k57).newS k8 fun j hj => by omega, by omega, ?_⟩ (by omega)
        rw [hsn, hh, hg, Bool.and_self, if_pos rfl]
        exact hA8
  · have : i = es.length := by omega
    subst this
    rw [List.take_length] at hA
    exact ⟨k3, p2, q2, rfl, by omega, by omega, hA⟩

def stepOk (g : Buchi) (n : Nat) (l : Int) : Prop := checkS g.general = true ∧ (n : Int) = g.states ∧ l < 2 ^ g.props.length
theorem callStep : callable Proofs.Try.prog 32 = true := by kernel_rfl
theorem step_c {w : World} {lo hi p q n : Nat} {pv iv ev fv : Value} {g : Buchi} {W : List Nat} (hv : BuchiV lo hi w pv iv ev fv g) (hS : SetV w p q n W) (l : Int) (hl : Let16 l) :
    Calls Proofs.Try.prog 32 [.agg #[pv, .int .i64 g.states, iv, ev, fv], pt p 0, .int .u16 l].toArray w (Ret fun r w' => Kp w w' ∧ (¬ stepOk g n l ∧ r = .pointer none ∨ stepOk g n l ∧ ∃ p' q', r = pt p' 0 ∧ w.heap.size ≤ p' ∧ w.heap.size ≤ q' ∧ SetV w' p' q' n (stepW n g.edges W l))) := by
  obtain ⟨hl1, hl2⟩ := hl
  obtain ⟨a1, c1, hh1, -⟩ := id hv.props
  obtain ⟨a2, c2, hh2, -⟩ := id hv.init
  obtain ⟨a3, c3, hh3, -⟩ := id hv.edges
  obtain ⟨a4, c4, hh4, -⟩ := id hv.final
  subst hh1 hh2 hh3 hh4
  refine call agree Proofs.Try.func32 rfl Proofs.Try.ntmps32 (by kernel_rfl) ?_
  refine nd fun b w1 e1 s1 k1 m1 => ?_
  have m1 : Own w1 b 31 [.slice a1 g.props.length c1, .int .i64 g.states, .slice a2 g.init.length c2, .slice a3 g.edges.length c3, .slice a4 g.final.length c4] := m1
  have hck : ∀ V, Kp w1 V → Calls Proofs.Try.prog 14 [.agg #[.slice a1 g.props.length c1, .int .i64 g.states, .slice a2 g.init.length c2, .slice a3 g.edges.length c3, .slice a4 g.final.length c4]].toArray V (Ret fun r w' => r = .int .i64 (errS (checkS g.general)) ∧ Kp V w') := fun V hV => checkB_c (hv.chg (k1.trans hV) (Nat.le_refl _) (Nat.le_refl _))
  have hwd : ∀ V, Kp w1 V → Calls Proofs.Try.prog 36 [pt p 0].toArray V (Ret fun r w' => r = .int .i64 n ∧ Kp V w') := fun V hV => width_c (hS.chg (k1.trans hV) id id)
  refine drawn0 agree mixed 19 (by kernel_rfl) (fun _ => False) ?_
  conv => whnf
  refine ldk (v := .agg #[.slice a1 g.props.length c1, .int .i64 g.states, .slice a2 g.init.length c2, .slice a3 g.edges.length c3, .slice a4 g.final.length c4]) agree rfl rfl (fun V hV _ => Own.at_ (xs := [.slice a1 g.props.length c1, .int .i64 g.states, .slice a2 g.init.length c2, .slice a3 g.edges.length c3, .slice a4 g.final.length c4]) (o := 0) (hV.own m1 id) rfl) (by rfl) fun _ => ?_
  conv => whnf
  cases hc : checkS g.general with
  | false =>
    refine callk (v := .int .i64 100) rfl rfl rfl callCheck (fun V hV _ => by have := hck V hV; rw [hc] at this; exact this) fun _ => ?_
    conv => whnf
    refine spT (by decide) ?_
    conv => whnf
    intro V hV _
    exact ⟨k1.trans hV, .inl ⟨fun h => Bool.noConfusion (hc.symm.trans h.1), rfl⟩⟩
  | true =>
    refine callk (v := .int .i64 0) rfl rfl rfl callCheck (fun V hV _ => by have := hck V hV; rw [hc] at this; exact this) fun _ => ?_
    conv => whnf
    refine spF (by decide) ?_
    conv => whnf
    refine callk (v := .int .i64 n) rfl rfl rfl callWidth (fun V hV _ => hwd V hV) fun _ => ?_
    conv => whnf
    refine ldk agree rfl rfl (fun V hV _ => Own.at_ (xs := [.int .i64 g.states]) (o := 1) (hV.own m1 id) rfl) (by rfl) fun _ => ?_
    conv => whnf
    by_cases hn : (n : Int) = g.states
    · refine spF (fun h => h hn) ?_
      have h8 : g.props.length ≤ 8 := check_len hc
      obtain ⟨e1', e2', e3'⟩ := shl_val h8
      conv => whnf
      refine arE (wrap64 (by omega) (by omega)) ?_
      conv => whnf
      refine ldk agree rfl rfl (fun V hV _ => Own.at_ (xs := [.slice a1 g.props.length c1]) (o := 0) (hV.own m1 id) rfl) (by rfl) fun _ => ?_
      conv => whnf
      refine ne (by omega) ?_
      conv => whnf
      refine arE (show _ = (2 : Int) ^ g.props.length by rw [e1']; exact wrap64 (by omega) (by omega)) ?_
      conv => whnf
      by_cases hlt : l < 2 ^ g.props.length
      · refine spF (by omega) ?_
        conv => whnf
        intro V hV _
        have k0V := k1.trans hV
        refine ld agree (Own.at_ (xs := [.slice a3 g.edges.length c3]) (o := 3) (hV.own m1 id) rfl) (by rfl) ?_
        have hcall := stp_c ((hv.chg k0V (Nat.le_refl _) (Nat.le_refl _)).edges) (hS.chg k0V id id) hv.le l
        refine cl callStp hcall ?_
        rintro _ w3 ⟨k3, p', q', rfl, h1, h2, h3⟩
        have := k0V.size
        exact ⟨k0V.trans k3, .inr ⟨⟨hc, hn, hlt⟩, p', q', rfl, by omega, by omega, h3⟩⟩
      · refine spT (by omega) ?_
        conv => whnf
        intro V hV _
        exact ⟨k1.trans hV, .inl ⟨fun h => hlt h.2.2, rfl⟩⟩
    · refine spT hn ?_
      conv => whnf
      intro V hV _
      exact ⟨k1.trans hV, .inl ⟨fun h => hn h.2.1, rfl⟩⟩

/-! ### the document's step -/
def stepB (n : Nat) (es : List Edge) (B : List Bool) (l : Int) : List Bool := es.foldl (fun A e => if (B.getD e.frm.toNat false && goesS e l) = true then A.set e.to.toNat true else A) (List.replicate n false)
theorem stepB_snoc (n : Nat) (es : List Edge) (B : List Bool) (l : Int) (i : Nat) (e : Edge) (he : es[i]? = some e) : stepB n (es.take (i + 1)) B l = if (B.getD e.frm.toNat false && goesS e l) = true then (stepB n (es.take i) B l).set e.to.toNat true else stepB n (es.take i) B l := by
  unfold stepB
  rw [List.take_add_one, he, List.foldl_append]
  rfl
theorem stepB_len (n : Nat) (es : List Edge) (B : List Bool) (l : Int) : (stepB n es B l).length = n := by
  unfold stepB
  have h : ∀ (es : List Edge) (A : List Bool), A.length = n → (es.foldl (fun A e => if (B.getD e.frm.toNat false && goesS e l) = true then A.set e.to.toNat true else A) A).length = n := by
    intro es
    induction es with
    | nil => intro A h; exact h
    | cons e es ih =>
      intro A h
      refine ih _ ?_
      dsimp only
      split
      · rw [List.length_set]; exact h
      · exact h
  exact h es _ (by simp)
theorem callRStep : callable Proofs.Try.prog 35 = true := by kernel_rfl
theorem rstep_c {w : World} {lo hi b n : Nat} {pv iv ev fv : Value} {g : Buchi} {B : List Bool} (hv : BuchiV lo hi w pv iv ev fv g) (hG : Good g.general) (hn : g.states = n) (hB : Own w b 4 (B.flatMap fB)) (hBl : B.length = n) (l : Int) :
    Calls Proofs.Try.prog 35 [.agg #[pv, .int .i64 g.states, iv, ev, fv], .slice (some ⟨b, 0, none⟩) n n, .int .u16 l].toArray w (Ret fun r w' => Kp w w' ∧ ∃ q, r = .slice (some ⟨q, 0, none⟩) n n ∧ w.heap.size ≤ q ∧ Own w' q 4 ((stepB n g.edges B l).flatMap fB)) := by
  have hle := hv.le
  have hs1 : g.states ≤ 65536 := hG.s1
  have hGe : ∀ e ∈ g.edges, 0 ≤ e.frm ∧ e.frm < g.states ∧ 0 ≤ e.to ∧ e.to < g.states := hG.edges
  obtain ⟨a3, c3, rfl, hec, hedges⟩ := id hv.edges
  refine call agree Proofs.Try.func35 rfl Proofs.Try.ntmps35 (by kernel_rfl) ?_
  refine nd fun p w1 e1 s1 k1 m1 => ?_
  have m1 : Own w1 p 31 [pv, .int .i64 g.states, iv, .slice a3 g.edges.length c3, fv] := m1
  refine ld agree (Own.at_ (xs := [.int .i64 g.states]) (o := 1) m1 rfl) (by rfl) ?_
  have mA : Own w1 p 31 [pv, .int .i64 (n : Int), iv, .slice a3 g.edges.length c3, fv] := by rw [← hn]; exact m1
  rw [hn]
  refine ms agree rfl rfl rfl rfl rfl rfl (by omega) (Int.le_refl _) (by show (1 : Int) * _ ≤ _; omega) (by omega) fun q w2 e2 s2 k2 m2 => ?_
  rw [Int.toNat_natCast] at m2 ⊢
  have m2 : Own w2 q 4 ((List.replicate n false).flatMap fB) := by
    have m2 : Own w2 q 4 (rep [.bool false] n) := m2
    rwa [repB] at m2
  have k12 := k1.trans k2
  have m1 := k2.own m1 id
  have m1lt := m1.lt
  have hqw : w1.heap.size ≤ q := by omega
  refine loop agree (σ := Nat) (fun i => [(1, .slice (some ⟨b, 0, none⟩) n n), (2, .int .u16 l), (3, pt p 0), (7, .slice (some ⟨q, 0, none⟩) n n), (8, .int .i64 i)]) (fun i w' => Kp w w' ∧ Kp w1 w' ∧ i ≤ g.edges.length ∧ Own w' q 4 ((stepB n (g.edges.take i) B l).flatMap fB)) (fun i => g.edges.length - i) 0
    ⟨rfl, rfl, rfl, rfl, rfl, trivial⟩ ⟨k12, k2, by omega, m2⟩ ?_
  rintro i e0 w3 ⟨k3, k13, hi, hA⟩
  have n1 : Own w3 p 31 [pv, .int .i64 (n : Int), iv, .slice a3 g.edges.length c3, fv] := by
    exact k13.own mA id
  refine ld agree (Own.at_ (xs := [.slice a3 g.edges.length c3]) (o := 3) n1 rfl) (by rfl) ?_
  refine sp (fun hlt => ?_) (fun hge => ?_)
  · have hi' : i < g.edges.length := by omega
    have hgi : g.edges[i]? = some g.edges[i] := by simp [hi']
    obtain ⟨bb, o, rfl, -, -, cs, -, hrd, rfl, -⟩ := hedges i g.edges[i] hgi
    obtain ⟨h1, h2, h3, h4⟩ := hGe g.edges[i] (List.getElem_mem hi')
    refine ld agree (Own.at_ (xs := [.slice (some ⟨bb, o, none⟩) g.edges.length c3]) (o := 3) n1 rfl) (by rfl) ?_
    refine ne ⟨by omega, by omega⟩ ?_
    refine ld agree (v := g.edges[i].val) (k3.range hrd id) rfl ?_
    refine nd fun r w4 e4 s4 k4 m4 => ?_
    refine st agree (cs := [.int .i64 0, .int .i64 0, .int .u16 0, .int .u16 0]) m4 rfl (Nat.le_refl 4) rfl ?_
    intro w5 s5 k5 m5
    have m5 : Own w5 r 52 g.edges[i].cells := m5
    have k35 : Kp w3 w5 := k4.new e4 k5
    have k05 := k3.trans k35
    have hA5 := k35.own hA id
    refine ld agree (Own.at_ (xs := [.int .i64 g.edges[i].frm]) (o := 0) m5 rfl) (by rfl) ?_
    obtain ⟨f, hf⟩ : ∃ f : Nat, g.edges[i].frm = f := ⟨g.edges[i].frm.toNat, by omega⟩
    rw [hf]
    refine ne ⟨by omega, by omega⟩ ?_
    have hfl : f < B.length := by omega
    have hgB : B.getD f false = B[f] := by rw [List.getD_eq_getElem?_getD]; simp [hfl]
    refine ld (v := .bool B[f]) agree (by rw [Int.toNat_natCast]; exact flat_range (f := fB) (cs := []) (fun _ => rfl) (show B[f]? = some B[f] by simp [hfl]) (by rw [List.append_nil]; exact Own.all (k05.own hB id))) (by rfl) ?_
    have hsn := stepB_snoc n g.edges B l i _ hgi
    rw [hf, Int.toNat_natCast, hgB] at hsn
    cases hb : B[f] with
    | false =>
      refine aw (by omega) (by omega) ?_
      refine again (i + 1) ⟨rfl, rfl, rfl, rfl, rfl, trivial⟩ ⟨k05, k13.trans k35, by omega, ?_⟩ (by omega)
      rw [hsn, hb, Bool.false_and, if_neg (by decide)]
      exact hA5
    | true =>
      refine ld agree (v := g.edges[i].val) (Own.at_ (xs := g.edges[i].cells) (o := 0) m5 rfl) (by rfl) ?_
      refine cl callRGoes (rgoes_c w5 g.edges[i] l) ?_
      rintro _ w7 ⟨rfl, k7⟩
      cases hgo : goesS g.edges[i] l with
      | false =>
        refine aw (by omega) (by omega) ?_
        refine again (i + 1) ⟨rfl, rfl, rfl, rfl, rfl, trivial⟩ ⟨k05.trans k7, k13.trans (k35.trans k7), by omega, ?_⟩ (by omega)
        rw [hsn, hb, hgo, Bool.and_false, if_neg (by decide)]
        exact k7.own hA5 id
      | true =>
        refine ld agree (Own.at_ (xs := [.int .i64 g.edges[i].to]) (o := 1) (k7.own m5 id) rfl) (by rfl) ?_
        obtain ⟨t, ht⟩ : ∃ t : Nat, g.edges[i].to = t := ⟨g.edges[i].to.toNat, by omega⟩
        rw [ht]
        refine ne ⟨by omega, by omega⟩ ?_
        have hA7 := k7.own hA5 id
        have hsl := stepB_len n (g.edges.take i) B l
        refine st agree hA7 rfl (by rw [Int.toNat_natCast, flat_len (f := fB) (size := 1) (fun _ => rfl), hsl]; show 0 + t * 1 + 1 ≤ _; omega) rfl ?_
        intro w8 s8 k8 m8
        rw [Int.toNat_natCast] at m8
        have m8 := setB (stepB n (g.edges.take i) B l) t true (0 + t * 1) (by omega) ▸ m8
        have k17 := k13.trans (k35.trans k7)
        refine aw (by omega) (by omega) ?_
        refine again (i + 1) ⟨rfl, rfl, rfl, rfl, rfl, trivial⟩ ⟨(k05.trans k7).newS k8 fun j hj => by omega, k17.newS k8 fun j hj => by omega, by omega, ?_⟩ (by omega)
        rw [hsn, hb, hgo, ht, Bool.and_self, if_pos rfl, Int.toNat_natCast]
        exact m8
  · have : i = g.edges.length := by omega
    subst this
    rw [List.take_length] at hA
    exact ⟨k3, q, rfl, by omega, hA⟩
end Go.Au
