/- Own text of this workplace: a part of the proofs of this place's statements. -/
import Derived.Test.YtjibhchnhkjgkaaB10
set_option linter.unusedVariables false
set_option linter.unusedSimpArgs false
set_option linter.unusedSectionVars false
namespace Go.Au
open Go Go.RowKit Go.MapKept
open Go.Maps (Keyed)

/-- a run of an automaton beside a word -/
structure RunV (lo hi : Nat) (w : World) (r : Nat) (g : General) (x : Word) (all : List Place) : Prop where
  h : ∃ pv iv ev sv stv lov mn av nl, Own w r 129 [pv, .int .i64 g.states, iv, ev, sv, stv, lov, .map (some mn), av] ∧ lo ≤ r ∧ r < hi ∧ lo ≤ mn ∧ mn < hi ∧ GenV 0 hi w pv iv ev sv g ∧
    RowE (fun _ cs p => cs = pcells p) 2 0 hi w av all ∧ MapE Proofs.Try.prog 133 pval (fun v : Value => v) w mn nl ∧ ∀ p ∈ all, RowE (fun _ cs p => cs = pcells p) 2 0 hi w (aget nl nilS p) (succ g x p)

theorem behindV_c {w : World} {lo hi : Nat} {sv lv : Value} {x : Word} (hv : WordV lo hi w sv lv x) (i : Nat) (hi : i < 4611686018427387904) :
    Calls Proofs.Try.prog 103 [.agg #[sv, lv], .int .i64 i].toArray w (Ret fun r w' => r = .int .i64 (x.behind i) ∧ Kp w w') := by
  obtain ⟨a1, c1, rfl, -⟩ := hv.stem
  obtain ⟨a2, c2, rfl, -⟩ := hv.loop
  exact behind_c a1 a2 c1 c2 x hv.ls hv.ll i hi
def putP (all : List Place) (p : Place) : List Place := if p ∈ all then all else all ++ [p]
theorem mem_putP {all : List Place} {p q : Place} : q ∈ putP all p ↔ q ∈ all ∨ q = p := by
  unfold putP
  split
  · rename_i h
    exact ⟨.inl, fun h' => h'.elim id fun e => e ▸ h⟩
  · simp
theorem nodup_putP {all : List Place} {p : Place} (h : all.Nodup) : (putP all p).Nodup := by
  unfold putP
  split
  · exact h
  · rename_i hp
    rw [List.nodup_append]
    refine ⟨h, by simp, fun a ha b hb he => ?_⟩
    simp at hb
    exact hp (hb ▸ he ▸ ha)
theorem take_putP {all : List Place} {p : Place} {i : Nat} (h : i ≤ all.length) : (putP all p).take i = all.take i := by
  unfold putP
  split
  · rfl
  · rw [List.take_append_of_le_length h]
theorem len_putP {all : List Place} {p : Place} : all.length ≤ (putP all p).length := by
  unfold putP
  split <;> simp

/-- what is reached, under way: i places are done -/
structure Reach (g : General) (x : Word) (i : Nat) (all : List Place) : Prop where
  nodup : all.Nodup
  closed : ∀ p ∈ all.take i, ∀ q ∈ succ g x p, q ∈ all
  least : ∀ X : Place → Prop, (∀ s ∈ g.init, X (s, 0)) → (∀ p q, X p → q ∈ succ g x p → X q) → ∀ p ∈ all, X p
theorem Reach.put {g : General} {x : Word} {i : Nat} {all : List Place} {q : Place} (h : Reach g x i all) (hi : i ≤ all.length) (hq : (∃ s ∈ g.init, q = (s, 0)) ∨ ∃ p ∈ all, q ∈ succ g x p) : Reach g x i (putP all q) :=
  ⟨nodup_putP h.nodup, fun p hp a ha => mem_putP.2 (.inl (h.closed p (by rwa [take_putP hi] at hp) a ha)), fun X h1 h2 p hp => by
    rcases mem_putP.1 hp with hp | rfl
    · exact h.least X h1 h2 p hp
    · rcases hq with ⟨s, hs, rfl⟩ | ⟨p', hp', hq⟩
      · exact h1 s hs
      · exact h2 _ _ (h.least X h1 h2 p' hp') hq⟩
theorem Reach.box {g : General} {x : Word} {i : Nat} {all : List Place} (h : Reach g x i all) (hg : Good g) (hx : x.loop.length ≠ 0) : ∀ p ∈ all, InBox g x p :=
  h.least _ (fun s hs => by
    have := hg.init s hs
    have := places_pos hx
    exact ⟨by simp; omega, by simp; omega, by simp, by simp; omega⟩) (fun p q hp hq => succ_box hg hx hp q hq)
theorem Reach.len {g : General} {x : Word} {i : Nat} {all : List Place} (h : Reach g x i all) (hg : Good g) (hx : x.loop.length ≠ 0) (hP : x.places < 1048576) : all.length < 1099511627776 := by
  have h1 := box_len h.nodup hg (h.box hg hx)
  have h2 : g.states.toNat * x.places ≤ 65536 * 1048576 := Nat.mul_le_mul (by have := hg.s1; omega) (by omega)
  omega

def doneS (g : General) (x : Word) (dn : List Place) (a : Place) : List Place := if a ∈ dn then succ g x a else []
def curS (g : General) (x : Word) (dn : List Place) (p : Place) (sj : List Place) (a : Place) : List Place := if a = p then sj else doneS g x dn a

theorem curS_done (g : General) (x : Word) (dn : List Place) (p : Place) : curS g x dn p (succ g x p) = doneS g x (dn ++ [p]) := by
  funext a
  unfold curS doneS
  by_cases h : a = p
  · rw [if_pos h, if_pos (by simp [h]), h]
  · rw [if_neg h]
    simp [h]
abbrev NextE (w : World) (mn : Nat) (nl : List (Place × Value)) := MapE Proofs.Try.prog 133 pval (fun v : Value => v) w mn nl

/-- the walk is at its places -/
structure RunS (w8 w : World) (base p9 p5 r ms mn : Nat) (cs : List Value) (av : Value) (all : List Place) (nl : List (Place × Value)) (F : Place → List Place) (pre : List (Value × List Value)) : Prop where
  put : PutV w base p9 p5 r ms mn cs av all (pre ++ nl.map fun a => (a.2, flat (F a.1)))
  next : NextE w mn nl
  none : ∀ a, alook nl a = none → F a = []
  chg : Chg (fun k => k = r ∨ k = mn) w8 w
  ne : mn ≠ ms
  low : w8.heap.size ≤ base ∧ w8.heap.size ≤ ms

theorem RunS.step {w8 w w' : World} {base p9 p5 r ms mn : Nat} {cs : List Value} {av av' : Value} {all all' : List Place} {nl : List (Place × Value)} {F : Place → List Place} {pre : List (Value × List Value)} (h : RunS w8 w base p9 p5 r ms mn cs av all nl F pre)
    (hp : PutV w' base p9 p5 r ms mn cs av' all' (pre ++ nl.map fun a => (a.2, flat (F a.1)))) (hc : Chg (fun k => k = r ∨ k = ms ∨ some k = av.ownBlock) w w') : RunS w8 w' base p9 p5 r ms mn cs av' all' nl F pre := by
  obtain ⟨es, clock, hm, -⟩ := h.next.h
  refine ⟨hp, h.next.chg hc fun hh => ?_, h.none, h.chg.newT hc ?_, h.ne, h.low⟩
  · rcases hh with rfl | rfl | hh
    · rw [show w.heap[mn]? = _ from h.put.mr] at hm; cases hm
    · exact h.ne rfl
    · exact h.put.bag.ne hm (by simp) _ List.mem_cons_self hh.symm
  · rintro k (rfl | rfl | hk) 
    · exact .inl (.inl rfl)
    · exact .inr h.low.2
    · have := h.put.bag.lt _ List.mem_cons_self k hk.symm
      have := h.low.1; exact .inr (by omega)

theorem PutV.kp {w w' : World} {base p9 p5 r ms mn : Nat} {cs : List Value} {av : Value} {all : List Place} {L : List (Value × List Value)} (h : PutV w base p9 p5 r ms mn cs av all L) (k : Kp w w') : PutV w' base p9 p5 r ms mn cs av all L :=
  ⟨k.own h.m9 id, k.own h.m5 id, k.own h.mr id, h.len, h.seen.chg k id, h.bag.kp k, Nat.le_trans h.base k.size⟩
theorem RunS.kp {w8 w w' : World} {base p9 p5 r ms mn : Nat} {cs : List Value} {av : Value} {all : List Place} {nl : List (Place × Value)} {F : Place → List Place} {pre : List (Value × List Value)} (h : RunS w8 w base p9 p5 r ms mn cs av all nl F pre) (k : Kp w w') : RunS w8 w' base p9 p5 r ms mn cs av all nl F pre :=
  ⟨h.put.kp k, h.next.chg k id, h.none, h.chg.newT k fun _ hf => hf.elim, h.ne, h.low⟩
theorem RunS.row {w8 w : World} {base p9 p5 r ms mn : Nat} {cs : List Value} {av : Value} {all : List Place} {nl : List (Place × Value)} {F : Place → List Place} {pre : List (Value × List Value)} (h : RunS w8 w base p9 p5 r ms mn cs av all nl F pre) (p : Place) : w.ownsRow base 133 2 (aget nl nilS p) (F p).length (flat (F p)) := by
  obtain ⟨n, hn⟩ := Bag.lookRow (pre := (av, flat all) :: pre) (F := fun a => flat (F a)) h.put.bag (fun a ha => by rw [h.none a ha]; rfl) p
  have : n = (F p).length := by
    have := hn.1
    simp only [flat] at this
    rw [flat_len (size := 2) (fun x => rfl)] at this
    omega
  rwa [this] at hn
theorem RunS.next_ {w8 w w' : World} {base p9 p5 r ms mn : Nat} {cs : List Value} {av v' : Value} {all : List Place} {nl : List (Place × Value)} {F : Place → List Place} {pre : List (Value × List Value)} {p q : Place} {n' : Nat} (h : RunS w8 w base p9 p5 r ms mn cs av all nl F pre)
    (hc : Chg (fun b => b = mn ∨ some b = (aget nl nilS p).ownBlock) w w') (hm : NextE w' mn (aput nl p v')) (hrow : w'.ownsRow base 133 2 v' n' (flat (F p) ++ pcells q)) (hnew : ∀ g, v'.ownBlock = some g → (aget nl nilS p).ownBlock = some g ∨ w.heap.size ≤ g) :
    RunS w8 w' base p9 p5 r ms mn cs av all (aput nl p v') (fun a => if a = p then F p ++ [q] else F a) pre := by
  have hold := h.row p
  obtain ⟨es, clock, hmn, -⟩ := h.next.h
  obtain ⟨es2, clock2, hms, -⟩ := h.put.seen.h
  have hcell : ∀ {b t cs}, Own w b t cs → t ≠ 133 → Own w' b t cs := fun {b t cs} ho ht => hc.own ho fun hk => by
    rcases hk with hk | hk
    · exact h.next.ne ho hk
    · exact ownsRow_ne hold ho (fun cs fr hh => by injection hh with _ h2; exact ht h2) hk.symm
  refine ⟨⟨hcell h.put.m9 (by decide), hcell h.put.m5 (by decide), hcell h.put.mr (by decide), h.put.len, h.put.seen.chg hc ?_, ?_, Nat.le_trans h.put.base hc.size⟩, hm, ?_, h.chg.newT hc ?_, h.ne, h.low⟩
  · rintro (hk | hk)
    · exact h.ne hk.symm
    · exact ownsRow_ne hold hms (by simp) hk.symm
  · have hb := Bag.aput (pre := (av, flat all) :: pre) (F := fun a => flat (F a)) (x := p) (xs' := flat (F p) ++ pcells q) h.next.nodup h.put.bag hc (fun b hb => ?_) hrow hnew
    · have heq : (fun a : Place × Value => (a.2, flat (if a.1 = p then F p ++ [q] else F a.1))) = fun a => (a.2, if a.1 = p then flat (F p) ++ pcells q else flat (F a.1)) := by
        funext a
        split
        · rw [flat_snoc]
        · rfl
      rw [heq]
      exact hb
    · rcases hb with rfl | hb
      · exact .inr (h.put.bag.ne hmn (by simp))
      · exact .inl hb
  · intro a ha
    rw [alook_aput] at ha
    by_cases hap : a = p
    · subst hap
      rw [if_pos rfl] at ha
      cases ha
    · rw [if_neg (Ne.symm hap)] at ha
      rw [if_neg hap]
      exact h.none a ha
  · rintro k (hk | hk)
    · exact .inl (.inr hk)
    · have := (hold.lt k hk.symm).1
      have := h.low.1
      exact .inr (by omega)

set_option maxHeartbeats 4000000 in
theorem beside_c {w : World} {pv iv ev sv stv lov : Value} {g : General} {x : Word} (hv : GenV 0 w.heap.size w pv iv ev sv g) (hw : WordV 0 w.heap.size w stv lov x) (hg : Good g) (hx : x.loop.length ≠ 0)
    (hE : g.edges.length < 1099511627776) (hP : x.places < 1048576) :
    Calls Proofs.Try.prog 67 [.agg #[pv, .int .i64 g.states, iv, ev, sv], .agg #[stv, lov]].toArray w (Ret fun v w' => Kp w w' ∧ ∃ r all, v = pt r 0 ∧ AllOf g x all ∧ RunV w.heap.size w'.heap.size w' r g x all) := by
  obtain ⟨ea, ec, he, hec, hedges⟩ := id hv.edges
  obtain ⟨ia, ic, hi, hic, hinit⟩ := id hv.init
  subst he hi
  refine call agree Proofs.Try.func67 rfl Proofs.Try.ntmps67 (by kernel_rfl) ?_
  refine nd fun p2 w1 e1 s1 k1 m1 => ?_
  have m2 : Own w1 p2 28 [pv, .int .i64 g.states, .slice ia g.init.length ic, .slice ea g.edges.length ec, sv] := m1
  refine nd fun p3 w2 e2 s2 k2 m3 => ?_
  have m3 : Own w2 p3 44 [stv, lov] := m3
  have m2 := k2.own m2 id
  refine ld agree (v := .agg #[pv, .int .i64 g.states, .slice ia g.init.length ic, .slice ea g.edges.length ec, sv]) (Own.at_ (xs := [pv, .int .i64 g.states, .slice ia g.init.length ic, .slice ea g.edges.length ec, sv]) (o := 0) m2 rfl) (by rfl) ?_
  refine ld agree (v := .agg #[stv, lov]) (Own.at_ (xs := [stv, lov]) (o := 0) m3 rfl) (by rfl) ?_
  refine nd fun mn w3 e3 s3 k3 mmn => ?_
  refine nd fun r w4 e4 s4 k4 mr => ?_
  have mr : Own w4 r 129 [pv, .int .i64 g.states, .slice ia g.init.length ic, .slice ea g.edges.length ec, sv, stv, lov, .map (some mn), nilS] := mr
  refine nd fun p5 w5 e5 s5 k5 m5 => ?_
  have m5 : Own w5 p5 94 [.pointer none] := m5
  refine st agree m5 rfl (Nat.le_refl 1) rfl ?_
  intro w6 s6 k6 m6
  have m6 : Own w6 p5 94 [pt r 0] := m6
  have k16 : Kp w1 w6 := k2.trans (k3.trans (k4.trans (k5.new e5 k6)))
  have k26 : Kp w2 w6 := k3.trans (k4.trans (k5.new e5 k6))
  have k36 : Kp w3 w6 := k4.trans (k5.new e5 k6)
  have k46 : Kp w4 w6 := k5.new e5 k6
  refine ld agree (Own.at_ (xs := [.int .i64 g.states]) (k26.own m2 id) rfl) (by rfl) ?_
  have h0 := hg.s0
  have h1 := hg.s1
  refine ms agree rfl rfl rfl rfl rfl rfl h0 (Int.le_refl _) (by show (24 : Int) * _ ≤ _; omega) (by omega) fun bb w7 e7 s7 k7 m7 => ?_
  obtain ⟨n, hn⟩ : ∃ n : Nat, g.states = n := ⟨g.states.toNat, by omega⟩
  have m7 : Own w7 bb 25 (rep [nilS] g.states.toNat) := m7
  rw [hn, Int.toNat_natCast] at m7
  have k27 : Kp w2 w7 := k26.trans k7
  have k17 : Kp w1 w7 := k16.trans k7
  refine ld agree (Own.at_ (xs := [.slice ea g.edges.length ec]) (k27.own m2 id) rfl) (by rfl) ?_
  have hrep : ∀ n, rep [nilS] n = List.replicate n nilS := by
    intro n
    induction n with
    | zero => rfl
    | succ n ih => simp [rep, ih, List.replicate_succ]
  have hby0 : ByV w7 bb bb n (rep [nilS] n) [] := by
    refine ⟨by simp [hrep], m7, ⟨fun y hy => ?_, ?_⟩⟩
    · obtain ⟨s, hs, rfl⟩ := List.mem_map.1 hy
      refine ⟨0, ?_⟩
      simp only [hrep, fromS, List.filter_nil, List.flatMap_nil]
      have : (List.replicate n nilS).getD s nilS = nilS := by simp [List.getD_eq_getElem?_getD, List.getElem?_replicate]; split <;> rfl
      rw [this]
      exact World.ownsRow_nil _ _ _ _
    · rw [List.pairwise_map]
      refine List.pairwise_of_forall fun a b c hc => ?_
      have : (rep [nilS] n).getD a nilS = nilS := by simp [hrep, List.getD_eq_getElem?_getD, List.getElem?_replicate]; split <;> rfl
      simp only [this, Value.ownBlock] at hc
      cases hc
  have k67 : Kp w6 w7 := k7
  refine loop agree (σ := Nat × List Value) (fun t => [(2, pt p2 0), (3, pt p3 0), (5, pt p5 0), (6, .slice (some ⟨bb, 0, none⟩) n n), (27, .slice ea g.edges.length ec), (28, .int .i64 g.edges.length), (29, .int .i64 t.1)])
    (fun t w' => t.1 ≤ g.edges.length ∧ Kp w6 w' ∧ ByV w' bb bb n t.2 (g.edges.take t.1)) (fun t => g.edges.length - t.1) (0, rep [nilS] n)
    ⟨rfl, rfl, rfl, ?_, rfl, rfl, rfl, trivial⟩ ⟨by omega, k67, by simpa using hby0⟩ ?_
  · show Value.slice _ g.states.toNat g.states.toNat = _
    rw [hn, Int.toNat_natCast]
  rintro ⟨i, vs⟩ env w8 ⟨hi, k68, hby⟩
  have k18 : Kp w1 w8 := k16.trans k68
  refine sp (fun hlt => ?_) (fun hge => ?_)
  · have hi' : i < g.edges.length := by simp only at hlt; omega
    obtain ⟨b, o, rfl, hlo, hhi, cs, hcs, hrd, rfl, hwf⟩ := hedges i g.edges[i] (by simp)
    have her := hg.edges g.edges[i] (by simp)
    obtain ⟨f, hf⟩ : ∃ f : Nat, g.edges[i].frm = f := ⟨g.edges[i].frm.toNat, by omega⟩
    have hfn : f < n := by omega
    refine ne ⟨by omega, hlt⟩ ?_
    refine ld agree (v := g.edges[i].val) ((k1.trans k18).range hrd id) rfl ?_
    refine nd fun q w9 e9 s9 k9 m9 => ?_
    refine st agree (cs := [.int .i64 0, .int .i64 0, .int .u16 0, .int .u16 0]) m9 rfl (Nat.le_refl 4) rfl ?_
    intro w10 s10 k10 m10
    have m10 : Own w10 q 52 g.edges[i].cells := m10
    have k810 : Kp w8 w10 := k9.new e9 k10
    have hmb := k810.own hby.mb id
    have hbag := hby.bag.kp k810
    obtain ⟨m, hrow⟩ := hbag.own (vs.getD f nilS, (fromS (g.edges.take i) f).flatMap Edge.cells) (List.mem_map.2 ⟨f, by simpa using hfn, rfl⟩)
    have hm : m = (fromS (g.edges.take i) f).length := by
      have := hrow.1
      rw [flat_len (size := 4) (fun e => rfl)] at this
      omega
    subst hm
    have hml : (fromS (g.edges.take i) f).length ≤ i := by
      have h1 := List.length_filter_le (fun e : Edge => decide (e.frm = (f : Int))) (g.edges.take i)
      simp only [List.length_take] at h1
      unfold fromS
      omega
    have hltB : ∀ k, (vs.getD f nilS).ownBlock = some k → k < w10.heap.size := fun k hk => (hrow.lt k hk).2
    have hltB8 : ∀ k, (vs.getD f nilS).ownBlock = some k → k < w8.heap.size := fun k hk => (hby.bag.lt _ (List.mem_map.2 ⟨f, by simpa using hfn, rfl⟩) k hk).2
    have hnq : some q ≠ (vs.getD f nilS).ownBlock := fun he => by have := hltB8 q he.symm; omega
    have hnb : some bb ≠ (vs.getD f nilS).ownBlock := fun he => ownsRow_ne hrow hmb (fun cs fr hh => by injection hh with _ h2; exact absurd h2 (by decide)) he.symm
    have hvf : vs[f]? = some (vs.getD f nilS) := by simp [List.getD_eq_getElem?_getD, hby.len, hfn]
    obtain ⟨va, vc, hvs⟩ := ownsRow_form hrow
    have hpre := preAppR w10 (vs.getD f nilS) ((fromS (g.edges.take i) f).length * 4) g.edges[i].cells
    refine drawnR agree mixed 12 (by kernel_rfl) _ hpre ?_
    conv => whnf
    refine ldr hpre agree rfl rfl (fun W h _ => h.chg.range (Own.at_ (xs := [.int .i64 g.edges[i].frm]) m10 rfl) hnq) (by rfl) fun _ => ?_
    conv => whnf
    refine ldr hpre agree rfl rfl (fun W h _ => h.chg.range (Own.at_ (xs := [.int .i64 g.edges[i].frm]) m10 rfl) hnq) (by rfl) fun _ => ?_
    conv => whnf
    refine ne ⟨by omega, by omega⟩ ?_
    conv => whnf
    refine ldr (v := vs.getD f nilS) hpre agree rfl rfl (fun W h _ => h.chg.range (Own.one hmb hvf (by show 0 + g.edges[i].frm.toNat * 1 = f; omega)) hnb) (by rfl) fun _ => ?_
    conv => whnf
    refine ldr (v := g.edges[i].val) hpre agree rfl rfl (fun W h _ => h.chg.range (Own.at_ (xs := g.edges[i].cells) (o := 0) m10 rfl) hnq) (by rfl) fun _ => ?_
    conv => whnf
    refine bsr hpre rfl rfl rfl rfl rfl (by decide) (fun b o W W' hb ho hS => hS.chg.heap ho fun hc => by have := hltB b hc.symm; omega) (fun W hS => hS.chg.size) fun q2 D hD => ?_
    conv => whnf
    refine apr (m := 1) (news := g.edges[i].cells) agree rfl rfl rfl rfl rfl rfl rfl (by decide) hrow rfl (fun W hS hDn => Own.at_ (xs := g.edges[i].cells) (o := 0) (hD W (hDn 9 (by kernel_rfl))).1 rfl) rfl (by simp only [maxLen]; omega) (by show (_ + 1) * 24 ≤ _; omega) (by have := k810.size; have := hby.mb.lt; omega) fun v' D2 hD2 => ?_
    conv => whnf
    refine ne ⟨by omega, by omega⟩ ?_
    conv => whnf
    intro W hS hDn
    obtain ⟨hown', hnew⟩ := hD2 W (hDn 10)
    have hmbW := hS.chg.own hmb hnb
    obtain ⟨a', cap', rfl⟩ := ownsRow_form hown'
    refine st agree hmbW (by rfl) ?_ rfl ?_
    · show 0 + g.edges[i].frm.toNat * 1 + 1 ≤ vs.length
      rw [hby.len]; omega
    intro w11 s11 k11 m11
    refine aw (by omega) (by omega) ?_
    have hby' : ByV w8 bb bb n vs (g.edges.take i) := hby
    have hlay : lay vs (0 + g.edges[i].frm.toNat * 1) (cellsL (.slice a' ((fromS (g.edges.take i) f).length + 1) cap')) = vs.set f (.slice a' ((fromS (g.edges.take i) f).length + 1) cap') := by
      show vs.set (0 + g.edges[i].frm.toNat * 1) _ = _
      rw [show 0 + g.edges[i].frm.toNat * 1 = f by omega]
    have m11 : Own w11 bb 25 (vs.set f (.slice a' ((fromS (g.edges.take i) f).length + 1) cap')) := by rw [← hlay]; exact m11
    have hby10 : ByV w10 bb bb n vs (g.edges.take i) := ⟨hby.len, hmb, hbag⟩
    have hby11 := hby10.set hf hfn (Nat.le_refl _) hS.chg hown' hnew k11 m11
    refine again (i + 1, vs.set f (.slice a' ((fromS (g.edges.take i) f).length + 1) cap')) ⟨rfl, rfl, rfl, rfl, rfl, rfl, rfl, trivial⟩ ⟨by simp only; omega, ?_, ?_⟩ (by simp only; omega)
    · refine Chg.newS (T := fun k => k = bb ∨ some k = (vs.getD f nilS).ownBlock) (k68.trans k810) ((hS.chg.mono fun _ => .inr).trans (k11.mono fun _ => .inl)) fun k hk => ?_
      rcases hk with rfl | hk
      · omega
      · have := (hbag.lt _ (List.mem_map.2 ⟨f, by simpa using hfn, rfl⟩) k hk.symm).1
        omega
    · rw [show g.edges.take (i + 1) = g.edges.take i ++ [g.edges[i]] by simp]
      exact hby11
  -- behind the first loop
  have hall : g.edges.take i = g.edges := List.take_of_length_le (by simp only at hge; omega)
  rw [hall] at hby
  have hwf : ∀ e ∈ g.edges, e.wf := fun e he => by
    obtain ⟨j, hj, rfl⟩ := List.getElem_of_mem he
    obtain ⟨b, o, _, _, _, cs, _, _, _, hwf⟩ := hedges j g.edges[j] (by simp)
    exact hwf
  have hrows := hby.row (Nat.le_refl _) hwf
  have k28 : Kp w2 w8 := k26.trans k68
  refine nd fun ms w9 e9 s9 k9 mms => ?_
  refine nd fun p9 w10 e10 s10 k10 m9 => ?_
  have m9 : Own w10 p9 131 [.map none] := m9
  refine st agree m9 rfl (Nat.le_refl 1) rfl ?_
  intro w11 s11 k11 m11
  have m9 : Own w11 p9 131 [.map (some ms)] := m11
  have k8b : Kp w8 w11 := k9.trans (k10.new e10 k11)
  refine ld agree (Own.at_ (xs := [.slice ia g.init.length ic]) ((k28.trans k8b).own m2 id) rfl) (by rfl) ?_
  have hput0 : RunS w8 w11 w11.heap.size p9 p5 r ms mn [pv, .int .i64 g.states, .slice ia g.init.length ic, .slice ea g.edges.length ec, sv, stv, lov] nilS [] [] (fun _ => []) [] := by
    have k9b : Kp w9 w11 := k10.new e10 k11
    refine ⟨⟨m9, k8b.own (k68.own m6 id) id, k8b.own (k68.own (k46.own mr id) id) id, rfl, (MapE.made mms pval_inj).chg k9b id, ?_, Nat.le_refl _⟩, (((MapE.made mmn pval_inj).chg k36 id).chg k68 id).chg k8b id, fun _ _ => rfl, k8b.mono fun _ hf => hf.elim, ?_, ?_⟩
    · exact (Bag.nil).consNil
    · have := lt_of_heap mmn; have := k36.size; have := k68.size; omega
    · exact ⟨k8b.size, by omega⟩
  refine loop agree (σ := Nat × Value × List Place) (fun t => [(3, pt p3 0), (5, pt p5 0), (6, .slice (some ⟨bb, 0, none⟩) n n), (10, .func (.func 101) #[] #[pt p9 0, pt p5 0]), (49, .slice ia g.init.length ic), (50, .int .i64 g.init.length), (51, .int .i64 t.1)])
    (fun t w' => t.1 ≤ g.init.length ∧ Reach g x 0 t.2.2 ∧ (∀ s ∈ g.init.take t.1, (s, 0) ∈ t.2.2) ∧ RunS w8 w' w11.heap.size p9 p5 r ms mn [pv, .int .i64 g.states, .slice ia g.init.length ic, .slice ea g.edges.length ec, sv, stv, lov] t.2.1 t.2.2 [] (fun _ => []) []) (fun t => g.init.length - t.1) (0, nilS, [])
    ⟨rfl, rfl, rfl, rfl, rfl, rfl, rfl, trivial⟩ ⟨by omega, ⟨by simp, by simp, by simp⟩, by simp, hput0⟩ ?_
  rintro ⟨j, av, all⟩ env2 w12 ⟨hj, hR, hinj, hS⟩
  have hlow := hS.low
  have hli := hv.li
  have keep : ∀ {W b t cs}, Chg (fun k => k = r ∨ k = mn) w8 W → Own w8 b t cs → b ≠ r → b ≠ mn → Own W b t cs := fun h m h1 h2 => h.own m fun hh => hh.elim h1 h2
  refine sp (fun hlt => ?_) (fun hge2 => ?_)
  · have hj' : j < g.init.length := by simp only at hlt; omega
    obtain ⟨b, o, rfl, hlo, hhi, cs, hcs, hrd, rfl⟩ := hinit j g.init[j] (by simp)
    have hir := hg.init g.init[j] (by simp)
    refine ne ⟨by omega, hlt⟩ ?_
    have hn12 : ∀ k, k < w.heap.size → ¬ (k = r ∨ k = mn) := fun k hk => by
      have := k1.size; have := k2.size; have := lt_of_heap mmn; omega
    refine ld agree (hS.chg.range ((k1.trans (k16.trans k68)).range hrd id) (hn12 _ hhi)) (by rfl) ?_
    have hbx : I64 ((g.init[j], 0) : Place).1 ∧ I64 ((g.init[j], 0) : Place).2 := ⟨⟨by simp; omega, by simp; omega⟩, ⟨by simp, by simp⟩⟩
    have hlen := hR.len hg hx hP
    have hcall := put_c hS.put hbx.1 hbx.2 hlen
    refine cl callPut hcall ?_
    rintro v' w13 ⟨av', hp', hc', hnew'⟩
    refine aw (by omega) (by omega) ?_
    refine again (j + 1, av', putP all (g.init[j], 0)) ⟨rfl, rfl, rfl, rfl, rfl, rfl, rfl, trivial⟩ ⟨by simp only; omega, hR.put (Nat.zero_le _) (.inl ⟨_, by simp, rfl⟩), ?_, hS.step hp' hc'⟩ (by simp only; omega)
    intro s hs
    rw [show g.init.take (j + 1) = g.init.take j ++ [g.init[j]] by simp] at hs
    rcases List.mem_append.1 hs with hs | hs
    · exact mem_putP.2 (.inl (hinj s hs))
    · simp at hs
      exact mem_putP.2 (.inr (by rw [hs]))
  have hinit0 : ∀ s ∈ g.init, (s, 0) ∈ all := by
    rw [List.take_of_length_le (by simp only at hge2; omega)] at hinj
    exact hinj
  have hrows8 : EdgeRows bb w8.heap.size w8 (.slice (some ⟨bb, 0, none⟩) n n) ((List.range n).map fun (s : Nat) => fromS g.edges s) := hrows
  have hkeys : ∀ {W}, Chg (fun k => k = r ∨ k = mn) w8 W → ∀ {lo v es}, bb ≤ lo → Edges lo w8.heap.size w8 v es → Edges lo w8.heap.size W v es := fun h _ _ _ hlo hr => hr.chg h (fun k h1 h2 hh => by
    have := lt_of_heap mmn; have := mr.lt; have := k46.size; omega) (fun _ _ h => h)
  have hF0 : (fun _ : Place => ([] : List Place)) = doneS g x (all.take 0) := by funext a; simp [doneS]
  rw [hF0] at hS
  refine loop agree (σ := Nat × Value × List Place × List (Place × Value)) (fun t => [(3, pt p3 0), (5, pt p5 0), (6, .slice (some ⟨bb, 0, none⟩) n n), (10, .func (.func 101) #[] #[pt p9 0, pt p5 0]), (13, .int .i64 t.1)])
    (fun t w' => t.1 ≤ t.2.2.1.length ∧ Reach g x t.1 t.2.2.1 ∧ (∀ s ∈ g.init, (s, 0) ∈ t.2.2.1) ∧ RunS w8 w' w11.heap.size p9 p5 r ms mn [pv, .int .i64 g.states, .slice ia g.init.length ic, .slice ea g.edges.length ec, sv, stv, lov] t.2.1 t.2.2.1 t.2.2.2 (doneS g x (t.2.2.1.take t.1)) [])
    (fun t => g.states.toNat * x.places - t.1) (0, av, all, [])
    ⟨rfl, rfl, rfl, rfl, rfl, trivial⟩ ⟨by omega, hR, hinit0, hS⟩ ?_
  clear hS hR hinit0 hinj hF0 hge2 keep
  rintro ⟨i, av, all, nl⟩ env3 w14 ⟨hi, hR, hI, hS⟩
  simp only at hi hR hI hS
  have hlen := hR.len hg hx hP
  obtain ⟨ma, hav⟩ := hS.put.bag.own _ List.mem_cons_self
  obtain ⟨ava, avc, rfl⟩ := ownsRow_form hav
  have hma : ma = all.length := by
    have := hav.1
    simp only [flat] at this
    rw [flat_len (size := 2) (fun x => rfl)] at this
    omega
  subst hma
  refine ld agree (Own.at_ (xs := [pt r 0]) hS.put.m5 rfl) (by rfl) ?_
  refine ld agree (Own.at_ (xs := [.slice ava all.length avc]) hS.put.mr rfl) (by rfl) ?_
  refine sp (fun hlt => ?_) (fun hge2 => ?_)
  · have hi' : i < all.length := by omega
    have hbox := hR.box hg hx all[i] (by simp)
    obtain ⟨hb1, hb2, hb3, hb4⟩ := hbox
    obtain ⟨f, hf⟩ : ∃ f : Nat, all[i].1 = f := ⟨all[i].1.toNat, by omega⟩
    obtain ⟨at_, hat⟩ : ∃ a : Nat, all[i].2 = a := ⟨all[i].2.toNat, by omega⟩
    have hav' := ownsRow_row (f := pcells) (fun _ => rfl) hav (by decide)
    obtain ⟨a', c', he', hcap', hread⟩ := hav'
    obtain ⟨b, o, rfl, hlo, hhi, cs, hcs, hrd, rfl⟩ := hread i all[i] (by simp)
    have he1 := (Value.slice.inj he').1
    have he3 := (Value.slice.inj he').2.2
    subst he1 he3
    refine ld agree (Own.at_ (xs := [pt r 0]) hS.put.m5 rfl) (by rfl) ?_
    refine ld agree (Own.at_ (xs := [.slice (some ⟨b, o, none⟩) all.length avc]) hS.put.mr rfl) (by rfl) ?_
    refine ne ⟨by omega, hlt⟩ ?_
    refine ld agree (v := pval all[i]) hrd rfl ?_
    refine nd fun p14 w15 e15 s15 k15 m15 => ?_
    refine st agree (cs := [.int .i64 0, .int .i64 0]) m15 rfl (Nat.le_refl 2) rfl ?_
    intro w16 s16 k16' m16
    have m14 : Own w16 p14 133 (pcells all[i]) := m16
    have kin : Kp w14 w16 := k15.new e15 k16'
    refine ld agree (Own.at_ (xs := [.int .i64 all[i].1]) m14 rfl) (by rfl) ?_
    refine ne ⟨by omega, by omega⟩ ?_
    obtain ⟨_, _, hrowE, _, hrowsE⟩ := id hrows8
    have h1 := (Value.slice.inj hrowE).1
    subst h1
    obtain ⟨b2, o2, hbo, hlo2, hhi2, cs2, hcs2, hrd2, u, rfl, hu⟩ := hrowsE f (fromS g.edges f) (by rw [List.getElem?_map, List.getElem?_range (by omega)]; rfl)
    have hbo1 : bb = b2 := congrArg Addr.block (Option.some.inj hbo)
    have hbo2 : 0 = o2 := congrArg Addr.off (Option.some.inj hbo)
    subst hbo1 hbo2
    have hCw : Chg (fun k => k = r ∨ k = mn) w8 w16 := hS.chg.newT kin fun _ hf => hf.elim
    have hlo8 : ∀ k, bb ≤ k → ¬ (k = r ∨ k = mn) := fun k hk => by
      have := lt_of_heap mmn; have := mr.lt; have := k46.size; omega
    refine ld agree (v := u) (hCw.range (by have := hrd2; rw [show 0 + f * 1 = 0 + all[i].1.toNat * 1 by omega] at this; exact this) (hlo8 _ hlo2)) (by rfl) ?_
    obtain ⟨ua, uc, rfl, huc, hel⟩ := id hu
    have hesl : (fromS g.edges f).length ≤ g.edges.length := List.length_filter_le _ _
    have hnin : all[i] ∉ all.take i := fun hm => by
      obtain ⟨k, hk, he⟩ := List.getElem_of_mem hm
      have hk' : k < i := by simp at hk; omega
      rw [List.getElem_take] at he
      exact absurd ((List.nodup_iff_pairwise_ne.1 hR.nodup |> List.pairwise_iff_getElem.1) k i (by omega) hi' hk' ) (by simpa using he)
    have hS0 : RunS w8 w16 w11.heap.size p9 p5 r ms mn [pv, .int .i64 g.states, .slice ia g.init.length ic, .slice ea g.edges.length ec, sv, stv, lov] (.slice (some ⟨b, o, none⟩) all.length avc) all nl (curS g x (all.take i) all[i] []) [(.slice (some ⟨p14, 0, none⟩) 1 1, pcells all[i])] := by
      have h := hS.kp kin
      have hFF : curS g x (all.take i) all[i] [] = doneS g x (all.take i) := by
        funext a
        by_cases ha : a = all[i]
        · subst ha; simp [curS, doneS, hnin]
        · simp [curS, ha]
      rw [hFF]
      refine ⟨⟨h.put.m9, h.put.m5, h.put.mr, h.put.len, h.put.seen, ?_, h.put.base⟩, h.next, h.none, h.chg, h.ne, h.low⟩
      have hlow := hS.put.base
      refine Bag.perm ?_ (List.Perm.swap _ _ _)
      refine h.put.bag.cons (own1_ownsRow m14 rfl (by omega)) fun b hb y hy he => ?_
      simp only [Value.ownBlock, Option.some.injEq] at hb
      have := (hS.put.bag.lt y hy b he).2
      omega
    refine loop agree (σ := Nat × Value × List Place × List (Place × Value)) (fun t => [(3, pt p3 0), (5, pt p5 0), (6, .slice (some ⟨bb, 0, none⟩) n n), (10, .func (.func 101) #[] #[pt p9 0, pt p5 0]), (13, .int .i64 i), (14, pt p14 0), (80, .slice ua (fromS g.edges f).length uc), (81, .int .i64 (fromS g.edges f).length), (82, .int .i64 t.1)])
      (fun t w' => t.1 ≤ (fromS g.edges f).length ∧ Reach g x i t.2.2.1 ∧ (∃ more, t.2.2.1 = all ++ more) ∧ RunS w8 w' w11.heap.size p9 p5 r ms mn [pv, .int .i64 g.states, .slice ia g.init.length ic, .slice ea g.edges.length ec, sv, stv, lov] t.2.1 t.2.2.1 t.2.2.2 (curS g x (all.take i) all[i] (succOf ((fromS g.edges f).take t.1) x at_)) [(.slice (some ⟨p14, 0, none⟩) 1 1, pcells all[i])] ∧
        ∀ q ∈ succOf ((fromS g.edges f).take t.1) x at_, q ∈ t.2.2.1)
      (fun t => (fromS g.edges f).length - t.1) (0, .slice (some ⟨b, o, none⟩) all.length avc, all, nl)
      ⟨rfl, rfl, rfl, rfl, rfl, rfl, rfl, rfl, rfl, trivial⟩ ⟨by omega, hR, ⟨[], by simp⟩, by simpa [succOf] using hS0, by simp [succOf]⟩ ?_
    rintro ⟨j, av2, all2, nl2⟩ env4 w17 ⟨hj2, hR2, ⟨more, hmore⟩, hS2, hq2⟩
    simp only at hj2 hR2 hmore hS2 hq2
    subst hmore
    refine sp (fun hlt2 => ?_) (fun hge3 => ?_)
    · have hj' : j < (fromS g.edges f).length := by omega
      obtain ⟨e, he⟩ : ∃ e, e = (fromS g.edges f)[j] := ⟨_, rfl⟩
      have hej : (fromS g.edges f)[j]? = some e := by rw [he]; simp
      obtain ⟨b3, o3, rfl, hlo3, hhi3, cs3, hcs3, hrd3, rfl, hwf3⟩ := hel j e hej
      have heg : e ∈ g.edges := (List.mem_filter.1 (List.mem_of_getElem? hej)).1
      have hefr : e.frm = f := by have := (List.mem_filter.1 (List.mem_of_getElem? hej)).2; simpa using this
      have heto := hg.edges e heg
      refine ne ⟨by omega, hlt2⟩ ?_
      refine ld agree (v := e.val) (hS2.chg.range hrd3 (hlo8 _ hlo3)) (by rfl) ?_
      refine nd fun p16 w18 e18 s18 k18' m18 => ?_
      refine st agree (cs := [.int .i64 0, .int .i64 0, .int .u16 0, .int .u16 0]) m18 rfl (Nat.le_refl 4) rfl ?_
      intro w19 s19 k19 m19
      have m16 : Own w19 p16 52 e.cells := m19
      have kin2 : Kp w17 w19 := k18'.new e18 k19
      have k019 : Kp w w19 := ((k1.trans (k16.trans k68)).newS hS2.chg (fun k hk => by have := k1.size; have := k2.size; have := lt_of_heap mmn; omega)).trans kin2
      have m3' : Own w19 p3 44 [stv, lov] := kin2.own (hS2.chg.own ((k28).own m3 id) (fun hk => by omega)) id
      have hb14 : Own w17 p14 133 (pcells all[i]) := by
        obtain ⟨nn, hnn⟩ := hS2.put.bag.own (.slice (some ⟨p14, 0, none⟩) 1 1, pcells all[i]) (by simp)
        have : nn = 1 := by have := hnn.1; simp [pcells] at this; omega
        subst this
        exact ownsRow_own1 hnn
      have m14' : Own w19 p14 133 (pcells all[i]) := kin2.own hb14 id
      have A3 : ∀ W, Kp w19 W → Own W p3 44 [stv, lov] := fun W h => h.own m3' id
      have A14 : ∀ W, Kp w19 W → Own W p14 133 (pcells all[i]) := fun W h => h.own m14' id
      have A16 : ∀ W, Kp w19 W → Own W p16 52 e.cells := fun W h => h.own m16 id
      have hatl : at_ < 4611686018427387904 := by omega
      refine drawnK agree mixed 6 [1, 2, 3, 4, 0, 5] (by kernel_rfl) ?_
      conv => whnf
      refine ldk (v := .agg #[stv, lov]) agree rfl rfl (fun W h _ => Own.at_ (xs := [stv, lov]) (o := 0) (A3 W h) rfl) (by rfl) fun _ => ?_
      conv => whnf
      refine ldk (v := .int .i64 at_) agree rfl rfl (fun W h _ => Own.at_ (xs := [.int .i64 at_]) (A14 W h) (by show [Value.int .i64 all[i].2] = _; rw [hat])) (by rfl) fun _ => ?_
      conv => whnf
      refine callk (v := .int .u16 (x.at at_)) rfl rfl rfl callAt (fun W h _ => at_c (hw.chg (k019.trans h) (Nat.le_refl _) (Nat.le_refl _)) at_ hatl) fun _ => ?_
      conv => whnf
      refine ldk (v := e.val) agree rfl rfl (fun W h _ => Own.at_ (xs := e.cells) (o := 0) (A16 W h) rfl) (by rfl) fun _ => ?_
      conv => whnf
      refine callk (v := .bool (goesS e (x.at at_))) rfl rfl rfl callGoes (fun W h _ => goes_c W e (x.at at_)) fun _ => ?_
      conv => whnf
      intro W20 k20 _
      have htake : (fromS g.edges f).take (j + 1) = (fromS g.edges f).take j ++ [e] := by rw [he]; simp
      cases hgo : goesS e (x.at at_) with
      | false =>
        refine aw (by omega) (by omega) ?_
        have hsucc : succOf ((fromS g.edges f).take (j + 1)) x at_ = succOf ((fromS g.edges f).take j) x at_ := by
          rw [htake]
          simp [succOf, hgo]
        refine again (j + 1, av2, all ++ more, nl2) ⟨rfl, rfl, rfl, rfl, rfl, rfl, rfl, rfl, rfl, trivial⟩ ⟨by simp only; omega, hR2, ⟨more, rfl⟩, ?_, ?_⟩ (by simp only; omega)
        · simp only [hsucc]
          exact hS2.kp (kin2.trans k20)
        · simp only [hsucc]
          exact hq2
      | true =>
        have B3 : ∀ W, Kp W20 W → Own W p3 44 [stv, lov] := fun W h => A3 W (k20.trans h)
        have B14 : ∀ W, Kp W20 W → Own W p14 133 (pcells all[i]) := fun W h => A14 W (k20.trans h)
        have B16 : ∀ W, Kp W20 W → Own W p16 52 e.cells := fun W h => A16 W (k20.trans h)
        refine drawnK agree mixed 8 [2, 3, 4, 5, 0, 1, 6, 7] (by kernel_rfl) ?_
        conv => whnf
        refine ldk (v := .agg #[stv, lov]) agree rfl rfl (fun W h _ => Own.at_ (xs := [stv, lov]) (o := 0) (B3 W h) rfl) (by rfl) fun _ => ?_
        conv => whnf
        refine ldk (v := .int .i64 at_) agree rfl rfl (fun W h _ => Own.at_ (xs := [.int .i64 at_]) (B14 W h) (by show [Value.int .i64 all[i].2] = _; rw [hat])) (by rfl) fun _ => ?_
        conv => whnf
        refine callk (v := .int .i64 (x.behind at_)) rfl rfl rfl callBehind (fun W h _ => behindV_c (hw.chg (k019.trans (k20.trans h)) (Nat.le_refl _) (Nat.le_refl _)) at_ hatl) fun _ => ?_
        conv => whnf
        refine ldk (v := .int .i64 e.to) agree rfl rfl (fun W h _ => Own.at_ (xs := [.int .i64 e.to]) (B16 W h) rfl) (by rfl) fun _ => ?_
        conv => whnf
        refine alk rfl rfl fun p17 D17 hD17 => ?_
        conv => whnf
        intro W21 k21 hDs21
        obtain ⟨m17, hp17⟩ := hD17 W21 (hDs21 7)
        refine st agree m17 rfl (Nat.le_refl 2) rfl ?_
        intro W22 s22 k22 m22
        have m17' : Own W22 p17 133 (pcells (e.to, x.behind at_)) := m22
        have kall : Kp w17 W22 := (kin2.trans k20).trans (k21.newS k22 fun k hk => hk ▸ hp17)
        have hS3 := hS2.kp kall
        have m14'' : Own W22 p14 133 (pcells all[i]) := kall.own hb14 id
        obtain ⟨sj, hsj⟩ : ∃ sj, sj = succOf ((fromS g.edges f).take j) x at_ := ⟨_, rfl⟩
        rw [← hsj] at hS3 hq2
        have hFp : curS g x (all.take i) all[i] sj all[i] = sj := by simp [curS]
        have hrow := hS3.row all[i]
        rw [hFp] at hrow
        have hsjl : sj.length ≤ j := by
          rw [hsj]
          simp only [succOf, List.length_map]
          exact Nat.le_trans (List.length_filter_le _ _) (by simp; omega)
        obtain ⟨es, clock, hmn, -⟩ := hS3.next.h
        have hvm : (aget nl2 nilS all[i]).ownBlock ≠ some mn := ownsRow_ne hrow hmn (by simp)
        have hvl : ∀ k, (aget nl2 nilS all[i]).ownBlock = some k → k < W22.heap.size := fun k hk => (hrow.lt k hk).2
        have hne : ∀ {b t cs}, Own W22 b t cs → t ≠ 133 → ¬ (b = mn ∨ some b = (aget nl2 nilS all[i]).ownBlock) := fun {b t cs} ho ht hk => by
          rcases hk with hk | hk
          · exact hS3.next.ne ho hk
          · exact ownsRow_ne hrow ho (fun cs fr hh => by injection hh with _ h2; exact ht h2) hk.symm
        have hn17 : ¬ (p17 = mn ∨ some p17 = (aget nl2 nilS all[i]).ownBlock) := fun hk => by
          rcases hk with hk | hk
          · exact hS3.next.ne m17' hk
          · have := ((hS2.row all[i]).lt p17 hk.symm).2
            have := (kin2.trans k20).size
            omega
        have hn14 : ¬ (p14 = mn ∨ some p14 = (aget nl2 nilS all[i]).ownBlock) := fun hk => by
          rcases hk with hk | hk
          · exact hS3.next.ne m14'' hk
          · have hsep := hS3.put.bag.tail.sep
            rw [List.singleton_append, List.pairwise_cons] at hsep
            cases hal : alook nl2 all[i] with
            | none => simp [aget, hal, Value.ownBlock] at hk
            | some v =>
              simp only [aget, hal, Option.getD_some] at hk
              exact hsep.1 _ (List.mem_map.2 ⟨_, alook_some_mem hal, rfl⟩) p14 rfl hk.symm
        have hpre := preMapAppR Proofs.Try.prog 133 pval (fun v : Value => v) nilS mn all[i] W22 (aget nl2 nilS all[i]) (sj.length * 2) (pcells (e.to, x.behind at_))
        have hpb : I64 all[i].1 ∧ I64 all[i].2 := ⟨⟨by omega, by omega⟩, ⟨by omega, by omega⟩⟩
        have hwsz : w11.heap.size ≤ W22.heap.size := hS3.put.base
        refine drawnR agree mixed 11 (by kernel_rfl) _ hpre ?_
        conv => whnf
        refine ldr (v := pt r 0) hpre agree rfl rfl (fun W h _ => h.chg.range (Own.at_ (xs := [pt r 0]) hS3.put.m5 rfl) (hne hS3.put.m5 (by decide))) (by rfl) fun _ => ?_
        conv => whnf
        refine ldr (v := .map (some mn)) hpre agree rfl rfl (fun W h _ => h.chg.range (Own.at_ (xs := [.map (some mn)]) hS3.put.mr rfl) (hne hS3.put.mr (by decide))) (by rfl) fun _ => ?_
        conv => whnf
        refine ldr (v := pval all[i]) hpre agree rfl rfl (fun W h _ => h.chg.range (Own.at_ (xs := pcells all[i]) (o := 0) m14'' rfl) hn14) (by rfl) fun _ => ?_
        conv => whnf
        refine ldr (v := pval (e.to, x.behind at_)) hpre agree rfl rfl (fun W h _ => h.chg.range (Own.at_ (xs := pcells (e.to, x.behind at_)) (o := 0) m17' rfl) hn17) (by rfl) fun _ => ?_
        conv => whnf
        refine bsr hpre rfl rfl rfl rfl rfl (by decide) (fun b o W W' hb ho hS => hS.chg.heap ho fun hc => by
          rcases hc with hc | hc
          · have := lt_of_heap hmn; omega
          · have := hvl b hc.symm; omega) (fun W hS => hS.chg.size) fun q2 D hD => ?_
        conv => whnf
        refine enrS agree placeKeyed (t := 126) (MapAppR.bearsMap (lt_of_heap hmn) hvm) rfl rfl rfl rfl rfl rfl (z := nilS) rfl hS3.next (placeKey hpb.1 hpb.2) fun st Den hDen => ?_
        conv => whnf
        refine aprS (m := 1) (news := pcells (e.to, x.behind at_)) agree (MapAppR.bearsApp (lt_of_heap hmn) hvm hvl) rfl rfl rfl rfl rfl rfl rfl (by decide) hrow rfl (fun W hS hDn => Own.at_ (xs := pcells (e.to, x.behind at_)) (o := 0) (hD W (hDn 6 (by kernel_rfl))).1 rfl) rfl (by simp only [maxLen]; omega) (by show (_ + 1) * 16 ≤ _; omega) hwsz fun v' D2 hD2 => ?_
        conv => whnf
        intro W23 hS23 hDs23
        obtain ⟨hown', hnew⟩ := hD2 W23 (hDs23 9)
        obtain ⟨x1, hen, he1⟩ := hDen W23 (hDs23 7)
        obtain ⟨a', cap', rfl⟩ := ownsRow_form hown'
        refine mu (hen.store (.slice a' (sj.length + 1) cap')) ?_
        rintro W24 ⟨hm24, hs24, hc24⟩
        rw [he1.put] at hm24
        have hc : Chg (fun b => b = mn ∨ some b = (aget nl2 nilS all[i]).ownBlock) W22 W24 := hS23.chg.trans (hc24.mono fun _ => .inl)
        obtain ⟨es3, clock3, hmn3, -⟩ := hen.mapE.h
        have hown24 := ownsRow_chg hown' hc24 (fun b hb he => ownsRow_ne hown' hmn3 (by simp) (he ▸ hb))
        have hS4 := hS3.next_ (p := all[i]) (q := (e.to, x.behind at_)) hc hm24 (by rw [hFp]; exact hown24) hnew
        have m17W := hc.own m17' hn17
        refine ld agree (v := pval (e.to, x.behind at_)) (Own.at_ (xs := pcells (e.to, x.behind at_)) (o := 0) m17W rfl) (by rfl) ?_
        have hbl := behind_lt hx (i := at_) (by omega)
        have hbq : I64 ((e.to, x.behind at_) : Place).1 ∧ I64 ((e.to, x.behind at_) : Place).2 := ⟨⟨by simp only; omega, by simp only; omega⟩, ⟨by simp only; omega, by simp only; omega⟩⟩
        have hlen2 := hR2.len hg hx hP
        have hcall := put_c hS4.put hbq.1 hbq.2 hlen2
        refine cl callPut hcall ?_
        rintro v'' W25 ⟨av', hp', hc', hnew'⟩
        have hS5 := hS4.step hp' hc'
        refine aw (by omega) (by omega) ?_
        have hsucc : succOf ((fromS g.edges f).take (j + 1)) x at_ = sj ++ [(e.to, x.behind at_)] := by
          rw [htake, hsj]
          simp [succOf, hgo]
        have hin : (e.to, x.behind at_) ∈ succ g x all[i] := by
          unfold succ succOf
          rw [hf, hat, Int.toNat_natCast]
          exact List.mem_map.2 ⟨e, List.mem_filter.2 ⟨List.mem_of_getElem? hej, hgo⟩, rfl⟩
        refine again (j + 1, av', putP (all ++ more) (e.to, x.behind at_), aput nl2 all[i] (.slice a' (sj.length + 1) cap')) ⟨rfl, rfl, rfl, rfl, rfl, rfl, rfl, rfl, rfl, trivial⟩ ⟨by simp only; omega, ?_, ?_, ?_, ?_⟩ (by simp only; omega)
        · exact hR2.put (by simp; omega) (.inr ⟨all[i], by simp, hin⟩)
        · show ∃ more', putP (all ++ more) _ = all ++ more'
          unfold putP
          split
          · exact ⟨more, rfl⟩
          · exact ⟨more ++ [(e.to, x.behind at_)], by simp⟩
        · have hFF : (fun a => if a = all[i] then curS g x (all.take i) all[i] sj all[i] ++ [(e.to, x.behind at_)] else curS g x (all.take i) all[i] sj a) = curS g x (all.take i) all[i] (succOf ((fromS g.edges f).take (j + 1)) x at_) := by
            funext a
            rw [hsucc, hFp]
            by_cases ha : a = all[i] <;> simp [curS, ha]
          show RunS w8 W25 w11.heap.size p9 p5 r ms mn _ av' (putP (all ++ more) (e.to, x.behind at_)) _ (curS g x (all.take i) all[i] (succOf ((fromS g.edges f).take (j + 1)) x at_)) _
          rw [← hFF]
          exact hS5
        · intro a ha
          rw [show succOf (List.take (j + 1) (fromS g.edges f)) x at_ = _ from hsucc] at ha
          rcases List.mem_append.1 ha with ha | ha
          · exact mem_putP.2 (.inl (hq2 a ha))
          · exact mem_putP.2 (.inr (by simpa using ha))
    have htk : (fromS g.edges f).take j = fromS g.edges f := List.take_of_length_le (by omega)
    rw [htk] at hS2 hq2
    have hsucc : succOf (fromS g.edges f) x at_ = succ g x all[i] := by
      unfold succ
      rw [hf, hat, Int.toNat_natCast]
    rw [hsucc] at hS2 hq2
    have htk2 : (all ++ more).take (i + 1) = all.take i ++ [all[i]] := by
      rw [List.take_append_of_le_length (by omega)]; simp
    have hFF : curS g x (all.take i) all[i] (succ g x all[i]) = doneS g x ((all ++ more).take (i + 1)) := by
      rw [htk2]
      exact curS_done _ _ _ _
    refine aw (by omega) (by omega) ?_
    refine again (i + 1, av2, all ++ more, nl2) ⟨rfl, rfl, rfl, rfl, rfl, trivial⟩ ⟨?_, ?_, ?_, ?_⟩ ?_
    · simp only [List.length_append]; omega
    · refine ⟨hR2.nodup, fun p hp q hq => ?_, hR2.least⟩
      simp only at hp ⊢
      rw [htk2] at hp
      rcases List.mem_append.1 hp with hp | hp
      · exact List.mem_append_left _ (hR.closed p hp q hq)
      · simp only [List.mem_singleton] at hp
        exact hq2 q (hp ▸ hq)
    · exact fun s hs => List.mem_append_left _ (hI s hs)
    · simp only
      rw [← hFF]
      have hb := hS2.put.bag.perm (List.Perm.swap _ _ _)
      exact ⟨⟨hS2.put.m9, hS2.put.m5, hS2.put.mr, hS2.put.len, hS2.put.seen, hb.tail, hS2.put.base⟩, hS2.next, hS2.none, hS2.chg, hS2.ne, hS2.low⟩
    · have := box_len hR.nodup hg (hR.box hg hx)
      simp only
      omega
  refine ld agree (Own.at_ (xs := [pt r 0]) hS.put.m5 rfl) (by rfl) ?_
  have hall2 : all.take i = all := List.take_of_length_le (by omega)
  have k014 : Kp w w14 := (k1.trans (k16.trans k68)).newS hS.chg (fun k hk => by have := k1.size; have := k2.size; have := lt_of_heap mmn; omega)
  obtain ⟨es, clock, hmn, -⟩ := hS.next.h
  refine ⟨k014, r, all, rfl, ⟨hR.nodup, hI, fun p hp => hR.closed p (by rwa [hall2]), hR.least⟩, ⟨_, _, _, _, _, _, mn, _, nl, hS.put.mr, ?_, hS.put.mr.lt, ?_, lt_of_heap hmn, ?_, ?_, hS.next, ?_⟩⟩
  · have := k1.size; have := k2.size; have := lt_of_heap mmn; omega
  · have := k1.size; have := k2.size; have := lt_of_heap mmn; omega
  · exact hv.chg k014 (Nat.le_refl _) k014.size
  · exact (ownsRow_row (f := pcells) (fun _ => rfl) hav (by decide)).mono (fun _ _ h => h) (Nat.zero_le _) (Nat.le_refl _)
  · intro p hp
    have := hS.row p
    rw [hall2, show doneS g x all p = succ g x p by simp [doneS, hp]] at this
    exact (ownsRow_row (f := pcells) (fun _ => rfl) this (by decide)).mono (fun _ _ h => h) (Nat.zero_le _) (Nat.le_refl _)
theorem callBeside : callable Proofs.Try.prog 67 = true := by kernel_rfl
end Go.Au
