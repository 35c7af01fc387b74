/- Own text of this workplace: a part of the proofs of this place's statements. -/
import Derived.Test.YtjibhchnhkjgkaaP0
import Derived.Test.YtjibhchnhkjgkaaG
import Derived.Test.YtjibhchnhkjgkaaP2
import Derived.Test.YtjibhchnhkjgkaaP3
import Derived.Test.YtjibhchnhkjgkaaP4
import Derived.Test.YtjibhchnhkjgkaaP5
set_option maxRecDepth 40000
set_option linter.unusedVariables false
set_option linter.unusedSimpArgs false
set_option linter.unusedSectionVars false
namespace Go.Au
open Go

/-! ### letters, as bits -/
abbrev bv (z : Int) : BitVec 16 := BitVec.ofInt 16 z
theorem and16 (a b : Int) : bits .and .u16 a b = ((bv a &&& bv b).toNat : Nat) := by
  have h : bits .and .u16 a b = IntKind.u16.wrap (((BitVec.ofInt (IntKind.bits .u16) a &&& BitVec.ofInt (IntKind.bits .u16) b).toNat : Nat) : Int) := rfl
  rw [h]
  have h1 := (bv a &&& bv b).isLt
  have hw : ∀ z : Nat, z < 65536 → IntKind.u16.wrap (z : Int) = z := fun z hz => by
    show (if (false && decide ((z : Int) % 65536 ≥ 32768)) = true then (z : Int) % 65536 - 65536 else (z : Int) % 65536) = z
    rw [if_neg (by simp)]; omega
  exact hw _ h1
theorem or16 (a b : Int) : bits .or .u16 a b = ((bv a ||| bv b).toNat : Nat) := by
  have h : bits .or .u16 a b = IntKind.u16.wrap (((BitVec.ofInt (IntKind.bits .u16) a ||| BitVec.ofInt (IntKind.bits .u16) b).toNat : Nat) : Int) := rfl
  rw [h]
  have h1 := (bv a ||| bv b).isLt
  have hw : ∀ z : Nat, z < 65536 → IntKind.u16.wrap (z : Int) = z := fun z hz => by
    show (if (false && decide ((z : Int) % 65536 ≥ 32768)) = true then (z : Int) % 65536 - 65536 else (z : Int) % 65536) = z
    rw [if_neg (by simp)]; omega
  exact hw _ h1
theorem bv_nat (x : BitVec 16) : bv (x.toNat : Int) = x := by simp [bv]
theorem bv_to {m : Int} (h1 : 0 ≤ m) (h2 : m < 65536) : ((bv m).toNat : Int) = m := by
  obtain ⟨n, rfl⟩ : ∃ n : Nat, m = n := ⟨m.toNat, by omega⟩
  have : (bv (n : Int)).toNat = n := by
    unfold bv
    rw [BitVec.toNat_ofInt]
    have : ((n : Int) % ((2 ^ 16 : Nat) : Int)).toNat = n := by
      rw [Int.emod_eq_of_lt (by omega) (by have : ((2 ^ 16 : Nat) : Int) = 65536 := rfl; omega)]; simp
    exact this
  rw [this]
theorem and16_eq {l m : Int} (h1 : 0 ≤ m) (h2 : m < 65536) : bits .and .u16 l m = m ↔ bv l &&& bv m = bv m := by
  rw [and16]
  constructor
  · intro h
    have h3 : ((bv l &&& bv m).toNat : Int) = ((bv m).toNat : Int) := by rw [h, bv_to h1 h2]
    exact BitVec.eq_of_toNat_eq (by omega)
  · intro h
    rw [h, bv_to h1 h2]
theorem and16_zero (l m : Int) : bits .and .u16 l m = 0 ↔ bv l &&& bv m = 0#16 := by
  rw [and16]
  constructor
  · intro h
    have h2 : (bv l &&& bv m).toNat = 0 := by omega
    exact BitVec.eq_of_toNat_eq (by rw [h2]; rfl)
  · intro h
    rw [h]; rfl
theorem goesS_bv {e : Edge} (he : e.wf) (l : Int) : goesS e l = true ↔ bv l &&& bv e.must = bv e.must ∧ bv l &&& bv e.no = 0#16 := by
  unfold goesS
  rw [Bool.and_eq_true, decide_eq_true_eq, decide_eq_true_eq, and16_eq he.1 he.2.1, and16_zero]
theorem meetE_bv (d e : Edge) : meetE d e = true ↔ bv d.must &&& bv e.no = 0#16 ∧ bv e.must &&& bv d.no = 0#16 := by
  unfold meetE
  rw [Bool.and_eq_true, decide_eq_true_eq, decide_eq_true_eq, and16_zero, and16_zero]
theorem bv_bits {x y : BitVec 16} (h : ∀ i (hi : i < 16), x[i] = y[i]) : x = y := BitVec.eq_of_getElem_eq h
theorem joinE_goes {s bn : Nat} {d e : Edge} (hd : d.wf) (he : e.wf) (l : Int) : goesS (joinE s bn d e) l = true ↔ goesS d l = true ∧ goesS e l = true := by
  rw [goesS_bv (joinE_wf s bn d e), goesS_bv hd, goesS_bv he]
  have hm : bv (joinE s bn d e).must = bv d.must ||| bv e.must := by show bv (bits .or .u16 d.must e.must) = _; rw [or16, bv_nat]
  have hn : bv (joinE s bn d e).no = bv d.no ||| bv e.no := by show bv (bits .or .u16 d.no e.no) = _; rw [or16, bv_nat]
  rw [hm, hn]
  generalize bv l = L
  generalize bv d.must = a
  generalize bv e.must = b
  generalize bv d.no = x
  generalize bv e.no = y
  have hget : ∀ {p q : BitVec 16}, p = q → ∀ i (hi : i < 16), p[i] = q[i] := fun h i hi => by rw [h]
  constructor
  · rintro ⟨h1, h2⟩
    refine ⟨⟨bv_bits fun i hi => ?_, bv_bits fun i hi => ?_⟩, bv_bits fun i hi => ?_, bv_bits fun i hi => ?_⟩
    all_goals
      have g1 := hget h1 i hi
      have g2 := hget h2 i hi
      simp only [BitVec.getElem_and, BitVec.getElem_or, BitVec.getElem_zero] at g1 g2 ⊢
      revert g1 g2
      cases L[i] <;> cases a[i] <;> cases b[i] <;> cases x[i] <;> cases y[i] <;> simp
  · rintro ⟨⟨h1, h2⟩, h3, h4⟩
    refine ⟨bv_bits fun i hi => ?_, bv_bits fun i hi => ?_⟩
    all_goals
      have g1 := hget h1 i hi
      have g2 := hget h2 i hi
      have g3 := hget h3 i hi
      have g4 := hget h4 i hi
      simp only [BitVec.getElem_and, BitVec.getElem_or, BitVec.getElem_zero] at g1 g2 g3 g4 ⊢
      revert g1 g2 g3 g4
      cases L[i] <;> cases a[i] <;> cases b[i] <;> cases x[i] <;> cases y[i] <;> simp
theorem meetE_goes {d e : Edge} (hd : d.wf) (he : e.wf) {l : Int} (h1 : goesS d l = true) (h2 : goesS e l = true) : meetE d e = true := by
  rw [goesS_bv hd] at h1
  rw [goesS_bv he] at h2
  rw [meetE_bv]
  obtain ⟨h1, h3⟩ := h1
  obtain ⟨h2, h4⟩ := h2
  revert h1 h2 h3 h4
  generalize bv l = L
  generalize bv d.must = a
  generalize bv e.must = b
  generalize bv d.no = x
  generalize bv e.no = y
  intro h1 h2 h3 h4
  have hget : ∀ {p q : BitVec 16}, p = q → ∀ i (hi : i < 16), p[i] = q[i] := fun h i hi => by rw [h]
  refine ⟨bv_bits fun i hi => ?_, bv_bits fun i hi => ?_⟩
  all_goals
    have g1 := hget h1 i hi
    have g2 := hget h2 i hi
    have g3 := hget h3 i hi
    have g4 := hget h4 i hi
    simp only [BitVec.getElem_and, BitVec.getElem_zero] at g1 g2 g3 g4 ⊢
    revert g1 g2 g3 g4
    cases L[i] <;> cases a[i] <;> cases b[i] <;> cases x[i] <;> cases y[i] <;> simp
/-- of what a joined edge has: nothing both asked for and forbidden, nothing beyond n letters -/
theorem joinE_ok {s bn : Nat} {d e : Edge} {n : Nat} (hn : n ≤ 8) (hd : d.wf) (he : e.wf) (h1 : bits .and .u16 d.must d.no = 0) (h2 : bits .and .u16 e.must e.no = 0) (hm : meetE d e = true) (l1 : d.must < 2 ^ n) (l2 : d.no < 2 ^ n) (l3 : e.must < 2 ^ n) (l4 : e.no < 2 ^ n) :
    bits .and .u16 (joinE s bn d e).must (joinE s bn d e).no = 0 ∧ (joinE s bn d e).must < 2 ^ n ∧ (joinE s bn d e).no < 2 ^ n := by
  rw [meetE_bv] at hm
  rw [and16_zero] at h1 h2 ⊢
  have em : bv (joinE s bn d e).must = bv d.must ||| bv e.must := by show bv (bits .or .u16 d.must e.must) = _; rw [or16, bv_nat]
  have en : bv (joinE s bn d e).no = bv d.no ||| bv e.no := by show bv (bits .or .u16 d.no e.no) = _; rw [or16, bv_nat]
  have hlt : ∀ {a b : Int}, 0 ≤ a → a < 65536 → 0 ≤ b → b < 65536 → a < 2 ^ n → b < 2 ^ n → bits .or .u16 a b < 2 ^ n := fun {a b} ha1 ha2 hb1 hb2 ha hb => by
    rw [or16, BitVec.toNat_or]
    have e1 := bv_to ha1 ha2
    have e2 := bv_to hb1 hb2
    have hc : ((2 : Int) ^ n) = ((2 ^ n : Nat) : Int) := (Int.natCast_pow 2 n).symm
    rw [hc] at ha hb ⊢
    have := Nat.or_lt_two_pow (n := n) (x := (bv a).toNat) (y := (bv b).toNat) (by omega) (by omega)
    omega
  refine ⟨?_, hlt hd.1 hd.2.1 he.1 he.2.1 l1 l3, hlt hd.2.2.1 hd.2.2.2 he.2.2.1 he.2.2.2 l2 l4⟩
  rw [em, en]
  obtain ⟨h3, h4⟩ := hm
  revert h1 h2 h3 h4
  generalize bv d.must = a
  generalize bv e.must = b
  generalize bv d.no = x
  generalize bv e.no = y
  intro h1 h2 h3 h4
  have hget : ∀ {p q : BitVec 16}, p = q → ∀ i (hi : i < 16), p[i] = q[i] := fun h i hi => by rw [h]
  refine bv_bits fun i hi => ?_
  have g1 := hget h1 i hi
  have g2 := hget h2 i hi
  have g3 := hget h3 i hi
  have g4 := hget h4 i hi
  simp only [BitVec.getElem_and, BitVec.getElem_or, BitVec.getElem_zero] at g1 g2 g3 g4 ⊢
  revert g1 g2 g3 g4
  cases a[i] <;> cases b[i] <;> cases x[i] <;> cases y[i] <;> simp

/-- pairs go along just as both go along -/
theorem both_acc {an bn : Nat} {a b : Buchi} (hA : Good a.general) (hB : Good b.general) (han : a.states = an) (hbn : b.states = bn) (hwa : ∀ e ∈ a.edges, e.wf) (hwb : ∀ e ∈ b.edges, e.wf) (hfa : ∀ s ∈ a.final, 0 ≤ s ∧ s < an) (hfb : ∀ s ∈ b.final, 0 ≤ s ∧ s < bn) {σ : Nat → Int} :
    AccM (frP bn a.edges b.edges) (initP bn a.init b.init) (setsP (an * bn) bn a.final b.final) σ ↔ AccI' a.general σ ∧ AccI' b.general σ := by
  have hAi : ∀ s ∈ a.init, 0 ≤ s ∧ s < an := fun s hs => by rw [← han]; exact hA.init s hs
  have hBi : ∀ s ∈ b.init, 0 ≤ s ∧ s < bn := fun s hs => by rw [← hbn]; exact hB.init s hs
  have hAe : ∀ e ∈ a.edges, 0 ≤ e.frm ∧ e.frm < an ∧ 0 ≤ e.to ∧ e.to < an := fun e he => by rw [← han]; exact hA.edges e he
  have hBe : ∀ e ∈ b.edges, 0 ≤ e.frm ∧ e.frm < bn ∧ 0 ≤ e.to ∧ e.to < bn := fun e he => by rw [← hbn]; exact hB.edges e he
  have hdiv : ∀ {p q : Int}, 0 ≤ p → 0 ≤ q → q < bn → (((p * bn + q).toNat / bn : Nat) : Int) = p ∧ (((p * bn + q).toNat % bn : Nat) : Int) = q := fun {p q} hp hq1 hq2 => by
    obtain ⟨p, rfl⟩ : ∃ x : Nat, p = x := ⟨p.toNat, by omega⟩
    obtain ⟨q, rfl⟩ : ∃ x : Nat, q = x := ⟨q.toNat, by omega⟩
    have h1 : ((p : Int) * (bn : Int) + (q : Int)).toNat = q + bn * p := by
      have : ((p : Int) * (bn : Int) + (q : Int)) = ((q + bn * p : Nat) : Int) := by simp [Int.mul_comm, Int.add_comm]
      rw [this, Int.toNat_natCast]
    rw [h1, Nat.add_mul_div_left _ _ (by omega), Nat.add_mul_mod_self_left, Nat.div_eq_of_lt (by omega), Nat.mod_eq_of_lt (by omega)]
    simp
  have hset0 : ∀ {z : Int}, z ∈ (setsP (an * bn) bn a.final b.final).getD 0 [] ↔ 0 ≤ z ∧ z < (an * bn : Nat) ∧ ((z.toNat / bn : Nat) : Int) ∈ a.final := fun {z} => by
    show z ∈ ((List.range (an * bn)).filter fun s => decide (((s / bn : Nat) : Int) ∈ a.final)).map (fun (s : Nat) => (s : Int)) ↔ _
    simp only [List.mem_map, List.mem_filter, List.mem_range, decide_eq_true_eq]
    constructor
    · rintro ⟨t, ⟨h1, h2⟩, rfl⟩; exact ⟨by omega, by omega, by rw [Int.toNat_natCast]; exact h2⟩
    · rintro ⟨h1, h2, h3⟩; exact ⟨z.toNat, ⟨by omega, h3⟩, by omega⟩
  have hset1 : ∀ {z : Int}, z ∈ (setsP (an * bn) bn a.final b.final).getD 1 [] ↔ 0 ≤ z ∧ z < (an * bn : Nat) ∧ ((z.toNat % bn : Nat) : Int) ∈ b.final := fun {z} => by
    show z ∈ ((List.range (an * bn)).filter fun s => decide (((s % bn : Nat) : Int) ∈ b.final)).map (fun (s : Nat) => (s : Int)) ↔ _
    simp only [List.mem_map, List.mem_filter, List.mem_range, decide_eq_true_eq]
    constructor
    · rintro ⟨t, ⟨h1, h2⟩, rfl⟩; exact ⟨by omega, by omega, by rw [Int.toNat_natCast]; exact h2⟩
    · rintro ⟨h1, h2, h3⟩; exact ⟨z.toNat, ⟨by omega, h3⟩, by omega⟩
  have hmem0 : (setsP (an * bn) bn a.final b.final).getD 0 [] ∈ setsP (an * bn) bn a.final b.final := by unfold setsP; exact List.mem_cons_self
  have hmem1 : (setsP (an * bn) bn a.final b.final).getD 1 [] ∈ setsP (an * bn) bn a.final b.final := by unfold setsP; exact List.mem_cons_of_mem _ List.mem_cons_self
  have hmem : ∀ {F}, F ∈ setsP (an * bn) bn a.final b.final → F = (setsP (an * bn) bn a.final b.final).getD 0 [] ∨ F = (setsP (an * bn) bn a.final b.final).getD 1 [] := fun {F} h => by
    unfold setsP at h ⊢
    rcases List.mem_cons.1 h with h | h
    · exact .inl h
    · exact .inr (by simpa using h)
  have hsA : setsOf a.general = [a.final] := rfl
  have hsB : setsOf b.general = [b.final] := rfl
  constructor
  · rintro ⟨ρ, h0, hs, ha⟩
    have hpair : ∀ i, ∃ x ∈ a.edges, ∃ y ∈ b.edges, x.frm = (((ρ i).toNat / bn : Nat) : Int) ∧ y.frm = (((ρ i).toNat % bn : Nat) : Int) ∧ goesS x (σ i) = true ∧ goesS y (σ i) = true ∧ x.to = (((ρ (i + 1)).toNat / bn : Nat) : Int) ∧ y.to = (((ρ (i + 1)).toNat % bn : Nat) : Int) := fun i => by
      obtain ⟨e, he, h1, h2⟩ := hs i
      obtain ⟨x, hx, y, hy, h3, h4, -, rfl⟩ := frP_mem.1 he
      obtain ⟨g1, g2⟩ := (joinE_goes (hwa x hx) (hwb y hy) _).1 h1
      have hto : (joinE (ρ i).toNat bn x y).to = x.to * bn + y.to := rfl
      rw [hto] at h2
      have hxr := hAe x hx
      have hyr := hBe y hy
      have := hdiv (p := x.to) (q := y.to) (by omega) (by omega) (by omega)
      rw [h2] at this
      exact ⟨x, hx, y, hy, h3, h4, g1, g2, this.1.symm, this.2.symm⟩
    have h0' : ∃ p ∈ a.init, ∃ q ∈ b.init, (((ρ 0).toNat / bn : Nat) : Int) = p ∧ (((ρ 0).toNat % bn : Nat) : Int) = q := by
      simp only [initP, List.mem_flatMap, List.mem_map] at h0
      obtain ⟨p, hp, q, hq, h0⟩ := h0
      have h1 := hAi p hp
      have h2 := hBi q hq
      have := hdiv (p := p) (q := q) (by omega) (by omega) (by omega)
      rw [h0] at this
      exact ⟨p, hp, q, hq, this⟩
    obtain ⟨p, hp, q, hq, e1, e2⟩ := h0'
    refine ⟨⟨fun i => (((ρ i).toNat / bn : Nat) : Int), by rw [e1]; exact hp, fun i => ?_, fun F hF i => ?_⟩, ⟨fun i => (((ρ i).toNat % bn : Nat) : Int), by rw [e2]; exact hq, fun i => ?_, fun F hF i => ?_⟩⟩
    · obtain ⟨x, hx, y, hy, h1, h2, h3, h4, h5, h6⟩ := hpair i
      exact ⟨x, hx, h1, h3, h5⟩
    · rw [hsA, List.mem_singleton] at hF
      subst hF
      obtain ⟨j, hj, h⟩ := ha _ hmem0 i
      exact ⟨j, hj, (hset0.1 h).2.2⟩
    · obtain ⟨x, hx, y, hy, h1, h2, h3, h4, h5, h6⟩ := hpair i
      exact ⟨y, hy, h2, h4, h6⟩
    · rw [hsB, List.mem_singleton] at hF
      subst hF
      obtain ⟨j, hj, h⟩ := ha _ hmem1 i
      exact ⟨j, hj, (hset1.1 h).2.2⟩
  · rintro ⟨⟨ρ1, h01, hs1, ha1⟩, ⟨ρ2, h02, hs2, ha2⟩⟩
    have hr1 : ∀ i, 0 ≤ ρ1 i ∧ ρ1 i < an := fun i => by
      obtain ⟨e, he, h1, -⟩ := hs1 i
      have := hAe e he; omega
    have hr2 : ∀ i, 0 ≤ ρ2 i ∧ ρ2 i < bn := fun i => by
      obtain ⟨e, he, h1, -⟩ := hs2 i
      have := hBe e he; omega
    have hd : ∀ i, (((ρ1 i * bn + ρ2 i).toNat / bn : Nat) : Int) = ρ1 i ∧ (((ρ1 i * bn + ρ2 i).toNat % bn : Nat) : Int) = ρ2 i := fun i => hdiv (hr1 i).1 (hr2 i).1 (hr2 i).2
    have hrange : ∀ i, 0 ≤ ρ1 i * bn + ρ2 i ∧ ρ1 i * bn + ρ2 i < (an * bn : Nat) := fun i => by
      have := initP_mem (an := an) (bn := bn) (A := [ρ1 i]) (B := [ρ2 i]) (fun s hs => by rw [List.mem_singleton] at hs; subst hs; exact hr1 i) (fun s hs => by rw [List.mem_singleton] at hs; subst hs; exact hr2 i) (ρ1 i * bn + ρ2 i) (by simp [initP])
      exact this
    refine ⟨fun i => ρ1 i * bn + ρ2 i, ?_, fun i => ?_, fun F hF i => ?_⟩
    · simp only [initP, List.mem_flatMap, List.mem_map]
      exact ⟨ρ1 0, h01, ρ2 0, h02, rfl⟩
    · obtain ⟨x, hx, x1, x2, x3⟩ := hs1 i
      obtain ⟨y, hy, y1, y2, y3⟩ := hs2 i
      refine ⟨joinE (ρ1 i * bn + ρ2 i).toNat bn x y, frP_mem.2 ⟨x, hx, y, hy, by rw [(hd i).1]; exact x1, by rw [(hd i).2]; exact y1, meetE_goes (hwa x hx) (hwb y hy) x2 y2, rfl⟩, (joinE_goes (hwa x hx) (hwb y hy) _).2 ⟨x2, y2⟩, ?_⟩
      show x.to * bn + y.to = _
      rw [x3, y3]
    · rcases hmem hF with rfl | rfl
      · obtain ⟨j, hj, h⟩ := ha1 _ (by rw [hsA]; exact List.mem_singleton.2 rfl) i
        exact ⟨j, hj, hset0.2 ⟨(hrange j).1, (hrange j).2, by rw [(hd j).1]; exact h⟩⟩
      · obtain ⟨j, hj, h⟩ := ha2 _ (by rw [hsB]; exact List.mem_singleton.2 rfl) i
        exact ⟨j, hj, hset1.2 ⟨(hrange j).1, (hrange j).2, by rw [(hd j).2]; exact h⟩⟩
end Go.Au

namespace Go.Au
open Go

theorem ltE_not {x y : Edge} (h : ltE x y = false) : ¬ (x.frm < y.frm ∨ x.frm = y.frm ∧ (x.to < y.to ∨ x.to = y.to ∧ (x.must < y.must ∨ x.must = y.must ∧ x.no < y.no))) := fun hh => by
  have := (ltE_iff x y).2 hh
  rw [h] at this; cases this
theorem ltE_tri {x y : Edge} (h1 : ltE x y = false) (h2 : ltE y x = false) : x = y := by
  have h1 := ltE_not h1
  have h2 := ltE_not h2
  obtain ⟨a, b, c, d⟩ := x
  obtain ⟨a', b', c', d'⟩ := y
  simp only [Edge.mk.injEq] at h1 h2 ⊢
  omega
theorem ltE_trans {x y z : Edge} (h1 : ltE x y = true) (h2 : ltE y z = true) : ltE x z = true := by
  rw [ltE_iff] at h1 h2 ⊢
  omega
theorem ltE_irr (x : Edge) : ltE x x = false := by
  cases h : ltE x x with
  | false => rfl
  | true => rw [ltE_iff] at h; omega
theorem leE_trans {x y z : Edge} (h1 : ltE y x = false) (h2 : ltE z y = false) : ltE z x = false := by
  cases h : ltE z x with
  | false => rfl
  | true =>
    have h1' := ltE_not h1
    have h2' := ltE_not h2
    rw [ltE_iff] at h
    omega
theorem sortE_sorted (E : List Edge) : (sortE E).Pairwise fun x y => ltE y x = false := by
  unfold sortE
  have := List.pairwise_mergeSort (le := fun x y => !ltE y x) (fun a b c h1 h2 => by
    simp only [Bool.not_eq_true'] at h1 h2 ⊢
    exact leE_trans h1 h2) (fun a b => by
    cases h : ltE b a with
    | false => simp
    | true =>
      have : ltE a b = false := by
        cases h2 : ltE a b with
        | false => rfl
        | true => have := ltE_trans h h2; rw [ltE_irr] at this; cases this
      simp [this]) E
  exact this.imp fun h => by simpa using h
theorem compP_sorted {xs : List Edge} (h : xs.Pairwise fun x y => ltE y x = false) : ∀ {p : Nat}, p ≤ xs.length → (compP xs p).Pairwise fun x y => ltE x y = true
  | 0, _ => by simp [compP]
  | p + 1, hp => by
    have ih := compP_sorted h (p := p) (by omega)
    have hx : xs[p]? = some (xs[p]'(by omega)) := List.getElem?_eq_getElem (by omega)
    unfold compP
    rw [hx]
    simp only
    split
    · exact ih
    · rename_i hnd
      rw [List.pairwise_append]
      refine ⟨ih, by simp, fun y hy z hz => ?_⟩
      rw [List.mem_singleton] at hz
      subst hz
      obtain ⟨j, hj, hjx⟩ := compP_mem.1 hy
      have hpw := List.pairwise_iff_getElem.1 h
      obtain ⟨hjl, rfl⟩ := List.getElem?_eq_some_iff.1 hjx
      have h1 := hpw j p hjl (by omega) hj
      cases hlt : ltE xs[j] (xs[p]'(by omega)) with
      | true => rfl
      | false =>
        have heq := ltE_tri hlt h1
        have h2 : ltE (xs[p - 1]'(by omega)) xs[j] = false := by
          rcases Nat.lt_or_ge j (p - 1) with h3 | h3
          · exact hpw j (p - 1) hjl (by omega) h3
          · obtain rfl : j = p - 1 := by omega
            exact ltE_irr _
        have h3 := hpw (p - 1) p (by omega) (by omega) (by omega)
        rw [heq] at h2
        have := ltE_tri h2 h3
        exact absurd ⟨by omega, by rw [List.getElem?_eq_getElem (by omega), this]⟩ hnd
theorem compE_sorted (E : List Edge) : (compE (sortE E)).Pairwise fun x y => ltE x y = true := compP_sorted (sortE_sorted E) (Nat.le_refl _)
theorem edgesGo_of {n letters : Int} : ∀ {es : List Edge} {p : Option Edge}, (∀ e ∈ es, 0 ≤ e.frm ∧ e.frm < n ∧ 0 ≤ e.to ∧ e.to < n ∧ e.must < letters ∧ e.no < letters ∧ bits .and .u16 e.must e.no = 0) → es.Pairwise (fun x y => ltE x y = true) → (∀ y, p = some y → ∀ x ∈ es, ltE y x = true) → edgesGo n letters p es = true
  | [], _, _, _, _ => by unfold edgesGo; rfl
  | x :: r, p, h, hp, hy => by
    obtain ⟨h1, h2, h3, h4, h5, h6, h7⟩ := h x List.mem_cons_self
    have hp' := List.pairwise_cons.1 hp
    have ih := edgesGo_of (n := n) (letters := letters) (es := r) (p := some x) (fun e he => h e (List.mem_cons_of_mem _ he)) hp'.2 (fun y hy x hx => by obtain rfl := Option.some.inj hy; exact hp'.1 x hx)
    have r1 : ∀ z : Int, 0 ≤ z → z < n → risingFrom n none [z] = true := fun z h1 h2 => by
      simp only [risingFrom, Bool.and_true, Bool.or_false, Bool.not_eq_true', Bool.or_eq_false_iff, decide_eq_false_iff_not]
      omega
    unfold edgesGo
    rw [r1 _ h1 h2, r1 _ h3 h4, ih]
    cases p with
    | none => simp; omega
    | some y =>
      have := hy y rfl x List.mem_cons_self
      have h8 : orderS y x < 0 := (order_lt y x).2 ((ltE_iff y x).1 this)
      simp; omega
theorem rising_of {n : Int} : ∀ {l : List Int} {p : Option Int}, (∀ x ∈ l, 0 ≤ x ∧ x < n) → l.Pairwise (· < ·) → (∀ y, p = some y → ∀ x ∈ l, y < x) → risingFrom n p l = true
  | [], _, _, _, _ => by unfold risingFrom; rfl
  | x :: r, p, h, hp, hy => by
    have h1 := h x List.mem_cons_self
    have hp' := List.pairwise_cons.1 hp
    have ih := rising_of (n := n) (l := r) (p := some x) (fun e he => h e (List.mem_cons_of_mem _ he)) hp'.2 (fun y hy x hx => by obtain rfl := Option.some.inj hy; exact hp'.1 x hx)
    unfold risingFrom
    rw [ih]
    cases p with
    | none => simp; omega
    | some y =>
      have := hy y rfl x List.mem_cons_self
      simp; omega
theorem range_rising (m : Nat) : ((List.range m).map fun (i : Nat) => (i : Int)).Pairwise (· < ·) := by
  rw [List.pairwise_map]
  exact List.pairwise_lt_range.imp fun h => by omega
theorem finR_rising (sets : List (List Int)) (L : List Place) (m : Nat) : ((List.range m).flatMap (finR sets L)).Pairwise (· < ·) := by
  rw [List.pairwise_flatMap]
  have hone : ∀ i, ∀ x ∈ finR sets L i, x = (i : Int) := fun i x hx => by
    unfold finR at hx
    split at hx
    · simp at hx
    · split at hx
      · simpa using hx
      · simp at hx
  refine ⟨fun i _ => ?_, List.pairwise_lt_range.imp fun {i j} h x hx y hy => ?_⟩
  · unfold finR
    split
    · exact .nil
    · split <;> simp
  · rw [hone i x hx, hone j y hy]; omega

theorem deg_check {props : List ByteArray} {init : List Int} {sets : List (List Int)} {fr : Int → List Edge} {N : Nat} {L : List Place} (hn : namesOk props = true) (hnd : init.Nodup) (hD : Deg sets fr (iniS init).1 N L) (hL : L.length ≤ 65536)
    (hed : ∀ s, ∀ e ∈ fr s, e.must < 2 ^ props.length ∧ e.no < 2 ^ props.length ∧ bits .and .u16 e.must e.no = 0) : checkS (degB props init sets fr N).general = true := by
  have hst : (degB props init sets fr N).states = (L.length : Nat) := by show (((degS sets fr ((iniS init).1, [], []) N).1.length : Nat) : Int) = _; rw [hD.list]
  have hgs : (degB props init sets fr N).general.states = (L.length : Nat) := hst
  have hlen : init.length ≤ L.length := by
    have := hD.start.length_le
    rw [iniS_eq hnd] at this
    simpa using this
  have h1 : risingFrom (L.length : Nat) none (degB props init sets fr N).general.init = true := by
    show risingFrom _ none (iniS init).2 = true
    rw [iniS_eq hnd]
    refine rising_of (fun x hx => ?_) (range_rising _) (fun y hy => by cases hy)
    obtain ⟨i, hi, rfl⟩ := List.mem_map.1 hx
    rw [List.mem_range] at hi
    omega
  have h2 : edgesGo (L.length : Nat) (2 ^ props.length) none (degB props init sets fr N).general.edges = true := by
    show edgesGo _ _ none (compE (sortE (degS sets fr ((iniS init).1, [], []) N).2.1)) = true
    refine edgesGo_of (fun e he => ?_) (compE_sorted _) (fun y hy => by cases hy)
    rw [compE_mem, sortE_mem, hD.edges, rowL_mem] at he
    obtain ⟨i, p, hp, d, hd, rfl⟩ := he
    have hi := (List.getElem?_eq_some_iff.1 hp).1
    have hj := List.idxOf_lt_length_of_mem (hD.closed p (List.mem_of_getElem? hp) d hd)
    obtain ⟨e1, e2, e3⟩ := hed _ d hd
    exact ⟨by show (0 : Int) ≤ (i : Nat); omega, by show ((i : Nat) : Int) < _; omega, by show (0 : Int) ≤ ((L.idxOf _ : Nat) : Int); omega, by show ((L.idxOf _ : Nat) : Int) < _; omega, e1, e2, e3⟩
  have h3 : risingFrom (L.length : Nat) none (degS sets fr ((iniS init).1, [], []) N).2.2 = true := by
    rw [hD.fin]
    refine rising_of (fun x hx => ?_) (finR_rising _ _ _) (fun y hy => by cases hy)
    obtain ⟨i, p, hp, -, rfl⟩ := finR_mem.1 hx
    have := (List.getElem?_eq_some_iff.1 hp).1
    omega
  have hs : (degB props init sets fr N).general.sets = [(degS sets fr ((iniS init).1, [], []) N).2.2] := rfl
  unfold checkS
  rw [hgs, h1, hs]
  simp only [List.all_cons, List.all_nil, h3]
  have hp : (degB props init sets fr N).general.props = props := rfl
  rw [hp, h2, hn]
  simp; omega
end Go.Au

namespace Go.Au
open Go

/-! ### what is trimmed already stays -/
theorem eq_sorted {α : Type} {r : α → α → Prop} (hirr : ∀ x, ¬ r x x) (htr : ∀ {x y z}, r x y → r y z → r x z) : ∀ {l1 l2 : List α}, l1.Pairwise r → l2.Pairwise r → (∀ x, x ∈ l1 ↔ x ∈ l2) → l1 = l2
  | [], [], _, _, _ => rfl
  | [], b :: t2, _, _, h => absurd ((h b).2 List.mem_cons_self) (by simp)
  | a :: t1, [], _, _, h => absurd ((h a).1 List.mem_cons_self) (by simp)
  | a :: t1, b :: t2, h1, h2, h => by
    have p1 := List.pairwise_cons.1 h1
    have p2 := List.pairwise_cons.1 h2
    have hab : a = b := Classical.byContradiction fun hne => by
      have e1 : r b a := by
        rcases List.mem_cons.1 ((h a).1 List.mem_cons_self) with e | e
        · exact absurd e hne
        · exact p2.1 a e
      have e2 : r a b := by
        rcases List.mem_cons.1 ((h b).2 List.mem_cons_self) with e | e
        · exact absurd e.symm hne
        · exact p1.1 b e
      exact hirr a (htr e2 e1)
    subst hab
    congr 1
    refine eq_sorted hirr htr p1.2 p2.2 fun x => ⟨fun hx => ?_, fun hx => ?_⟩
    · rcases List.mem_cons.1 ((h x).1 (List.mem_cons_of_mem _ hx)) with rfl | e
      · exact absurd (p1.1 x hx) (hirr x)
      · exact e
    · rcases List.mem_cons.1 ((h x).2 (List.mem_cons_of_mem _ hx)) with rfl | e
      · exact absurd (p2.1 x hx) (hirr x)
      · exact e
theorem eq_sortedE {l1 l2 : List Edge} (h1 : l1.Pairwise fun x y => ltE x y = true) (h2 : l2.Pairwise fun x y => ltE x y = true) (h : ∀ x, x ∈ l1 ↔ x ∈ l2) : l1 = l2 :=
  eq_sorted (r := fun x y => ltE x y = true) (fun x hx => by rw [ltE_irr] at hx; cases hx) (fun a b => ltE_trans a b) h1 h2 h
theorem eq_sortedI {l1 l2 : List Int} (h1 : l1.Pairwise (· < ·)) (h2 : l2.Pairwise (· < ·)) (h : ∀ x, x ∈ l1 ↔ x ∈ l2) : l1 = l2 :=
  eq_sorted (r := fun x y : Int => x < y) (fun x hx => by omega) (fun a b => by omega) h1 h2 h
theorem compE_same {l : List Edge} (h : l.Pairwise fun x y => ltE x y = true) : compE (sortE l) = l := eq_sortedE (compE_sorted l) h fun x => by rw [compE_mem, sortE_mem]

/-- the places that are numbers -/
def rowR (c : Nat) : List Place := (List.range c).map fun (j : Nat) => ((j : Int), (0 : Int))
theorem rowR_len (c : Nat) : (rowR c).length = c := by simp [rowR]
theorem rowR_get {c j : Nat} (h : j < c) : (rowR c)[j]? = some ((j : Int), 0) := by simp [rowR, h]
theorem rowR_mem {c : Nat} {z : Int} : (z, (0 : Int)) ∈ rowR c ↔ 0 ≤ z ∧ z < c := by
  unfold rowR
  simp only [List.mem_map, List.mem_range, Prod.mk.injEq]
  constructor
  · rintro ⟨j, hj, h, -⟩; omega
  · exact fun h => ⟨z.toNat, by omega, by omega, trivial⟩
theorem rowR_nodup (c : Nat) : (rowR c).Nodup := by
  unfold rowR List.Nodup
  rw [List.pairwise_map]
  exact List.pairwise_lt_range.imp fun h he => by injection he with he; omega
theorem rowR_succ (c : Nat) : rowR (c + 1) = rowR c ++ [((c : Int), 0)] := by simp [rowR, List.range_succ]
theorem rowR_idx {c : Nat} {z : Int} (h : 0 ≤ z ∧ z < c) : ((rowR c).idxOf (z, 0) : Nat) = z := by
  have h1 := get_idx (rowR_mem.2 h)
  have h2 := (List.getElem?_eq_some_iff.1 h1).1
  rw [rowR_len] at h2
  rw [rowR_get h2] at h1
  injection h1 with h1
  injection h1
theorem rowE1_cover {i : Nat} : ∀ {l : List Edge} {c c' : Nat} {E : List Edge}, c ≤ c' → l.Pairwise (fun x y => x.to ≤ y.to) → (∀ e ∈ l, e.frm = i ∧ 0 ≤ e.to ∧ e.to < c') → (∀ j : Nat, c ≤ j → j < c' → ∃ e ∈ l, e.to = j) → rowE1 i 0 (rowR c, E) l = (rowR c', E ++ l)
  | [], c, c', E, hc, _, _, hcov => by
    have : c = c' := by
      rcases Nat.lt_or_eq_of_le hc with h | h
      · obtain ⟨e, he, -⟩ := hcov c (Nat.le_refl _) h
        simp at he
      · exact h
    subst this
    simp [rowE1]
  | e :: r, c, c', E, hc, hp, hr, hcov => by
    have hp' := List.pairwise_cons.1 hp
    obtain ⟨h1, h2, h3⟩ := hr e List.mem_cons_self
    have hstep : rowE1 i 0 (rowR c, E) (e :: r) = rowE1 i 0 (oneE i 0 (rowR c, E) e) r := rfl
    have hee : ∀ {z : Int}, z = e.to → (⟨i, z, e.must, e.no⟩ : Edge) = e := fun {z} hz => by
      obtain ⟨a, b, m, n⟩ := e
      simp only at h1 hz
      rw [hz, ← h1]
    rw [hstep]
    by_cases hlt : e.to < c
    · have hin : (e.to, (0 : Int)) ∈ rowR c := rowR_mem.2 ⟨h2, hlt⟩
      have hone : oneE i 0 (rowR c, E) e = (rowR c, E ++ [e]) := by
        unfold oneE
        rw [numL_mem hin, numOf_mem hin, hee (rowR_idx ⟨h2, hlt⟩)]
      rw [hone, rowE1_cover hc hp'.2 (fun x hx => hr x (List.mem_cons_of_mem _ hx)) (fun j hj1 hj2 => ?_), List.append_assoc]
      · rfl
      · obtain ⟨x, hx, hxj⟩ := hcov j hj1 hj2
        rcases List.mem_cons.1 hx with rfl | hx
        · omega
        · exact ⟨x, hx, hxj⟩
    · have hec : e.to = c := by
        obtain ⟨x, hx, hxj⟩ := hcov c (Nat.le_refl _) (by omega)
        rcases List.mem_cons.1 hx with rfl | hx
        · exact hxj
        · have := hp'.1 x hx; omega
      have hnin : (e.to, (0 : Int)) ∉ rowR c := fun h => by have := (rowR_mem.1 h).2; omega
      have hone : oneE i 0 (rowR c, E) e = (rowR (c + 1), E ++ [e]) := by
        unfold oneE
        rw [numL_new hnin, numOf_new hnin, rowR_len, hee hec.symm, rowR_succ, hec]
      rw [hone, rowE1_cover (by omega) hp'.2 (fun x hx => hr x (List.mem_cons_of_mem _ hx)) (fun j hj1 hj2 => ?_), List.append_assoc]
      · rfl
      · obtain ⟨x, hx, hxj⟩ := hcov j (by omega) hj2
        rcases List.mem_cons.1 hx with rfl | hx
        · omega
        · exact ⟨x, hx, hxj⟩
theorem rowE1_new (i : Nat) (d : Int) : ∀ (l : List Edge) (st : List Place × List Edge), ∀ q ∈ (rowE1 i d st l).1, q ∈ st.1 ∨ ∃ e ∈ l, q = (e.to, d)
  | [], _, _, h => .inl h
  | x :: l, st, q, h => by
    rcases rowE1_new i d l (oneE i d st x) q h with h | ⟨e, he, h⟩
    · have h : q ∈ numL st.1 (x.to, d) := h
      unfold numL at h
      split at h
      · exact .inl h
      · rcases List.mem_append.1 h with h | h
        · exact .inl h
        · exact .inr ⟨x, List.mem_cons_self, by simpa using h⟩
    · exact .inr ⟨e, List.mem_cons_of_mem _ he, h⟩
theorem idx_get {L : List Place} (hn : L.Nodup) {j : Nat} {q : Place} (h : L[j]? = some q) : L.idxOf q = j := by
  obtain ⟨hj, rfl⟩ := List.getElem?_eq_some_iff.1 h
  have h1 := get_idx (L := L) (List.getElem_mem hj)
  have h2 := (List.getElem?_eq_some_iff.1 h1).1
  rw [List.getElem?_eq_getElem h2] at h1
  injection h1 with h1
  exact (List.getElem_inj hn).1 h1

theorem trim_deg {props : List ByteArray} {init : List Int} {sets : List (List Int)} {fr : Int → List Edge} {N : Nat} {L : List Place} (hnd : init.Nodup) (hD : Deg sets fr (iniS init).1 N L) (hLN : L.length ≤ N) (hLn : L.Nodup) : trimG (degB props init sets fr N) = degB props init sets fr N := by
  obtain ⟨d, hd⟩ : ∃ d, d = degB props init sets fr N := ⟨_, rfl⟩
  have hst : d.states = (L.length : Nat) := by rw [hd]; show (((degS sets fr ((iniS init).1, [], []) N).1.length : Nat) : Int) = _; rw [hD.list]
  have hde : d.edges = compE (sortE (degS sets fr ((iniS init).1, [], []) N).2.1) := by rw [hd]; rfl
  have hsorted : d.edges.Pairwise fun x y => ltE x y = true := by rw [hde]; exact compE_sorted _
  have hE : ∀ {e : Edge}, e ∈ d.edges ↔ ∃ (i : Nat) (p : Place), L[i]? = some p ∧ ∃ d ∈ fr p.1, e = ⟨i, (L.idxOf (d.to, nextC sets p) : Nat), d.must, d.no⟩ := fun {e} => by
    rw [hde, compE_mem, sortE_mem, hD.edges, rowL_mem]
  have hdi : d.init = (List.range init.length).map fun (i : Nat) => (i : Int) := by rw [hd]; show (iniS init).2 = _; rw [iniS_eq hnd]
  have hdin : d.init.Nodup := by rw [hdi]; exact (range_rising _).imp fun h => by omega
  have hini : iniS d.init = (rowR init.length, d.init) := by
    rw [iniS_eq hdin, hdi]
    simp [rowR, List.map_map, Function.comp_def]
  have hc0 : (iniS init).1.length = init.length := by rw [iniS_eq hnd]; simp
  obtain ⟨c, hcd⟩ : ∃ c : Nat → Nat, c = fun i => (degS sets fr ((iniS init).1, [], []) i).1.length := ⟨_, rfl⟩
  have hpre : ∀ i, i ≤ N → (degS sets fr ((iniS init).1, [], []) i).1 <+: L := fun i hi => by rw [← hD.list]; exact degS_pre _ _ _ hi
  have hcm : ∀ i, i < L.length → i < c i := fun i hi => by
    rw [hcd]
    rcases Nat.lt_or_ge i (degS sets fr ((iniS init).1, [], []) i).1.length with h | h
    · exact h
    · have h1 := degS_stop (sets := sets) (fr := fr) (st0 := ((iniS init).1, [], [])) (i := i) h N (by omega)
      have h2 := hD.list
      rw [h1] at h2
      rw [h2] at h
      omega
  have hcl : c L.length = L.length := by
    have h0 := (hpre L.length hLN).length_le
    have h1 := degS_stop (sets := sets) (fr := fr) (st0 := ((iniS init).1, [], [])) (i := L.length) h0 N hLN
    have h2 := hD.list
    rw [h1] at h2
    rw [hcd]
    simp only
    rw [h2]
  have hcp : ∀ i, i < L.length → ∃ p, L[i]? = some p ∧ (degS sets fr ((iniS init).1, [], []) (i + 1)).1 = (rowE1 i (nextC sets p) ((degS sets fr ((iniS init).1, [], []) i).1, (degS sets fr ((iniS init).1, [], []) i).2.1) (fr p.1)).1 := fun i hi => by
    have h1 := hcm i hi
    rw [hcd] at h1
    have h2 : (degS sets fr ((iniS init).1, [], []) i).1[i]? = some _ := List.getElem?_eq_getElem h1
    refine ⟨_, get_pre (hpre i (by omega)) h2, ?_⟩
    show (oneS sets fr i (degS sets fr ((iniS init).1, [], []) i)).1 = _
    unfold oneS
    rw [h2]
  have key : ∀ i, i ≤ L.length → degS [] (fromS d.edges) (rowR init.length, [], []) i = (rowR (c i), (List.range i).flatMap (fun (j : Nat) => fromS d.edges (j : Int)), (List.range i).map fun (j : Nat) => (j : Int)) := by
    intro i
    induction i with
    | zero => intro _; rw [hcd]; simp [degS, hc0]
    | succ i ih =>
      intro hi
      have hil : i < L.length := by omega
      obtain ⟨p, hp, hstep⟩ := hcp i hil
      have hs : degS [] (fromS d.edges) (rowR init.length, [], []) (i + 1) = oneS [] (fromS d.edges) i (degS [] (fromS d.edges) (rowR init.length, [], []) i) := rfl
      have hmono : c i ≤ c (i + 1) := by rw [hcd]; exact (degS_pre _ _ _ (Nat.le_succ i)).length_le
      have hpre1 := hpre (i + 1) (by omega)
      have hmem : ∀ {e : Edge}, e ∈ fromS d.edges (i : Int) ↔ ∃ x ∈ fr p.1, e = ⟨i, (L.idxOf (x.to, nextC sets p) : Nat), x.must, x.no⟩ := fun {e} => by
        simp only [fromS, List.mem_filter, decide_eq_true_eq]
        rw [hE]
        constructor
        · rintro ⟨⟨j, q, hq, x, hx, rfl⟩, hf⟩
          obtain rfl : j = i := by have : ((j : Nat) : Int) = i := hf; omega
          rw [hp] at hq
          obtain rfl := Option.some.inj hq
          exact ⟨x, hx, rfl⟩
        · rintro ⟨x, hx, rfl⟩
          exact ⟨⟨i, p, hp, x, hx, rfl⟩, rfl⟩
      rw [hs, ih (by omega)]
      unfold oneS
      simp only
      rw [rowR_get (hcm i hil)]
      simp only
      have hrow : rowE1 i (nextC [] ((i : Int), (0 : Int))) (rowR (c i), (List.range i).flatMap fun (j : Nat) => fromS d.edges (j : Int)) (fromS d.edges (i : Int)) = (rowR (c (i + 1)), (List.range i).flatMap (fun (j : Nat) => fromS d.edges (j : Int)) ++ fromS d.edges (i : Int)) := by
        show rowE1 i 0 _ _ = _
        refine rowE1_cover hmono ?_ (fun e he => ?_) fun j hj1 hj2 => ?_
        · unfold fromS
          refine List.Pairwise.imp_of_mem (fun {x y} hx hy h => ?_) (hsorted.sublist List.filter_sublist)
          have h1 := of_decide_eq_true (List.mem_filter.1 hx).2
          have h2 := of_decide_eq_true (List.mem_filter.1 hy).2
          rw [ltE_iff] at h
          omega
        · obtain ⟨x, hx, rfl⟩ := hmem.1 he
          refine ⟨rfl, by show (0 : Int) ≤ ((L.idxOf _ : Nat) : Int); omega, ?_⟩
          have hin : (x.to, nextC sets p) ∈ (degS sets fr ((iniS init).1, [], []) (i + 1)).1 := by rw [hstep]; exact rowE1_in _ _ _ _ x hx
          have h1 := List.idxOf_lt_length_of_mem hin
          show ((L.idxOf (x.to, nextC sets p) : Nat) : Int) < (c (i + 1) : Nat)
          rw [idx_pre hpre1 hin, hcd]
          simp only
          omega
        · rw [hcd] at hj1 hj2
          simp only at hj1 hj2
          have h1 : (degS sets fr ((iniS init).1, [], []) (i + 1)).1[j]? = some _ := List.getElem?_eq_getElem hj2
          obtain ⟨q, hq⟩ : ∃ q, q = (degS sets fr ((iniS init).1, [], []) (i + 1)).1[j] := ⟨_, rfl⟩
          rw [← hq] at h1
          have h2 := List.mem_of_getElem? h1
          have hLj := get_pre hpre1 h1
          have h3 := h2
          rw [hstep] at h3
          rcases rowE1_new _ _ _ _ q h3 with h4 | ⟨x, hx, h4⟩
          · exfalso
            have h5 := List.idxOf_lt_length_of_mem h4
            have h4 : q ∈ (degS sets fr ((iniS init).1, [], []) i).1 := h4
            have h6 := idx_pre (hpre i (by omega)) h4
            have h7 := idx_get hLn hLj
            simp only at h5
            omega
          · refine ⟨_, hmem.2 ⟨x, hx, rfl⟩, ?_⟩
            show ((L.idxOf (x.to, nextC sets p) : Nat) : Int) = j
            rw [← h4, idx_get hLn hLj]
      rw [hrow]
      refine Prod.ext rfl (Prod.ext ?_ ?_)
      · simp [List.range_succ]
      · simp [List.range_succ, finC]
  have hfin := key L.length (Nat.le_refl _)
  rw [hcl] at hfin
  have hbre : breL L.length d = rowR L.length := by
    unfold breL
    rw [hini, Nat.mul_one, hfin]
  have hed : (List.range L.length).flatMap (fun (j : Nat) => fromS d.edges (j : Int)) = d.edges := by
    refine eq_sortedE ?_ hsorted fun e => ?_
    · rw [List.pairwise_flatMap]
      refine ⟨fun j _ => hsorted.sublist List.filter_sublist, List.pairwise_lt_range.imp fun {i j} h x hx y hy => ?_⟩
      have h1 := of_decide_eq_true (List.mem_filter.1 hx).2
      have h2 := of_decide_eq_true (List.mem_filter.1 hy).2
      rw [ltE_iff]
      omega
    · simp only [List.mem_flatMap, List.mem_range, fromS, List.mem_filter, decide_eq_true_eq]
      constructor
      · rintro ⟨j, hj, h1, h2⟩; exact h1
      · intro he
        obtain ⟨i, p, hp, x, hx, rfl⟩ := hE.1 he
        exact ⟨i, (List.getElem?_eq_some_iff.1 hp).1, he, rfl⟩
  have hfl : d.final = (List.range L.length).flatMap (finR sets L) := by rw [hd]; show (degS sets fr ((iniS init).1, [], []) N).2.2 = _; exact hD.fin
  have hff : finIx d.final (rowR L.length) L.length = d.final := by
    refine eq_sortedI ?_ (by rw [hfl]; exact finR_rising _ _ _) fun z => ?_
    · unfold finIx
      rw [List.pairwise_map]
      exact (List.pairwise_lt_range.sublist List.filter_sublist).imp fun h => by omega
    · unfold finIx
      simp only [List.mem_map, List.mem_filter, List.mem_range, decide_eq_true_eq]
      constructor
      · rintro ⟨j, ⟨h1, h2⟩, rfl⟩
        rw [List.getD_eq_getElem?_getD, rowR_get h1] at h2
        exact h2
      · intro hz
        have hz' := hz
        rw [hfl] at hz'
        obtain ⟨i, p, hp, -, rfl⟩ := finR_mem.1 hz'
        have hi := (List.getElem?_eq_some_iff.1 hp).1
        exact ⟨i, ⟨hi, by rw [List.getD_eq_getElem?_getD, rowR_get hi]; exact hz⟩, rfl⟩
  rw [← hd]
  unfold trimG
  rw [hst, Int.toNat_natCast, hbre, rowR_len, hff]
  unfold degB
  rw [hini, Nat.mul_one, hfin]
  simp only
  rw [hed, compE_same hsorted, rowR_len, ← hst]
end Go.Au

namespace Go.Au
open Go

/-! ### the laws of what is made -/
theorem edgesGo_masks {n letters : Int} : ∀ {es : List Edge} {p : Option Edge}, edgesGo n letters p es = true → ∀ e ∈ es, e.must < letters ∧ e.no < letters ∧ bits .and .u16 e.must e.no = 0
  | [], _, _, e, he => by simp at he
  | x :: r, p, h, e, he => by
    unfold edgesGo at h
    simp only [Bool.and_eq_true, Bool.not_eq_true', decide_eq_false_iff_not] at h
    obtain ⟨-, -, h1, h2, h3, -, h4⟩ := h
    rcases List.mem_cons.1 he with rfl | he
    · exact ⟨by omega, by omega, Classical.byContradiction fun hh => h3 hh⟩
    · exact edgesGo_masks h4 e he
theorem check_masks {g : General} (h : checkS g = true) : ∀ e ∈ g.edges, e.must < 2 ^ g.props.length ∧ e.no < 2 ^ g.props.length ∧ bits .and .u16 e.must e.no = 0 := by
  simp only [checkS, Bool.and_eq_true] at h
  exact edgesGo_masks h.1.2
theorem check_names {g : General} (h : checkS g = true) : namesOk g.props = true := by
  simp only [checkS, Bool.and_eq_true] at h
  exact h.1.1.1.1.1
/-- what holds of a machine that comes to its end -/
structure Made (props : List ByteArray) (init : List Int) (sets : List (List Int)) (fr : Int → List Edge) (N : Nat) : Prop where
  nd : init.Nodup
  ex : ∃ L, Deg sets fr (iniS init).1 N L ∧ L.length ≤ N ∧ L.Nodup ∧ ∀ p ∈ L, 0 ≤ p.2 ∧ p.2 < (max sets.length 1 : Nat)
theorem made_of {props : List ByteArray} {init : List Int} {sets : List (List Int)} {fr : Int → List Edge} {n : Nat} (hnd : init.Nodup) (hini : ∀ s ∈ init, 0 ≤ s ∧ s < n) (hto : ∀ s, ∀ e ∈ fr s, 0 ≤ e.to ∧ e.to < n) : Made props init sets fr (n * max sets.length 1) := by
  have h := degS_ok (n := n) (sets := sets) (fr := fr) hto (st0 := ((iniS init).1, [], [])) ⟨by
    rw [iniS_eq hnd]
    show (init.map fun s => (s, (0 : Int))).Nodup
    unfold List.Nodup
    rw [List.pairwise_map]
    exact hnd.imp fun h he => h (by injection he), by
    rw [iniS_eq hnd]
    intro q hq
    obtain ⟨s, hs, rfl⟩ := List.mem_map.1 hq
    have := hini s hs
    exact ⟨this.1, this.2, Int.le_refl 0, by show (0 : Int) < ((max sets.length 1 : Nat) : Int); omega⟩⟩ (n * max sets.length 1)
  have hl := box_length h.nd h.box
  exact ⟨hnd, _, deg_of hl, hl, h.nd, fun p hp => ⟨(h.box p hp).2.2.1, (h.box p hp).2.2.2⟩⟩
theorem Made.acc {props : List ByteArray} {init : List Int} {sets : List (List Int)} {fr : Int → List Edge} {N : Nat} (h : Made props init sets fr N) {σ : Nat → Int} : AccI' (degB props init sets fr N).general σ ↔ AccM fr init sets σ := by
  obtain ⟨L, h1, h2, h3, h4⟩ := h.ex
  exact deg_acc h.nd h1 h4 h3
theorem Made.trim {props : List ByteArray} {init : List Int} {sets : List (List Int)} {fr : Int → List Edge} {N : Nat} (h : Made props init sets fr N) : trimG (degB props init sets fr N) = degB props init sets fr N := by
  obtain ⟨L, h1, h2, h3, h4⟩ := h.ex
  exact trim_deg h.nd h1 h2 h3
theorem Made.check {props : List ByteArray} {init : List Int} {sets : List (List Int)} {fr : Int → List Edge} {N : Nat} (h : Made props init sets fr N) (hn : namesOk props = true) (hN : N ≤ 65536) (hed : ∀ s, ∀ e ∈ fr s, e.must < 2 ^ props.length ∧ e.no < 2 ^ props.length ∧ bits .and .u16 e.must e.no = 0) : checkS (degB props init sets fr N).general = true := by
  obtain ⟨L, h1, h2, h3, h4⟩ := h.ex
  exact deg_check hn h.nd h1 (by omega) hed
theorem Made.states {props : List ByteArray} {init : List Int} {sets : List (List Int)} {fr : Int → List Edge} {N : Nat} (h : Made props init sets fr N) : 0 ≤ (degB props init sets fr N).states ∧ (degB props init sets fr N).states ≤ N := by
  obtain ⟨L, h1, h2, h3, h4⟩ := h.ex
  show (0 : Int) ≤ (((degS sets fr ((iniS init).1, [], []) N).1.length : Nat) : Int) ∧ (((degS sets fr ((iniS init).1, [], []) N).1.length : Nat) : Int) ≤ N
  rw [h1.list]; omega
theorem degB_wf {props : List ByteArray} {init : List Int} {sets : List (List Int)} {fr : Int → List Edge} {N : Nat} (h : Made props init sets fr N) (hw : ∀ s, ∀ e ∈ fr s, e.wf) : ∀ e ∈ (degB props init sets fr N).edges, e.wf := fun e he => by
  obtain ⟨L, h1, h2, h3, h4⟩ := h.ex
  have he : e ∈ compE (sortE (degS sets fr ((iniS init).1, [], []) N).2.1) := he
  rw [compE_mem, sortE_mem, h1.edges, rowL_mem] at he
  obtain ⟨i, p, -, d, hd, rfl⟩ := he
  exact hw _ d hd
theorem degB_len {props : List ByteArray} {init : List Int} {sets : List (List Int)} {fr : Int → List Edge} {N m : Nat} (hm : ∀ s, (fr s).length ≤ m) : (degB props init sets fr N).edges.length ≤ N * m := by
  refine Nat.le_trans (compP_len _ _) ?_
  unfold sortE
  rw [List.length_mergeSort]
  exact (degS_len (L0 := (iniS init).1) hm N).1

/-! ### Degen -/
theorem degG_made {g : General} (h : checkS g = true) : Made g.props g.init g.sets (fromS g.edges) (g.states.toNat * max g.sets.length 1) := by
  have hG := Good.of h
  have h0 := hG.s0
  refine made_of (check_init h).1 (fun s hs => ?_) fun s e he => ?_
  · have := hG.init s hs; omega
  · have := hG.edges e (List.mem_filter.1 he).1; omega
theorem degG_acc {g : General} (h : checkS g = true) {σ : Nat → Int} : AccI' (degG g).general σ ↔ AccI' g σ := by
  unfold degG
  rw [(degG_made h).acc, general_acc (Good.of h)]
theorem degG_trim {g : General} (h : checkS g = true) : trimG (degG g) = degG g := (degG_made h).trim
theorem degG_check {g : General} (h : checkS g = true) (hN : g.states.toNat * max g.sets.length 1 ≤ 65536) : checkS (degG g).general = true :=
  (degG_made h).check (check_names h) hN fun s e he => check_masks h e (List.mem_filter.1 he).1
theorem degG_wf {g : General} (h : checkS g = true) (hw : ∀ e ∈ g.edges, e.wf) : ∀ e ∈ (degG g).edges, e.wf := degB_wf (degG_made h) fun s e he => hw e (List.mem_filter.1 he).1
theorem degG_len {g : General} : (degG g).edges.length ≤ g.states.toNat * max g.sets.length 1 * g.edges.length := degB_len fun s => List.length_filter_le _ _
theorem degG_states {g : General} (h : checkS g = true) : 0 ≤ (degG g).states ∧ (degG g).states ≤ (g.states.toNat * max g.sets.length 1 : Nat) := (degG_made h).states

/-! ### Both -/
theorem check_final {b : Buchi} (h : checkS b.general = true) : ∀ s ∈ b.final, 0 ≤ s ∧ s < b.states := fun s hs => (Good.of h).sets b.final (by simp [Buchi.general]) s hs
theorem bothG_made {a b : Buchi} (hA : checkS a.general = true) (hB : checkS b.general = true) : Made a.props (initP b.states.toNat a.init b.init) (setsP (a.states.toNat * b.states.toNat) b.states.toNat a.final b.final) (frP b.states.toNat a.edges b.edges) (a.states.toNat * b.states.toNat * 2) := by
  have gA := Good.of hA
  have gB := Good.of hB
  have a0 : 0 ≤ a.states := gA.s0
  have b0 : 0 ≤ b.states := gB.s0
  have iA : ∀ s ∈ a.init, 0 ≤ s ∧ s < (a.states.toNat : Nat) := fun s hs => by have : 0 ≤ s ∧ s < a.states := gA.init s hs; omega
  have iB : ∀ s ∈ b.init, 0 ≤ s ∧ s < (b.states.toNat : Nat) := fun s hs => by have : 0 ≤ s ∧ s < b.states := gB.init s hs; omega
  have tA : ∀ e ∈ a.edges, 0 ≤ e.to ∧ e.to < (a.states.toNat : Nat) := fun e he => by have : 0 ≤ e.frm ∧ e.frm < a.states ∧ 0 ≤ e.to ∧ e.to < a.states := gA.edges e he; omega
  have tB : ∀ e ∈ b.edges, 0 ≤ e.to ∧ e.to < (b.states.toNat : Nat) := fun e he => by have : 0 ≤ e.frm ∧ e.frm < b.states ∧ 0 ≤ e.to ∧ e.to < b.states := gB.edges e he; omega
  have h := made_of (props := a.props) (sets := setsP (a.states.toNat * b.states.toNat) b.states.toNat a.final b.final) (fr := frP b.states.toNat a.edges b.edges) (initP_nodup (check_init hA).2 (check_init hB).2 iB) (initP_mem iA iB) (frP_to tA tB)
  exact h
theorem bothG_acc {a b : Buchi} (hA : checkS a.general = true) (hB : checkS b.general = true) (hwa : ∀ e ∈ a.edges, e.wf) (hwb : ∀ e ∈ b.edges, e.wf) {σ : Nat → Int} : AccI' (bothG a b).general σ ↔ AccI' a.general σ ∧ AccI' b.general σ := by
  have gA := Good.of hA
  have gB := Good.of hB
  have a0 : 0 ≤ a.states := gA.s0
  have b0 : 0 ≤ b.states := gB.s0
  unfold bothG
  rw [(bothG_made hA hB).acc]
  exact both_acc gA gB (Int.toNat_of_nonneg a0).symm (Int.toNat_of_nonneg b0).symm hwa hwb (fun s hs => by have := check_final hA s hs; omega) (fun s hs => by have := check_final hB s hs; omega)
theorem bothG_check {a b : Buchi} (hA : checkS a.general = true) (hB : checkS b.general = true) (hp : a.props = b.props) (hwa : ∀ e ∈ a.edges, e.wf) (hwb : ∀ e ∈ b.edges, e.wf) (hN : a.states.toNat * b.states.toNat * 2 ≤ 65536) : checkS (bothG a b).general = true := by
  refine (bothG_made hA hB).check (check_names hA) hN fun s e he => ?_
  obtain ⟨x, hx, y, hy, -, -, hm, rfl⟩ := frP_mem.1 he
  have h1 := check_masks hA x hx
  have h2 := check_masks hB y hy
  have hpb : b.general.props = a.props := hp.symm
  rw [hpb] at h2
  have hpa : a.general.props = a.props := rfl
  rw [hpa] at h1
  have hj := joinE_ok (s := s.toNat) (bn := b.states.toNat) (n := a.props.length) (by have := check_len hA; exact this) (hwa x hx) (hwb y hy) h1.2.2 h2.2.2 hm h1.1 h1.2.1 h2.1 h2.2.1
  exact ⟨hj.2.1, hj.2.2, hj.1⟩
theorem bothG_len {a b : Buchi} : (bothG a b).edges.length ≤ a.states.toNat * b.states.toNat * 2 * (a.edges.length * b.edges.length) := degB_len fun s => frP_len _ _ _ s

/-! ### what is said of words -/
theorem accS_run {g : General} {x : Word} (hx : x.loop.length ≠ 0) : acceptsS g x = true ↔ AccI' g x.at := by
  unfold acceptsS
  rw [← accP_run hx]
  exact @decide_eq_true_iff _ (Classical.propDecidable _)
theorem accS_eq {g h : General} {x y : Word} (hx : x.loop.length ≠ 0) (hy : y.loop.length ≠ 0) (hs : AccI' g x.at ↔ AccI' h y.at) : acceptsS g x = acceptsS h y := by
  have h1 := accS_run (g := g) hx
  have h2 := accS_run (g := h) hy
  cases ha : acceptsS g x with
  | true => exact (h2.2 (hs.1 (h1.1 ha))).symm
  | false =>
    cases hb : acceptsS h y with
    | false => rfl
    | true => have := h1.2 (hs.2 (h2.1 hb)); rw [ha] at this; cases this
theorem accS_and {g h k : General} {x : Word} (hx : x.loop.length ≠ 0) (hs : AccI' k x.at ↔ AccI' g x.at ∧ AccI' h x.at) : acceptsS k x = (acceptsS g x && acceptsS h x) := by
  have h1 := accS_run (g := g) hx
  have h2 := accS_run (g := h) hx
  have h3 := accS_run (g := k) hx
  cases hk : acceptsS k x with
  | true =>
    obtain ⟨e1, e2⟩ := hs.1 (h3.1 hk)
    rw [h1.2 e1, h2.2 e2]; rfl
  | false =>
    cases hg : acceptsS g x with
    | false => rfl
    | true =>
      cases hh : acceptsS h x with
      | false => rfl
      | true => have := h3.2 (hs.2 ⟨h1.1 hg, h2.1 hh⟩); rw [hk] at this; cases this
end Go.Au

namespace Go.Au
open Go

theorem compP_sub {xs : List Edge} : ∀ {p : Nat}, (compP xs p).Sublist (xs.take p)
  | 0 => by simp [compP]
  | p + 1 => by
    have ih := compP_sub (xs := xs) (p := p)
    unfold compP
    split
    · rename_i h
      rw [List.take_of_length_le (by have := List.getElem?_eq_none_iff.1 h; omega)] 
      exact ih.trans (List.take_sublist _ _)
    · rename_i x hx
      obtain ⟨hl, rfl⟩ := List.getElem?_eq_some_iff.1 hx
      rw [List.take_succ_eq_append_getElem hl]
      split
      · exact ih.trans (List.sublist_append_left _ _)
      · exact ih.append (List.Sublist.refl _)
theorem compE_sub (xs : List Edge) : (compE xs).Sublist xs := by
  have := compP_sub (xs := xs) (p := xs.length)
  rwa [List.take_length] at this
theorem fromS_comp (E : List Edge) (i : Int) : (fromS (compE (sortE E)) i).length ≤ (fromS E i).length := by
  unfold fromS
  refine Nat.le_trans ((compE_sub (sortE E)).filter _).length_le ?_
  exact Nat.le_of_eq ((List.mergeSort_perm E _).filter _).length_eq
theorem rows_one {f : Nat → List Edge} {m : Nat} (hf : ∀ j, ∀ e ∈ f j, e.frm = j) (hm : ∀ j, (f j).length ≤ m) (i : Int) : ∀ n, (fromS ((List.range n).flatMap f) i).length ≤ (if 0 ≤ i ∧ i < n then m else 0)
  | 0 => by simp [fromS]
  | n + 1 => by
    have ih := rows_one hf hm i n
    have hn : (fromS (f n) i).length ≤ if i = n then m else 0 := by
      unfold fromS
      split
      · exact Nat.le_trans (List.length_filter_le _ _) (hm n)
      · rename_i hne
        have : (f n).filter (fun e => decide (e.frm = i)) = [] := List.filter_eq_nil_iff.2 fun e he => by
          have := hf n e he
          simp; omega
        rw [this]; simp
    have hs : fromS ((List.range (n + 1)).flatMap f) i = fromS ((List.range n).flatMap f) i ++ fromS (f n) i := by
      unfold fromS
      rw [List.range_succ, List.flatMap_append, List.filter_append]
      simp
    rw [hs, List.length_append]
    by_cases h1 : i = n
    · rw [if_pos h1] at hn
      rw [if_neg (by omega)] at ih
      rw [if_pos (by omega)]
      omega
    · rw [if_neg h1] at hn
      by_cases h2 : 0 ≤ i ∧ i < n
      · rw [if_pos h2] at ih
        rw [if_pos (by omega)]
        omega
      · rw [if_neg h2] at ih
        omega
theorem degB_row {props : List ByteArray} {init : List Int} {sets : List (List Int)} {fr : Int → List Edge} {N m : Nat} (h : Made props init sets fr N) (hm : ∀ s, (fr s).length ≤ m) (i : Int) : (fromS (degB props init sets fr N).edges i).length ≤ m := by
  obtain ⟨L, h1, h2, h3, h4⟩ := h.ex
  refine Nat.le_trans (fromS_comp (degS sets fr ((iniS init).1, [], []) N).2.1 i) ?_
  rw [h1.edges]
  have := rows_one (f := rowL sets fr L) (m := m) (fun j e he => by
    unfold rowL at he
    split at he
    · simp at he
    · obtain ⟨d, -, rfl⟩ := List.mem_map.1 he; rfl) (fun j => by
    unfold rowL
    split
    · simp
    · rw [List.length_map]; exact hm _) i L.length
  split at this <;> omega
theorem frP_row {bn : Nat} {ea eb : List Edge} {m k : Nat} (hA : ∀ i, (fromS ea i).length ≤ m) (hB : ∀ i, (fromS eb i).length ≤ k) (s : Int) : (frP bn ea eb s).length ≤ m * k := by
  unfold frP
  refine Nat.le_trans (compP_len _ _) ?_
  unfold sortE
  rw [List.length_mergeSort]
  exact Nat.le_trans (prodE_len _ _ _ _) (Nat.mul_le_mul (hA _) (hB _))
theorem bothG_row {a b : Buchi} {m : Nat} (hA : ∀ i, (fromS a.edges i).length ≤ m) : (bothG a b).edges.length ≤ a.states.toNat * b.states.toNat * 2 * (m * b.edges.length) := degB_len fun s => frP_row hA (fun i => List.length_filter_le _ _) s
theorem degG_row {g : General} (h : checkS g = true) (i : Int) : (fromS (degG g).edges i).length ≤ g.edges.length := degB_row (degG_made h) (fun s => List.length_filter_le _ _) i
end Go.Au

namespace Go.Au
open Go Go.RowKit Go.MapKept
open Go.Maps (Keyed)

def kA : Buchi := { props := [⟨#[97]⟩], states := 1, init := [0], edges := [⟨0, 0, 1, 0⟩], final := [0] }

def kW1 : Word := { stem := [], loop := [1] }

def kW2 : Word := { stem := [1], loop := [1, 0] }

theorem kCheck : checkS kA.general = true := by decide +kernel

theorem kOk1 : wordOk kW1 kA.general.props.length = true := by decide +kernel

theorem kOk2 : wordOk kW2 kA.general.props.length = true := by decide +kernel

theorem kSets : setsOf kA.general = [[0]] := by rfl

theorem kS1 : succ kA.general kW1 (0, 0) = [(0, 0)] := by decide +kernel

theorem kS20 : succ kA.general kW2 (0, 0) = [(0, 1)] := by decide +kernel

theorem kS21 : succ kA.general kW2 (0, 1) = [(0, 2)] := by decide +kernel

theorem kS22 : succ kA.general kW2 (0, 2) = [] := by decide +kernel

theorem kAcc1 : accS kA.general kW1 = (true, 0) := by
  have h : AccP kA.general kW1 := by
    refine ⟨fun p => p = (0, 0), ⟨_, rfl⟩, fun p hp X h1 _ => by rw [hp]; exact h1 0 (by simp [kA, Buchi.general]), fun p hp F hF => ?_⟩
    rw [kSets] at hF
    simp only [List.mem_singleton] at hF
    subst hF hp
    exact .one rfl (by rw [kS1]; simp) rfl (by simp)
  unfold accS
  rw [if_pos kCheck, if_pos kOk1]
  unfold acceptsS
  rw [@decide_eq_true _ (Classical.propDecidable _) h]

theorem kAcc2 : accS kA.general kW2 = (false, 0) := by
  have h : ¬ AccP kA.general kW2 := by
    rintro ⟨X, ⟨p, hp⟩, hr, hX⟩
    have step : ∀ p, X p → ∃ q, q ∈ succ kA.general kW2 p ∧ X q := fun p hp => by
      have := hX p hp [0] (by rw [kSets]; simp)
      cases this with
      | one h1 h2 h3 h4 => exact ⟨_, h2, h3⟩
      | more h1 h2 h3 h4 => exact ⟨_, h2, h3⟩
    have n2 : ¬ X (0, 2) := fun h => by obtain ⟨q, hq, _⟩ := step _ h; rw [kS22] at hq; simp at hq
    have n1 : ¬ X (0, 1) := fun h => by obtain ⟨q, hq, hx⟩ := step _ h; rw [kS21] at hq; simp at hq; subst hq; exact n2 hx
    have n0 : ¬ X (0, 0) := fun h => by obtain ⟨q, hq, hx⟩ := step _ h; rw [kS20] at hq; simp at hq; subst hq; exact n1 hx
    have := hr p hp (fun q => q = (0, 0) ∨ q = (0, 1) ∨ q = (0, 2)) (fun s hs => by simp [kA, Buchi.general] at hs; simp [hs]) (fun a q ha hq => by
      rcases ha with rfl | rfl | rfl
      · rw [kS20] at hq; simp at hq; simp [hq]
      · rw [kS21] at hq; simp at hq; simp [hq]
      · rw [kS22] at hq; simp at hq)
    rcases this with rfl | rfl | rfl
    · exact n0 hp
    · exact n1 hp
    · exact n2 hp
  unfold accS
  rw [if_pos kCheck, if_pos kOk2]
  unfold acceptsS
  rw [@decide_eq_false _ (Classical.propDecidable _) h]

theorem known_c (w : World) : Calls Proofs.Try.prog 9 [].toArray w (Ret fun v w' => v = .bool true ∧ Kp w w') := by
  refine call agree Proofs.Try.func9 rfl Proofs.Try.ntmps9 (by kernel_rfl) ?_
  refine ne (by decide) ?_
  refine nd fun b1 w1 e1 s1 k1 m1 => ?_
  refine ne (by decide) ?_
  refine nd fun b2 w2 e2 s2 k2 m2 => ?_
  refine ne (by decide) ?_
  refine nd fun b3 w3 e3 s3 k3 m3 => ?_
  refine ne (by decide) ?_
  refine nd fun b4 w4 e4 s4 k4 m4 => ?_
  refine nd fun p1 w5 e5 s5 k5 m5 => ?_
  refine st agree (cs := [.slice none 0 0, .int .i64 0, .slice none 0 0, .slice none 0 0, .slice none 0 0]) m5 rfl (Nat.le_refl 5) rfl ?_
  intro w6 s6 k6 m6
  have m6 : Own w6 p1 31 [.slice (some ⟨b1, 0, none⟩) 1 1, .int .i64 1, .slice (some ⟨b2, 0, none⟩) 1 1, .slice (some ⟨b3, 0, none⟩) 1 1, .slice (some ⟨b4, 0, none⟩) 1 1] := m6
  have k46 : Kp w4 w6 := k5.new e5 k6
  have k06 : Kp w w6 := k1.trans (k2.trans (k3.trans (k4.trans k46)))
  have hB : BuchiV 0 w6.heap.size w6 (.slice (some ⟨b1, 0, none⟩) 1 1) (.slice (some ⟨b2, 0, none⟩) 1 1) (.slice (some ⟨b3, 0, none⟩) 1 1) (.slice (some ⟨b4, 0, none⟩) 1 1) kA := by
    have c1 := (k2.trans (k3.trans (k4.trans k46))).own (show Own w1 b1 9 [.string ⟨#[97]⟩] from m1) id
    have c2 := (k3.trans (k4.trans k46)).own (show Own w2 b2 3 [.int .i64 0] from m2) id
    have c3 := (k4.trans k46).own (show Own w3 b3 52 [.int .i64 0, .int .i64 0, .int .u16 1, .int .u16 0] from m3) id
    have c4 := k46.own (show Own w4 b4 3 [.int .i64 0] from m4) id
    have g1 := own_row (f := fun x : ByteArray => [Value.string x]) (l := [⟨#[97]⟩]) (size := 1) (fun _ => rfl) (by decide) c1 (by simp [maxLen])
    have g2 := own_row (f := fun x : Int => [Value.int .i64 x]) (l := [0]) (size := 1) (fun _ => rfl) (by decide) c2 (by simp [maxLen])
    have g3 := own_row (f := Edge.cells) (l := [⟨0, 0, 1, 0⟩]) (size := 4) (fun _ => rfl) (by decide) c3 (by simp [maxLen])
    have g4 := own_row (f := fun x : Int => [Value.int .i64 x]) (l := [0]) (size := 1) (fun _ => rfl) (by decide) c4 (by simp [maxLen])
    exact ⟨g1, g2, g3.and (by simp [Edge.wf]), g4, by simp [kA], by simp [kA], by simp [kA], by simp [kA]⟩
  refine ld agree (v := .agg #[.slice (some ⟨b1, 0, none⟩) 1 1, .int .i64 1, .slice (some ⟨b2, 0, none⟩) 1 1, .slice (some ⟨b3, 0, none⟩) 1 1, .slice (some ⟨b4, 0, none⟩) 1 1]) (Own.at_ (xs := [.slice (some ⟨b1, 0, none⟩) 1 1, .int .i64 1, .slice (some ⟨b2, 0, none⟩) 1 1, .slice (some ⟨b3, 0, none⟩) 1 1, .slice (some ⟨b4, 0, none⟩) 1 1]) (o := 0) m6 rfl) (by rfl) ?_
  refine ne (by decide) ?_
  refine nd fun q1 w7 e7 s7 k7 m7 => ?_
  have d1 := own_row (f := fun x : Int => [Value.int .u16 x]) (l := [1]) (size := 1) (fun _ => rfl) (by decide) (show Own w7 q1 50 [.int .u16 1] from m7) (by simp [maxLen])
  have hW1 : WordV 0 w7.heap.size w7 (.slice none 0 0) (.slice (some ⟨q1, 0, none⟩) 1 1) kW1 :=
    ⟨⟨none, 0, rfl, Nat.le_refl _, fun i x hx => by simp [kW1] at hx⟩, d1.and (by simp [Let16]), by simp [kW1], by simp [kW1]⟩
  have hcall := acceptsB_c (hB.chg k7 (Nat.le_refl _) k7.size) hW1 (by simp [kA]) (by decide)
  rw [kAcc1] at hcall
  refine cl callAcceptsB hcall ?_
  rintro _ w8 ⟨rfl, k8⟩
  have k68 := k7.trans k8
  refine ld agree (v := .agg #[.slice (some ⟨b1, 0, none⟩) 1 1, .int .i64 1, .slice (some ⟨b2, 0, none⟩) 1 1, .slice (some ⟨b3, 0, none⟩) 1 1, .slice (some ⟨b4, 0, none⟩) 1 1]) (Own.at_ (xs := [.slice (some ⟨b1, 0, none⟩) 1 1, .int .i64 1, .slice (some ⟨b2, 0, none⟩) 1 1, .slice (some ⟨b3, 0, none⟩) 1 1, .slice (some ⟨b4, 0, none⟩) 1 1]) (o := 0) (k68.own m6 id) rfl) (by rfl) ?_
  refine ne (by decide) ?_
  refine nd fun q2 w9 e9 s9 k9 m9 => ?_
  refine ne (by decide) ?_
  refine nd fun q3 w10 e10 s10 k10 m10 => ?_
  have d2 := own_row (f := fun x : Int => [Value.int .u16 x]) (l := [1]) (size := 1) (fun _ => rfl) (by decide) (k10.own (show Own w9 q2 50 [.int .u16 1] from m9) id) (by simp [maxLen])
  have d3 := own_row (f := fun x : Int => [Value.int .u16 x]) (l := [1, 0]) (size := 1) (fun _ => rfl) (by decide) (show Own w10 q3 50 [.int .u16 1, .int .u16 0] from m10) (by simp [maxLen])
  have hW2 : WordV 0 w10.heap.size w10 (.slice (some ⟨q2, 0, none⟩) 1 1) (.slice (some ⟨q3, 0, none⟩) 2 2) kW2 :=
    ⟨d2.and (by simp [Let16]), d3.and (by simp [Let16]), by simp [kW2], by simp [kW2]⟩
  have k610 := k68.trans (k9.trans k10)
  have hcall := acceptsB_c (hB.chg k610 (Nat.le_refl _) k610.size) hW2 (by simp [kA]) (by decide)
  rw [kAcc2] at hcall
  refine cl callAcceptsB hcall ?_
  rintro _ w11 ⟨rfl, k11⟩
  have k611 := k610.trans k11
  refine ld agree (v := .agg #[.slice (some ⟨b1, 0, none⟩) 1 1, .int .i64 1, .slice (some ⟨b2, 0, none⟩) 1 1, .slice (some ⟨b3, 0, none⟩) 1 1, .slice (some ⟨b4, 0, none⟩) 1 1]) (Own.at_ (xs := [.slice (some ⟨b1, 0, none⟩) 1 1, .int .i64 1, .slice (some ⟨b2, 0, none⟩) 1 1, .slice (some ⟨b3, 0, none⟩) 1 1, .slice (some ⟨b4, 0, none⟩) 1 1]) (o := 0) (k611.own m6 id) rfl) (by rfl) ?_
  have hchk := checkB_c (hB.chg k611 (Nat.le_refl _) k611.size)
  rw [kCheck] at hchk
  refine cl callCheck hchk ?_
  rintro _ w12 ⟨rfl, k12⟩
  refine spT rfl ?_
  refine spT rfl ?_
  refine spT rfl ?_
  exact ⟨rfl, k06.trans (k611.trans k12)⟩

theorem callKnown : callable Proofs.Try.prog 9 = true := by kernel_rfl

theorem arE {z z' : Int} {K : Int → Prop} (hz : z = z') (h : K z') : Ar z K := by subst hz; exact ar h

theorem wrapU16 {z : Int} (h1 : 0 ≤ z) (h2 : z < 65536) : IntKind.u16.wrap z = z := by
  show (if (false && decide (z % 65536 ≥ 32768)) = true then z % 65536 - 65536 else z % 65536) = z
  rw [if_neg (by simp)]; omega

theorem callRGeneral : callable Proofs.Try.prog 30 = true := by kernel_rfl

theorem rgeneral_c (w : World) (a1 a2 a3 a4 : Option Addr) (l1 c1 l2 c2 l3 c3 l4 c4 : Nat) (n : Int) :
    Calls Proofs.Try.prog 30 [.agg #[.slice a1 l1 c1, .int .i64 n, .slice a2 l2 c2, .slice a3 l3 c3, .slice a4 l4 c4]].toArray w
      (Ret fun r w' => Kp w w' ∧ ∃ q, w.heap.size ≤ q ∧ q < w'.heap.size ∧ w'.heap[q]? = some (.cells [.slice a4 l4 c4].toArray 24 (0, 0)) ∧ r = .agg #[.slice a1 l1 c1, .int .i64 n, .slice a2 l2 c2, .slice a3 l3 c3, .slice (some ⟨q, 0, none⟩) 1 1]) := by
  refine call agree Proofs.Try.func30 rfl Proofs.Try.ntmps30 (by kernel_rfl) ?_
  refine nd fun p w1 e1 s1 k1 m1 => ?_
  have m1 : Own w1 p 31 [.slice a1 l1 c1, .int .i64 n, .slice a2 l2 c2, .slice a3 l3 c3, .slice a4 l4 c4] := m1
  refine nd fun q w2 e2 s2 k2 m2 => ?_
  have m1 := k2.own m1 id
  refine ld agree (Own.at_ (xs := [.slice a1 l1 c1]) (o := 0) m1 rfl) (by rfl) ?_
  refine ld agree (Own.at_ (xs := [.int .i64 n]) (o := 1) m1 rfl) (by rfl) ?_
  refine ld agree (Own.at_ (xs := [.slice a2 l2 c2]) (o := 2) m1 rfl) (by rfl) ?_
  refine ld agree (Own.at_ (xs := [.slice a3 l3 c3]) (o := 3) m1 rfl) (by rfl) ?_
  refine ld agree (Own.at_ (xs := [.slice a4 l4 c4]) (o := 4) m1 rfl) (by rfl) ?_
  refine ne (by decide) ?_
  refine nd fun r w3 e3 s3 k3 m3 => ?_
  refine st agree (k3.own m2 id) rfl (Nat.le_refl 5) rfl ?_
  intro w4 s4 k4 m4
  refine ld (v := .agg #[.slice a1 l1 c1, .int .i64 n, .slice a2 l2 c2, .slice a3 l3 c3, .slice (some ⟨r, 0, none⟩) 1 1]) agree (Own.at_ (xs := [.slice a1 l1 c1, .int .i64 n, .slice a2 l2 c2, .slice a3 l3 c3, .slice (some ⟨r, 0, none⟩) 1 1]) (o := 0) m4 rfl) (by rfl) ?_
  exact ⟨(k1.trans (k2.trans k3)).newS k4 fun j hj => by omega, r, by omega, by omega, k4.heap m3 (by omega), rfl⟩

/-- as small as the statements ask -/
structure Few (g : General) (x : Word) : Prop where
  st : g.states ≤ 60
  ed : g.edges.length ≤ 300
  se : g.sets.length ≤ 6
  pl : x.stem.length + x.loop.length ≤ 30

theorem callFew : callable Proofs.Try.prog 21 = true := by kernel_rfl

theorem few_c (w : World) (pv iv : Value) (ea sa wa1 wa2 : Option Addr) (ec sc wc1 wc2 : Nat) (g : General) (x : Word) (ls : x.stem.length * 2 ≤ 140737488351232) (ll : x.loop.length * 2 ≤ 140737488351232) :
    Calls Proofs.Try.prog 21 [.agg #[pv, .int .i64 g.states, iv, .slice ea g.edges.length ec, .slice sa g.sets.length sc], .agg #[.slice wa1 x.stem.length wc1, .slice wa2 x.loop.length wc2]].toArray w (Ret fun r w' => Kp w w' ∧ ∃ b : Bool, r = .bool b ∧ (b = true → Few g x)) := by
  refine call agree Proofs.Try.func21 rfl Proofs.Try.ntmps21 (by kernel_rfl) ?_
  refine nd fun p w1 e1 s1 k1 m1 => ?_
  have m1 : Own w1 p 28 [pv, .int .i64 g.states, iv, .slice ea g.edges.length ec, .slice sa g.sets.length sc] := m1
  refine nd fun q w2 e2 s2 k2 m2 => ?_
  have m2 : Own w2 q 44 [.slice wa1 x.stem.length wc1, .slice wa2 x.loop.length wc2] := m2
  have m1 := k2.own m1 id
  have k12 := k1.trans k2
  refine ld agree (Own.at_ (xs := [.slice wa1 x.stem.length wc1]) (o := 0) m2 rfl) (by rfl) ?_
  refine ld agree (Own.at_ (xs := [.slice wa2 x.loop.length wc2]) (o := 1) m2 rfl) (by rfl) ?_
  refine aw (by omega) (by omega) ?_
  refine ld agree (Own.at_ (xs := [.int .i64 g.states]) (o := 1) m1 rfl) (by rfl) ?_
  refine sp (fun h1 => ?_) (fun h1 => ?_)
  · refine ld agree (Own.at_ (xs := [.slice ea g.edges.length ec]) (o := 3) m1 rfl) (by rfl) ?_
    refine sp (fun h2 => ?_) (fun h2 => ?_)
    · refine ld agree (Own.at_ (xs := [.slice sa g.sets.length sc]) (o := 4) m1 rfl) (by rfl) ?_
      refine sp (fun h3 => ?_) (fun h3 => ?_)
      · refine sp (fun h4 => ?_) (fun h4 => ?_)
        · exact ⟨k12, true, rfl, fun _ => ⟨h1, by omega, by omega, by omega⟩⟩
        · exact ⟨k12, false, rfl, fun h => by cases h⟩
      · exact ⟨k12, false, rfl, fun h => by cases h⟩
    · exact ⟨k12, false, rfl, fun h => by cases h⟩
  · exact ⟨k12, false, rfl, fun h => by cases h⟩
end Go.Au

namespace Go.Au
open Go Go.RowKit Go.MapKept
open Go.Maps (Keyed)

structure Bin (lo hi : Nat) (w : World) (p i e s : Value) (g : Buchi) : Prop where
  props : Strs lo hi w p g.props
  init : Ints lo hi w i g.init
  edges : Edges lo hi w e g.edges
  final : Ints lo hi w s g.final
  lp : g.props.length * 16 ≤ 140737488351232
  li : g.init.length * 8 ≤ 140737488351232
  le : g.edges.length * 24 ≤ 140737488351232
  ls : g.final.length * 8 ≤ 140737488351232

theorem Bin.wf {lo hi : Nat} {w : World} {p i e s : Value} {g : Buchi} (h : Bin lo hi w p i e s g) : ∀ x ∈ g.edges, x.wf := fun x hx => by
  obtain ⟨a, c, -, -, hh⟩ := h.edges
  obtain ⟨j, hj, rfl⟩ := List.getElem_of_mem hx
  obtain ⟨b, o, -, -, -, cs, -, -, -, hw⟩ := hh j g.edges[j] (by simp)
  exact hw

structure Win (lo hi : Nat) (w : World) (s l : Value) (x : Word) : Prop where
  stem : Letters lo hi w s x.stem
  loop : Letters lo hi w l x.loop
  ls : x.stem.length * 2 ≤ 140737488351232
  ll : x.loop.length * 2 ≤ 140737488351232

section
variable {W : World}

theorem opensInts : Opens Proofs.Try.prog W 24 (fun cs (xs : List Int) => ∃ v, cs = [v] ∧ Ints 0 W.heap.size W v xs ∧ xs.length * 8 ≤ 140737488351232) :=
  (opens_slice (size := 1) (B := 8) Proofs.Try.underlying24 (by kernel_rfl) (by decide) (by kernel_rfl) (by decide) (opens_int Proofs.Try.underlying3)).mono fun cs xs ⟨v, h1, h2, h3⟩ => ⟨v, h1, h2.mono (fun _ _ h => h.1) (Nat.le_refl _) (Nat.le_refl _), h3⟩

theorem opensTexts : Opens Proofs.Try.prog W 23 (fun cs (xs : List ByteArray) => ∃ v, cs = [v] ∧ Strs 0 W.heap.size W v xs ∧ xs.length * 16 ≤ 140737488351232) :=
  (opens_slice (size := 1) (B := 16) Proofs.Try.underlying23 (by kernel_rfl) (by decide) (by kernel_rfl) (by decide) (opens_string Proofs.Try.underlying9)).mono fun cs xs ⟨v, h1, h2, h3⟩ => ⟨v, h1, h2.mono (fun _ _ h => h.1) (Nat.le_refl _) (Nat.le_refl _), h3⟩

theorem opensLetters : Opens Proofs.Try.prog W 42 (fun cs (xs : List Int) => ∃ v, cs = [v] ∧ Letters 0 W.heap.size W v xs ∧ xs.length * 2 ≤ 140737488351232) :=
  (opens_slice (size := 1) (B := 2) Proofs.Try.underlying42 (by kernel_rfl) (by decide) (by kernel_rfl) (by decide) (opens_int Proofs.Try.underlying50)).mono fun cs xs ⟨v, h1, h2, h3⟩ => ⟨v, h1, h2.mono (fun _ x h => ⟨h.1, h.2.1, Int.lt_add_one_of_le h.2.2⟩) (Nat.le_refl _) (Nat.le_refl _), h3⟩

theorem five {cs : List Value} (h : cs.length = 5) : ∃ a b c d e, cs = [a, b, c, d, e] := by
  match cs, h with
  | [a, b, c, d, e], _ => exact ⟨a, b, c, d, e, rfl⟩

theorem four {cs : List Value} (h : cs.length = 4) : ∃ a b c d, cs = [a, b, c, d] := by
  match cs, h with
  | [a, b, c, d], _ => exact ⟨a, b, c, d, rfl⟩

theorem two {cs : List Value} (h : cs.length = 2) : ∃ a b, cs = [a, b] := by
  match cs, h with
  | [a, b], _ => exact ⟨a, b, rfl⟩

theorem c1int : Proofs.Try.prog.cellsOf 3 = 1 := by kernel_rfl

theorem c1u16 : Proofs.Try.prog.cellsOf 50 = 1 := by kernel_rfl

theorem c1ints : Proofs.Try.prog.cellsOf 24 = 1 := by kernel_rfl

theorem c1texts : Proofs.Try.prog.cellsOf 23 = 1 := by kernel_rfl

theorem c1edges : Proofs.Try.prog.cellsOf 25 = 1 := by kernel_rfl

theorem c1letters : Proofs.Try.prog.cellsOf 42 = 1 := by kernel_rfl

theorem opensEdge : Opens Proofs.Try.prog W 52 (fun cs (x : Edge) => cs = Edge.cells x ∧ x.wf) := by
  intro H enc fuel base sp hd cs d ps h hw
  obtain ⟨hl, hf⟩ := field_of Proofs.Try.underlying52 h hw
  have hl : cs.length = 4 := hl.trans (by kernel_rfl)
  obtain ⟨a, b, c, d, rfl⟩ := four hl
  obtain ⟨x0, h0⟩ := fld_at hf 0 0 1 rfl c1int (opens_int Proofs.Try.underlying3)
  obtain ⟨x1, h1⟩ := fld_at hf 1 1 1 rfl c1int (opens_int Proofs.Try.underlying3)
  obtain ⟨x2, h2⟩ := fld_at hf 2 2 1 rfl c1u16 (opens_int Proofs.Try.underlying50)
  obtain ⟨x3, h3⟩ := fld_at hf 3 3 1 rfl c1u16 (opens_int Proofs.Try.underlying50)
  simp at h0 h1 h2 h3
  refine ⟨⟨x0, x1, x2, x3⟩, by simp [Edge.cells, h0, h1, h2, h3], h2.2.1, Int.lt_add_one_of_le h2.2.2, h3.2.1, Int.lt_add_one_of_le h3.2.2⟩

theorem opensEdges : Opens Proofs.Try.prog W 25 (fun cs (xs : List Edge) => ∃ v, cs = [v] ∧ Edges 0 W.heap.size W v xs ∧ xs.length * 24 ≤ 140737488351232) :=
  (opens_slice (size := 4) (B := 24) Proofs.Try.underlying25 (by kernel_rfl) (by decide) (by kernel_rfl) (by decide) opensEdge).mono fun cs xs ⟨v, h1, h2, h3⟩ => ⟨v, h1, h2.mono (fun _ _ h => h) (Nat.le_refl _) (Nat.le_refl _), h3⟩

theorem opensBuchi : Opens Proofs.Try.prog W 31 (fun cs (g : Buchi) => ∃ p i e s, cs = [p, .int .i64 g.states, i, e, s] ∧ Bin 0 W.heap.size W p i e s g) := by
  intro H enc fuel base sp hd cs d ps h hw
  obtain ⟨hl, hf⟩ := field_of Proofs.Try.underlying31 h hw
  have hl : cs.length = 5 := hl.trans (by kernel_rfl)
  obtain ⟨a, b, c, d, e, rfl⟩ := five hl
  obtain ⟨x0, v0, e0, h0, b0⟩ := fld_at hf 0 0 1 rfl c1texts opensTexts
  obtain ⟨x1, e1, -⟩ := fld_at hf 1 1 1 rfl c1int (opens_int Proofs.Try.underlying3)
  obtain ⟨x2, v2, e2, h2, b2⟩ := fld_at hf 2 2 1 rfl c1ints opensInts
  obtain ⟨x3, v3, e3, h3, b3⟩ := fld_at hf 3 3 1 rfl c1edges opensEdges
  obtain ⟨x4, v4, e4, h4, b4⟩ := fld_at hf 4 4 1 rfl c1ints opensInts
  simp at e0 e1 e2 e3 e4
  subst e0 e1 e2 e3 e4
  exact ⟨⟨x0, x1, x2, x3, x4⟩, _, _, _, _, rfl, h0, h2, h3, h4, b0, b2, b3, b4⟩

theorem opensWord : Opens Proofs.Try.prog W 44 (fun cs (g : Word) => ∃ p q, cs = [p, q] ∧ Letters 0 W.heap.size W p g.stem ∧ Letters 0 W.heap.size W q g.loop ∧ g.stem.length * 2 ≤ 140737488351232 ∧ g.loop.length * 2 ≤ 140737488351232) := by
  intro H enc fuel base sp hd cs d ps h hw
  obtain ⟨hl, hf⟩ := field_of Proofs.Try.underlying44 h hw
  have hl : cs.length = 2 := hl.trans (by kernel_rfl)
  obtain ⟨a, b, rfl⟩ := two hl
  obtain ⟨x0, v0, e0, h0, b0⟩ := fld_at hf 0 0 1 rfl c1letters opensLetters
  obtain ⟨x1, v1, e1, h1, b1⟩ := fld_at hf 1 1 1 rfl c1letters opensLetters
  simp at e0 e1
  subst e0 e1
  exact ⟨⟨x0, x1⟩, _, _, rfl, h0, h1, b0, b1⟩
end
end Go.Au

namespace Go.Au
open Go Go.RowKit Go.MapKept
open Go.Maps (Keyed)

abbrev fI (x : Int) : List Value := [.int .i64 x]

abbrev fS (x : ByteArray) : List Value := [.string x]

theorem Edge.arr_inj {x y : Edge} (h : #[Value.int .i64 x.frm, .int .i64 x.to, .int .u16 x.must, .int .u16 x.no] = #[Value.int .i64 y.frm, .int .i64 y.to, .int .u16 y.must, .int .u16 y.no]) : x = y := by
  cases x; cases y; simp at h; simp [h]

theorem callSameInts : callable Proofs.Try.prog 88 = true := by kernel_rfl

theorem sameInts_c {w : World} {lo hi lo2 hi2 : Nat} {v u : Value} {xs ys : List Int} (h : RowE (fun _ cs x => cs = fI x) 1 lo hi w v xs) (h' : RowE (fun _ cs x => cs = fI x) 1 lo2 hi2 w u ys) (hl : xs.length < 4611686018427387904) :
    Calls Proofs.Try.prog 88 [v, u].toArray w (Ret fun r w' => r = .bool (decide (xs = ys)) ∧ Kp w w') := by
  obtain ⟨a, cap, rfl, hcap, hx⟩ := h
  obtain ⟨a2, cap2, rfl, hcap2, hx2⟩ := h'
  refine call agree Proofs.Try.func88 rfl Proofs.Try.ntmps88 (by kernel_rfl) ?_
  refine sp (fun h1 => ?_) (fun h1 => ?_)
  · exact ⟨congrArg Value.bool (decide_eq_false (fun he => h1 (by rw [he]))).symm, Chg.refl _ _⟩
  have hlen : xs.length = ys.length := by omega
  refine loop agree (σ := Nat) (fun i => [(0, .slice a xs.length cap), (1, .slice a2 ys.length cap2), (5, .int .i64 i)]) (fun i w' => Kp w w' ∧ i ≤ xs.length ∧ xs.take i = ys.take i) (fun i => xs.length - i) 0
    ⟨rfl, rfl, rfl, trivial⟩ ⟨Chg.refl _ _, by omega, by simp⟩ ?_
  rintro i e0 w1 ⟨hk, hi, ht⟩
  refine sp (fun h3 => ?_) (fun h3 => ?_)
  · have hi1 : i < xs.length := by omega
    have hi2 : i < ys.length := by omega
    obtain ⟨b, o, rfl, -, -, cs, hcs, hrd, rfl⟩ := hx i xs[i] (by simp)
    obtain ⟨b2, o2, rfl, -, -, cs2, hcs2, hrd2, rfl⟩ := hx2 i ys[i] (by simp)
    refine drawn0 agree mixed 9 (by kernel_rfl) (fun _ => False) ?_
    conv => whnf
    refine ne ⟨by omega, h3⟩ ?_
    conv => whnf
    refine ldk agree rfl rfl (fun W h _ => (hk.trans h).range hrd id) (by rfl) fun _ => ?_
    conv => whnf
    refine ne ⟨by omega, by omega⟩ ?_
    conv => whnf
    refine ldk agree rfl rfl (fun W h _ => (hk.trans h).range hrd2 id) (by rfl) fun _ => ?_
    conv => whnf
    refine sp (fun h4 => ?_) (fun h4 => ?_)
    · conv => whnf
      intro W h _
      refine ⟨congrArg Value.bool (decide_eq_false (fun he => ?_)).symm, hk.trans h⟩
      have he : xs[i] = ys[i] := by simp [he]
      exact (fun he => h4 (by rw [he])) he
    · conv => whnf
      intro W h _
      have he : xs[i] = ys[i] := Classical.not_not.1 h4
      refine aw (by omega) (by omega) ?_
      refine again (i + 1) ⟨rfl, rfl, rfl, trivial⟩ ⟨hk.trans h, by omega, ?_⟩ (by omega)
      rw [List.take_succ_eq_append_getElem hi1, List.take_succ_eq_append_getElem hi2, ht, he]
  · refine ⟨congrArg Value.bool (decide_eq_true ?_).symm, hk⟩
    rw [List.take_of_length_le (by omega), List.take_of_length_le (by omega)] at ht
    exact ht

theorem callSameTexts : callable Proofs.Try.prog 44 = true := by kernel_rfl

theorem sameTexts_c {w : World} {lo hi lo2 hi2 : Nat} {v u : Value} {xs ys : List ByteArray} (h : RowE (fun _ cs x => cs = fS x) 1 lo hi w v xs) (h' : RowE (fun _ cs x => cs = fS x) 1 lo2 hi2 w u ys) (hl : xs.length < 4611686018427387904) :
    Calls Proofs.Try.prog 44 [v, u].toArray w (Ret fun r w' => r = .bool (decide (xs = ys)) ∧ Kp w w') := by
  obtain ⟨a, cap, rfl, hcap, hx⟩ := h
  obtain ⟨a2, cap2, rfl, hcap2, hx2⟩ := h'
  refine call agree Proofs.Try.func44 rfl Proofs.Try.ntmps44 (by kernel_rfl) ?_
  refine sp (fun h1 => ?_) (fun h1 => ?_)
  · exact ⟨congrArg Value.bool (decide_eq_false (fun he => h1 (by rw [he]))).symm, Chg.refl _ _⟩
  have hlen : xs.length = ys.length := by omega
  refine loop agree (σ := Nat) (fun i => [(0, .slice a xs.length cap), (1, .slice a2 ys.length cap2), (5, .int .i64 i)]) (fun i w' => Kp w w' ∧ i ≤ xs.length ∧ xs.take i = ys.take i) (fun i => xs.length - i) 0
    ⟨rfl, rfl, rfl, trivial⟩ ⟨Chg.refl _ _, by omega, by simp⟩ ?_
  rintro i e0 w1 ⟨hk, hi, ht⟩
  refine sp (fun h3 => ?_) (fun h3 => ?_)
  · have hi1 : i < xs.length := by omega
    have hi2 : i < ys.length := by omega
    obtain ⟨b, o, rfl, -, -, cs, hcs, hrd, rfl⟩ := hx i xs[i] (by simp)
    obtain ⟨b2, o2, rfl, -, -, cs2, hcs2, hrd2, rfl⟩ := hx2 i ys[i] (by simp)
    refine drawn0 agree mixed 9 (by kernel_rfl) (fun _ => False) ?_
    conv => whnf
    refine ne ⟨by omega, h3⟩ ?_
    conv => whnf
    refine ldk agree rfl rfl (fun W h _ => (hk.trans h).range hrd id) (by rfl) fun _ => ?_
    conv => whnf
    refine ne ⟨by omega, by omega⟩ ?_
    conv => whnf
    refine ldk agree rfl rfl (fun W h _ => (hk.trans h).range hrd2 id) (by rfl) fun _ => ?_
    conv => whnf
    refine sp (fun h4 => ?_) (fun h4 => ?_)
    · conv => whnf
      intro W h _
      refine ⟨congrArg Value.bool (decide_eq_false (fun he => ?_)).symm, hk.trans h⟩
      have he : xs[i] = ys[i] := by simp [he]
      exact (fun he => h4 (by rw [he])) he
    · conv => whnf
      intro W h _
      have he : xs[i] = ys[i] := Classical.not_not.1 h4
      refine aw (by omega) (by omega) ?_
      refine again (i + 1) ⟨rfl, rfl, rfl, trivial⟩ ⟨hk.trans h, by omega, ?_⟩ (by omega)
      rw [List.take_succ_eq_append_getElem hi1, List.take_succ_eq_append_getElem hi2, ht, he]
  · refine ⟨congrArg Value.bool (decide_eq_true ?_).symm, hk⟩
    rw [List.take_of_length_le (by omega), List.take_of_length_le (by omega)] at ht
    exact ht

theorem callSameEdges : callable Proofs.Try.prog 89 = true := by kernel_rfl

theorem sameEdges_c {w : World} {lo hi lo2 hi2 : Nat} {v u : Value} {xs ys : List Edge} (h : RowE (fun _ cs x => cs = Edge.cells x) 4 lo hi w v xs) (h' : RowE (fun _ cs x => cs = Edge.cells x) 4 lo2 hi2 w u ys) (hl : xs.length < 4611686018427387904) :
    Calls Proofs.Try.prog 89 [v, u].toArray w (Ret fun r w' => r = .bool (decide (xs = ys)) ∧ Kp w w') := by
  obtain ⟨a, cap, rfl, hcap, hx⟩ := h
  obtain ⟨a2, cap2, rfl, hcap2, hx2⟩ := h'
  refine call agree Proofs.Try.func89 rfl Proofs.Try.ntmps89 (by kernel_rfl) ?_
  refine sp (fun h1 => ?_) (fun h1 => ?_)
  · exact ⟨congrArg Value.bool (decide_eq_false (fun he => h1 (by rw [he]))).symm, Chg.refl _ _⟩
  have hlen : xs.length = ys.length := by omega
  refine loop agree (σ := Nat) (fun i => [(0, .slice a xs.length cap), (1, .slice a2 ys.length cap2), (5, .int .i64 i)]) (fun i w' => Kp w w' ∧ i ≤ xs.length ∧ xs.take i = ys.take i) (fun i => xs.length - i) 0
    ⟨rfl, rfl, rfl, trivial⟩ ⟨Chg.refl _ _, by omega, by simp⟩ ?_
  rintro i e0 w1 ⟨hk, hi, ht⟩
  refine sp (fun h3 => ?_) (fun h3 => ?_)
  · have hi1 : i < xs.length := by omega
    have hi2 : i < ys.length := by omega
    obtain ⟨b, o, rfl, -, -, cs, hcs, hrd, rfl⟩ := hx i xs[i] (by simp)
    obtain ⟨b2, o2, rfl, -, -, cs2, hcs2, hrd2, rfl⟩ := hx2 i ys[i] (by simp)
    refine drawn0 agree mixed 9 (by kernel_rfl) (fun _ => False) ?_
    conv => whnf
    refine ne ⟨by omega, h3⟩ ?_
    conv => whnf
    refine ldk (v := xs[i].val) agree rfl rfl (fun W h _ => (hk.trans h).range hrd id) (by rfl) fun _ => ?_
    conv => whnf
    refine ne ⟨by omega, by omega⟩ ?_
    conv => whnf
    refine ldk (v := ys[i].val) agree rfl rfl (fun W h _ => (hk.trans h).range hrd2 id) (by rfl) fun _ => ?_
    conv => whnf
    refine ne ⟨by kernel_rfl, by kernel_rfl⟩ ?_
    conv => whnf
    refine sp (fun h4 => ?_) (fun h4 => ?_)
    · conv => whnf
      intro W h _
      refine ⟨congrArg Value.bool (decide_eq_false (fun he => ?_)).symm, hk.trans h⟩
      have he : xs[i] = ys[i] := by simp [he]
      exact (fun he => h4 (by rw [he])) he
    · conv => whnf
      intro W h _
      have he : xs[i] = ys[i] := Edge.arr_inj (Classical.not_not.1 h4)
      refine aw (by omega) (by omega) ?_
      refine again (i + 1) ⟨rfl, rfl, rfl, trivial⟩ ⟨hk.trans h, by omega, ?_⟩ (by omega)
      rw [List.take_succ_eq_append_getElem hi1, List.take_succ_eq_append_getElem hi2, ht, he]
  · refine ⟨congrArg Value.bool (decide_eq_true ?_).symm, hk⟩
    rw [List.take_of_length_le (by omega), List.take_of_length_le (by omega)] at ht
    exact ht

abbrev IntRowsB (lo hi : Nat) := RowE (fun w cs (xs : List Int) => ∃ u, cs = [u] ∧ Ints lo hi w u xs ∧ xs.length * 8 ≤ 140737488351232) 1 lo hi

theorem IntRowsB.rows {w : World} {lo hi : Nat} {v : Value} {xss : List (List Int)} (h : IntRowsB lo hi w v xss) : IntRows lo hi w v xss :=
  h.mono (fun _ xs ⟨u, h1, h2, h3⟩ => ⟨u, h1, h2, by omega⟩) (Nat.le_refl _) (Nat.le_refl _)

structure Gin (lo hi : Nat) (w : World) (p i e s : Value) (g : General) : Prop where
  props : Strs lo hi w p g.props
  init : Ints lo hi w i g.init
  edges : Edges lo hi w e g.edges
  sets : IntRowsB lo hi w s g.sets
  lp : g.props.length * 16 ≤ 140737488351232
  li : g.init.length * 8 ≤ 140737488351232
  le : g.edges.length * 24 ≤ 140737488351232
  ls : g.sets.length * 24 ≤ 140737488351232

theorem Gin.wf {lo hi : Nat} {w : World} {p i e s : Value} {g : General} (h : Gin lo hi w p i e s g) : ∀ x ∈ g.edges, x.wf := fun x hx => by
  obtain ⟨a, c, -, -, hh⟩ := h.edges
  obtain ⟨j, hj, rfl⟩ := List.getElem_of_mem hx
  obtain ⟨b, o, -, -, -, cs, -, -, -, hw⟩ := hh j g.edges[j] (by simp)
  exact hw

theorem Gin.gen {lo hi : Nat} {w : World} {p i e s : Value} {g : General} (h : Gin lo hi w p i e s g) : GenV lo hi w p i e s g :=
  ⟨h.props, h.init, h.edges, h.sets.rows, by have := h.lp; omega, by have := h.li; omega, by have := h.le; omega, by have := h.ls; omega⟩

theorem Bin.gen {lo hi : Nat} {w : World} {p i e s : Value} {g : Buchi} (h : Bin lo hi w p i e s g) : BuchiV lo hi w p i e s g :=
  ⟨h.props, h.init, h.edges, h.final, by have := h.lp; omega, by have := h.li; omega, by have := h.le; omega, by have := h.ls; omega⟩

section
variable {W : World}

theorem opensRows : Opens Proofs.Try.prog W 26 (fun cs (xs : List (List Int)) => ∃ v, cs = [v] ∧ IntRowsB 0 W.heap.size W v xs ∧ xs.length * 24 ≤ 140737488351232) :=
  (opens_slice (size := 1) (B := 24) Proofs.Try.underlying26 (by kernel_rfl) (by decide) (by kernel_rfl) (by decide) opensInts).mono fun cs xs ⟨v, h1, h2, h3⟩ => ⟨v, h1, h2.mono (fun _ x h => h) (Nat.le_refl _) (Nat.le_refl _), h3⟩

theorem c1rows : Proofs.Try.prog.cellsOf 26 = 1 := by kernel_rfl

theorem opensGeneral : Opens Proofs.Try.prog W 28 (fun cs (g : General) => ∃ p i e s, cs = [p, .int .i64 g.states, i, e, s] ∧ Gin 0 W.heap.size W p i e s g) := by
  intro H enc fuel base sp hd cs d ps h hw
  obtain ⟨hl, hf⟩ := field_of Proofs.Try.underlying28 h hw
  have hl : cs.length = 5 := hl.trans (by kernel_rfl)
  obtain ⟨a, b, c, d, e, rfl⟩ := five hl
  obtain ⟨x0, v0, e0, h0, b0⟩ := fld_at hf 0 0 1 rfl c1texts opensTexts
  obtain ⟨x1, e1, -⟩ := fld_at hf 1 1 1 rfl c1int (opens_int Proofs.Try.underlying3)
  obtain ⟨x2, v2, e2, h2, b2⟩ := fld_at hf 2 2 1 rfl c1ints opensInts
  obtain ⟨x3, v3, e3, h3, b3⟩ := fld_at hf 3 3 1 rfl c1edges opensEdges
  obtain ⟨x4, v4, e4, h4, b4⟩ := fld_at hf 4 4 1 rfl c1rows opensRows
  simp at e0 e1 e2 e3 e4
  subst e0 e1 e2 e3 e4
  exact ⟨⟨x0, x1, x2, x3, x4⟩, _, _, _, _, rfl, h0, h2, h3, h4, b0, b2, b3, b4⟩
end
end Go.Au

namespace Go.Au
open Go

/-! ### the normal form of a word -/
def isPer (l : List Int) (n : Nat) : Prop := 0 < n ∧ n ≤ l.length ∧ l.length % n = 0 ∧ l.drop n = l.take (l.length - n)
instance isPerDec (l : List Int) (n : Nat) : Decidable (isPer l n) := by unfold isPer; infer_instance
/-- how long the shortest row is that, again and again, is l -/
def perS (l : List Int) : Nat := ((List.range l.length).find? (fun n => decide (isPer l n))).getD l.length
theorem perS_first {l : List Int} {n : Nat} (h : ∀ m, m < n → ¬ isPer l m) (hn : isPer l n) (hlt : n < l.length) : perS l = n := by
  unfold perS
  have : (List.range l.length).find? (fun n => decide (isPer l n)) = some n := by
    rw [List.find?_range_eq_some]
    exact ⟨by simpa using hn, by simpa using hlt, fun j hj => by simpa using h j hj⟩
  rw [this]; rfl
theorem perS_none {l : List Int} (h : ∀ m, m < l.length → ¬ isPer l m) : perS l = l.length := by
  unfold perS
  have : (List.range l.length).find? (fun n => decide (isPer l n)) = none := by
    rw [List.find?_eq_none]
    intro j hj
    simpa using h j (by simpa using hj)
  rw [this]; rfl
theorem perS_is {l : List Int} (hl : l.length ≠ 0) : isPer l (perS l) := by
  unfold perS
  cases h : (List.range l.length).find? (fun n => decide (isPer l n)) with
  | none => exact ⟨by show 0 < l.length; omega, Nat.le_refl _, Nat.mod_self _, by show l.drop l.length = l.take (l.length - l.length); simp⟩
  | some n => simpa using List.find?_some h
theorem per_at {l : List Int} {n : Nat} (h : isPer l n) (k : Nat) : l.getD (k % l.length) 0 = (l.take n).getD (k % n) 0 := by
  obtain ⟨h0, h1, h2, h3⟩ := h
  have key : ∀ j, j < l.length → l.getD j 0 = l.getD (j % n) 0 := by
    intro j
    induction j using Nat.strongRecOn with
    | _ j ih =>
      intro hj
      rcases Nat.lt_or_ge j n with h | h
      · rw [Nat.mod_eq_of_lt h]
      · have h4 : l[j]? = l[j - n]? := by
          have := congrArg (fun m : List Int => m[j - n]?) h3
          simp only [List.getElem?_drop, List.getElem?_take] at this
          rw [if_pos (by omega), show n + (j - n) = j by omega] at this
          exact this
        have h5 : l.getD j 0 = l.getD (j - n) 0 := by rw [List.getD_eq_getElem?_getD, List.getD_eq_getElem?_getD, h4]
        rw [h5, ih (j - n) (by omega) (by omega), Nat.mod_eq_sub_mod h]
  have hk := Nat.mod_lt k (show 0 < l.length by omega)
  have hn := Nat.mod_lt k h0
  rw [key _ hk, Nat.mod_mod_of_dvd _ (Nat.dvd_of_mod_eq_zero h2), List.getD_eq_getElem?_getD, List.getD_eq_getElem?_getD, List.getElem?_take, if_pos hn]

def rotS (l : List Int) (t : Nat) : List Int := l.drop t ++ l.take t
theorem rotS_len {l : List Int} {t : Nat} (ht : t ≤ l.length) : (rotS l t).length = l.length := by
  unfold rotS; simp; omega
theorem rotS_at {l : List Int} {t j : Nat} (ht : t ≤ l.length) (hj : j < l.length) : (rotS l t).getD j 0 = l.getD ((t + j) % l.length) 0 := by
  unfold rotS
  rw [List.getD_eq_getElem?_getD, List.getElem?_append, List.getD_eq_getElem?_getD]
  simp only [List.length_drop]
  split
  · rename_i h
    rw [List.getElem?_drop, Nat.mod_eq_of_lt (by omega)]
  · rename_i h
    rw [List.getElem?_take, if_pos (by omega), Nat.mod_eq_sub_mod (by omega), Nat.mod_eq_of_lt (by omega)]
    congr 2; omega
theorem rotS_mem {l : List Int} {t : Nat} {x : Int} : x ∈ rotS l t ↔ x ∈ l := by
  unfold rotS
  rw [List.mem_append, Or.comm, ← List.mem_append, List.take_append_drop]

/-- the loop is turned back into the stem -/
def backS (stem base : List Int) : Nat → Nat → Nat × Nat
  | 0, t => (0, t)
  | s + 1, t => if stem.getD s 0 = base.getD ((t + base.length - 1) % base.length) 0 then backS stem base s ((t + base.length - 1) % base.length) else (s + 1, t)
theorem backS_le {stem base : List Int} (hb : base.length ≠ 0) : ∀ (s t : Nat), t < base.length → (backS stem base s t).1 ≤ s ∧ (backS stem base s t).2 < base.length
  | 0, t, ht => ⟨Nat.le_refl _, ht⟩
  | s + 1, t, ht => by
    unfold backS
    split
    · have := backS_le hb (stem := stem) s ((t + base.length - 1) % base.length) (Nat.mod_lt _ (by omega))
      exact ⟨by omega, this.2⟩
    · exact ⟨Nat.le_refl _, ht⟩
theorem backS_at {stem base : List Int} (hb : base.length ≠ 0) {f : Nat → Int} : ∀ (s t : Nat), t < base.length → (∀ i, f i = if i < s then stem.getD i 0 else base.getD ((t + (i - s)) % base.length) 0) →
    ∀ i, f i = if i < (backS stem base s t).1 then stem.getD i 0 else base.getD (((backS stem base s t).2 + (i - (backS stem base s t).1)) % base.length) 0
  | 0, t, ht, h => h
  | s + 1, t, ht, h => by
    unfold backS
    split
    · rename_i he
      refine backS_at hb s _ (Nat.mod_lt _ (by omega)) fun i => ?_
      rw [h i]
      rcases Nat.lt_or_ge i s with h1 | h1
      · rw [if_pos (by omega), if_pos h1]
      · rw [if_neg (show ¬ i < s by omega)]
        rcases Nat.eq_or_lt_of_le h1 with h2 | h2
        · subst h2
          rw [if_pos (by omega), Nat.sub_self, Nat.add_zero, Nat.mod_mod]
          exact he
        · rw [if_neg (by omega), Nat.mod_add_mod]
          rw [show t + base.length - 1 + (i - s) = t + (i - (s + 1)) + base.length by omega, Nat.add_mod_right]
    · exact h
def normS (x : Word) : Word := if x.loop.length = 0 then ⟨[], []⟩ else
  ⟨x.stem.take (backS x.stem (x.loop.take (perS x.loop)) x.stem.length 0).1, rotS (x.loop.take (perS x.loop)) (backS x.stem (x.loop.take (perS x.loop)) x.stem.length 0).2⟩
theorem normS_ok {x : Word} (h : x.loop.length ≠ 0) : (normS x).loop.length ≠ 0 ∧ (∀ i, (normS x).at i = x.at i) ∧ (∀ c ∈ (normS x).stem, c ∈ x.stem) ∧ (∀ c ∈ (normS x).loop, c ∈ x.loop) ∧ (normS x).stem.length ≤ x.stem.length ∧ (normS x).loop.length ≤ x.loop.length := by
  obtain ⟨base, hbase⟩ : ∃ base, base = x.loop.take (perS x.loop) := ⟨_, rfl⟩
  have hp := perS_is h
  have hbl : base.length = perS x.loop := by rw [hbase, List.length_take]; have := hp.2.1; omega
  have hb : base.length ≠ 0 := by have := hp.1; omega
  have hB := backS_le hb (stem := x.stem) x.stem.length 0 (by omega)
  have hA := backS_at hb (stem := x.stem) (f := x.at) x.stem.length 0 (by omega) fun i => by
    unfold Word.at
    rw [if_neg h]
    split
    · rfl
    · rw [per_at hp, ← hbase, Nat.zero_add, hbl]
  obtain ⟨r, hr⟩ : ∃ r, r = backS x.stem base x.stem.length 0 := ⟨_, rfl⟩
  have hN : normS x = ⟨x.stem.take r.1, rotS base r.2⟩ := by unfold normS; rw [if_neg h, ← hbase, ← hr]
  rw [← hr] at hA hB
  rw [hN]
  have hrl : (rotS base r.2).length = base.length := rotS_len (by omega)
  refine ⟨by show (rotS base r.2).length ≠ 0; omega, fun i => ?_, fun c hc => List.mem_of_mem_take hc, fun c hc => ?_, ?_, ?_⟩
  · rw [hA i]
    have hst : (x.stem.take r.1).length = r.1 := by rw [List.length_take]; omega
    show (if (rotS base r.2).length = 0 then 0 else if i < (x.stem.take r.1).length then (x.stem.take r.1).getD i 0 else (rotS base r.2).getD ((i - (x.stem.take r.1).length) % (rotS base r.2).length) 0) = _
    rw [hrl, hst, if_neg hb]
    split
    · rename_i hi
      rw [List.getD_eq_getElem?_getD, List.getD_eq_getElem?_getD, List.getElem?_take, if_pos hi]
    · rw [rotS_at (by omega) (Nat.mod_lt _ (by omega)), Nat.add_mod_mod]
  · have : c ∈ base := rotS_mem.1 hc
    rw [hbase] at this
    exact List.mem_of_mem_take this
  · show (x.stem.take r.1).length ≤ _; rw [List.length_take]; omega
  · show (rotS base r.2).length ≤ _; rw [hrl, hbl]; exact hp.2.1

def suffS (x : Word) (n : Nat) : Word := if x.loop.length = 0 then ⟨[], []⟩ else if n < x.stem.length then normS ⟨x.stem.drop n, x.loop⟩ else normS ⟨[], rotS x.loop ((n - x.stem.length) % x.loop.length)⟩
theorem suffS_ok {x : Word} (h : x.loop.length ≠ 0) (n : Nat) : (suffS x n).loop.length ≠ 0 ∧ (∀ i, (suffS x n).at i = x.at (i + n)) ∧ (∀ c ∈ (suffS x n).stem, c ∈ x.stem) ∧ (∀ c ∈ (suffS x n).loop, c ∈ x.loop) ∧ (suffS x n).stem.length ≤ x.stem.length ∧ (suffS x n).loop.length ≤ x.loop.length := by
  unfold suffS
  rw [if_neg h]
  split
  · rename_i hn
    obtain ⟨h1, h2, h3, h4, h5, h6⟩ := normS_ok (x := ⟨x.stem.drop n, x.loop⟩) h
    refine ⟨h1, fun i => ?_, fun c hc => List.mem_of_mem_drop (h3 c hc), h4, by simp only [List.length_drop] at h5; omega, h6⟩
    rw [h2]
    unfold Word.at
    rw [if_neg h, if_neg h]
    simp only [List.length_drop]
    rw [List.getD_eq_getElem?_getD, List.getElem?_drop, List.getD_eq_getElem?_getD, Nat.add_comm n i]
    by_cases hi : i < x.stem.length - n
    · rw [if_pos hi, if_pos (by omega)]; rfl
    · rw [if_neg hi, if_neg (by omega), show i - (x.stem.length - n) = i + n - x.stem.length by omega]; rfl
  · rename_i hn
    obtain ⟨k, hk⟩ : ∃ k, k = (n - x.stem.length) % x.loop.length := ⟨_, rfl⟩
    rw [← hk]
    have hkl : k < x.loop.length := by rw [hk]; exact Nat.mod_lt _ (by omega)
    have hrl : (rotS x.loop k).length = x.loop.length := rotS_len (by omega)
    obtain ⟨h1, h2, h3, h4, h5, h6⟩ := normS_ok (x := ⟨[], rotS x.loop k⟩) (by show (rotS x.loop k).length ≠ 0; omega)
    refine ⟨h1, fun i => ?_, fun c hc => absurd (h3 c hc) (by simp), fun c hc => rotS_mem.1 (h4 c hc), by simp only [List.length_nil] at h5; omega, by rw [← hrl]; exact h6⟩
    rw [h2]
    unfold Word.at
    simp only [List.length_nil]
    rw [hrl, if_neg h, if_neg h, if_neg (by omega), if_neg (by omega), rotS_at (by omega) (Nat.mod_lt _ (by omega)), Nat.sub_zero, Nat.add_mod_mod, hk, Nat.mod_add_mod]
    congr 2; omega
end Go.Au

namespace Go.Au
open Go Go.RowKit

/-! ### rows of letters -/
abbrev fL (x : Int) : List Value := [.int .u16 x]
theorem letters_mem {lo hi : Nat} {w : World} {v : Value} {xs : List Int} (h : Letters lo hi w v xs) : ∀ x ∈ xs, Let16 x := fun x hx => by
  obtain ⟨a, c, -, -, hr⟩ := h
  obtain ⟨i, hi⟩ := List.mem_iff_getElem?.1 hx
  obtain ⟨_, _, _, _, _, _, _, _, _, h2⟩ := hr i x hi
  exact h2
theorem letters_row {lo hi : Nat} {w : World} {v : Value} {xs : List Int} (h : Letters lo hi w v xs) : RowE (fun _ cs (x : Int) => cs = fL x) 1 lo hi w v xs := RowE.mono h (fun _ _ h => h.1) (Nat.le_refl _) (Nat.le_refl _)
theorem letters_of {lo hi : Nat} {w : World} {v : Value} {xs : List Int} (h : RowE (fun _ cs (x : Int) => cs = fL x) 1 lo hi w v xs) (hm : ∀ x ∈ xs, Let16 x) : Letters lo hi w v xs := by
  obtain ⟨a, c, hv, hc, hr⟩ := h
  refine ⟨a, c, hv, hc, fun i x hx => ?_⟩
  obtain ⟨b, o, h1, h2, h3, cs, h4, h5, h6⟩ := hr i x hx
  exact ⟨b, o, h1, h2, h3, cs, h4, h5, h6, hm x (List.mem_of_getElem? hx)⟩
theorem letters_kp {lo hi lo' hi' : Nat} {w w' : World} {v : Value} {xs : List Int} (h : Letters lo hi w v xs) (k : Kp w w') (h1 : lo' ≤ lo) (h2 : hi ≤ hi') : Letters lo' hi' w' v xs := (h.chg k (fun _ _ _ h => h) (fun _ _ h => h)).mono (fun _ _ h => h) h1 h2
theorem letters_nil (lo hi : Nat) (w : World) : Letters lo hi w (.slice none 0 0) [] := ⟨none, 0, rfl, Nat.le_refl _, fun i x hx => by simp at hx⟩

/-! ### Equal -/
theorem callEqU : callable Proofs.Try.prog 117 = true := by kernel_rfl
theorem eqU_c {w : World} {lo hi lo' hi' c c' : Nat} {a a' : Option Addr} {xs ys : List Int} (h : Letters lo hi w (.slice a xs.length c) xs) (h' : Letters lo' hi' w (.slice a' ys.length c') ys) (hl : xs.length < 4611686018427387904) (hl' : ys.length < 4611686018427387904) :
    Calls Proofs.Try.prog 117 [.slice a xs.length c, .slice a' ys.length c'].toArray w (Ret fun r w' => r = .bool (decide (xs = ys)) ∧ Kp w w') := by
  obtain ⟨_, _, e1, -, hr⟩ := h
  injection e1 with h1 _ h3
  subst h1 h3
  obtain ⟨_, _, e1, -, hr'⟩ := h'
  injection e1 with h1 _ h3
  subst h1 h3
  refine call agree Proofs.Try.func117 rfl Proofs.Try.ntmps117 (by kernel_rfl) ?_
  by_cases hlen : xs.length = ys.length
  · refine spF (by omega) ?_
    refine loop agree (σ := Nat) (fun i => [(0, .slice a xs.length c), (1, .slice a' ys.length c'), (12, .int .i64 xs.length), (13, .int .i64 i)]) (fun i w' => Kp w w' ∧ i ≤ xs.length ∧ xs.take i = ys.take i) (fun i => xs.length - i) 0
      ⟨rfl, rfl, rfl, rfl, trivial⟩ ⟨Chg.refl _ _, by omega, rfl⟩ ?_
    rintro i e0 w1 ⟨k, hi, htk⟩
    refine sp (fun hlt => ?_) (fun hge => ?_)
    · have hi' : i < xs.length := by omega
      obtain ⟨b, o, rfl, -, -, cs, -, hrd, rfl, -⟩ := hr i xs[i] (by simp [hi'])
      obtain ⟨b', o', rfl, -, -, cs', -, hrd', rfl, -⟩ := hr' i (ys[i]'(by omega)) (by simp [show i < ys.length by omega])
      refine drawn0 agree mixed 9 (by kernel_rfl) (fun _ => False) ?_
      conv => whnf
      refine ne ⟨by omega, by omega⟩ ?_
      conv => whnf
      refine ldk (v := .int .u16 xs[i]) agree rfl rfl (fun V hV _ => by rw [Int.toNat_natCast]; exact (k.trans hV).range hrd id) (by rfl) fun _ => ?_
      conv => whnf
      refine ne ⟨by omega, by omega⟩ ?_
      conv => whnf
      refine ldk (v := .int .u16 (ys[i]'(by omega))) agree rfl rfl (fun V hV _ => by rw [Int.toNat_natCast]; exact (k.trans hV).range hrd' id) (by rfl) fun _ => ?_
      conv => whnf
      by_cases he : xs[i] = ys[i]'(by omega)
      · refine spF (fun h => h he) ?_
        conv => whnf
        intro V hV _
        refine aw (by omega) (by omega) ?_
        refine again (i + 1) ⟨rfl, rfl, rfl, rfl, trivial⟩ ⟨k.trans hV, by omega, ?_⟩ (by omega)
        rw [List.take_succ_eq_append_getElem hi', List.take_succ_eq_append_getElem (show i < ys.length by omega), htk, he]
      · refine spT he ?_
        conv => whnf
        intro V hV _
        refine ⟨congrArg Value.bool ?_, k.trans hV⟩
        rw [decide_eq_false]
        rintro rfl
        exact he rfl
    · refine ⟨congrArg Value.bool ?_, k⟩
      have : i = xs.length := by omega
      subst this
      rw [List.take_length, hlen, List.take_length] at htk
      rw [decide_eq_true htk]
  · refine spT (by omega) ?_
    refine ⟨congrArg Value.bool ?_, Chg.refl _ _⟩
    rw [decide_eq_false]
    rintro rfl
    exact hlen rfl

/-! ### Clone -/
theorem callCloneU : callable Proofs.Try.prog 84 = true := by kernel_rfl
theorem cloneU_c {w : World} {lo hi c : Nat} {a : Option Addr} {xs : List Int} (h : Letters lo hi w (.slice a xs.length c) xs) (hl : xs.length < 1000000000000) :
    Calls Proofs.Try.prog 84 [.slice a xs.length c].toArray w (Ret fun r w' => Kp w w' ∧ Letters w.heap.size w'.heap.size w' r xs) := by
  have hm := letters_mem h
  refine call agree Proofs.Try.func84 rfl Proofs.Try.ntmps84 (by kernel_rfl) ?_
  refine slNil agree rfl rfl rfl (by kernel_rfl) ?_
  cases a with
  | none =>
    have : xs = [] := by
      cases xs with
      | nil => rfl
      | cons x r =>
        obtain ⟨_, _, e1, -, hr⟩ := h
        obtain ⟨b, o, h2, _⟩ := hr 0 x rfl
        injection e1 with h1 _ _
        rw [← h1] at h2
        cases h2
    subst this
    exact ⟨Chg.refl _ _, letters_nil _ _ _⟩
  | some a =>
    refine ne (by decide) ?_
    refine nd fun b w1 e1 s1 k1 m1 => ?_
    have own0 : w1.ownsRow w.heap.size 50 1 (.slice (some ⟨b, 0, none⟩) 0 0) 0 [] := ⟨rfl, .inr ⟨b, 0, _, rfl, by omega, m1, by omega, by simp [maxLen], rfl, by simp⟩⟩
    refine apV (f := fL) (size := 1) agree rfl rfl rfl rfl rfl rfl rfl (by decide) own0 (fun _ => rfl) (letters_row (letters_kp h k1 (Nat.le_refl _) (Nat.le_refl _))) (fun _ => rfl) (by simp only [maxLen]; omega) (by show (_ + xs.length) * 2 ≤ _; omega) (by omega) ?_
    intro v' w2 o2 c2
    refine ⟨k1.newS c2 fun j hj => ?_, ?_⟩
    · have : j = b := by have h2 : some j = some b := hj; injection h2
      omega
    · have o2 : w2.ownsRow w.heap.size 50 1 v' (0 + xs.length) (xs.flatMap fL) := o2
      rw [Nat.zero_add] at o2
      exact letters_of (ownsRow_row (fun _ => rfl) o2 (by decide)) hm

/-! ### Grow, of none; Concat -/
theorem callGrowU : callable Proofs.Try.prog 118 = true := by kernel_rfl
theorem growU_c (w : World) (n : Nat) (hn : n < 1000000000000) :
    Calls Proofs.Try.prog 118 [.slice none 0 0, .int .i64 n].toArray w (Ret fun r w' => Kp w w' ∧ w'.ownsRow w.heap.size 50 1 r 0 []) := by
  refine call agree Proofs.Try.func118 rfl Proofs.Try.ntmps118 (by kernel_rfl) ?_
  refine spF (by omega) ?_
  refine arE (show _ = (0 : Int) from wrap64 (by decide) (by decide)) ?_
  refine arE (show _ = (n : Int) by rw [Int.sub_zero]; exact wrap64 (by omega) (by omega)) ?_
  refine sp (fun h => ?_) (fun h => ?_)
  · refine ne (by decide) ?_
    refine apz agree rfl rfl rfl rfl rfl rfl rfl rfl rfl (by omega) (by simp only [maxLen]; omega) (by show n * 2 ≤ _; omega) ?_
    intro b c w1 hb hc k1 ho
    refine ne ⟨by decide, by decide, by omega⟩ ?_
    exact ⟨k1, ho _ (by omega)⟩
  · exact ⟨Chg.refl _ _, World.ownsRow_nil _ _ _ _⟩
end Go.Au

namespace Go.Au
open Go Go.RowKit

abbrev RowsU (lo hi lo2 hi2 : Nat) := RowE (fun w cs (l : List Int) => ∃ v, cs = [v] ∧ Letters lo hi w v l) 1 lo2 hi2
def lenTo (xss : List (List Int)) (i : Nat) : Nat := (xss.take i).flatten.length
theorem lenTo_le (xss : List (List Int)) (i : Nat) : lenTo xss i ≤ xss.flatten.length := by
  unfold lenTo
  conv => rhs; rw [← List.take_append_drop i xss, List.flatten_append, List.length_append]
  omega
theorem flat_take {xss : List (List Int)} {i : Nat} (hi : i < xss.length) : (xss.take (i + 1)).flatten = (xss.take i).flatten ++ xss[i] := by
  rw [List.take_succ_eq_append_getElem hi, List.flatten_append]
  simp
theorem lenTo_succ {xss : List (List Int)} {i : Nat} (hi : i < xss.length) : lenTo xss (i + 1) = lenTo xss i + xss[i].length := by
  unfold lenTo
  rw [flat_take hi, List.length_append]
theorem callConcatU : callable Proofs.Try.prog 85 = true := by kernel_rfl
theorem concatU_c {w : World} {lo hu lo2 hi2 : Nat} {u : Value} {xss : List (List Int)} (h : RowsU lo hu lo2 hi2 w u xss) (hl : xss.flatten.length < 1000000000000) (hn : xss.length < 1000000000000) :
    Calls Proofs.Try.prog 85 [u].toArray w (Ret fun r w' => Kp w w' ∧ Letters w.heap.size w'.heap.size w' r xss.flatten) := by
  obtain ⟨a, c, rfl, hc, hr⟩ := h
  have hmem : Unit → ∀ x ∈ xss.flatten, Let16 x := fun _ x hx => by
    obtain ⟨l, hl, hx⟩ := List.mem_flatten.1 hx
    obtain ⟨i, hi⟩ := List.mem_iff_getElem?.1 hl
    obtain ⟨_, _, _, _, _, _, _, _, v, _, hv⟩ := hr i l hi
    exact letters_mem hv x hx
  refine call agree Proofs.Try.func85 rfl Proofs.Try.ntmps85 (by kernel_rfl) ?_
  refine loop agree (σ := Nat) (fun i => [(0, .slice a xss.length c), (3, .int .i64 (lenTo xss i : Nat)), (9, .slice a xss.length c), (10, .int .i64 xss.length), (11, .int .i64 i)]) (fun i V => Kp w V ∧ i ≤ xss.length) (fun i => xss.length - i) 0
    ⟨rfl, rfl, rfl, rfl, rfl, trivial⟩ ⟨Chg.refl _ _, by omega⟩ ?_
  rintro i e0 w1 ⟨k1, hi⟩
  refine sp (fun hlt => ?_) (fun hge => ?_)
  · have hi' : i < xss.length := by omega
    obtain ⟨b, o, rfl, -, -, cs, -, hrd, v, rfl, hv⟩ := hr i xss[i] (by simp [hi'])
    have hsu := lenTo_succ hi'
    have hle := lenTo_le xss (i + 1)
    obtain ⟨va, vc, rfl, -⟩ := id hv
    refine ne ⟨by omega, by omega⟩ ?_
    refine ld (v := .slice va (xss[i]).length vc) agree (by rw [Int.toNat_natCast]; exact k1.range hrd id) (by rfl) ?_
    refine arE (show _ = ((lenTo xss (i + 1) : Nat) : Int) by rw [hsu, Int.natCast_add]; exact wrap64 (by omega) (by omega)) ?_
    refine spF (by omega) ?_
    refine aw (by omega) (by omega) ?_
    exact again (i + 1) ⟨rfl, rfl, rfl, rfl, rfl, trivial⟩ ⟨k1, by omega⟩ (by omega)
  · have hie : i = xss.length := by omega
    subst hie
    have hall : lenTo xss xss.length = xss.flatten.length := by unfold lenTo; rw [List.take_length]
    have hg := growU_c w1 (lenTo xss xss.length) (by omega)
    refine cl callGrowU hg ?_
    rintro _ w2 ⟨k2, o2⟩
    rename_i gv
    have z1 := k1.size
    have z2 := k2.size
    refine loop agree (σ := Nat × Value) (fun t => [(6, t.2), (25, .slice a xss.length c), (26, .int .i64 xss.length), (27, .int .i64 t.1)]) (fun t V => Kp w V ∧ w2.heap.size ≤ V.heap.size ∧ t.1 ≤ xss.length ∧ V.ownsRow w1.heap.size 50 1 t.2 (lenTo xss t.1) ((xss.take t.1).flatten.flatMap fL)) (fun t => xss.length - t.1) (0, gv)
      ⟨rfl, rfl, rfl, rfl, trivial⟩ ⟨k1.trans k2, Nat.le_refl _, Nat.zero_le _, o2⟩ ?_
    rintro ⟨i, rv⟩ e1 w3 ⟨k3, z3, hi, o3⟩
    simp only at hi o3
    refine sp (fun hlt => ?_) (fun hge => ?_)
    · have hi' : i < xss.length := by simp only at hlt; omega
      obtain ⟨b, o, rfl, -, -, cs, -, hrd, v, rfl, hv⟩ := hr i xss[i] (by simp [hi'])
      have hsu := lenTo_succ hi'
      have hle := lenTo_le xss (i + 1)
      have hrow := letters_row (letters_kp (hi' := hu) (lo' := lo) hv k3 (Nat.le_refl _) (Nat.le_refl _))
      obtain ⟨va, vc, rfl, -⟩ := id hv
      refine ne ⟨by simp only; omega, by simp only; omega⟩ ?_
      refine ld (v := .slice va (xss[i]).length vc) agree (by rw [Int.toNat_natCast]; exact k3.range hrd id) (by rfl) ?_
      refine apV (f := fL) (size := 1) agree rfl rfl rfl rfl rfl rfl rfl (by decide) o3 (fun _ => rfl) hrow (fun _ => rfl) (by simp only [maxLen]; omega) (by show (_ + (xss[i]).length) * 2 ≤ _; omega) (by omega) ?_
      intro v' w4 o4 c4
      refine aw (by simp only; omega) (by simp only; omega) ?_
      refine again (i + 1, v') ⟨rfl, rfl, rfl, rfl, trivial⟩ ⟨k3.newS c4 fun j hj => ?_, by have := c4.size; omega, by simp only; omega, ?_⟩ (by simp only; omega)
      · have := ownsRow_base o3 hj.symm
        omega
      · simp only
        rw [hsu, flat_take hi', List.flatMap_append]
        exact o4
    · have hie : i = xss.length := by simp only at hge; omega
      subst hie
      refine ⟨k3, letters_of ?_ (hmem ())⟩
      rw [List.take_length] at o3
      exact RowE.mono (ownsRow_row (f := fL) (fun _ => rfl) o3 (by decide)) (fun _ _ h => h) z1 (Nat.le_refl _)
end Go.Au

namespace Go.Au
open Go Go.RowKit

/-! ### the period -/
theorem callPeriod : callable Proofs.Try.prog 83 = true := by kernel_rfl
theorem quoRem (a n : Nat) (hn : 0 < n) : ((a : Int)).tmod (n : Int) = ((a % n : Nat) : Int) := by
  rw [Int.tmod_eq_emod_of_nonneg (by omega)]; rfl
theorem period_c {w : World} {lo hi c : Nat} {a : Option Addr} {l : List Int} (h : Letters lo hi w (.slice a l.length c) l) (hl : l.length < 1000000000000) :
    Calls Proofs.Try.prog 83 [.slice a l.length c].toArray w (Ret fun r w' => r = .int .i64 (perS l : Nat) ∧ Kp w w') := by
  have hcl : l.length ≤ c := by
    obtain ⟨_, _, e1, h2, _⟩ := h
    injection e1 with _ _ h3
    omega
  refine call agree Proofs.Try.func83 rfl Proofs.Try.ntmps83 (by kernel_rfl) ?_
  refine loop agree (σ := Nat) (fun n => [(0, .slice a l.length c), (3, .int .i64 n)]) (fun n V => Kp w V ∧ 1 ≤ n ∧ ∀ m, m < n → m < l.length → ¬ isPer l m) (fun n => l.length - n) 1
    ⟨rfl, rfl, trivial⟩ ⟨Chg.refl _ _, Nat.le_refl _, fun m hm _ hp => by have := hp.1; omega⟩ ?_
  rintro n e0 w1 ⟨k1, hn1, hno⟩
  refine sp (fun hlt => ?_) (fun hge => ?_)
  · have hlt : n < l.length := by omega
    have h1 := letters_kp h k1 (Nat.le_refl _) (Nat.le_refl _)
    by_cases hmod : l.length % n = 0
    · have hcall : ∀ V, Kp w1 V → Calls Proofs.Try.prog 117 [.slice (if c = n then a else a.map (·.add (n * 1))) (l.length - n) (c - n), .slice a (l.length - n) c].toArray V (Ret fun r w' => r = .bool (decide (l.drop n = l.take (l.length - n))) ∧ Kp V w') := fun V hV => by
        have hV1 := letters_kp h1 hV (Nat.le_refl _) (Nat.le_refl _)
        have hd := rowD hV1 (k := n) (by omega)
        have ht := rowT hV1 (k := l.length - n) (by omega)
        have hdl : (l.drop n).length = l.length - n := List.length_drop
        have htl : (l.take (l.length - n)).length = l.length - n := by rw [List.length_take]; omega
        rw [← hdl] at hd
        have := eqU_c hd (ys := l.take (l.length - n)) (a' := a) (c' := c) (by rw [htl]; exact ht) (by omega) (by omega)
        rw [hdl, htl] at this
        exact this
      refine drawn0 agree mixed 17 (by kernel_rfl) (fun _ => False) ?_
      conv => whnf
      refine ne (by omega) ?_
      conv => whnf
      refine arE (quoRem _ _ (by omega)) ?_
      conv => whnf
      refine spT (by omega) ?_
      conv => whnf
      refine ne ⟨by omega, by omega, by omega⟩ ?_
      conv => whnf
      refine arE (show _ = ((l.length - n : Nat) : Int) by rw [Int.ofNat_sub (by omega)]; exact wrap64 (by omega) (by omega)) ?_
      conv => whnf
      refine ne ⟨by omega, by omega, by omega⟩ ?_
      conv => whnf
      by_cases hp : l.drop n = l.take (l.length - n)
      · refine callk (v := .bool true) rfl rfl rfl callEqU (fun V hV _ => by have := hcall V hV; rw [decide_eq_true hp] at this; exact this) fun _ => ?_
        conv => whnf
        intro V hV _
        have hper : isPer l n := ⟨by omega, by omega, hmod, hp⟩
        exact ⟨congrArg (fun m : Nat => Value.int .i64 (m : Int)) (perS_first (fun m hm => hno m hm (by omega)) hper hlt).symm, k1.trans hV⟩
      · refine callk (v := .bool false) rfl rfl rfl callEqU (fun V hV _ => by have := hcall V hV; rw [decide_eq_false hp] at this; exact this) fun _ => ?_
        conv => whnf
        intro V hV _
        refine aw (by omega) (by omega) ?_
        refine again (n + 1) ⟨rfl, rfl, trivial⟩ ⟨k1.trans hV, by omega, fun m hm hml hpm => ?_⟩ (by omega)
        rcases Nat.lt_or_ge m n with h2 | h2
        · exact hno m h2 hml hpm
        · obtain rfl : m = n := by omega
          exact hp hpm.2.2.2
    · refine drawn0 agree mixed 17 (by kernel_rfl) (fun _ => False) ?_
      conv => whnf
      refine ne (by omega) ?_
      conv => whnf
      refine arE (quoRem _ _ (by omega)) ?_
      conv => whnf
      refine spF (by omega) ?_
      conv => whnf
      intro V hV _
      refine aw (by omega) (by omega) ?_
      refine again (n + 1) ⟨rfl, rfl, trivial⟩ ⟨k1.trans hV, by omega, fun m hm hml hpm => ?_⟩ (by omega)
      rcases Nat.lt_or_ge m n with h2 | h2
      · exact hno m h2 hml hpm
      · obtain rfl : m = n := by omega
        exact hmod hpm.2.2.1
  · exact ⟨congrArg (fun m : Nat => Value.int .i64 (m : Int)) (perS_none fun m hm => hno m (by omega) hm).symm, k1⟩
end Go.Au

namespace Go.Au
open Go Go.RowKit

theorem backS_succ {stem base : List Int} {s t : Nat} : backS stem base (s + 1) t = if stem.getD s 0 = base.getD ((t + base.length - 1) % base.length) 0 then backS stem base s ((t + base.length - 1) % base.length) else (s + 1, t) := rfl
theorem callNormal : callable Proofs.Try.prog 40 = true := by kernel_rfl
theorem letters_low {S : Nat → Prop} {lo hi lo' hi' : Nat} {w w' : World} {v : Value} {xs : List Int} (h : Letters lo hi w v xs) (k : Chg S w w') (hS : ∀ j, S j → j < lo) (h1 : lo' ≤ lo) (h2 : hi ≤ hi') : Letters lo' hi' w' v xs := by
  obtain ⟨a, c, rfl, hc, hr⟩ := h
  refine ⟨a, c, rfl, hc, fun i x hx => ?_⟩
  obtain ⟨b, o, rfl, h3, h4, cs, h5, h6, h7⟩ := hr i x hx
  exact ⟨b, o, rfl, by omega, by omega, cs, h5, k.range h6 fun hb => by have := hS b hb; omega, h7⟩
set_option maxHeartbeats 1000000 in
theorem normal_c {w : World} {lo hi : Nat} {sv lv : Value} {x : Word} (hv : WordV lo hi w sv lv x) (hs : x.stem.length < 100000000000) (hl : x.loop.length < 100000000000) (hhi : hi ≤ w.heap.size) :
    Calls Proofs.Try.prog 40 [.agg #[sv, lv]].toArray w (Ret fun r w' => Kp w w' ∧ ∃ sv' lv', r = .agg #[sv', lv'] ∧ WordV w.heap.size w'.heap.size w' sv' lv' (normS x)) := by
  obtain ⟨a1, c1, rfl, hc1, hS⟩ := id hv.stem
  obtain ⟨a2, c2, rfl, hc2, hL⟩ := id hv.loop
  refine call agree Proofs.Try.func40 rfl Proofs.Try.ntmps40 (by kernel_rfl) ?_
  refine nd fun b1 w1 e1 s1 k1 m1 => ?_
  have m1 : Own w1 b1 44 [.slice a1 x.stem.length c1, .slice a2 x.loop.length c2] := m1
  refine nd fun b2 w2 e2 s2 k2 m2 => ?_
  have m2 : Own w2 b2 44 [nilS, nilS] := m2
  have m1 := k2.own m1 id
  have k12 := k1.trans k2
  refine ld agree (Own.at_ (xs := [.slice a2 x.loop.length c2]) (o := 1) m1 rfl) (by rfl) ?_
  refine sp (fun h0 => ?_) (fun h0 => ?_)
  · have h0 : x.loop.length = 0 := by omega
    refine st agree m2 rfl (Nat.le_refl 2) rfl ?_
    intro w3 s3 k3 m3
    have m3 : Own w3 b2 44 [nilS, nilS] := m3
    refine ld agree (v := .agg #[nilS, nilS]) (Own.at_ (xs := [nilS, nilS]) (o := 0) m3 rfl) (by rfl) ?_
    have hn : normS x = ⟨[], []⟩ := by unfold normS; rw [if_pos h0]
    refine ⟨k1.trans (k2.new e2 k3), _, _, rfl, ?_⟩
    rw [hn]
    exact ⟨letters_nil _ _ _, letters_nil _ _ _, by show 0 < _; decide, by show 0 < _; decide⟩
  · have h0 : x.loop.length ≠ 0 := by omega
    have hper := perS_is h0
    obtain ⟨P, hP⟩ : ∃ P, P = perS x.loop := ⟨_, rfl⟩
    obtain ⟨base, hbase⟩ : ∃ base, base = x.loop.take P := ⟨_, rfl⟩
    rw [← hP] at hper
    have hP1 : 0 < P := hper.1
    have hP2 : P ≤ x.loop.length := hper.2.1
    have hbl : base.length = P := by rw [hbase, List.length_take]; omega
    have hpc : ∀ V, Kp w2 V → Calls Proofs.Try.prog 83 [.slice a2 x.loop.length c2].toArray V (Ret fun r w' => r = .int .i64 P ∧ Kp V w') := fun V hV => by
      rw [hP]
      exact period_c (letters_kp hv.loop (k12.trans hV) (Nat.le_refl _) (Nat.le_refl _)) (by omega)
    have hsz := k12.size
    have hclone : ∀ s, s ≤ x.stem.length → ∀ V, Kp w2 V → Calls Proofs.Try.prog 84 [.slice a1 s c1].toArray V (Ret fun r w' => Kp V w' ∧ ∃ y : Option Addr × Nat, r = .slice y.1 s y.2 ∧ Letters w2.heap.size w'.heap.size w' (.slice y.1 s y.2) (x.stem.take s)) := fun s hs' V hV => by
      have hrow := rowT (letters_kp hv.stem (k12.trans hV) (Nat.le_refl _) (Nat.le_refl _)) hs'
      have htl : (x.stem.take s).length = s := by rw [List.length_take]; omega
      have hc := cloneU_c (a := a1) (c := c1) (xs := x.stem.take s) (by rw [htl]; exact hrow) (by omega)
      rw [htl] at hc
      refine hc.mono fun en V' hr => ?_
      cases en with
      | returned v =>
        obtain ⟨k, hrow⟩ := hr
        obtain ⟨a3, c3, rfl, h1, h2⟩ := hrow
        have hrow : Letters V.heap.size V'.heap.size V' (.slice a3 (x.stem.take s).length c3) (x.stem.take s) := ⟨a3, c3, rfl, h1, h2⟩
        rw [htl] at hrow
        refine ⟨k, (a3, c3), by rw [htl], RowE.mono hrow (fun _ _ h => h) (by have := hV.size; omega) (Nat.le_refl _)⟩
      | _ => exact hr.elim
    have hconcat : ∀ t, t < P → ∀ V, Kp w2 V → ∀ q, V.heap[q]? = some (.cells #[.slice (if c2 = t then a2 else a2.map (·.add (t * 1))) (P - t) (c2 - t), .slice a2 t c2] 42 (0, 0)) → Calls Proofs.Try.prog 85 [.slice (some ⟨q, 0, none⟩) 2 2].toArray V (Ret fun r w' => Kp V w' ∧ ∃ y : Option Addr × Nat, r = .slice y.1 P y.2 ∧ Letters w2.heap.size w'.heap.size w' (.slice y.1 P y.2) (rotS base t)) := fun t ht V hV q hq => by
      have hB : Letters lo hi V (.slice a2 P c2) base := by rw [hbase]; exact rowT (letters_kp hv.loop (k12.trans hV) (Nat.le_refl _) (Nat.le_refl _)) hP2
      have hB' : Letters lo hi V (.slice a2 base.length c2) base := by rw [hbl]; exact hB
      have hd := rowD hB' (k := t) (by omega)
      have htk := rowT hB' (k := t) (by omega)
      rw [hbl] at hd
      have hrow : RowsU lo hi 0 V.heap.size V (.slice (some ⟨q, 0, none⟩) 2 2) [base.drop t, base.take t] := by
        refine ⟨_, _, rfl, Nat.le_refl _, fun i l hl => ?_⟩
        have hlq := lt_of_heap hq
        match i, hl with
        | 0, hl => obtain rfl : base.drop t = l := by simpa using hl
                   exact ⟨q, 0, rfl, Nat.zero_le _, hlq, [_], rfl, Own.at_ (xs := [.slice (if c2 = t then a2 else a2.map (·.add (t * 1))) (P - t) (c2 - t)]) (o := 0) (cs := [.slice (if c2 = t then a2 else a2.map (·.add (t * 1))) (P - t) (c2 - t), .slice a2 t c2]) hq rfl, _, rfl, hd⟩
        | 1, hl => obtain rfl : base.take t = l := by simpa using hl
                   exact ⟨q, 0, rfl, Nat.zero_le _, hlq, [_], rfl, Own.at_ (xs := [.slice a2 t c2]) (o := 1) (cs := [.slice (if c2 = t then a2 else a2.map (·.add (t * 1))) (P - t) (c2 - t), .slice a2 t c2]) hq rfl, _, rfl, htk⟩
        | i + 2, hl => simp at hl
      have hfl : [base.drop t, base.take t].flatten = rotS base t := by simp [rotS]
      have hrl : (rotS base t).length = P := by rw [rotS_len (by omega)]; exact hbl
      have hc := concatU_c hrow (by rw [hfl]; omega) (by simp)
      rw [hfl] at hc
      refine hc.mono fun en V' hr => ?_
      cases en with
      | returned v =>
        obtain ⟨k, hrow⟩ := hr
        obtain ⟨a3, c3, rfl, h1, h2⟩ := hrow
        have hrow : Letters V.heap.size V'.heap.size V' (.slice a3 (rotS base t).length c3) (rotS base t) := ⟨a3, c3, rfl, h1, h2⟩
        rw [hrl] at hrow
        refine ⟨k, (a3, c3), by rw [hrl], RowE.mono hrow (fun _ _ h => h) (by have := hV.size; omega) (Nat.le_refl _)⟩
      | _ => exact hr.elim
    have hb0 : base.length ≠ 0 := by omega
    have hBk := backS_le hb0 (stem := x.stem) x.stem.length 0 (by omega)
    have hnorm : normS x = ⟨x.stem.take (backS x.stem base x.stem.length 0).1, rotS base (backS x.stem base x.stem.length 0).2⟩ := by
      unfold normS; rw [if_neg h0, ← hP, ← hbase]
    obtain ⟨G, hG⟩ : ∃ G, G = backS x.stem base x.stem.length 0 := ⟨_, rfl⟩
    rw [← hG] at hnorm hBk
    have hfin : ∀ s t, s ≤ x.stem.length → t < P → G = (s, t) → ∀ V2 V3 v1 v2, Chg (fun k => k = b2) V2 V3 → Letters w2.heap.size V2.heap.size V2 v1 (x.stem.take s) → Letters w2.heap.size V2.heap.size V2 v2 (rotS base t) → WordV w.heap.size V3.heap.size V3 v1 v2 (normS x) := fun s t h1 h2 h3 V2 V3 v1 v2 h4 h5 h6 => by
      have hrl : (rotS base t).length = P := by rw [rotS_len (by omega)]; exact hbl
      rw [hnorm, h3]
      exact ⟨letters_low h5 h4 (fun j hj => by omega) hsz h4.size, letters_low h6 h4 (fun j hj => by omega) hsz h4.size, by show (x.stem.take s).length < _; rw [List.length_take]; omega, by show (rotS base t).length < _; omega⟩
    refine drawnK agree mixed 10 [4, 5, 6, 0, 1, 2, 3, 7, 8, 9] (by kernel_rfl) ?_
    conv => whnf
    refine ldk agree rfl rfl (fun V hV _ => Own.at_ (xs := [.slice a2 x.loop.length c2]) (o := 1) (hV.own m1 id) rfl) (by rfl) fun _ => ?_
    conv => whnf
    refine callk (v := .int .i64 P) rfl rfl rfl callPeriod (fun V hV _ => hpc V hV) fun _ => ?_
    conv => whnf
    refine ldk agree rfl rfl (fun V hV _ => Own.at_ (xs := [.slice a1 x.stem.length c1]) (o := 0) (hV.own m1 id) rfl) (by rfl) fun _ => ?_
    conv => whnf
    refine ldk agree rfl rfl (fun V hV _ => Own.at_ (xs := [.slice a2 x.loop.length c2]) (o := 1) (hV.own m1 id) rfl) (by rfl) fun _ => ?_
    conv => whnf
    refine ne ⟨by omega, by omega, by omega⟩ ?_
    conv => whnf
    intro V0 hV0 _
    refine loop agree (σ := Nat × Nat) (fun q => [(2, pt b2 0), (3, .slice a1 x.stem.length c1), (4, .slice a2 P c2), (5, .int .i64 q.1), (6, .int .i64 q.2)]) (fun q V => Kp w2 V ∧ q.1 ≤ x.stem.length ∧ q.2 < P ∧ G = backS x.stem base q.1 q.2) (fun q => q.1) (x.stem.length, 0)
      ⟨rfl, rfl, rfl, rfl, rfl, trivial⟩ ⟨hV0, Nat.le_refl _, by simp only; omega, hG⟩ ?_
    rintro ⟨s, t⟩ e0 V ⟨kV, hsl, htl, hGst⟩
    simp only at hsl htl hGst
    cases s with
    | zero =>
      refine drawn0 agree mixed 21 (by kernel_rfl) (fun _ => False) ?_
      conv => whnf
      refine spF (by simp only; omega) ?_
      conv => whnf
      intro V9 hV9 _
      replace kV := kV.trans hV9
      refine drawnK agree mixed 13 [0, 1, 2, 3, 4, 5, 6, 7, 8, 9, 10, 11, 12] (by kernel_rfl) ?_
      conv => whnf
      refine ne ⟨by omega, by omega, by omega⟩ ?_
      conv => whnf
      refine callf (fun q : Option Addr × Nat => .slice q.1 (0) q.2) (fun q V => Letters w2.heap.size V.heap.size V (.slice q.1 (0) q.2) (x.stem.take (0))) rfl rfl rfl (fun q V V' hr k => letters_kp hr k (Nat.le_refl _) k.size) callCloneU (fun V hV _ => (hclone (0) (by omega) V (kV.trans hV)).mono fun en V' hr => ?_) fun y1 D1 hD1 => ?_
      · cases en with
        | returned v => exact hr
        | _ => exact hr.elim
      conv => whnf
      refine ne ⟨by omega, by omega, by omega⟩ ?_
      conv => whnf
      refine ne ⟨by omega, by omega, by omega⟩ ?_
      conv => whnf
      refine bsk rfl rfl rfl rfl (by rfl) (by decide) fun q D2 hD2 => ?_
      conv => whnf
      refine callf (fun q : Option Addr × Nat => .slice q.1 P q.2) (fun q V => Letters w2.heap.size V.heap.size V (.slice q.1 P q.2) (rotS base t)) rfl rfl rfl (fun q V V' hr k => letters_kp hr k (Nat.le_refl _) k.size) callConcatU (fun V hV h2 => (hconcat t (by omega) V (kV.trans hV) q (hD2 V (h2 10 (by kernel_rfl))).1).mono fun en V' hr => ?_) fun y2 D3 hD3 => ?_
      · cases en with
        | returned v => exact hr
        | _ => exact hr.elim
      conv => whnf
      intro V2 hV2 hd
      have r1 := hD1 V2 (hd 3)
      have r2 := hD3 V2 (hd 11)
      obtain ⟨a3, c3⟩ := y1
      obtain ⟨a4, c4⟩ := y2
      have n2 : Own V2 b2 44 [nilS, nilS] := hV2.own (kV.own m2 id) id
      refine st agree n2 rfl (Nat.le_refl 2) rfl ?_
      intro V3 s5 k5 m5
      have m5 : Own V3 b2 44 [.slice a3 (0) c3, .slice a4 P c4] := m5
      refine ld agree (v := .agg #[.slice a3 (0) c3, .slice a4 P c4]) (Own.at_ (xs := [.slice a3 (0) c3, .slice a4 P c4]) (o := 0) m5 rfl) (by rfl) ?_
      have kall : Kp w1 V3 := (k2.trans (kV.trans hV2)).new e2 k5
      exact ⟨k1.trans kall, _, _, rfl, hfin (0) t (by omega) (by omega) hGst V2 V3 _ _ k5 r1 r2⟩
    | succ s =>
      have hsl' : s < x.stem.length := by omega
      have hT : (t + P - 1) % P < P := Nat.mod_lt _ hP1
      obtain ⟨T, hTe⟩ : ∃ T, T = (t + P - 1) % P := ⟨_, rfl⟩
      rw [← hTe] at hT
      have hexb : ∃ lc, x.loop[T]? = some lc := ⟨_, List.getElem?_eq_getElem (show T < x.loop.length by omega)⟩
      obtain ⟨lc, hgb⟩ := hexb
      have hexs : ∃ sc, x.stem[s]? = some sc := ⟨_, List.getElem?_eq_getElem hsl'⟩
      obtain ⟨sc, hgs⟩ := hexs
      have hgb2 : base[T]? = some lc := by rw [hbase, List.getElem?_take, if_pos hT, hgb]
      have hsc := backS_succ (stem := x.stem) (base := base) (s := s) (t := t)
      rw [hbl, ← hTe, List.getD_eq_getElem?_getD, hgs, List.getD_eq_getElem?_getD, hgb2] at hsc
      simp only [Option.getD_some] at hsc
      obtain ⟨sb, so, rfl, -, -, cs, -, hrd, rfl, -⟩ := hS s _ hgs
      obtain ⟨lb, lo', rfl, -, -, cs', -, hrd', rfl, -⟩ := hL T _ hgb
      refine drawn0 agree mixed 21 (by kernel_rfl) (fun _ => False) ?_
      conv => whnf
      refine spT (by omega) ?_
      conv => whnf
      refine arE (show _ = (s : Int) by rw [show (((s + 1 : Nat) : Int) - 1) = (s : Int) by omega]; exact wrap64 (by omega) (by omega)) ?_
      conv => whnf
      refine ne ⟨by omega, by omega⟩ ?_
      conv => whnf
      refine ldk (v := .int .u16 sc) agree rfl rfl (fun W hW _ => by rw [Int.toNat_natCast]; exact ((k12.trans kV).trans hW).range hrd id) (by rfl) fun _ => ?_
      conv => whnf
      refine arE (show _ = ((t + P : Nat) : Int) by rw [Int.natCast_add]; exact wrap64 (by omega) (by omega)) ?_
      conv => whnf
      refine arE (show _ = ((t + P - 1 : Nat) : Int) by rw [show (((t + P : Nat) : Int) - 1) = ((t + P - 1 : Nat) : Int) by omega]; exact wrap64 (by omega) (by omega)) ?_
      conv => whnf
      refine ne (by omega) ?_
      conv => whnf
      refine arE (show _ = (T : Int) by rw [hTe]; exact quoRem _ _ hP1) ?_
      conv => whnf
      refine ne ⟨by omega, by omega⟩ ?_
      conv => whnf
      refine ldk (v := .int .u16 lc) agree rfl rfl (fun W hW _ => by rw [Int.toNat_natCast]; exact ((k12.trans kV).trans hW).range hrd' id) (by rfl) fun _ => ?_
      conv => whnf
      by_cases he : sc = lc
      · rw [if_pos he] at hsc
        refine spT he ?_
        conv => whnf
        intro V9 hV9 _
        refine arE (show _ = (s : Int) by rw [show (((s + 1 : Nat) : Int) - 1) = (s : Int) by omega]; exact wrap64 (by omega) (by omega)) ?_
        refine arE (show _ = ((t + P : Nat) : Int) by rw [Int.natCast_add]; exact wrap64 (by omega) (by omega)) ?_
        refine arE (show _ = ((t + P - 1 : Nat) : Int) by rw [show (((t + P : Nat) : Int) - 1) = ((t + P - 1 : Nat) : Int) by omega]; exact wrap64 (by omega) (by omega)) ?_
        refine ne (by omega) ?_
        refine arE (show _ = (T : Int) by rw [hTe]; exact quoRem _ _ hP1) ?_
        exact again (s, T) ⟨rfl, rfl, rfl, rfl, rfl, trivial⟩ ⟨kV.trans hV9, by simp only; omega, hT, hGst.trans hsc⟩ (by simp only; omega)
      · rw [if_neg he] at hsc
        refine spF he ?_
        conv => whnf
        intro V9 hV9 _
        replace kV := kV.trans hV9
        refine drawnK agree mixed 13 [0, 1, 2, 3, 4, 5, 6, 7, 8, 9, 10, 11, 12] (by kernel_rfl) ?_
        conv => whnf
        refine ne ⟨by omega, by omega, by omega⟩ ?_
        conv => whnf
        refine callf (fun q : Option Addr × Nat => .slice q.1 (s + 1) q.2) (fun q V => Letters w2.heap.size V.heap.size V (.slice q.1 (s + 1) q.2) (x.stem.take (s + 1))) rfl rfl rfl (fun q V V' hr k => letters_kp hr k (Nat.le_refl _) k.size) callCloneU (fun V hV _ => (hclone (s + 1) (by omega) V (kV.trans hV)).mono fun en V' hr => ?_) fun y1 D1 hD1 => ?_
        · cases en with
          | returned v => exact hr
          | _ => exact hr.elim
        conv => whnf
        refine ne ⟨by omega, by omega, by omega⟩ ?_
        conv => whnf
        refine ne ⟨by omega, by omega, by omega⟩ ?_
        conv => whnf
        refine bsk rfl rfl rfl rfl (by rfl) (by decide) fun q D2 hD2 => ?_
        conv => whnf
        refine callf (fun q : Option Addr × Nat => .slice q.1 P q.2) (fun q V => Letters w2.heap.size V.heap.size V (.slice q.1 P q.2) (rotS base t)) rfl rfl rfl (fun q V V' hr k => letters_kp hr k (Nat.le_refl _) k.size) callConcatU (fun V hV h2 => (hconcat t (by omega) V (kV.trans hV) q (hD2 V (h2 10 (by kernel_rfl))).1).mono fun en V' hr => ?_) fun y2 D3 hD3 => ?_
        · cases en with
          | returned v => exact hr
          | _ => exact hr.elim
        conv => whnf
        intro V2 hV2 hd
        have r1 := hD1 V2 (hd 3)
        have r2 := hD3 V2 (hd 11)
        obtain ⟨a3, c3⟩ := y1
        obtain ⟨a4, c4⟩ := y2
        have n2 : Own V2 b2 44 [nilS, nilS] := hV2.own (kV.own m2 id) id
        refine st agree n2 rfl (Nat.le_refl 2) rfl ?_
        intro V3 s5 k5 m5
        have m5 : Own V3 b2 44 [.slice a3 (s + 1) c3, .slice a4 P c4] := m5
        refine ld agree (v := .agg #[.slice a3 (s + 1) c3, .slice a4 P c4]) (Own.at_ (xs := [.slice a3 (s + 1) c3, .slice a4 P c4]) (o := 0) m5 rfl) (by rfl) ?_
        have kall : Kp w1 V3 := (k2.trans (kV.trans hV2)).new e2 k5
        exact ⟨k1.trans kall, _, _, rfl, hfin (s + 1) t (by omega) (by omega) (hGst.trans hsc) V2 V3 _ _ k5 r1 r2⟩
end Go.Au

namespace Go.Au
open Go Go.RowKit

theorem OutV.buchi {base : Nat} {w : World} {vP vI vE vF : Value} {g : Buchi} (h : OutV base w vP vI vE vF g) (hw : ∀ e ∈ g.edges, e.wf) (hc : checkS g.general = true) (hel : g.edges.length < 4611686018427387904) : BuchiV 0 w.heap.size w vP vI vE vF g := by
  have hst : g.states ≤ 65536 := (Good.of hc).s1
  have hnl : ∀ {l : List Int}, l.Nodup → (∀ s ∈ l, 0 ≤ s ∧ s < g.states) → l.length ≤ 65536 := fun {l} hp hr => by
    have h1 := nodup_sub (l := l) (r := (List.range 65536).map fun (i : Nat) => (i : Int)) hp fun s hs' => by
      have := hr s hs'
      exact List.mem_map.2 ⟨s.toNat, by rw [List.mem_range]; omega, by omega⟩
    simpa using h1
  have hi : g.init.length ≤ 65536 := hnl (check_init hc).1 fun s hs => (Good.of hc).init s hs
  have hfn : g.final.Nodup := by
    have hc' := hc
    simp only [checkS, Bool.and_eq_true] at hc'
    exact (rising_lt (List.all_eq_true.1 hc'.2 g.final (by simp [Buchi.general]))).1.imp fun h => by omega
  have hf : g.final.length ≤ 65536 := hnl hfn fun s hs => (Good.of hc).sets g.final (by simp [Buchi.general]) s hs
  have hpl : g.props.length ≤ 8 := check_len hc
  have hrE : RowE (fun _ cs x => cs = Edge.cells x) 4 base w.heap.size w vE g.edges := ownsRow_row (f := Edge.cells) (fun _ => rfl) h.rE (by decide)
  exact ⟨RowE.mono (ownsRow_row (f := fS1) (fun _ => rfl) h.props (by decide)) (fun _ _ h => h) (Nat.zero_le _) (Nat.le_refl _), RowE.mono (ownsRow_row (f := fN1) (fun _ => rfl) h.rI (by decide)) (fun _ _ h => h) (Nat.zero_le _) (Nat.le_refl _),
    RowE.mono (hrE.and hw) (fun _ _ h => h) (Nat.zero_le _) (Nat.le_refl _), RowE.mono (ownsRow_row (f := fN1) (fun _ => rfl) h.rF (by decide)) (fun _ _ h => h) (Nat.zero_le _) (Nat.le_refl _), by omega, by omega, hel, by omega⟩

theorem callSameBuchi : callable Proofs.Try.prog 42 = true := by kernel_rfl
theorem sameBuchi_c {w : World} {lo hi lo2 hi2 : Nat} {p i e f p2 i2 e2 f2 : Value} {g : Buchi} (h : BuchiV lo hi w p i e f g) (h' : BuchiV lo2 hi2 w p2 i2 e2 f2 g) :
    Calls Proofs.Try.prog 42 [.agg #[p, .int .i64 g.states, i, e, f], .agg #[p2, .int .i64 g.states, i2, e2, f2]].toArray w (Ret fun r w' => r = .bool true ∧ Kp w w') := by
  obtain ⟨a1, c1, rfl, -⟩ := id h.props
  obtain ⟨a2, c2, rfl, -⟩ := id h.init
  obtain ⟨a3, c3, rfl, -⟩ := id h.edges
  obtain ⟨a4, c4, rfl, -⟩ := id h.final
  obtain ⟨b1, d1, rfl, -⟩ := id h'.props
  obtain ⟨b2, d2, rfl, -⟩ := id h'.init
  obtain ⟨b3, d3, rfl, -⟩ := id h'.edges
  obtain ⟨b4, d4, rfl, -⟩ := id h'.final
  refine call agree Proofs.Try.func42 rfl Proofs.Try.ntmps42 (by kernel_rfl) ?_
  refine nd fun q1 w1 e1 s1 k1 m1 => ?_
  have m1 : Own w1 q1 31 [.slice a1 g.props.length c1, .int .i64 g.states, .slice a2 g.init.length c2, .slice a3 g.edges.length c3, .slice a4 g.final.length c4] := m1
  refine nd fun q2 w2 e2 s2 k2 m2 => ?_
  have m2 : Own w2 q2 31 [.slice b1 g.props.length d1, .int .i64 g.states, .slice b2 g.init.length d2, .slice b3 g.edges.length d3, .slice b4 g.final.length d4] := m2
  have m1 := k2.own m1 id
  have K2 := k1.trans k2
  refine ld agree (Own.at_ (xs := [.slice a1 g.props.length c1]) (o := 0) m1 rfl) (by rfl) ?_
  refine ld agree (Own.at_ (xs := [.slice b1 g.props.length d1]) (o := 0) m2 rfl) (by rfl) ?_
  have hs := sameTexts_c (h.props.chg K2 (fun _ _ _ h => h) (fun _ _ h => h)) (h'.props.chg K2 (fun _ _ _ h => h) (fun _ _ h => h)) h.lp
  rw [decide_eq_true rfl] at hs
  refine cl callSameTexts hs ?_
  rintro _ w3 ⟨rfl, k3⟩
  have K3 := K2.trans k3
  have m1 := k3.own m1 id
  have m2 := k3.own m2 id
  refine ld agree (Own.at_ (xs := [.int .i64 g.states]) (o := 1) m1 rfl) (by rfl) ?_
  refine ld agree (Own.at_ (xs := [.int .i64 g.states]) (o := 1) m2 rfl) (by rfl) ?_
  refine spT rfl ?_
  refine ld agree (Own.at_ (xs := [.slice a2 g.init.length c2]) (o := 2) m1 rfl) (by rfl) ?_
  refine ld agree (Own.at_ (xs := [.slice b2 g.init.length d2]) (o := 2) m2 rfl) (by rfl) ?_
  have hs := sameInts_c (h.init.chg K3 (fun _ _ _ h => h) (fun _ _ h => h)) (h'.init.chg K3 (fun _ _ _ h => h) (fun _ _ h => h)) h.li
  rw [decide_eq_true rfl] at hs
  refine cl callSameInts hs ?_
  rintro _ w4 ⟨rfl, k4⟩
  have K4 := K3.trans k4
  have m1 := k4.own m1 id
  have m2 := k4.own m2 id
  refine ld agree (Own.at_ (xs := [.slice a3 g.edges.length c3]) (o := 3) m1 rfl) (by rfl) ?_
  refine ld agree (Own.at_ (xs := [.slice b3 g.edges.length d3]) (o := 3) m2 rfl) (by rfl) ?_
  have hs := sameEdges_c (RowE.mono (h.edges.chg K4 (fun _ _ _ h => h) (fun _ _ h => h)) (fun _ _ h => h.1) (Nat.le_refl _) (Nat.le_refl _)) (RowE.mono (h'.edges.chg K4 (fun _ _ _ h => h) (fun _ _ h => h)) (fun _ _ h => h.1) (Nat.le_refl _) (Nat.le_refl _)) h.le
  rw [decide_eq_true rfl] at hs
  refine cl callSameEdges hs ?_
  rintro _ w5 ⟨rfl, k5⟩
  have K5 := K4.trans k5
  have m1 := k5.own m1 id
  have m2 := k5.own m2 id
  refine ld agree (Own.at_ (xs := [.slice a4 g.final.length c4]) (o := 4) m1 rfl) (by rfl) ?_
  refine ld agree (Own.at_ (xs := [.slice b4 g.final.length d4]) (o := 4) m2 rfl) (by rfl) ?_
  have hs := sameInts_c (h.final.chg K5 (fun _ _ _ h => h) (fun _ _ h => h)) (h'.final.chg K5 (fun _ _ _ h => h) (fun _ _ h => h)) h.lf
  rw [decide_eq_true rfl] at hs
  refine cl callSameInts hs ?_
  rintro _ w6 ⟨rfl, k6⟩
  exact ⟨rfl, K5.trans k6⟩
end Go.Au

namespace Go.Au
open Go Go.RowKit

theorem accS_cases (g : General) (x : Word) : (∃ e, accS g x = (false, e) ∧ ¬ e = 0) ∨ (checkS g = true ∧ wordOk x g.props.length = true ∧ accS g x = (acceptsS g x, 0)) := by
  unfold accS
  by_cases hc : checkS g = true
  · rw [if_pos hc]
    by_cases hw : wordOk x g.props.length = true
    · rw [if_pos hw]; exact .inr ⟨hc, hw, rfl⟩
    · rw [if_neg hw]; exact .inl ⟨101, rfl, by decide⟩
  · rw [if_neg hc]; exact .inl ⟨100, rfl, by decide⟩
theorem norm_ok {x : Word} {n : Nat} (h : wordOk x n = true) : wordOk (normS x) n = true := by
  have hl := normS_ok (wordOk_loop h)
  unfold wordOk at h ⊢
  simp only [Bool.and_eq_true, Bool.not_eq_true', decide_eq_false_iff_not, List.any_eq_false, decide_eq_true_eq] at h ⊢
  exact ⟨⟨hl.1, fun c hc => h.1.2 c (hl.2.2.1 c hc)⟩, fun c hc => h.2 c (hl.2.2.2.1 c hc)⟩
theorem norm_acc {g : General} {x : Word} (hc : checkS g = true) (hw : wordOk x g.props.length = true) : accS g (normS x) = (acceptsS g x, 0) := by
  have hl := normS_ok (wordOk_loop hw)
  unfold accS
  rw [if_pos hc, if_pos (norm_ok hw)]
  refine Prod.ext (accS_eq hl.1 (wordOk_loop hw) ?_) rfl
  rw [show (normS x).at = x.at from funext hl.2.1]
theorem deg_accS {g : General} {x : Word} (hc : checkS g = true) (hw : wordOk x g.props.length = true) (hN : g.states.toNat * max g.sets.length 1 ≤ 65536) : accS (degG g).general x = (acceptsS g x, 0) := by
  unfold accS
  rw [if_pos (degG_check hc hN), if_pos (show wordOk x (degG g).general.props.length = true from hw)]
  exact Prod.ext (accS_eq (wordOk_loop hw) (wordOk_loop hw) (degG_acc hc)) rfl
theorem both_accS {a b : Buchi} {x : Word} (hA : checkS a.general = true) (hB : checkS b.general = true) (hp : a.props = b.props) (hwa : ∀ e ∈ a.edges, e.wf) (hwb : ∀ e ∈ b.edges, e.wf) (hw : wordOk x a.props.length = true) (hN : a.states.toNat * b.states.toNat * 2 ≤ 65536) : accS (bothG a b).general x = (acceptsS a.general x && acceptsS b.general x, 0) := by
  unfold accS
  rw [if_pos (bothG_check hA hB hp hwa hwb hN), if_pos (show wordOk x (bothG a b).general.props.length = true from hw)]
  exact Prod.ext (accS_and (wordOk_loop hw) (bothG_acc hA hB hwa hwb)) rfl

set_option maxHeartbeats 4000000 in
theorem lawSame_c {w : World} {pv iv ev sv pv' iv' ev' fv' stv lov : Value} {g : General} {b : Buchi} {x : Word} (hg : Gin 0 w.heap.size w pv iv ev sv g) (hb : Bin 0 w.heap.size w pv' iv' ev' fv' b) (hX : Win 0 w.heap.size w stv lov x) :
    Calls Proofs.Try.prog 8 [.agg #[pv, .int .i64 g.states, iv, ev, sv], .agg #[pv', .int .i64 b.states, iv', ev', fv'], .agg #[stv, lov]].toArray w (Ret fun r w' => r = .bool true ∧ Kp w w') := by
  have hGV : GenV 0 w.heap.size w pv iv ev sv g := hg.gen
  have hBV : BuchiV 0 w.heap.size w pv' iv' ev' fv' b := hb.gen
  have hWv : WordV 0 w.heap.size w stv lov x := ⟨hX.stem, hX.loop, by have := hX.ls; omega, by have := hX.ll; omega⟩
  have hgw := hg.wf
  have hbw := hb.wf
  have hxls := hX.ls
  have hxll := hX.ll
  have hobt_ := id hGV.props
  obtain ⟨a1, c1, rfl, -⟩ := hobt_
  have hobt_ := id hGV.init
  obtain ⟨a2, c2, rfl, -⟩ := hobt_
  have hobt_ := id hGV.edges
  obtain ⟨a3, c3, rfl, -⟩ := hobt_
  have hobt_ := id hGV.sets
  obtain ⟨a4, c4, rfl, -⟩ := hobt_
  have hobt_ := id hBV.props
  obtain ⟨b1, d1, rfl, -⟩ := hobt_
  have hobt_ := id hBV.init
  obtain ⟨b2, d2, rfl, -⟩ := hobt_
  have hobt_ := id hBV.edges
  obtain ⟨b3, d3, rfl, -⟩ := hobt_
  have hobt_ := id hBV.final
  obtain ⟨b4, d4, rfl, -⟩ := hobt_
  have hobt_ := id hWv.stem
  obtain ⟨s1, t1, rfl, -⟩ := hobt_
  have hobt_ := id hWv.loop
  obtain ⟨s2, t2, rfl, -⟩ := hobt_
  clear hg hb
  refine call agree Proofs.Try.func8 rfl Proofs.Try.ntmps8 (by kernel_rfl) ?_
  refine nd fun qg w1 e1 z1 k1 mg => ?_
  have mg : Own w1 qg 28 [.slice a1 g.props.length c1, .int .i64 g.states, .slice a2 g.init.length c2, .slice a3 g.edges.length c3, .slice a4 g.sets.length c4] := mg
  refine nd fun qb w2 e2 z2 k2 mb => ?_
  have mb : Own w2 qb 31 [.slice b1 b.props.length d1, .int .i64 b.states, .slice b2 b.init.length d2, .slice b3 b.edges.length d3, .slice b4 b.final.length d4] := mb
  refine nd fun qx w3 e3 z3 k3 mx => ?_
  have mx : Own w3 qx 44 [.slice s1 x.stem.length t1, .slice s2 x.loop.length t2] := mx
  have mg := (k2.trans k3).own mg id
  have mb := k3.own mb id
  have K3 := k1.trans (k2.trans k3)
  refine drawnK agree mixed 11 [0, 1, 2, 3, 4, 5, 6, 7, 8, 9, 10] (by kernel_rfl) ?_
  conv => whnf
  refine ldk (v := .agg #[.slice a1 g.props.length c1, .int .i64 g.states, .slice a2 g.init.length c2, .slice a3 g.edges.length c3, .slice a4 g.sets.length c4]) agree rfl rfl (fun W h _ => Own.at_ (xs := [.slice a1 g.props.length c1, .int .i64 g.states, .slice a2 g.init.length c2, .slice a3 g.edges.length c3, .slice a4 g.sets.length c4]) (o := 0) (h.own mg id) rfl) (by rfl) fun _ => ?_
  conv => whnf
  refine ldk (v := .agg #[.slice s1 x.stem.length t1, .slice s2 x.loop.length t2]) agree rfl rfl (fun W h _ => Own.at_ (xs := [.slice s1 x.stem.length t1, .slice s2 x.loop.length t2]) (o := 0) (h.own mx id) rfl) (by rfl) fun _ => ?_
  conv => whnf
  refine callf (fun b : Bool => .bool b) (fun b _ => b = true → Few g x) rfl rfl rfl (fun b W W' h k => h) callFew (fun W h _ => (few_c W (.slice a1 g.props.length c1) (.slice a2 g.init.length c2) a3 a4 s1 s2 c3 c4 t1 t2 g x hxls hxll).mono fun en W' hr => ?_) fun f1 D1 hD1 => ?_
  · cases en with
    | returned v => exact hr
    | _ => exact hr.elim
  cases f1 with
  | false =>
    conv => whnf
    intro W3 k3' _
    exact ⟨rfl, K3.trans k3'⟩
  | true =>
  conv => whnf
  refine ldk (v := .agg #[.slice b1 b.props.length d1, .int .i64 b.states, .slice b2 b.init.length d2, .slice b3 b.edges.length d3, .slice b4 b.final.length d4]) agree rfl rfl (fun W h _ => Own.at_ (xs := [.slice b1 b.props.length d1, .int .i64 b.states, .slice b2 b.init.length d2, .slice b3 b.edges.length d3, .slice b4 b.final.length d4]) (o := 0) (h.own mb id) rfl) (by rfl) fun _ => ?_
  conv => whnf
  refine callf (fun q : Nat => .agg #[.slice b1 b.props.length d1, .int .i64 b.states, .slice b2 b.init.length d2, .slice b3 b.edges.length d3, .slice (some ⟨q, 0, none⟩) 1 1]) (fun q W => True) rfl rfl rfl (fun q W W' h k => trivial) callRGeneral (fun W h _ => (rgeneral_c W b1 b2 b3 b4 _ d1 _ d2 _ d3 _ d4 b.states).mono fun en W' hr => ?_) fun q D hD => ?_
  · cases en with
    | returned v =>
      obtain ⟨k, q, h1, h2, h3, h4⟩ := hr
      exact ⟨k, q, h4, trivial⟩
    | _ => exact hr.elim
  conv => whnf
  refine ldk (v := .agg #[.slice s1 x.stem.length t1, .slice s2 x.loop.length t2]) agree rfl rfl (fun W h _ => Own.at_ (xs := [.slice s1 x.stem.length t1, .slice s2 x.loop.length t2]) (o := 0) (h.own mx id) rfl) (by rfl) fun _ => ?_
  conv => whnf
  refine callf (fun b : Bool => .bool b) (fun b' _ => b' = true → Few b.general x) rfl rfl rfl (fun b W W' h k => h) callFew (fun W h _ => (few_c W (.slice b1 b.props.length d1) (.slice b2 b.init.length d2) b3 (some ⟨q, 0, none⟩) s1 s2 d3 1 t1 t2 b.general x hxls hxll).mono fun en W' hr => ?_) fun f2 D2 hD2 => ?_
  · cases en with
    | returned v => exact hr
    | _ => exact hr.elim
  cases f2 with
  | false =>
    conv => whnf
    intro W3 k3' _
    exact ⟨rfl, K3.trans k3'⟩
  | true =>
  conv => whnf
  intro w4 k4 hd4
  have hF : Few g x := hD1 w4 (hd4 2) rfl
  have hFb : Few b.general x := hD2 w4 (hd4 8) rfl
  clear hd4 hD1 hD2 hD D1 D2 D
  have K4 := K3.trans k4
  have mg := k4.own mg id
  have mb := k4.own mb id
  have mx := k4.own mx id
  have hpl : x.places ≤ 30 := by unfold Word.places; have := hF.pl; split <;> omega
  have hxp := hF.pl
  have hst := hF.st
  have hed := hF.ed
  have hse := hF.se
  have hbs : b.states ≤ 60 := hFb.st
  have hbe : b.edges.length ≤ 300 := hFb.ed
  have hN : g.states.toNat * max g.sets.length 1 ≤ 60 * 6 := Nat.mul_le_mul (by omega) (by omega)
  have hkn := known_c w4
  refine cl callKnown hkn ?_
  rintro _ w5 ⟨rfl, k5⟩
  have K5 := K4.trans k5
  have mg := k5.own mg id
  have mb := k5.own mb id
  have mx := k5.own mx id
  refine ld agree (v := .agg #[.slice a1 g.props.length c1, .int .i64 g.states, .slice a2 g.init.length c2, .slice a3 g.edges.length c3, .slice a4 g.sets.length c4]) (Own.at_ (xs := [.slice a1 g.props.length c1, .int .i64 g.states, .slice a2 g.init.length c2, .slice a3 g.edges.length c3, .slice a4 g.sets.length c4]) (o := 0) mg rfl) (by rfl) ?_
  refine ld agree (v := .agg #[.slice s1 x.stem.length t1, .slice s2 x.loop.length t2]) (Own.at_ (xs := [.slice s1 x.stem.length t1, .slice s2 x.loop.length t2]) (o := 0) mx rfl) (by rfl) ?_
  have hacc := acceptsG_c (hGV.chg K5 (Nat.le_refl _) K5.size) (hWv.chg K5 (Nat.le_refl _) K5.size) (by omega) (by omega)
  rcases accS_cases g x with ⟨er, her, hne⟩ | ⟨hck, hwk, hok⟩
  · rewrite [her] at hacc
    refine cl callAcceptsG hacc ?_
    rintro _ w6 ⟨rfl, k6⟩
    refine spT hne ?_
    exact ⟨rfl, K5.trans k6⟩
  rewrite [hok] at hacc
  have hexb : ∃ yes, yes = acceptsS g x := ⟨_, rfl⟩
  obtain ⟨yes, hyes⟩ := hexb
  rewrite [← hyes] at hacc
  refine cl callAcceptsG hacc ?_
  rintro _ w6 ⟨rfl, k6⟩
  refine spF (fun h => h rfl) ?_
  have K6 := K5.trans k6
  have mg := k6.own mg id
  have mb := k6.own mb id
  have mx := k6.own mx id
  -- Degen
  refine ld agree (v := .agg #[.slice a1 g.props.length c1, .int .i64 g.states, .slice a2 g.init.length c2, .slice a3 g.edges.length c3, .slice a4 g.sets.length c4]) (Own.at_ (xs := [.slice a1 g.props.length c1, .int .i64 g.states, .slice a2 g.init.length c2, .slice a3 g.edges.length c3, .slice a4 g.sets.length c4]) (o := 0) mg rfl) (by rfl) ?_
  have hobt_ : ∃ d, d = degG g := ⟨_, rfl⟩
  obtain ⟨d, hd⟩ := hobt_
  have hdc : checkS d.general = true := by rw [hd]; exact degG_check hck (by omega)
  have hdw : ∀ e ∈ d.edges, e.wf := by rw [hd]; exact degG_wf hck hgw
  have hde : d.edges.length ≤ 360 * 300 := by rw [hd]; exact Nat.le_trans degG_len (Nat.mul_le_mul hN hed)
  have hds : 0 ≤ d.states ∧ d.states ≤ 360 := by
    have h1 := degG_states hck
    rw [hd]
    exact ⟨h1.1, Int.le_trans h1.2 (by exact_mod_cast hN)⟩
  have hdt : trimG d = d := by rw [hd]; exact degG_trim hck
  have hdp : d.props = g.props := by rw [hd]; rfl
  have hda : accS d.general x = (yes, 0) := by rw [hd, hyes]; exact deg_accS hck hwk (by omega)
  have hgp : g.props.length ≤ 8 := check_len hck
  have hdp8 : d.props.length ≤ 8 := by rw [hdp]; exact hgp
  have hcall := degen_c (hGV.chg K6 (Nat.le_refl _) K6.size) (by omega) (by omega) (by omega) (by omega)
  rewrite [← hd] at hcall
  refine cl callDegen hcall ?_
  rintro r7 w7 ⟨k7, hr7⟩
  rcases hr7 with ⟨hno, -⟩ | ⟨-, y, rfl, hY⟩
  · rewrite [hck] at hno; cases hno
  refine nd fun qd w8' e8 z8' k8' md => ?_
  refine st agree md rfl (Nat.le_refl 5) rfl ?_
  intro w8 z8 k8 md
  have md : Own w8 qd 31 [.slice y.1.1 d.props.length y.1.2, .int .i64 d.states, .slice y.2.1.1 d.init.length y.2.1.2, .slice y.2.2.1.1 d.edges.length y.2.2.1.2, .slice y.2.2.2.1 d.final.length y.2.2.2.2] := md
  have k78 : Kp w7 w8 := k8'.new e8 k8
  have hDV : BuchiV 0 w8.heap.size w8 (.slice y.1.1 d.props.length y.1.2) (.slice y.2.1.1 d.init.length y.2.1.2) (.slice y.2.2.1.1 d.edges.length y.2.2.1.2) (.slice y.2.2.2.1 d.final.length y.2.2.2.2) d := (hY.buchi hdw hdc (by omega)).chg k78 (Nat.le_refl _) k78.size
  have k68 := k7.trans k78
  have K8 := K6.trans k68
  have mg := k68.own mg id
  have mb := k68.own mb id
  have mx := k68.own mx id
  -- its answer
  refine ld agree (v := agB d y) (Own.at_ (xs := [.slice y.1.1 d.props.length y.1.2, .int .i64 d.states, .slice y.2.1.1 d.init.length y.2.1.2, .slice y.2.2.1.1 d.edges.length y.2.2.1.2, .slice y.2.2.2.1 d.final.length y.2.2.2.2]) (o := 0) md rfl) (by rfl) ?_
  refine ld agree (v := .agg #[.slice s1 x.stem.length t1, .slice s2 x.loop.length t2]) (Own.at_ (xs := [.slice s1 x.stem.length t1, .slice s2 x.loop.length t2]) (o := 0) mx rfl) (by rfl) ?_
  have hcall := acceptsB_c hDV (hWv.chg K8 (Nat.le_refl _) K8.size) (by omega) (by omega)
  rewrite [hda] at hcall
  refine cl callAcceptsB hcall ?_
  rintro _ w9 ⟨rfl, k9⟩
  have K9 := K8.trans k9
  have mg := k9.own mg id
  have mb := k9.own mb id
  have mx := k9.own mx id
  have md := k9.own md id
  -- of the normal form
  have hnorm : ∀ V, Kp w9 V → Calls Proofs.Try.prog 40 [.agg #[.slice s1 x.stem.length t1, .slice s2 x.loop.length t2]].toArray V (Ret fun r w' => Kp V w' ∧ ∃ z : Value × Value, r = .agg #[z.1, z.2] ∧ WordV 0 w'.heap.size w' z.1 z.2 (normS x)) := fun V hV => by
    have kV := K9.trans hV
    refine (normal_c (hWv.chg kV (Nat.le_refl _) kV.size) (by omega) (by omega) (Nat.le_refl _)).mono fun en w' hr => ?_
    cases en with
    | returned v =>
      obtain ⟨k, z1, z2, e, h⟩ := hr
      exact ⟨k, (z1, z2), e, h.chg (Chg.refl _ _) (Nat.zero_le _) (Nat.le_refl _)⟩
    | _ => exact hr.elim
  have hnl := normS_ok (wordOk_loop hwk)
  have hnpl : (normS x).places < 1048576 := by
    have h1 := hnl.2.2.2.2.1
    have h2 := hnl.2.2.2.2.2
    unfold Word.places
    split <;> omega
  have hna : accS g (normS x) = (yes, 0) := by rw [hyes]; exact norm_acc hck hwk
  have hacn : ∀ V, Kp w9 V → ∀ z : Value × Value, WordV 0 V.heap.size V z.1 z.2 (normS x) → Calls Proofs.Try.prog 23 [.agg #[.slice a1 g.props.length c1, .int .i64 g.states, .slice a2 g.init.length c2, .slice a3 g.edges.length c3, .slice a4 g.sets.length c4], .agg #[z.1, z.2]].toArray V (Ret fun r w' => r = .tuple #[.bool yes, .int .i64 0] ∧ Kp V w') := fun V hV z hz => by
    have kV := K9.trans hV
    have := acceptsG_c (hGV.chg kV (Nat.le_refl _) kV.size) hz (by omega) hnpl
    rwa [hna] at this
  refine drawnK agree mixed 9 [1, 2, 0, 3, 4, 5, 6, 7, 8] (by kernel_rfl) ?_
  conv => whnf
  refine ldk (v := .agg #[.slice s1 x.stem.length t1, .slice s2 x.loop.length t2]) agree rfl rfl (fun W h _ => Own.at_ (xs := [.slice s1 x.stem.length t1, .slice s2 x.loop.length t2]) (o := 0) (h.own mx id) rfl) (by rfl) fun _ => ?_
  conv => whnf
  refine callf (fun z : Value × Value => .agg #[z.1, z.2]) (fun z W => WordV 0 W.heap.size W z.1 z.2 (normS x)) rfl rfl rfl (fun z W W' h k => h.chg k (Nat.le_refl _) k.size) callNormal (fun W h _ => (hnorm W h).mono fun en W' hr => ?_) fun z D hD => ?_
  · cases en with
    | returned v => exact hr
    | _ => exact hr.elim
  conv => whnf
  refine ldk (v := .agg #[.slice a1 g.props.length c1, .int .i64 g.states, .slice a2 g.init.length c2, .slice a3 g.edges.length c3, .slice a4 g.sets.length c4]) agree rfl rfl (fun W h _ => Own.at_ (xs := [.slice a1 g.props.length c1, .int .i64 g.states, .slice a2 g.init.length c2, .slice a3 g.edges.length c3, .slice a4 g.sets.length c4]) (o := 0) (h.own mg id) rfl) (by rfl) fun _ => ?_
  conv => whnf
  refine callk (v := .tuple #[.bool yes, .int .i64 0]) rfl rfl rfl callAcceptsG (fun V hV h2 => hacn V hV z (hD V (h2 2 (by kernel_rfl)))) fun _ => ?_
  conv => whnf
  intro w10 k10 hd10
  clear hd10 hD D
  have K10 := K9.trans k10
  have mg := k10.own mg id
  have mb := k10.own mb id
  have mx := k10.own mx id
  have md := k10.own md id
  have hDV := hDV.chg (k9.trans k10) (Nat.le_refl _) (k9.trans k10).size
  refine spF (fun h => h rfl) ?_
  refine spF (fun h => h rfl) ?_
  refine spF (fun h => h rfl) ?_
  refine spF (fun h => h rfl) ?_
  refine spF (fun h => h rfl) ?_
  refine ld agree (v := agB d y) (Own.at_ (xs := [.slice y.1.1 d.props.length y.1.2, .int .i64 d.states, .slice y.2.1.1 d.init.length y.2.1.2, .slice y.2.2.1.1 d.edges.length y.2.2.1.2, .slice y.2.2.2.1 d.final.length y.2.2.2.2]) (o := 0) md rfl) (by rfl) ?_
  have hcall := checkB_c hDV
  rewrite [hdc] at hcall
  refine cl callCheck hcall ?_
  rintro _ w11 ⟨rfl, k11⟩
  refine spF (fun h => h rfl) ?_
  have K11 := K10.trans k11
  have mg := k11.own mg id
  have mb := k11.own mb id
  have mx := k11.own mx id
  have md := k11.own md id
  have hDV := hDV.chg k11 (Nat.le_refl _) k11.size
  -- Trim
  refine ld agree (v := agB d y) (Own.at_ (xs := [.slice y.1.1 d.props.length y.1.2, .int .i64 d.states, .slice y.2.1.1 d.init.length y.2.1.2, .slice y.2.2.1.1 d.edges.length y.2.2.1.2, .slice y.2.2.2.1 d.final.length y.2.2.2.2]) (o := 0) md rfl) (by rfl) ?_
  have htrim : ∀ {W : World} {y : AC4}, BuchiV 0 W.heap.size W (.slice y.1.1 d.props.length y.1.2) (.slice y.2.1.1 d.init.length y.2.1.2) (.slice y.2.2.1.1 d.edges.length y.2.2.1.2) (.slice y.2.2.2.1 d.final.length y.2.2.2.2) d → Calls Proofs.Try.prog 41 [agB d y].toArray W (Ret fun r w' => Kp W w' ∧ ∃ z, r = .tuple #[agB d z, .int .i64 0] ∧ BuchiV 0 w'.heap.size w' (.slice z.1.1 d.props.length z.1.2) (.slice z.2.1.1 d.init.length z.2.1.2) (.slice z.2.2.1.1 d.edges.length z.2.2.1.2) (.slice z.2.2.2.1 d.final.length z.2.2.2.2) d) := fun {W y} h => by
    refine (trim_c h (by omega) (by omega) (by omega)).mono fun en w' hr => ?_
    cases en with
    | returned v =>
      obtain ⟨k, ⟨hno, -⟩ | ⟨-, z, e, hz⟩⟩ := hr
      · rewrite [hdc] at hno; cases hno
      · rewrite [hdt] at e hz
        exact ⟨k, z, e, hz.buchi hdw hdc (by omega)⟩
    | _ => exact hr.elim
  refine cl callTrim (htrim hDV) ?_
  rintro _ w12 ⟨k12, y2, rfl, hTV⟩
  refine nd fun qt w13' e13 z13' k13' mt => ?_
  refine st agree mt rfl (Nat.le_refl 5) rfl ?_
  intro w13 z13 k13 mt
  have mt : Own w13 qt 31 [.slice y2.1.1 d.props.length y2.1.2, .int .i64 d.states, .slice y2.2.1.1 d.init.length y2.2.1.2, .slice y2.2.2.1.1 d.edges.length y2.2.2.1.2, .slice y2.2.2.2.1 d.final.length y2.2.2.2.2] := mt
  have kk := k13'.new e13 k13
  have k1113 := k12.trans kk
  have K13 := K11.trans k1113
  have hTV := hTV.chg kk (Nat.le_refl _) kk.size
  have hDV := hDV.chg k1113 (Nat.le_refl _) k1113.size
  have mg := k1113.own mg id
  have mb := k1113.own mb id
  have mx := k1113.own mx id
  have md := k1113.own md id
  refine ld agree (v := agB d y2) (Own.at_ (xs := [.slice y2.1.1 d.props.length y2.1.2, .int .i64 d.states, .slice y2.2.1.1 d.init.length y2.2.1.2, .slice y2.2.2.1.1 d.edges.length y2.2.2.1.2, .slice y2.2.2.2.1 d.final.length y2.2.2.2.2]) (o := 0) mt rfl) (by rfl) ?_
  refine cl callTrim (htrim hTV) ?_
  rintro _ w14 ⟨k14, y3, rfl, hUV⟩
  refine nd fun qu w15' e15 z15' k15' mu => ?_
  refine st agree mu rfl (Nat.le_refl 5) rfl ?_
  intro w15 z15 k15 mu
  have mu : Own w15 qu 31 [.slice y3.1.1 d.props.length y3.1.2, .int .i64 d.states, .slice y3.2.1.1 d.init.length y3.2.1.2, .slice y3.2.2.1.1 d.edges.length y3.2.2.1.2, .slice y3.2.2.2.1 d.final.length y3.2.2.2.2] := mu
  have kk2 := k15'.new e15 k15
  have k1315 := k14.trans kk2
  have K15 := K13.trans k1315
  have hUV := hUV.chg kk2 (Nat.le_refl _) kk2.size
  have hDV := hDV.chg k1315 (Nat.le_refl _) k1315.size
  have hTV := hTV.chg k1315 (Nat.le_refl _) k1315.size
  have mg := k1315.own mg id
  have mb := k1315.own mb id
  have mx := k1315.own mx id
  have md := k1315.own md id
  have mt := k1315.own mt id
  refine ld agree (v := agB d y2) (Own.at_ (xs := [.slice y2.1.1 d.props.length y2.1.2, .int .i64 d.states, .slice y2.2.1.1 d.init.length y2.2.1.2, .slice y2.2.2.1.1 d.edges.length y2.2.2.1.2, .slice y2.2.2.2.1 d.final.length y2.2.2.2.2]) (o := 0) mt rfl) (by rfl) ?_
  refine ld agree (v := .agg #[.slice s1 x.stem.length t1, .slice s2 x.loop.length t2]) (Own.at_ (xs := [.slice s1 x.stem.length t1, .slice s2 x.loop.length t2]) (o := 0) mx rfl) (by rfl) ?_
  have hcall := acceptsB_c hTV (hWv.chg K15 (Nat.le_refl _) K15.size) (by omega) (by omega)
  rewrite [hda] at hcall
  refine cl callAcceptsB hcall ?_
  rintro _ w16 ⟨rfl, k16⟩
  have K16 := K15.trans k16
  have mg := k16.own mg id
  have mb := k16.own mb id
  have mx := k16.own mx id
  have md := k16.own md id
  have mt := k16.own mt id
  have mu := k16.own mu id
  have hDV := hDV.chg k16 (Nat.le_refl _) k16.size
  have hTV := hTV.chg k16 (Nat.le_refl _) k16.size
  have hUV := hUV.chg k16 (Nat.le_refl _) k16.size
  refine spF (fun h => h rfl) ?_
  refine spF (fun h => h rfl) ?_
  refine spF (fun h => h rfl) ?_
  refine spF (fun h => h rfl) ?_
  refine ld agree (v := agB d y2) (Own.at_ (xs := [.slice y2.1.1 d.props.length y2.1.2, .int .i64 d.states, .slice y2.2.1.1 d.init.length y2.2.1.2, .slice y2.2.2.1.1 d.edges.length y2.2.2.1.2, .slice y2.2.2.2.1 d.final.length y2.2.2.2.2]) (o := 0) mt rfl) (by rfl) ?_
  refine ld agree (v := agB d y3) (Own.at_ (xs := [.slice y3.1.1 d.props.length y3.1.2, .int .i64 d.states, .slice y3.2.1.1 d.init.length y3.2.1.2, .slice y3.2.2.1.1 d.edges.length y3.2.2.1.2, .slice y3.2.2.2.1 d.final.length y3.2.2.2.2]) (o := 0) mu rfl) (by rfl) ?_
  refine cl callSameBuchi (sameBuchi_c hTV hUV) ?_
  rintro _ w17 ⟨rfl, k17⟩
  have mt := k17.own mt id
  have md := k17.own md id
  refine ld agree (v := agB d y2) (Own.at_ (xs := [.slice y2.1.1 d.props.length y2.1.2, .int .i64 d.states, .slice y2.2.1.1 d.init.length y2.2.1.2, .slice y2.2.2.1.1 d.edges.length y2.2.2.1.2, .slice y2.2.2.2.1 d.final.length y2.2.2.2.2]) (o := 0) mt rfl) (by rfl) ?_
  refine ld agree (v := agB d y) (Own.at_ (xs := [.slice y.1.1 d.props.length y.1.2, .int .i64 d.states, .slice y.2.1.1 d.init.length y.2.1.2, .slice y.2.2.1.1 d.edges.length y.2.2.1.2, .slice y.2.2.2.1 d.final.length y.2.2.2.2]) (o := 0) md rfl) (by rfl) ?_
  refine cl callSameBuchi (sameBuchi_c (hTV.chg k17 (Nat.le_refl _) k17.size) (hDV.chg k17 (Nat.le_refl _) k17.size)) ?_
  rintro _ w18 ⟨rfl, k18⟩
  have k1618 := k17.trans k18
  have K18 := K16.trans k1618
  have mg := k1618.own mg id
  have mb := k1618.own mb id
  have mx := k1618.own mx id
  have md := k18.own md id
  have hDV := hDV.chg k1618 (Nat.le_refl _) k1618.size
  -- the other one
  refine ld agree (v := .agg #[.slice b1 b.props.length d1, .int .i64 b.states, .slice b2 b.init.length d2, .slice b3 b.edges.length d3, .slice b4 b.final.length d4]) (Own.at_ (xs := [.slice b1 b.props.length d1, .int .i64 b.states, .slice b2 b.init.length d2, .slice b3 b.edges.length d3, .slice b4 b.final.length d4]) (o := 0) mb rfl) (by rfl) ?_
  refine ld agree (v := .agg #[.slice s1 x.stem.length t1, .slice s2 x.loop.length t2]) (Own.at_ (xs := [.slice s1 x.stem.length t1, .slice s2 x.loop.length t2]) (o := 0) mx rfl) (by rfl) ?_
  have hcall := acceptsB_c (hBV.chg K18 (Nat.le_refl _) K18.size) (hWv.chg K18 (Nat.le_refl _) K18.size) (by omega) (by omega)
  have hobt_ : ∃ oth e2, accS b.general x = (oth, e2) := ⟨_, _, rfl⟩
  obtain ⟨oth, e2, hoe⟩ := hobt_
  rewrite [hoe] at hcall
  refine cl callAcceptsB hcall ?_
  rintro _ w19 ⟨rfl, k19⟩
  have K19 := K18.trans k19
  have mb := k19.own mb id
  have mx := k19.own mx id
  have md := k19.own md id
  have hDV := hDV.chg k19 (Nat.le_refl _) k19.size
  refine ld agree (v := agB d y) (Own.at_ (xs := [.slice y.1.1 d.props.length y.1.2, .int .i64 d.states, .slice y.2.1.1 d.init.length y.2.1.2, .slice y.2.2.1.1 d.edges.length y.2.2.1.2, .slice y.2.2.2.1 d.final.length y.2.2.2.2]) (o := 0) md rfl) (by rfl) ?_
  refine ld agree (v := .agg #[.slice b1 b.props.length d1, .int .i64 b.states, .slice b2 b.init.length d2, .slice b3 b.edges.length d3, .slice b4 b.final.length d4]) (Own.at_ (xs := [.slice b1 b.props.length d1, .int .i64 b.states, .slice b2 b.init.length d2, .slice b3 b.edges.length d3, .slice b4 b.final.length d4]) (o := 0) mb rfl) (by rfl) ?_
  have hab : d.states.toNat * b.states.toNat ≤ 360 * 60 := Nat.mul_le_mul (by omega) (by omega)
  have hee : d.edges.length * b.edges.length ≤ 108000 * 300 := Nat.mul_le_mul (by omega) (by omega)
  have hMM : (d.states.toNat * b.states.toNat * 2 + 1) * (d.edges.length * b.edges.length) < 4000000000000 := Nat.lt_of_le_of_lt (Nat.mul_le_mul (show _ ≤ 360 * 60 * 2 + 1 by omega) hee) (by decide)
  have hboth := bothA_c hDV (hBV.chg K19 (Nat.le_refl _) K19.size) (by omega) (by omega) (by omega) (by omega) hMM
  have hobt_ : ∃ p, p = bothG d b := ⟨_, rfl⟩
  obtain ⟨p, hp⟩ := hobt_
  rewrite [← hp] at hboth
  refine cl callBothA hboth ?_
  rintro r20 w20 ⟨k20, hr20⟩
  have K20 := K19.trans k20
  have mb := k20.own mb id
  have mx := k20.own mx id
  have md := k20.own md id
  have hDV := hDV.chg k20 (Nat.le_refl _) k20.size
  rcases hr20 with ⟨hno, rfl⟩ | ⟨hyb, y4, rfl, hP⟩
  · refine nd fun qp w21' e21 z21' k21' mp => ?_
    refine st agree mp rfl (Nat.le_refl 5) rfl ?_
    intro w21 z21 k21 mp
    have kk3 := k21'.new e21 k21
    have K21 := K20.trans kk3
    have mb := kk3.own mb id
    have md := kk3.own md id
    by_cases he2 : e2 = 0
    · subst he2
      refine spF (fun h => h rfl) ?_
      refine spT (by decide) ?_
      refine spF (fun h => h rfl) ?_
      refine spT rfl ?_
      refine ld agree (Own.at_ (xs := [.slice y.1.1 d.props.length y.1.2]) (o := 0) md rfl) (by rfl) ?_
      refine ld agree (Own.at_ (xs := [.slice b1 b.props.length d1]) (o := 0) mb rfl) (by rfl) ?_
      have hs := sameTexts_c (hDV.props.chg kk3 (fun _ _ _ h => h) (fun _ _ h => h)) (hBV.props.chg K21 (fun _ _ _ h => h) (fun _ _ h => h)) hDV.lp
      have hcb : checkS b.general = true := by
        cases hcb : checkS b.general with
        | true => rfl
        | false => unfold accS at hoe; rewrite [hcb] at hoe; simp at hoe
      have hnp : ¬ d.props = b.props := fun he => by
        unfold bothOk at hno
        rewrite [hdc, hcb, decide_eq_true he] at hno
        cases hno
      rewrite [decide_eq_false hnp] at hs
      refine cl callSameTexts hs ?_
      rintro _ w22 ⟨rfl, k22⟩
      exact ⟨rfl, K21.trans k22⟩
    · refine spT he2 ?_
      refine spT he2 ?_
      exact ⟨rfl, K21⟩
  · unfold bothOk at hyb
    simp only [Bool.and_eq_true, decide_eq_true_eq] at hyb
    obtain ⟨⟨-, hcb⟩, hpe⟩ := hyb
    have hwb : wordOk x b.general.props.length = true := by show wordOk x b.props.length = true; rw [← hpe, hdp]; exact hwk
    have hoe2 : accS b.general x = (acceptsS b.general x, 0) := by unfold accS; rw [if_pos hcb, if_pos hwb]
    rewrite [hoe2] at hoe
    injection hoe with ho1 ho2
    subst ho2
    have hpc : checkS (bothG d b).general = true := bothG_check hdc hcb hpe hdw hbw (by omega)
    have hpa : accS (bothG d b).general x = ((yes && oth), 0) := by
      have h1 := both_accS (x := x) hdc hcb hpe hdw hbw (by rw [hdp]; exact hwk) (by omega)
      have h2 : acceptsS d.general x = yes := by
        have h3 := hda
        unfold accS at h3
        rewrite [if_pos hdc, if_pos (show wordOk x d.general.props.length = true by show wordOk x d.props.length = true; rw [hdp]; exact hwk)] at h3
        injection h3
      rw [h1, h2, ho1]
    have hpw : ∀ e ∈ (bothG d b).edges, e.wf := degB_wf (bothG_made hdc hcb) fun s e he => by
      have hobt_ := frP_mem.1 he
      obtain ⟨x', -, y', -, -, -, -, rfl⟩ := hobt_
      exact joinE_wf _ _ _ _
    have hpl2 : (bothG d b).edges.length < 1099511627776 := by
      have h1 := bothG_row (a := d) (b := b) (m := 300) (fun i => by rw [hd]; exact Nat.le_trans (degG_row hck i) hed)
      have h2 : d.states.toNat * b.states.toNat * 2 * (300 * b.edges.length) ≤ (360 * 60 * 2) * (300 * 300) := Nat.mul_le_mul (by omega) (by omega)
      omega
    rewrite [← hp] at hpc hpa hpw hpl2
    have hPV : BuchiV 0 w20.heap.size w20 (.slice y4.1.1 p.props.length y4.1.2) (.slice y4.2.1.1 p.init.length y4.2.1.2) (.slice y4.2.2.1.1 p.edges.length y4.2.2.1.2) (.slice y4.2.2.2.1 p.final.length y4.2.2.2.2) p := hP.buchi hpw hpc (by omega)
    refine nd fun qp w21' e21 z21' k21' mp => ?_
    refine st agree mp rfl (Nat.le_refl 5) rfl ?_
    intro w21 z21 k21 mp
    have mp : Own w21 qp 31 [.slice y4.1.1 p.props.length y4.1.2, .int .i64 p.states, .slice y4.2.1.1 p.init.length y4.2.1.2, .slice y4.2.2.1.1 p.edges.length y4.2.2.1.2, .slice y4.2.2.2.1 p.final.length y4.2.2.2.2] := mp
    have kk3 := k21'.new e21 k21
    have K21 := K20.trans kk3
    have mx := kk3.own mx id
    have hPV := hPV.chg kk3 (Nat.le_refl _) kk3.size
    refine spF (fun h => h rfl) ?_
    refine spF (fun h => h rfl) ?_
    refine ld agree (v := agB p y4) (Own.at_ (xs := [.slice y4.1.1 p.props.length y4.1.2, .int .i64 p.states, .slice y4.2.1.1 p.init.length y4.2.1.2, .slice y4.2.2.1.1 p.edges.length y4.2.2.1.2, .slice y4.2.2.2.1 p.final.length y4.2.2.2.2]) (o := 0) mp rfl) (by rfl) ?_
    refine ld agree (v := .agg #[.slice s1 x.stem.length t1, .slice s2 x.loop.length t2]) (Own.at_ (xs := [.slice s1 x.stem.length t1, .slice s2 x.loop.length t2]) (o := 0) mx rfl) (by rfl) ?_
    have hcall := acceptsB_c hPV (hWv.chg K21 (Nat.le_refl _) K21.size) hpl2 (by omega)
    rewrite [hpa] at hcall
    refine cl callAcceptsB hcall ?_
    rintro _ w22 ⟨rfl, k22⟩
    have mp := k22.own mp id
    refine spT rfl ?_
    refine ld agree (v := agB p y4) (Own.at_ (xs := [.slice y4.1.1 p.props.length y4.1.2, .int .i64 p.states, .slice y4.2.1.1 p.init.length y4.2.1.2, .slice y4.2.2.1.1 p.edges.length y4.2.2.1.2, .slice y4.2.2.2.1 p.final.length y4.2.2.2.2]) (o := 0) mp rfl) (by rfl) ?_
    have hcall := checkB_c (hPV.chg k22 (Nat.le_refl _) k22.size)
    rewrite [hpc] at hcall
    refine cl callCheck hcall ?_
    rintro _ w23 ⟨rfl, k23⟩
    refine spT rfl ?_
    cases yes with
    | false =>
      refine spT rfl ?_
      exact ⟨rfl, (K21.trans k22).trans k23⟩
    | true =>
      refine spT rfl ?_
      exact ⟨rfl, (K21.trans k22).trans k23⟩
end Go.Au
