/- Own text of this workplace: a part of the proofs of this place's statements. -/
import Derived.Test.YtjibhchnhkjgkaaGreatP0
import Derived.Test.YtjibhchnhkjgkaaGreatG
import Derived.Test.YtjibhchnhkjgkaaGreatP2
import Derived.Test.YtjibhchnhkjgkaaGreatP3
import Derived.Test.YtjibhchnhkjgkaaGreatP4
import Derived.Test.YtjibhchnhkjgkaaGreatP5
set_option maxRecDepth 40000
set_option linter.unusedVariables false
set_option linter.unusedSimpArgs false
set_option linter.unusedSectionVars false
namespace Go.Au
open Go.Proofs.Tryz
open Go
theorem Ng {x y : Edge} (h : Ee x y = false) : ¬ (x.frm < y.frm ∨ x.frm = y.frm ∧ (x.to < y.to ∨ x.to = y.to ∧ (x.must < y.must ∨ x.must = y.must ∧ x.no < y.no))) := fun hh => by
 have := (Fn x y).2 hh
 rw [h] at this; cases this
theorem Rx {x y : Edge} (h1 : Ee x y = false) (h2 : Ee y x = false) : x = y := by
 have h1 := Ng h1
 have h2 := Ng h2
 obtain ⟨a,b,c,d⟩ := x
 obtain ⟨a',b',c',d'⟩ := y
 simp only [Edge.mk.injEq] at h1 h2 ⊢
 omega
theorem I4 {x y z : Edge} (h1 : Ee x y = true) (h2 : Ee y z = true) : Ee x z = true := by
 rw [Fn] at h1 h2 ⊢
 omega
theorem Gx (x : Edge) : Ee x x = false := by
 cases h : Ee x x with
 | false => rfl
 | true => rw [Fn] at h; omega
theorem X8 {x y z : Edge} (h1 : Ee y x = false) (h2 : Ee z y = false) : Ee z x = false := by
 cases h : Ee z x with
 | false => rfl
 | true =>
  have h1' := Ng h1
  have h2' := Ng h2
  rw [Fn] at h
  omega
theorem Rh (E : List Edge) : (Bj E).Pairwise fun x y => Ee y x = false := by
 unfold Bj
 have := List.pairwise_mergeSort (le := fun x y => !Ee y x) (fun a b c h1 h2 => by
  simp only [Bool.not_eq_true'] at h1 h2 ⊢
  exact X8 h1 h2) (fun a b => by
  cases h : Ee b a with
  | false => simp
  | true =>
   have : Ee a b = false := by
    cases h2 : Ee a b with
    | false => rfl
    | true => have := I4 h h2; rw [Gx] at this; cases this
   simp [this]) E
 exact this.imp fun h => by simpa using h
theorem Li {xs : List Edge} (h : xs.Pairwise fun x y => Ee y x = false) : ∀ {p : Nat},p ≤ xs.length → (Cc xs p).Pairwise fun x y => Ee x y = true
 | 0,_ => by simp [Cc]
 | p + 1,hp => by
  have ih := Li h (p := p) (by omega)
  have hx : xs[p]? = some (xs[p]'(by omega)) := List.getElem?_eq_getElem (by omega)
  unfold Cc
  rw [hx]
  simp only
  split
  · exact ih
  · rename_i hnd
    rw [List.pairwise_append]
    refine ⟨ih,by simp,fun y hy z hz => ?_⟩
    rw [List.mem_singleton] at hz
    subst hz
    obtain ⟨j,hj,hjx⟩ := compP_mem.1 hy
    have hpw := List.pairwise_iff_getElem.1 h
    obtain ⟨hjl,rfl⟩ := List.getElem?_eq_some_iff.1 hjx
    have h1 := hpw j p hjl (by omega) hj
    cases hlt : Ee xs[j] (xs[p]'(by omega)) with
    | true => rfl
    | false =>
     have heq := Rx hlt h1
     have h2 : Ee (xs[p - 1]'(by omega)) xs[j] = false := by
      rcases Nat.lt_or_ge j (p - 1) with h3 | h3
      · exact hpw j (p - 1) hjl (by omega) h3
      · obtain rfl : j = p - 1 := by omega
        exact Gx _
     have h3 := hpw (p - 1) p (by omega) (by omega) (by omega)
     rw [heq] at h2
     have := Rx h2 h3
     exact absurd ⟨by omega,by rw [List.getElem?_eq_getElem (by omega),this]⟩ hnd
theorem Hz (E : List Edge) : (Br (Bj E)).Pairwise fun x y => Ee x y = true := Li (Rh E) (Nat.le_refl _)
theorem O0 {n letters : Int} : ∀ {es : List Edge} {p : Option Edge},(∀ e ∈ es,0 ≤ e.frm ∧ e.frm < n ∧ 0 ≤ e.to ∧ e.to < n ∧ e.must < letters ∧ e.no < letters ∧ bits .and .u16 e.must e.no = 0) → es.Pairwise (fun x y => Ee x y = true) → (∀ y,p = some y → ∀ x ∈ es,Ee y x = true) → Ay n letters p es = true
 | [],_,_,_,_ => by unfold Ay; rfl
 | x :: r,p,h,hp,hy => by
  obtain ⟨h1,h2,h3,h4,h5,h6,h7⟩ := h x List.mem_cons_self
  have hp' := List.pairwise_cons.1 hp
  have ih := O0 (n := n) (letters := letters) (es := r) (p := some x) (fun e he => h e (List.mem_cons_of_mem _ he)) hp'.2 (fun y hy x hx => by obtain rfl := Option.some.inj hy; exact hp'.1 x hx)
  have r1 : ∀ z : Int,0 ≤ z → z < n → Ak n none [z] = true := fun z h1 h2 => by
   simp only [Ak,Bool.and_true,Bool.or_false,Bool.not_eq_true',Bool.or_eq_false_iff,decide_eq_false_iff_not]
   omega
  unfold Ay
  rw [r1 _ h1 h2,r1 _ h3 h4,ih]
  cases p with
  | none => simp; omega
  | some y =>
   have := hy y rfl x List.mem_cons_self
   have h8 : Ci y x < 0 := (Ti y x).2 ((Fn y x).1 this)
   simp; omega
theorem Lt {n : Int} : ∀ {l : List Int} {p : Option Int},(∀ x ∈ l,0 ≤ x ∧ x < n) → l.Pairwise (· < ·) → (∀ y,p = some y → ∀ x ∈ l,y < x) → Ak n p l = true
 | [],_,_,_,_ => by unfold Ak; rfl
 | x :: r,p,h,hp,hy => by
  have h1 := h x List.mem_cons_self
  have hp' := List.pairwise_cons.1 hp
  have ih := Lt (n := n) (l := r) (p := some x) (fun e he => h e (List.mem_cons_of_mem _ he)) hp'.2 (fun y hy x hx => by obtain rfl := Option.some.inj hy; exact hp'.1 x hx)
  unfold Ak
  rw [ih]
  cases p with
  | none => simp; omega
  | some y =>
   have := hy y rfl x List.mem_cons_self
   simp; omega
theorem Rn (m : Nat) : ((List.range m).map fun (i : Nat) => (i : Int)).Pairwise (· < ·) := by
 rw [List.pairwise_map]
 exact List.pairwise_lt_range.imp fun h => by omega
theorem Tx (sets : List (List Int)) (L : List Ag) (m : Nat) : ((List.range m).flatMap (M4 sets L)).Pairwise (· < ·) := by
 rw [List.pairwise_flatMap]
 have hone : ∀ i,∀ x ∈ M4 sets L i,x = (i : Int) := fun i x hx => by
  unfold M4 at hx
  split at hx
  · simp at hx
  · split at hx
    · simpa using hx
    · simp at hx
 refine ⟨fun i _ => ?_,List.pairwise_lt_range.imp fun {i j} h x hx y hy => ?_⟩
 · unfold M4
   split
   · exact .nil
   · split <;> simp
 · rw [hone i x hx,hone j y hy]; omega
theorem Yf {props : List ByteArray} {init : List Int} {sets : List (List Int)} {fr : Int → List Edge} {N : Nat} {L : List Ag} (hn : Bz props = true) (hnd : init.Nodup) (hD : Deg sets fr (A9 init).1 N L) (hL : L.length ≤ 65536)
 (hed : ∀ s,∀ e ∈ fr s,e.must < 2 ^ props.length ∧ e.no < 2 ^ props.length ∧ bits .and .u16 e.must e.no = 0) : Al (Cf props init sets fr N).general = true := by
 have hst : (Cf props init sets fr N).states = (L.length : Nat) := by show (((A5 sets fr ((A9 init).1,[],[]) N).1.length : Nat) : Int) = _; rw [hD.list]
 have hgs : (Cf props init sets fr N).general.states = (L.length : Nat) := hst
 have hlen : init.length ≤ L.length := by
  have := hD.start.length_le
  rw [Bf hnd] at this
  simpa using this
 have h1 : Ak (L.length : Nat) none (Cf props init sets fr N).general.init = true := by
  show Ak _ none (A9 init).2 = true
  rw [Bf hnd]
  refine Lt (fun x hx => ?_) (Rn _) (fun y hy => by cases hy)
  obtain ⟨i,hi,rfl⟩ := List.mem_map.1 hx
  rw [List.mem_range] at hi
  omega
 have h2 : Ay (L.length : Nat) (2 ^ props.length) none (Cf props init sets fr N).general.edges = true := by
  show Ay _ _ none (Br (Bj (A5 sets fr ((A9 init).1,[],[]) N).2.1)) = true
  refine O0 (fun e he => ?_) (Hz _) (fun y hy => by cases hy)
  rw [Fz,Fu,hD.edges,Od] at he
  obtain ⟨i,p,hp,d,hd,rfl⟩ := he
  have hi := (List.getElem?_eq_some_iff.1 hp).1
  have hj := List.idxOf_lt_length_of_mem (hD.closed p (List.mem_of_getElem? hp) d hd)
  obtain ⟨e1,e2,e3⟩ := hed _ d hd
  exact ⟨by show (0 : Int) ≤ (i : Nat); omega,by show ((i : Nat) : Int) < _; omega,by show (0 : Int) ≤ ((L.idxOf _ : Nat) : Int); omega,by show ((L.idxOf _ : Nat) : Int) < _; omega,e1,e2,e3⟩
 have h3 : Ak (L.length : Nat) none (A5 sets fr ((A9 init).1,[],[]) N).2.2 = true := by
  rw [hD.fin]
  refine Lt (fun x hx => ?_) (Tx _ _ _) (fun y hy => by cases hy)
  obtain ⟨i,p,hp,-,rfl⟩ := finR_mem.1 hx
  have := (List.getElem?_eq_some_iff.1 hp).1
  omega
 have hs : (Cf props init sets fr N).general.sets = [(A5 sets fr ((A9 init).1,[],[]) N).2.2] := rfl
 unfold Al
 rw [hgs,h1,hs]
 simp only [List.all_cons,List.all_nil,h3]
 have hp : (Cf props init sets fr N).general.props = props := rfl
 rw [hp,h2,hn]
 simp; omega
theorem Qu {α : Type} {r : α → α → Prop} (hirr : ∀ x,¬ r x x) (htr : ∀ {x y z},r x y → r y z → r x z) : ∀ {l1 l2 : List α},l1.Pairwise r → l2.Pairwise r → (∀ x,x ∈ l1 ↔ x ∈ l2) → l1 = l2
 | [],[],_,_,_ => rfl
 | [],b :: t2,_,_,h => absurd ((h b).2 List.mem_cons_self) (by simp)
 | a :: t1,[],_,_,h => absurd ((h a).1 List.mem_cons_self) (by simp)
 | a :: t1,b :: t2,h1,h2,h => by
  have p1 := List.pairwise_cons.1 h1
  have p2 := List.pairwise_cons.1 h2
  have hab : a = b := Classical.byContradiction fun hne => by
   have e1 : r b a := by
    rcases List.mem_cons.1 ((h a).1 List.mem_cons_self) with e | e
    · exact absurd e hne
    · exact p2.1 a e
   have e2 : r a b := by
    rcases List.mem_cons.1 ((h b).2 List.mem_cons_self) with e | e
    · exact absurd e.symm hne
    · exact p1.1 b e
   exact hirr a (htr e2 e1)
  subst hab
  congr 1
  refine Qu hirr htr p1.2 p2.2 fun x => ⟨fun hx => ?_,fun hx => ?_⟩
  · rcases List.mem_cons.1 ((h x).1 (List.mem_cons_of_mem _ hx)) with rfl | e
    · exact absurd (p1.1 x hx) (hirr x)
    · exact e
  · rcases List.mem_cons.1 ((h x).2 (List.mem_cons_of_mem _ hx)) with rfl | e
    · exact absurd (p2.1 x hx) (hirr x)
    · exact e
theorem Oz {l1 l2 : List Edge} (h1 : l1.Pairwise fun x y => Ee x y = true) (h2 : l2.Pairwise fun x y => Ee x y = true) (h : ∀ x,x ∈ l1 ↔ x ∈ l2) : l1 = l2 :=
 Qu (r := fun x y => Ee x y = true) (fun x hx => by rw [Gx] at hx; cases hx) (fun a b => I4 a b) h1 h2 h
abbrev G1 := Int × Int × Int
def Tk (L : List G1) (p : G1) : List G1 := if p ∈ L then L else L ++ [p]
def J6 (L : List G1) (p : G1) : Nat := (Tk L p).idxOf p
def Dc : Nat → List G1 → List (G1 × Int)
 | _,[] => []
 | i,p :: r => (p,(i : Int)) :: Dc (i + 1) r
abbrev Ji (L : List G1) : List (G1 × Int) := Dc 0 L
theorem Jj (p : G1) : ∀ (L : List G1) (i : Nat),Dc i (L ++ [p]) = Dc i L ++ [(p,((i + L.length : Nat) : Int))]
 | [],i => rfl
 | q :: r,i => by
  show (q,(i : Int)) :: Dc (i + 1) (r ++ [p]) = (q,(i : Int)) :: (Dc (i + 1) r ++ _)
  rw [Jj p r (i + 1),show i + 1 + r.length = i + (q :: r).length by simp; omega]
theorem Jl : ∀ (L : List G1) (i : Nat),(Dc i L).map (·.1) = L
 | [],_ => rfl
 | q :: r,i => by show q :: (Dc (i + 1) r).map (·.1) = _; rw [Jl r]
theorem Jk {p : G1} : ∀ (L : List G1) (i : Nat),Bn (Dc i L) p = if p ∈ L then some (((i + L.idxOf p : Nat)) : Int) else none
 | [],_ => rfl
 | q :: r,i => by
  show (if q = p then some (i : Int) else Bn (Dc (i + 1) r) p) = _
  by_cases h : q = p
  · subst h
    rw [if_pos rfl,if_pos List.mem_cons_self,List.idxOf_cons_self]; rfl
  · rw [if_neg h,Jk r (i + 1)]
    by_cases h2 : p ∈ r
    · rw [if_pos h2,if_pos (List.mem_cons_of_mem _ h2),List.idxOf_cons,show (q == p) = false by simpa using h]
      congr 2; simp only [cond_false]; omega
    · rw [if_neg h2,if_neg fun hm => h2 ((List.mem_cons.1 hm).resolve_left (Ne.symm h))]
theorem Tj {L : List G1} {p : G1} (h : p ∈ L) : Tk L p = L := if_pos h
theorem Oi {L : List G1} {p : G1} (h : p ∉ L) : Tk L p = L ++ [p] := if_neg h
theorem Vg {L : List G1} {p : G1} (h : p ∈ L) : J6 L p = L.idxOf p := by unfold J6; rw [Tj h]
theorem Vf {L : List G1} {p : G1} (h : p ∉ L) : J6 L p = L.length := by
 unfold J6
 rw [Oi h,List.idxOf_append,if_neg h]
 simp
theorem Ve {L : List G1} {p : G1} (h : L.Nodup) : (Tk L p).Nodup := by
 unfold Tk
 split
 · exact h
 · rename_i hp
   exact List.nodup_append.2 ⟨h,by simp,fun a ha b hb => by
    simp at hb; subst hb; rintro rfl; exact hp ha⟩
theorem Qn {τ : Ag → G1} (hτ : ∀ p q,τ p = τ q → p = q) (p : Ag) : ∀ L : List Ag,(L.map τ).idxOf (τ p) = L.idxOf p
 | [] => rfl
 | q :: r => by
  rw [List.map_cons,List.idxOf_cons,List.idxOf_cons,Qn hτ p r]
  by_cases h : q = p
  · subst h; simp
  · rw [show (q == p) = false by simpa using h,show (τ q == τ p) = false by simpa using fun he => h (hτ _ _ he)]
theorem Wv {τ : Ag → G1} (hτ : ∀ p q,τ p = τ q → p = q) {p : Ag} {L : List Ag} : τ p ∈ L.map τ ↔ p ∈ L := by
 constructor
 · intro h
   obtain ⟨q,hq,he⟩ := List.mem_map.1 h
   exact hτ _ _ he ▸ hq
 · exact fun h => List.mem_map.2 ⟨p,h,rfl⟩
theorem Gi {τ : Ag → G1} (hτ : ∀ p q,τ p = τ q → p = q) (L : List Ag) (p : Ag) : Tk (L.map τ) (τ p) = (B7 L p).map τ := by
 unfold Tk B7
 by_cases h : p ∈ L
 · rw [if_pos h,if_pos ((Wv hτ).2 h)]
 · rw [if_neg h,if_neg fun hh => h ((Wv hτ).1 hh)]; simp
theorem E2 {τ : Ag → G1} (hτ : ∀ p q,τ p = τ q → p = q) (L : List Ag) (p : Ag) : J6 (L.map τ) (τ p) = Aw L p := by
 unfold J6 Aw
 rw [Gi hτ,Qn hτ]
def Dh (p : Ag) : G1 := (p.1,0,p.2)
def Ex (bn : Nat) (p : Ag) : G1 := (p.1 / (bn : Int),p.1 % (bn : Int),p.2)
theorem Cv : ∀ p q,Dh p = Dh q → p = q := fun p q h => by
 simp only [Dh,Prod.mk.injEq] at h
 exact Prod.ext h.1 h.2.2
theorem G8 {bn : Nat} : ∀ p q,Ex bn p = Ex bn q → p = q := fun p q h => by
 simp only [Ex,Prod.mk.injEq] at h
 refine Prod.ext ?_ h.2.2
 rw [← Int.mul_ediv_add_emod p.1 bn,← Int.mul_ediv_add_emod q.1 bn,h.1,h.2.1]
structure Ins (R : List Edge) (e : Edge) (R' : List Edge) : Prop where
 srt : R'.Pairwise fun x y => Ee x y = true
 mem : ∀ x,x ∈ R' ↔ x ∈ R ∨ x = e
theorem Wy {R : List Edge} {e : Edge} (hR : R.Pairwise fun x y => Ee x y = true) (he : e ∈ R) : Ins R e R :=
 ⟨hR,fun x => ⟨.inl,fun h => h.elim id fun h => h ▸ he⟩⟩
theorem Nh {R : List Edge} {e : Edge} {k : Nat} (hR : R.Pairwise fun x y => Ee x y = true) (hk : k ≤ R.length) (hge : ∀ (j : Nat) (x : Edge),k ≤ j → R[j]? = some x → Ee e x = true)
 (hlt : ∀ x,0 < k → R[k - 1]? = some x → Ee e x = false ∧ x ≠ e) : Ins R e (R.take k ++ e :: R.drop k) := by
 have hT : ∀ x ∈ R.take k,Ee x e = true := fun x hx => by
  obtain ⟨i,hi,rfl⟩ := List.getElem_of_mem hx
  simp only [List.length_take] at hi
  rw [List.getElem_take]
  have hk0 : 0 < k := by omega
  have hp : R[k - 1]? = some (R[k - 1]'(by omega)) := List.getElem?_eq_getElem _
  obtain ⟨h1,h2⟩ := hlt _ hk0 hp
  have h3 : Ee (R[k - 1]'(by omega)) e = true := Classical.byContradiction fun hn => h2 (Rx (by simpa using hn) h1)
  rcases Nat.lt_or_ge i (k - 1) with h4 | h4
  · exact I4 (List.pairwise_iff_getElem.1 hR i (k - 1) (by omega) (by omega) h4) h3
  · obtain rfl : i = k - 1 := by omega
    exact h3
 have hD : ∀ x ∈ R.drop k,Ee e x = true := fun x hx => by
  obtain ⟨i,hi,rfl⟩ := List.getElem_of_mem hx
  rw [List.getElem_drop]
  simp only [List.length_drop] at hi
  exact hge (k + i) _ (by omega) (List.getElem?_eq_getElem (by omega))
 have h0 := hR
 rw [← List.take_append_drop k R] at h0
 have h0 := List.pairwise_append.1 h0
 refine ⟨List.pairwise_append.2 ⟨h0.1,List.pairwise_cons.2 ⟨hD,h0.2.1⟩,fun x hx y hy => ?_⟩,fun x => ?_⟩
 · rcases List.mem_cons.1 hy with rfl | hy
   · exact hT x hx
   · exact I4 (hT x hx) (hD y hy)
 · have h3 : x ∈ R ↔ x ∈ R.take k ∨ x ∈ R.drop k := by
    rw [← List.mem_append,List.take_append_drop]
   rw [h3,List.mem_append,List.mem_cons]
   constructor
   · rintro (h | h | h)
     · exact .inl (.inl h)
     · exact .inr h
     · exact .inl (.inr h)
   · rintro ((h | h) | h)
     · exact .inl h
     · exact .inr (.inr h)
     · exact .inr (.inl h)
theorem Ins.len {R R' : List Edge} {e : Edge} (h : Ins R e R') (hR : R.Pairwise fun x y => Ee x y = true) : R'.length ≤ R.length + 1 := by
 have hn : R'.Nodup := h.srt.imp fun {x y} hxy he => by subst he; rw [Gx] at hxy; cases hxy
 have := A8 (l := R') (r := R ++ [e]) hn fun x hx => by
  rcases (h.mem x).1 hx with h | h
  · simp [h]
  · simp [h]
 simpa using this
structure Ref (D R X E : List Edge) (i : Nat) : Prop where
 d : D.Pairwise fun x y => Ee x y = true
 dm : ∀ x,x ∈ D ↔ x ∈ E
 df : ∀ x ∈ D,x.frm < (i : Int)
 r : R.Pairwise fun x y => Ee x y = true
 rm : ∀ x,x ∈ R ↔ x ∈ X
 rf : ∀ x ∈ R,x.frm = (i : Int)
theorem Ref.ins {D R X E R' : List Edge} {i : Nat} {e : Edge} (h : Ref D R X E i) (hi : Ins R e R') (he : e.frm = i) : Ref D R' (X ++ [e]) E i :=
 ⟨h.d,h.dm,h.df,hi.srt,fun x => by rw [hi.mem,h.rm]; simp,fun x hx => by rcases (hi.mem x).1 hx with h1 | rfl; exact h.rf x h1; exact he⟩
theorem Aa5 {x y : Edge} (h : x.frm < y.frm) : Ee x y = true := (Fn x y).2 (.inl h)
theorem Ref.shut {D R X E : List Edge} {i : Nat} (h : Ref D R X E i) : Ref (D ++ R) [] [] (E ++ X) (i + 1) :=
 ⟨List.pairwise_append.2 ⟨h.d,h.r,fun x hx y hy => Aa5 (by have := h.df x hx; have := h.rf y hy; omega)⟩,fun x => by simp [h.dm,h.rm],fun x hx => by
   rcases List.mem_append.1 hx with h1 | h1
   · have := h.df x h1; omega
   · have := h.rf x h1; omega,.nil,by simp,by simp⟩
theorem Ref.done {D R X E : List Edge} {i : Nat} (h : Ref D R X E i) : D = Br (Bj E) := Oz h.d (Hz E) fun x => by rw [h.dm,Fz,Fu]
theorem Ref.zero : Ref [] [] [] [] 0 := ⟨.nil,by simp,by simp,.nil,by simp,by simp⟩
theorem Eh (i : Nat) (d : Int) : ∀ (l : List Edge) (L : List Ag) (E : List Edge),Ba i d (L,E) l = ((Ba i d (L,[]) l).1,E ++ (Ba i d (L,[]) l).2)
 | [],L,E => by simp [Ba]
 | e :: l,L,E => by
  show Ba i d (B7 L (e.to,d),E ++ [_]) l = ((Ba i d (B7 L (e.to,d),[] ++ [_]) l).1,E ++ (Ba i d (B7 L (e.to,d),[] ++ [_]) l).2)
  rw [Eh i d l _ (E ++ [_]),Eh i d l _ ([] ++ [_])]
  simp
def Ns (d e : Edge) : Edge := ⟨d.to,e.to,bits .or .u16 d.must e.must,bits .or .u16 d.no e.no⟩
def Kq (d e : Edge) : Bool := decide (bits .and .u16 (Ns d e).must (Ns d e).no = 0)
theorem Nr {d e : Edge} (h1 : bits .and .u16 d.must d.no = 0) (h2 : bits .and .u16 e.must e.no = 0) : Kq d e = Gw d e := by
 apply Bool.eq_iff_iff.2
 rw [Zs]
 unfold Kq
 rw [decide_eq_true_eq]
 have em : bv (Ns d e).must = bv d.must ||| bv e.must := by show bv (bits .or .u16 d.must e.must) = _; rw [Af3,AaC]
 have en : bv (Ns d e).no = bv d.no ||| bv e.no := by show bv (bits .or .u16 d.no e.no) = _; rw [Af3,AaC]
 rw [Kj] at h1 h2 ⊢
 rw [em,en]
 revert h1 h2
 generalize bv d.must = a
 generalize bv e.must = b
 generalize bv d.no = x
 generalize bv e.no = y
 intro h1 h2
 have hget : ∀ {p q : BitVec 16},p = q → ∀ i (hi : i < 16),p[i] = q[i] := fun h i hi => by rw [h]
 constructor
 · intro h
   refine ⟨Sd fun i hi => ?_,Sd fun i hi => ?_⟩
   all_goals
    have g1 := hget h1 i hi
    have g2 := hget h2 i hi
    have g3 := hget h i hi
    simp only [BitVec.getElem_and,BitVec.getElem_or,BitVec.getElem_zero] at g1 g2 g3 ⊢
    revert g1 g2 g3
    cases a[i] <;> cases b[i] <;> cases x[i] <;> cases y[i] <;> simp
 · rintro ⟨h3,h4⟩
   refine Sd fun i hi => ?_
   have g1 := hget h1 i hi
   have g2 := hget h2 i hi
   have g3 := hget h3 i hi
   have g4 := hget h4 i hi
   simp only [BitVec.getElem_and,BitVec.getElem_or,BitVec.getElem_zero] at g1 g2 g3 g4 ⊢
   revert g1 g2 g3 g4
   cases a[i] <;> cases b[i] <;> cases x[i] <;> cases y[i] <;> simp
structure Ways (x y : List Edge) (i k : Nat) (W : List Edge) : Prop where
 srt : W.Pairwise fun x y => Ee x y = true
 mem : ∀ z,z ∈ W ↔ ∃ a b d e,(a < i ∨ a = i ∧ b < k) ∧ x[a]? = some d ∧ y[b]? = some e ∧ Kq d e = true ∧ z = Ns d e
theorem Ways.zero {x y : List Edge} : Ways x y 0 0 [] := ⟨.nil,fun z => ⟨by simp,fun ⟨a,b,d,e,h,_⟩ => by omega⟩⟩
theorem Ways.row {x y W : List Edge} {i : Nat} (h : Ways x y i y.length W) : Ways x y (i + 1) 0 W := ⟨h.srt,fun z => by
 rw [h.mem]
 constructor
 · rintro ⟨a,b,d,e,h1,h2,h3,h4⟩
   exact ⟨a,b,d,e,.inl (by omega),h2,h3,h4⟩
 · rintro ⟨a,b,d,e,h1,h2,h3,h4⟩
   have := (List.getElem?_eq_some_iff.1 h3).1
   exact ⟨a,b,d,e,by omega,h2,h3,h4⟩⟩
theorem Ways.skip {x y W : List Edge} {i k : Nat} {d e : Edge} (h : Ways x y i k W) (hx : x[i]? = some d) (hy : y[k]? = some e) (hn : Kq d e = false) : Ways x y i (k + 1) W := ⟨h.srt,fun z => by
 rw [h.mem]
 constructor
 · rintro ⟨a,b,d',e',h1,h2,h3,h4⟩
   exact ⟨a,b,d',e',by omega,h2,h3,h4⟩
 · rintro ⟨a,b,d',e',h1,h2,h3,h4,h5⟩
   refine ⟨a,b,d',e',?_,h2,h3,h4,h5⟩
   rcases h1 with h1 | ⟨rfl,h1⟩
   · exact .inl h1
   · rcases Nat.lt_or_ge b k with h6 | h6
     · exact .inr ⟨rfl,h6⟩
     · obtain rfl : b = k := by omega
       rw [hx] at h2
       rw [hy] at h3
       cases h2
       cases h3
       rw [h4] at hn
       cases hn⟩
theorem Ways.add {x y W W' : List Edge} {i k : Nat} {d e : Edge} (h : Ways x y i k W) (hx : x[i]? = some d) (hy : y[k]? = some e) (hn : Kq d e = true) (hi : Ins W (Ns d e) W') : Ways x y i (k + 1) W' := ⟨hi.srt,fun z => by
 rw [hi.mem,h.mem]
 constructor
 · rintro (⟨a,b,d',e',h1,h2,h3,h4⟩ | rfl)
   · exact ⟨a,b,d',e',by omega,h2,h3,h4⟩
   · exact ⟨i,k,d,e,.inr ⟨rfl,by omega⟩,hx,hy,hn,rfl⟩
 · rintro ⟨a,b,d',e',h1,h2,h3,h4,h5⟩
   rcases h1 with h1 | ⟨rfl,h1⟩
   · exact .inl ⟨a,b,d',e',.inl h1,h2,h3,h4,h5⟩
   · rcases Nat.lt_or_ge b k with h6 | h6
     · exact .inl ⟨a,b,d',e',.inr ⟨rfl,h6⟩,h2,h3,h4,h5⟩
     · obtain rfl : b = k := by omega
       rw [hx] at h2
       rw [hy] at h3
       cases h2
       cases h3
       exact .inr h5⟩
theorem Ways.len {x y W : List Edge} {i k : Nat} (h : Ways x y i k W) : W.length ≤ x.length * y.length := by
 have hn : W.Nodup := h.srt.imp fun {x y} hxy he => by subst he; rw [Gx] at hxy; cases hxy
 have h1 := A8 (l := W) (r := x.flatMap fun d => y.map fun e => Ns d e) hn fun z hz => by
  obtain ⟨a,b,d,e,-,h2,h3,-,rfl⟩ := (h.mem z).1 hz
  exact List.mem_flatMap.2 ⟨d,List.mem_of_getElem? h2,List.mem_map.2 ⟨e,List.mem_of_getElem? h3,rfl⟩⟩
 refine Nat.le_trans h1 (Nat.le_of_eq ?_)
 rw [List.length_flatMap]
 simp [List.map_const',List.sum_replicate_nat]
def Ye (s bn : Nat) (z : Edge) : Edge := ⟨s,z.frm * bn + z.to,z.must,z.no⟩
theorem Aa9 {s bn : Nat} {z u : Edge} (h1 : 0 ≤ z.to ∧ z.to < bn) (h2 : 0 ≤ u.to ∧ u.to < bn) (h : Ee z u = true) : Ee (Ye s bn z) (Ye s bn u) = true := by
 rw [Fn] at h ⊢
 refine .inr ⟨rfl,?_⟩
 show z.frm * bn + z.to < u.frm * bn + u.to ∨ z.frm * bn + z.to = u.frm * bn + u.to ∧ _
 rcases h with h | ⟨h3,h⟩
 · left
   have h4 : z.frm + 1 ≤ u.frm := h
   have h5 : (z.frm + 1) * bn ≤ u.frm * bn := Int.mul_le_mul_of_nonneg_right h4 (by omega)
   rw [Int.add_mul,Int.one_mul] at h5
   omega
 · rw [h3]
   rcases h with h | ⟨h4,h⟩
   · left; omega
   · right; exact ⟨by omega,h⟩
theorem Y6 {bn : Nat} {ea eb W : List Edge} {s : Nat} (hb : ∀ e ∈ eb,0 ≤ e.to ∧ e.to < bn) (ha : ∀ e ∈ ea,bits .and .u16 e.must e.no = 0) (hb2 : ∀ e ∈ eb,bits .and .u16 e.must e.no = 0)
 (h : Ways (Aj ea ((s / bn : Nat) : Int)) (Aj eb ((s % bn : Nat) : Int)) (Aj ea ((s / bn : Nat) : Int)).length 0 W) : W.map (Ye s bn) = Tv bn ea eb (s : Int) := by
 have hW : ∀ z ∈ W,∃ d ∈ ea,∃ e ∈ eb,d.frm = ((s / bn : Nat) : Int) ∧ e.frm = ((s % bn : Nat) : Int) ∧ Gw d e = true ∧ z = Ns d e := fun z hz => by
  obtain ⟨a,b,d,e,-,h2,h3,h4,rfl⟩ := (h.mem z).1 hz
  have q1 := List.mem_filter.1 (List.mem_of_getElem? h2)
  have q2 := List.mem_filter.1 (List.mem_of_getElem? h3)
  refine ⟨d,q1.1,e,q2.1,by simpa using q1.2,by simpa using q2.2,?_,rfl⟩
  rw [← Nr (ha d q1.1) (hb2 e q2.1)]; exact h4
 refine Oz ?_ (Hz _) fun z => ?_
 · rw [List.pairwise_map]
   refine List.Pairwise.imp_of_mem (fun {x y} hx hy hxy => ?_) h.srt
   obtain ⟨d,-,e,he,-,-,-,rfl⟩ := hW x hx
   obtain ⟨d',-,e',he',-,-,-,rfl⟩ := hW y hy
   exact Aa9 (hb e he) (hb e' he') hxy
 · show _ ↔ z ∈ Tv bn ea eb (s : Int)
   rw [frP_mem,List.mem_map]
   simp only [Int.toNat_natCast]
   constructor
   · rintro ⟨u,hu,rfl⟩
     obtain ⟨d,hd,e,he,h1,h2,h3,rfl⟩ := hW u hu
     exact ⟨d,hd,e,he,h1,h2,h3,rfl⟩
   · rintro ⟨d,hd,e,he,h1,h2,h3,rfl⟩
     refine ⟨Ns d e,(h.mem _).2 ?_,rfl⟩
     obtain ⟨a,ha',hda⟩ := List.getElem_of_mem (show d ∈ Aj ea ((s / bn : Nat) : Int) from List.mem_filter.2 ⟨hd,by simpa using h1⟩)
     obtain ⟨b,hb',hdb⟩ := List.getElem_of_mem (show e ∈ Aj eb ((s % bn : Nat) : Int) from List.mem_filter.2 ⟨he,by simpa using h2⟩)
     exact ⟨a,b,d,e,.inl ha',by rw [List.getElem?_eq_getElem ha',hda],by rw [List.getElem?_eq_getElem hb',hdb],by rw [Nr (ha d hd) (hb2 e he)]; exact h3,rfl⟩
theorem Tz {s bn : Nat} {z : Edge} {c : Int} (h1 : 0 ≤ z.to ∧ z.to < bn) : Ex bn ((Ye s bn z).to,c) = (z.frm,z.to,c) := by
 show ((z.frm * bn + z.to) / (bn : Int),(z.frm * bn + z.to) % (bn : Int),c) = _
 have hbn : (bn : Int) ≠ 0 := by omega
 rw [Int.add_comm,Int.add_mul_ediv_right _ _ hbn,Int.ediv_eq_zero_of_lt h1.1 h1.2,Int.zero_add,Int.add_mul_emod_self_right,Int.emod_eq_of_lt h1.1 h1.2]
end Go.Au
namespace Go.Au
open Go.Proofs.Tryz
open Go Go.RowKit Go.MapKept
open Go.Maps (Keyed)
abbrev Eg (p : G1) : List Value := [.int .i64 p.1,.int .i64 p.2.1,.int .i64 p.2.2]
abbrev H9 (p : G1) : Value := .agg #[.int .i64 p.1,.int .i64 p.2.1,.int .i64 p.2.2]
theorem Nv : Keyed prog 104 := Maps.Keyed.of_law (deep_law_laid (P := prog) (by kernel_rfl) (m := 2) (by decide) (of_decide_eq_true (by kernel_rfl)) (by kernel_rfl) (by rw [underlying104]))
theorem Xo : prog.keyType 104 = true := by kernel_rfl
structure T64 (p : G1) : Prop where
 h1 : G7 p.1
 h2 : G7 p.2.1
 h3 : G7 p.2.2
theorem Zb {p : G1} (h : T64 p) : ∃ lit,keyOf prog 104 (H9 p) = some lit := by
 obtain ⟨m,hm⟩ := Nt
 have w1 : (Lit.int .i64 p.1).wf = true := Uw h.h1
 have w2 : (Lit.int .i64 p.2.1).wf = true := Uw h.h2
 have w3 : (Lit.int .i64 p.2.2).wf = true := Uw h.h3
 unfold keyOf H9
 simp only [underlying104]
 rw [if_pos (by simp [Xo,Value.formed,underlying104]; try kernel_rfl),hm]
 unfold Program.keyLits
 simp only [underlying104,Value.cells]
 rw [if_pos ⟨by kernel_rfl,by kernel_rfl⟩]
 have hc : prog.cellsOf 3 = 1 := by kernel_rfl
 simp [hc,Program.keyLits,underlying3,w1,w2,w3,List.mapM_cons]
structure NumO (w : World) (base : Nat) (vR vP vI vE vF : Value) (R : List Edge) (A : Buchi) : Prop where
 rR : w.ownsRow base 67 4 vR R.length (R.flatMap Edge.cells)
 rP : w.ownsRow base 9 1 vP A.props.length (A.props.flatMap Y4)
 rI : w.ownsRow base 3 1 vI A.init.length (A.init.flatMap Ia)
 rE : w.ownsRow base 67 4 vE A.edges.length (A.edges.flatMap Edge.cells)
 rF : w.ownsRow base 3 1 vF A.final.length (A.final.flatMap Ia)
 sI : ∀ g,vI.ownBlock = some g → vF.ownBlock ≠ some g
 sE : ∀ g,vR.ownBlock = some g → vE.ownBlock ≠ some g
def Ho (vR vP vI vE vF : Value) (g : Nat) : Prop := vR.ownBlock = some g ∨ vP.ownBlock = some g ∨ vI.ownBlock = some g ∨ vE.ownBlock = some g ∨ vF.ownBlock = some g
section
variable {w w' : World} {base : Nat} {vR vP vI vE vF : Value} {R : List Edge} {A : Buchi} {S : Nat → Prop}
theorem NumO.keep (h : NumO w base vR vP vI vE vF R A) (k : Chg S w w') (hS : ∀ g,Ho vR vP vI vE vF g → ¬ S g) : NumO w' base vR vP vI vE vF R A :=
 ⟨Ab h.rR k fun g hg => hS g (.inl hg),Ab h.rP k fun g hg => hS g (.inr (.inl hg)),Ab h.rI k fun g hg => hS g (.inr (.inr (.inl hg))),Ab h.rE k fun g hg => hS g (.inr (.inr (.inr (.inl hg)))),Ab h.rF k fun g hg => hS g (.inr (.inr (.inr (.inr hg)))),h.sI,h.sE⟩
theorem NumO.off (h : NumO w base vR vP vI vE vF R A) {b : Nat} {o : Obj} (ho : w.heap[b]? = some o) (hk : ∀ cs fr,o ≠ .cells cs 67 fr ∧ o ≠ .cells cs 9 fr ∧ o ≠ .cells cs 3 fr) : ¬ Ho vR vP vI vE vF b := fun hh => by
 rcases hh with hh | hh | hh | hh | hh
 · exact Ai h.rR ho (fun cs fr => (hk cs fr).1) hh
 · exact Ai h.rP ho (fun cs fr => (hk cs fr).2.1) hh
 · exact Ai h.rI ho (fun cs fr => (hk cs fr).2.2) hh
 · exact Ai h.rE ho (fun cs fr => (hk cs fr).1) hh
 · exact Ai h.rF ho (fun cs fr => (hk cs fr).2.2) hh
theorem NumO.offT (h : NumO w base vR vP vI vE vF R A) {b : Nat} {t : TypeId} {cs : List Value} (ho : Own w b t cs) (h1 : t ≠ 67) (h2 : t ≠ 9) (h3 : t ≠ 3) : ¬ Ho vR vP vI vE vF b :=
 h.off ho fun cs fr => ⟨fun hh => by injection hh with _ h; exact h1 h,fun hh => by injection hh with _ h; exact h2 h,fun hh => by injection hh with _ h; exact h3 h⟩
theorem NumO.lt (h : NumO w base vR vP vI vE vF R A) {g : Nat} (hg : Ho vR vP vI vE vF g) : base ≤ g ∧ g < w.heap.size := by
 rcases hg with hg | hg | hg | hg | hg
 · exact h.rR.lt g hg
 · exact h.rP.lt g hg
 · exact h.rI.lt g hg
 · exact h.rE.lt g hg
 · exact h.rF.lt g hg
end
structure NumX (w : World) (base b m : Nat) (vL vR vP vI vE vF : Value) (L : List G1) (R : List Edge) (A : Buchi) : Prop where
 hdr : Own w b 101 [vL,.map (some m),vR,vP,.int .i64 A.states,vI,vE,vF]
 map : MapE prog 104 H9 (fun n : Int => .int .i64 n) w m (Ji L)
 rL : w.ownsRow base 104 3 vL L.length (L.flatMap Eg)
 o : NumO w base vR vP vI vE vF R A
 base : base ≤ w.heap.size
 nd : L.Nodup
section
variable {w w' : World} {base b m : Nat} {vL vR vP vI vE vF : Value} {L : List G1} {R : List Edge} {A : Buchi} {S : Nat → Prop}
theorem NumX.keep (h : NumX w base b m vL vR vP vI vE vF L R A) (k : Chg S w w') (hb : ¬ S b) (hm : ¬ S m) (hL : ∀ g,vL.ownBlock = some g → ¬ S g) (hS : ∀ g,Ho vR vP vI vE vF g → ¬ S g) : NumX w' base b m vL vR vP vI vE vF L R A :=
 ⟨k.own h.hdr hb,h.map.chg k hm,Ab h.rL k hL,h.o.keep k hS,Nat.le_trans h.base k.size,h.nd⟩
theorem NumX.kp (h : NumX w base b m vL vR vP vI vE vF L R A) (k : Kp w w') : NumX w' base b m vL vR vP vI vE vF L R A := h.keep k id id (fun _ _ => id) fun _ _ => id
theorem NumX.offL (h : NumX w base b m vL vR vP vI vE vF L R A) {g : Nat} (hg : vL.ownBlock = some g) : ¬ Ho vR vP vI vE vF g := by
 obtain ⟨cur,hc⟩ := G3 h.rL hg
 exact h.o.off hc fun cs fr => ⟨fun hh => by injection hh with _ h; exact absurd h (by decide),fun hh => by injection hh with _ h; exact absurd h (by decide),fun hh => by injection hh with _ h; exact absurd h (by decide)⟩
theorem NumX.offB (h : NumX w base b m vL vR vP vI vE vF L R A) : ¬ Ho vR vP vI vE vF b := h.o.offT h.hdr (by decide) (by decide) (by decide)
theorem NumX.offM (h : NumX w base b m vL vR vP vI vE vF L R A) : ¬ Ho vR vP vI vE vF m := by
 obtain ⟨es,clk,hm,-⟩ := h.map.h
 exact h.o.off hm fun cs fr => ⟨fun hh => (by cases hh),fun hh => (by cases hh),fun hh => (by cases hh)⟩
theorem NumX.bL (h : NumX w base b m vL vR vP vI vE vF L R A) : vL.ownBlock ≠ some b := Ai h.rL h.hdr fun cs fr hh => by injection hh with _ h2; exact absurd h2 (by decide)
theorem NumX.mL (h : NumX w base b m vL vR vP vI vE vF L R A) : vL.ownBlock ≠ some m := by
 obtain ⟨es,clk,hm,-⟩ := h.map.h
 exact Ai h.rL hm fun cs fr hh => by cases hh
theorem NumX.bm (h : NumX w base b m vL vR vP vI vE vF L R A) : b ≠ m := h.map.ne h.hdr
end
theorem Yi (R : List Edge) : (R.flatMap Edge.cells).all (·.oneCell') = true := by
 induction R with
 | nil => rfl
 | cons e r ih => rw [List.flatMap_cons,List.all_append,ih]; rfl
section
variable {w w' : World} {base b m : Nat} {vL vR vP vI vE vF : Value} {L : List G1} {R : List Edge} {A : Buchi}
theorem NumX.mR (h : NumX w base b m vL vR vP vI vE vF L R A) {g : Nat} (hg : Ho vR vP vI vE vF g) : g ≠ m ∧ g ≠ b ∧ vL.ownBlock ≠ some g :=
 ⟨fun he => h.offM (he ▸ hg),fun he => h.offB (he ▸ hg),fun he => h.offL he hg⟩
theorem NumX.newR (h : NumX w base b m vL vR vP vI vE vF L R A) (c : Chg (fun j => j = b ∨ some j = vR.ownBlock) w w') {vR' : Value} {R' : List Edge} (hdr : Own w' b 101 [vL,.map (some m),vR',vP,.int .i64 A.states,vI,vE,vF])
 (rR : w'.ownsRow base 67 4 vR' R'.length (R'.flatMap Edge.cells)) (hn : ∀ g,vR'.ownBlock = some g → vR.ownBlock = some g ∨ w.heap.size ≤ g) : NumX w' base b m vL vR' vP vI vE vF L R' A := by
 have hm : ¬ (m = b ∨ some m = vR.ownBlock) := fun hh => hh.elim (fun he => h.bm he.symm) fun he => (h.mR (g := m) (.inl he.symm)).1 rfl
 have hL : ∀ g,vL.ownBlock = some g → ¬ (g = b ∨ some g = vR.ownBlock) := fun g hg hh => hh.elim (fun he => h.bL (he ▸ hg)) fun he => (h.mR (g := g) (.inl he.symm)).2.2 hg
 have hb : ∀ g,Ho vR vP vI vE vF g → g ≠ b := fun g hg => (h.mR hg).2.1
 refine ⟨hdr,h.map.chg c hm,Ab h.rL c hL,⟨rR,Ab h.o.rP c fun g hg hh => ?_,Ab h.o.rI c fun g hg hh => ?_,Ab h.o.rE c fun g hg hh => ?_,Ab h.o.rF c fun g hg hh => ?_,h.o.sI,fun g hg he => ?_⟩,Nat.le_trans h.base c.size,h.nd⟩
 · exact hh.elim (hb g (.inr (.inl hg))) fun he => Aq h.o.rR h.o.rP (by decide) g he.symm hg
 · exact hh.elim (hb g (.inr (.inr (.inl hg)))) fun he => Aq h.o.rR h.o.rI (by decide) g he.symm hg
 · exact hh.elim (hb g (.inr (.inr (.inr (.inl hg))))) fun he => h.o.sE g he.symm hg
 · exact hh.elim (hb g (.inr (.inr (.inr (.inr hg))))) fun he => Aq h.o.rR h.o.rF (by decide) g he.symm hg
 · rcases hn g hg with h1 | h1
   · exact h.o.sE g h1 he
   · have := (h.o.rE.lt g he).2; omega
theorem NumX.newE (h : NumX w base b m vL vR vP vI vE vF L R A) (c : Chg (fun j => j = b ∨ some j = vE.ownBlock) w w') {vE' : Value} {E' : List Edge} {s : Int} (hdr : Own w' b 101 [vL,.map (some m),Ad,vP,.int .i64 s,vI,vE',vF])
 (rE : w'.ownsRow base 67 4 vE' E'.length (E'.flatMap Edge.cells)) : NumX w' base b m vL Ad vP vI vE' vF L [] { A with edges := E',states := s } := by
 have hm : ¬ (m = b ∨ some m = vE.ownBlock) := fun hh => hh.elim (fun he => h.bm he.symm) fun he => (h.mR (g := m) (.inr (.inr (.inr (.inl he.symm))))).1 rfl
 have hL : ∀ g,vL.ownBlock = some g → ¬ (g = b ∨ some g = vE.ownBlock) := fun g hg hh => hh.elim (fun he => h.bL (he ▸ hg)) fun he => (h.mR (g := g) (.inr (.inr (.inr (.inl he.symm))))).2.2 hg
 have hb : ∀ g,Ho vR vP vI vE vF g → g ≠ b := fun g hg => (h.mR hg).2.1
 refine ⟨hdr,h.map.chg c hm,Ab h.rL c hL,⟨World.ownsRow_nil _ _ _ _,Ab h.o.rP c fun g hg hh => ?_,Ab h.o.rI c fun g hg hh => ?_,rE,Ab h.o.rF c fun g hg hh => ?_,h.o.sI,fun g hg => by cases hg⟩,Nat.le_trans h.base c.size,h.nd⟩
 · exact hh.elim (hb g (.inr (.inl hg))) fun he => Aq h.o.rE h.o.rP (by decide) g he.symm hg
 · exact hh.elim (hb g (.inr (.inr (.inl hg)))) fun he => Aq h.o.rE h.o.rI (by decide) g he.symm hg
 · exact hh.elim (hb g (.inr (.inr (.inr (.inr hg))))) fun he => Aq h.o.rE h.o.rF (by decide) g he.symm hg
theorem NumX.newF (h : NumX w base b m vL vR vP vI vE vF L R A) (c : Chg (fun j => j = b ∨ some j = vF.ownBlock) w w') {vF' : Value} {F' : List Int} (hdr : Own w' b 101 [vL,.map (some m),vR,vP,.int .i64 A.states,vI,vE,vF'])
 (rF : w'.ownsRow base 3 1 vF' F'.length (F'.flatMap Ia)) (hn : ∀ g,vF'.ownBlock = some g → vF.ownBlock = some g ∨ w.heap.size ≤ g) : NumX w' base b m vL vR vP vI vE vF' L R { A with final := F' } := by
 have hm : ¬ (m = b ∨ some m = vF.ownBlock) := fun hh => hh.elim (fun he => h.bm he.symm) fun he => (h.mR (g := m) (.inr (.inr (.inr (.inr he.symm))))).1 rfl
 have hL : ∀ g,vL.ownBlock = some g → ¬ (g = b ∨ some g = vF.ownBlock) := fun g hg hh => hh.elim (fun he => h.bL (he ▸ hg)) fun he => (h.mR (g := g) (.inr (.inr (.inr (.inr he.symm))))).2.2 hg
 have hb : ∀ g,Ho vR vP vI vE vF g → g ≠ b := fun g hg => (h.mR hg).2.1
 refine ⟨hdr,h.map.chg c hm,Ab h.rL c hL,⟨Ab h.o.rR c fun g hg hh => ?_,Ab h.o.rP c fun g hg hh => ?_,Ab h.o.rI c fun g hg hh => ?_,Ab h.o.rE c fun g hg hh => ?_,rF,fun g hg he => ?_,h.o.sE⟩,Nat.le_trans h.base c.size,h.nd⟩
 · exact hh.elim (hb g (.inl hg)) fun he => Aq h.o.rF h.o.rR (by decide) g he.symm hg
 · exact hh.elim (hb g (.inr (.inl hg))) fun he => Aq h.o.rF h.o.rP (by decide) g he.symm hg
 · exact hh.elim (hb g (.inr (.inr (.inl hg)))) fun he => h.o.sI g hg he.symm
 · exact hh.elim (hb g (.inr (.inr (.inr (.inl hg))))) fun he => Aq h.o.rF h.o.rE (by decide) g he.symm hg
 · rcases hn g he with h1 | h1
   · exact h.o.sI g hg h1
   · have := (h.o.rI.lt g hg).2; omega
end
theorem I8 : Af prog 52 = true := by kernel_rfl
theorem Qa {w : World} {base b m : Nat} {vL vR vP vI vE vF : Value} {L : List G1} {R : List Edge} {A : Buchi} (h : NumX w base b m vL vR vP vI vE vF L R A) {p : G1} (hp : T64 p) (hl : L.length < 1000000) :
 Calls prog 52 [pt b 0,H9 p].toArray w (Bg fun r w' => r = .int .i64 (J6 L p : Nat) ∧ ∃ vL',NumX w' base b m vL' vR vP vI vE vF (Tk L p) R A ∧
  Chg (fun k => k = b ∨ k = m ∨ some k = vL.ownBlock) w w' ∧ (∀ g,vL'.ownBlock = some g → vL.ownBlock = some g ∨ w.heap.size ≤ g) ∧ w.heap.size < w'.heap.size) := by
 refine call Aa func52 rfl ntmps52 (by kernel_rfl) ?_
 refine nd fun q w1 e1 s1 k1 m1 => ?_
 have mq : Own w1 q 104 (Eg p) := m1
 have h1 := h.kp k1
 have hdr := h1.hdr
 have hmap := h1.map
 have hk := Zb hp
 have hlook : ∀ W,MapE prog 104 H9 (fun n : Int => .int .i64 n) W m (Ji L) → (Instr.lookup 99 (.map (some m)) (H9 p) true).run prog W = .ok (match Bn (Ji L) p with
  | some v => .tuple #[.int .i64 v,.bool true]
  | none => .tuple #[.int .i64 0,.bool false]) W := fun W hW => by
  have := MapE.lookup Aa Nv (t := 99) rfl rfl rfl hW p hk true
  refine this.trans ?_
  cases Bn (Ji L) p <;> rfl
 have hal := Jk (p := p) L 0
 have nqL : vL.ownBlock ≠ some q := fun hh => by have := (h.rL.lt q hh).2; omega
 by_cases hpL : p ∈ L
 · rw [if_pos hpL,Nat.zero_add] at hal
   refine Ax Aa mixed 11 (by kernel_rfl) (fun _ => False) ?_
   conv => whnf
   refine A7 Aa rfl rfl (fun W hW _ => Own.at_ (xs := [.map (some m)]) (o := 1) (hW.own hdr id) rfl) (by rfl) fun _ => ?_
   conv => whnf
   refine A7 (v := H9 p) Aa rfl rfl (fun W hW _ => Own.at_ (xs := Eg p) (o := 0) (hW.own mq id) rfl) (by rfl) fun _ => ?_
   conv => whnf
   refine Zt (v := .tuple #[.int .i64 (L.idxOf p : Nat),.bool true]) (Fh _) rfl (fun W hW _ => by have := hlook W (hmap.chg hW id); rw [hal] at this; exact this) fun _ => ?_
   conv => whnf
   intro W hW _
   have kW := k1.trans hW
   refine ⟨congrArg (fun i : Nat => Value.int .i64 (i : Int)) (Vg hpL).symm,vL,?_,kW.mono fun _ hf => hf.elim,fun g hg => .inl hg,by have := hW.size; omega⟩
   rw [Tj hpL]
   exact h.kp kW
 rw [if_neg hpL] at hal
 refine Ax Aa mixed 11 (by kernel_rfl) (fun _ => False) ?_
 conv => whnf
 refine A7 Aa rfl rfl (fun W hW _ => Own.at_ (xs := [.map (some m)]) (o := 1) (hW.own hdr id) rfl) (by rfl) fun _ => ?_
 conv => whnf
 refine A7 (v := H9 p) Aa rfl rfl (fun W hW _ => Own.at_ (xs := Eg p) (o := 0) (hW.own mq id) rfl) (by rfl) fun _ => ?_
 conv => whnf
 refine Zt (v := .tuple #[.int .i64 0,.bool false]) (Fh _) rfl (fun W hW _ => by have := hlook W (hmap.chg hW id); rw [hal] at this; exact this) fun _ => ?_
 conv => whnf
 intro w2 k2 _
 have k12 := k1.trans k2
 have h2 := h.kp k12
 have mq := k2.own mq id
 have hf := Ae h2.rL
 obtain ⟨va,vc,rfl⟩ := hf
 have hLt : ∀ g,(Value.slice va L.length vc).ownBlock = some g → g < w2.heap.size := fun g hg => (h2.rL.lt g hg).2
 have hne_b : some b ≠ (Value.slice va L.length vc).ownBlock := fun he => h2.bL he.symm
 have hne_m : some m ≠ (Value.slice va L.length vc).ownBlock := fun he => h2.mL he.symm
 have hne_q : some q ≠ (Value.slice va L.length vc).ownBlock := fun he => nqL he.symm
 have hpre := Ek w2 (.slice va L.length vc) (L.length * 3) (Eg p)
 refine Dg Aa mixed 10 (by kernel_rfl) _ hpre ?_
 conv => whnf
 refine Gy hpre Aa rfl rfl (fun W hW _ => hW.chg.range (Own.at_ (xs := [.slice va L.length vc]) (o := 0) h2.hdr rfl) hne_b) (by rfl) fun _ => ?_
 conv => whnf
 refine Gy (v := H9 p) hpre Aa rfl rfl (fun W hW _ => hW.chg.range (Own.at_ (xs := Eg p) (o := 0) mq rfl) hne_q) (by rfl) fun _ => ?_
 conv => whnf
 refine Uh hpre rfl rfl rfl rfl rfl (by decide) (fun b o W W' hb ho hS => hS.chg.heap ho fun hc => by have := hLt b hc.symm; omega) (fun W hS => hS.chg.size) fun q2 D hD => ?_
 conv => whnf
 refine apr (m := 1) (news := Eg p) Aa rfl rfl rfl rfl rfl rfl rfl (by decide) h2.rL rfl (fun W hS hDn => Own.at_ (xs := Eg p) (o := 0) (hD W (hDn 6 (by kernel_rfl))).1 rfl) rfl (by simp only [maxLen]; omega) (by show (L.length + 1) * 24 ≤ _; omega) h2.base fun v' D2 hD2 => ?_
 conv => whnf
 intro w5 hS5 hd5
 have hD5 := hD2 w5 (hd5 7)
 obtain ⟨hown,hnew⟩ := hD5
 have hf5 := Ae hown
 obtain ⟨vb,vd,rfl⟩ := hf5
 have hdr5 := hS5.chg.own h2.hdr hne_b
 refine st Aa hdr5 rfl (show 1 ≤ 8 by decide) rfl ?_
 intro w6 z6 c6 hdr6
 have hdr6 : Own w6 b 101 [.slice vb (L.length + 1) vd,.map (some m),vR,vP,.int .i64 A.states,vI,vE,vF] := hdr6
 have hbm := h.bm
 have hm6 := (h2.map.chg hS5.chg hne_m).chg c6 (Ne.symm hbm)
 have mq6 := c6.own (hS5.chg.own mq hne_q) (A2 mq h2.hdr (by decide))
 have o6 := (h2.o.keep hS5.chg fun g hg he => h2.offL he.symm hg).keep c6 fun g hg he => h2.offB (by rw [← show g = b from he]; exact hg)
 have hnb5 : ∀ g,(Value.slice vb (L.length + 1) vd).ownBlock = some g → ¬ g = b := fun g hg he => by
  subst he
  exact Ai hown hdr5 (fun cs fr hh => by injection hh with _ h2; exact absurd h2 (by decide)) hg
 have hrow6 := Ab hown c6 hnb5
 refine Ax Aa mixed 11 (by kernel_rfl) (fun _ => False) ?_
 conv => whnf
 refine A7 Aa rfl rfl (fun W hW _ => Own.at_ (xs := [.map (some m)]) (o := 1) (hW.own hdr6 id) rfl) (by rfl) fun _ => ?_
 conv => whnf
 refine A7 (v := H9 p) Aa rfl rfl (fun W hW _ => Own.at_ (xs := Eg p) (o := 0) (hW.own mq6 id) rfl) (by rfl) fun _ => ?_
 conv => whnf
 refine A7 Aa rfl rfl (fun W hW _ => Own.at_ (xs := [.slice vb (L.length + 1) vd]) (o := 0) (hW.own hdr6 id) rfl) (by rfl) fun _ => ?_
 conv => whnf
 refine C3 (show _ = ((L.length : Nat) : Int) by rw [show (((L.length + 1 : Nat) : Int) - 1) = ((L.length : Nat) : Int) by omega]; exact As (by omega) (by omega)) ?_
 conv => whnf
 intro w7 k7 _
 have hdr7 := k7.own hdr6 id
 have hmap7 := hm6.chg k7 id
 have hup := MapE.update Aa Nv (t := 99) rfl rfl hmap7 p ((L.length : Nat) : Int) hk
 refine mu hup ?_
 rintro w8 ⟨hmap8,z8,c8⟩
 have hput : aput (Ji L) p ((L.length : Nat) : Int) = Ji (L ++ [p]) := by
  rw [Ji,Ji,Jj,Nat.zero_add,Cz fun y hy he => hpL (by
   have : y.1 ∈ (Dc 0 L).map (·.1) := List.mem_map.2 ⟨y,hy,rfl⟩
   rw [Jl,he] at this
   exact this)]
 rw [hput] at hmap8
 have hdr8 := c8.own hdr7 hbm
 refine ld Aa (Own.at_ (xs := [.slice vb (L.length + 1) vd]) (o := 0) hdr8 rfl) (by rfl) ?_
 refine C3 (show _ = ((L.length : Nat) : Int) by rw [show (((L.length + 1 : Nat) : Int) - 1) = ((L.length : Nat) : Int) by omega]; exact As (by omega) (by omega)) ?_
 have hnm5 : ∀ g,(Value.slice vb (L.length + 1) vd).ownBlock = some g → ¬ g = m := fun g hg he => by
  subst he
  obtain ⟨es,clk,hms,-⟩ := hmap7.h
  exact Ai (Ab hrow6 k7 fun _ _ => id) hms (fun cs fr hh => by cases hh) hg
 have hrow8 := Ab (Ab hrow6 k7 fun _ _ => id) c8 hnm5
 have o8 := (o6.keep k7 fun _ _ => id).keep c8 fun g hg he => h2.offM (by rw [← show g = m from he]; exact hg)
 have z2 := k2.size
 have z5 := hS5.chg.size
 have z6' := c6.size
 have z7 := k7.size
 have z8' := c8.size
 refine ⟨congrArg (fun i : Nat => Value.int .i64 (i : Int)) (Vf hpL).symm,.slice vb (L.length + 1) vd,?_,?_,?_,by omega⟩
 · rw [Oi hpL]
   refine ⟨hdr8,hmap8,?_,o8,by have := h.base; omega,Oi hpL ▸ Ve h.nd⟩
   rw [List.length_append,List.flatMap_append]
   exact hrow8
 · have d1 : Chg (fun k => k = b ∨ k = m ∨ some k = (Value.slice va L.length vc).ownBlock) w w2 := k12.mono fun _ hf => hf.elim
   have d3 : Chg (fun k => k = b ∨ k = m ∨ some k = (Value.slice va L.length vc).ownBlock) w2 w5 := hS5.chg.mono fun _ h => .inr (.inr h)
   have d4 : Chg (fun k => k = b ∨ k = m ∨ some k = (Value.slice va L.length vc).ownBlock) w5 w6 := c6.mono fun _ h => .inl h
   have d5 : Chg (fun k => k = b ∨ k = m ∨ some k = (Value.slice va L.length vc).ownBlock) w6 w7 := k7.mono fun _ hf => hf.elim
   have d6 : Chg (fun k => k = b ∨ k = m ∨ some k = (Value.slice va L.length vc).ownBlock) w7 w8 := c8.mono fun _ h => .inr (.inl h)
   exact (((d1.trans d3).trans d4).trans d5).trans d6
 · intro g hg
   exact (hnew g hg).imp id fun h => by omega
end Go.Au
namespace Go.Au
open Go.Proofs.Tryz
open Go Go.RowKit Go.MapKept
theorem Ls (a b : Edge) : Dr a b = Ee a b := rfl
theorem L7 : Af prog 54 = true := by kernel_rfl
set_option maxHeartbeats 2000000 in
theorem Rm {w : World} {base b m : Nat} {vL vR vP vI vE vF : Value} {L : List G1} {R : List Edge} {A : Buchi} (h : NumX w base b m vL vR vP vI vE vF L R A) (hR : R.Pairwise fun x y => Ee x y = true) (hl : R.length < 1000000000) (e : Edge) :
 Calls prog 54 [pt b 0,e.val].toArray w (Bg fun _ w' => ∃ R' vR',Ins R e R' ∧ NumX w' base b m vL vR' vP vI vE vF L R' A ∧
  Chg (fun k => k = b ∨ some k = vR.ownBlock) w w' ∧ (∀ g,vR'.ownBlock = some g → vR.ownBlock = some g ∨ w.heap.size ≤ g)) := by
 have hk4 : ∀ x : Edge,x.cells.length = 4 := fun _ => rfl
 have hf := Ae h.o.rR
 obtain ⟨ra,rc,rfl⟩ := hf
 have hrd : ∀ (k : Nat) (x : Edge),R[k]? = some x → ∃ g,ra = some ⟨g,0,none⟩ ∧ w.rangeAt g (0 + k * 4) x.cells := fun k x hx => by
  have hkl := (List.getElem?_eq_some_iff.1 hx).1
  obtain ⟨g,cap,rest,h0,-,hO,-⟩ := Cl hk4 h.o.rR hkl
  injection h0 with h0 _ _
  exact ⟨g,h0,D9 hk4 hx hO⟩
 refine call Aa func54 rfl ntmps54 (by kernel_rfl) ?_
 refine nd fun q w1 e1 s1 k1 m1 => ?_
 have mq : Own w1 q 67 e.cells := m1
 have hR1 := h.kp k1
 refine ld Aa (Own.at_ (xs := [.slice ra R.length rc]) (o := 2) hR1.hdr rfl) (by rfl) ?_
 refine loop Aa (σ := Nat) (fun k => [(0,pt b 0),(3,pt q 0),(4,.int .i64 k)]) (fun k W => Kp w1 W ∧ k ≤ R.length ∧ ∀ (j : Nat) (x : Edge),k ≤ j → R[j]? = some x → Ee e x = true) (fun k => k) R.length
  ⟨rfl,rfl,rfl,trivial⟩ ⟨Chg.refl _ _,Nat.le_refl _,fun j x hj hx => by have := (List.getElem?_eq_some_iff.1 hx).1; omega⟩ ?_
 rintro k e0 w2 ⟨k2,hk,hge⟩
 by_cases hk0 : 0 < k
 · have hxk : R[k - 1]? = some (R[k - 1]'(by omega)) := List.getElem?_eq_getElem _
   have hXe : ∃ X,X = R[k - 1]'(by omega) := ⟨_,rfl⟩
   obtain ⟨X,hX⟩ := hXe
   rw [← hX] at hxk
   have hg0 := hrd (k - 1) X hxk
   obtain ⟨gr,hgr,hrd0⟩ := hg0
   subst hgr
   have hrdW : ∀ W,Kp w2 W → W.rangeAt gr (0 + (k - 1) * 4) X.cells := fun W hW => ((k1.trans k2).trans hW).range hrd0 id
   refine Ax Aa mixed 14 (by kernel_rfl) (fun _ => False) ?_
   conv => whnf
   refine Dj (by omega) ?_
   conv => whnf
   refine A7 Aa (v := e.val) rfl rfl (fun W hW _ => Own.at_ (xs := e.cells) (o := 0) ((k2.trans hW).own mq id) rfl) (by rfl) fun _ => ?_
   conv => whnf
   refine A7 Aa (v := .slice (some ⟨gr,0,none⟩) R.length rc) rfl rfl (fun W hW _ => Own.at_ (xs := [.slice (some ⟨gr,0,none⟩) R.length rc]) (o := 2) ((k2.trans hW).own hR1.hdr id) rfl) (by rfl) fun _ => ?_
   conv => whnf
   refine C3 (show _ = ((k - 1 : Nat) : Int) by rw [show ((k : Int) - 1) = ((k - 1 : Nat) : Int) by omega]; exact As (by omega) (by omega)) ?_
   conv => whnf
   refine ne ⟨by omega,by omega⟩ ?_
   conv => whnf
   refine A7 Aa (v := X.val) rfl rfl (fun W hW _ => by rw [Int.toNat_natCast]; exact hrdW W hW) (by rfl) fun _ => ?_
   conv => whnf
   cases hah : Ee e X with
   | true =>
    refine Co (v := .bool true) rfl rfl rfl Jd (fun W _ _ => by have := Nn W e X; rw [Ls,hah] at this; exact this) fun _ => ?_
    conv => whnf
    intro W hW _
    refine C3 (show _ = ((k - 1 : Nat) : Int) by rw [show ((k : Int) - 1) = ((k - 1 : Nat) : Int) by omega]; exact As (by omega) (by omega)) ?_
    refine again (k - 1) ⟨rfl,rfl,rfl,trivial⟩ ⟨k2.trans hW,by omega,fun j x hj hx => ?_⟩ (by omega)
    rcases Nat.lt_or_ge j k with h1 | h1
    · obtain rfl : j = k - 1 := by omega
      rw [hxk] at hx
      cases hx
      exact hah
    · exact hge j x h1 hx
   | false =>
    refine Co (v := .bool false) rfl rfl rfl Jd (fun W _ _ => by have := Nn W e X; rw [Ls,hah] at this; exact this) fun _ => ?_
    conv => whnf
    intro w3 k3 _
    have k23 := k2.trans k3
    refine Ax Aa mixed 14 (by kernel_rfl) (fun _ => False) ?_
    conv => whnf
    refine Dj (by omega) ?_
    conv => whnf
    refine A7 Aa (v := .slice (some ⟨gr,0,none⟩) R.length rc) rfl rfl (fun W hW _ => Own.at_ (xs := [.slice (some ⟨gr,0,none⟩) R.length rc]) (o := 2) ((k23.trans hW).own hR1.hdr id) rfl) (by rfl) fun _ => ?_
    conv => whnf
    refine C3 (show _ = ((k - 1 : Nat) : Int) by rw [show ((k : Int) - 1) = ((k - 1 : Nat) : Int) by omega]; exact As (by omega) (by omega)) ?_
    conv => whnf
    refine ne ⟨by omega,by omega⟩ ?_
    conv => whnf
    refine A7 Aa (v := X.val) rfl rfl (fun W hW _ => by rw [Int.toNat_natCast]; exact hrdW W (k3.trans hW)) (by rfl) fun _ => ?_
    conv => whnf
    refine A7 Aa (v := e.val) rfl rfl (fun W hW _ => Own.at_ (xs := e.cells) (o := 0) ((k23.trans hW).own mq id) rfl) (by rfl) fun _ => ?_
    conv => whnf
    refine ne ⟨by kernel_rfl,by kernel_rfl⟩ ?_
    conv => whnf
    by_cases hXe : X = e
    · refine Dj ((Mg X e).2 hXe) ?_
      conv => whnf
      intro w4 k4 _
      have kk := (k1.trans k23).trans k4
      exact ⟨R,_,Wy hR (hXe ▸ List.mem_of_getElem? hxk),h.kp kk,kk.mono fun _ hf => hf.elim,fun g hg => .inl hg⟩
    · refine Bs (fun hh => hXe ((Mg X e).1 hh)) ?_
      conv => whnf
      intro w4 k4 _
      have k14 := k23.trans k4
      have hlt : ∀ x,0 < k → R[k - 1]? = some x → Ee e x = false ∧ x ≠ e := fun x _ hx => by
       rw [hxk] at hx
       cases hx
       exact ⟨hah,hXe⟩
      clear hrdW hrd0 hrd
      have h4 := hR1.kp k14
      have mq4 := k14.own mq id
      have hLt : ∀ g,(Value.slice (some ⟨gr,0,none⟩) R.length rc).ownBlock = some g → g < w4.heap.size := fun g hg => (h4.o.rR.lt g hg).2
      have hLt0 : ∀ g,(Value.slice (some ⟨gr,0,none⟩) R.length rc).ownBlock = some g → g < w.heap.size := fun g hg => (h.o.rR.lt g hg).2
      have hne_b : some b ≠ (Value.slice (some ⟨gr,0,none⟩) R.length rc).ownBlock := fun he => (h4.mR (g := b) (.inl he.symm)).2.1 rfl
      have hne_q : some q ≠ (Value.slice (some ⟨gr,0,none⟩) R.length rc).ownBlock := fun he => by have := hLt0 q he.symm; omega
      have hpre := Ek w4 (.slice (some ⟨gr,0,none⟩) R.length rc) (R.length * 4) e.cells
      refine Dg Aa mixed 10 (by kernel_rfl) _ hpre ?_
      conv => whnf
      refine Gy hpre Aa rfl rfl (fun W hW _ => hW.chg.range (Own.at_ (xs := [.slice (some ⟨gr,0,none⟩) R.length rc]) (o := 2) h4.hdr rfl) hne_b) (by rfl) fun _ => ?_
      conv => whnf
      refine Gy (v := e.val) hpre Aa rfl rfl (fun W hW _ => hW.chg.range (Own.at_ (xs := e.cells) (o := 0) mq4 rfl) hne_q) (by rfl) fun _ => ?_
      conv => whnf
      refine Uh hpre rfl rfl rfl rfl rfl (by decide) (fun b o W W' hb ho hS => hS.chg.heap ho fun hc => by have := hLt b hc.symm; omega) (fun W hS => hS.chg.size) fun q2 D hD => ?_
      conv => whnf
      refine apr (m := 1) (news := e.cells) Aa rfl rfl rfl rfl rfl rfl rfl (by decide) h4.o.rR rfl (fun W hS hDn => Own.at_ (xs := e.cells) (o := 0) (hD W (hDn 6 (by kernel_rfl))).1 rfl) rfl (by simp only [maxLen]; omega) (by show (R.length + 1) * 24 ≤ _; omega) h4.base fun v' D2 hD2 => ?_
      conv => whnf
      intro w5 hS5 hd5
      have hD5 := hD2 w5 (hd5 7)
      obtain ⟨hown,hnew⟩ := hD5
      have hf5 := Ae hown
      obtain ⟨vb,vd,rfl⟩ := hf5
      have hdr5 := hS5.chg.own h4.hdr hne_b
      refine st Aa hdr5 rfl (show 3 ≤ 8 by decide) rfl ?_
      intro w6 z6 c6 hdr6
      have hdr6 : Own w6 b 101 [vL,.map (some m),.slice vb (R.length + 1) vd,vP,.int .i64 A.states,vI,vE,vF] := hdr6
      have hnb5 : ∀ g,(Value.slice vb (R.length + 1) vd).ownBlock = some g → ¬ g = b := fun g hg he => by
       subst he
       exact Ai hown hdr5 (fun cs fr hh => by injection hh with _ h2; exact absurd h2 (by decide)) hg
      have hrow6 := Ab hown c6 hnb5
      have c46 : Chg (fun j => j = b ∨ some j = (Value.slice (some ⟨gr,0,none⟩) R.length rc).ownBlock) w4 w6 := (hS5.chg.mono fun _ => .inr).trans (c6.mono fun _ => .inl)
      have k04 := k1.trans k14
      have hnew4 : ∀ g,(Value.slice vb (R.length + 1) vd).ownBlock = some g → (Value.slice (some ⟨gr,0,none⟩) R.length rc).ownBlock = some g ∨ w4.heap.size ≤ g := fun g hg => hnew g hg
      have hrow6 : w6.ownsRow base 67 4 (.slice vb (R.length + 1) vd) (R ++ [e]).length ((R ++ [e]).flatMap Edge.cells) := by
       rw [List.length_append,List.flatMap_append]
       exact hrow6
      have hX6 : NumX w6 base b m vL (.slice vb (R.length + 1) vd) vP vI vE vF L (R ++ [e]) A := h4.newR c46 hdr6 hrow6 hnew4
      have hnq : ∀ g,(Value.slice vb (R.length + 1) vd).ownBlock = some g → g ≠ q := fun g hg he => by
       rcases hnew4 g hg with h1 | h1
       · exact hne_q (by rw [← he]; exact h1.symm)
       · have := mq4.lt; omega
      have mq6 : Own w6 q 67 e.cells := c46.own mq4 fun hh => hh.elim (A2 mq4 h4.hdr (by decide)) hne_q
      refine ld Aa (Own.at_ (xs := [.slice vb (R.length + 1) vd]) (o := 2) hX6.hdr rfl) (by rfl) ?_
      refine C3 (show _ = ((R.length : Nat) : Int) by rw [show (((R.length + 1 : Nat) : Int) - 1) = ((R.length : Nat) : Int) by omega]; exact As (by omega) (by omega)) ?_
      have c06 : Chg (fun j => j = b ∨ some j = (Value.slice (some ⟨gr,0,none⟩) R.length rc).ownBlock) w w6 := (k04.mono fun _ hf => hf.elim).trans c46
      have hstep : ∀ (W W' : World) (C C' : List Edge),NumX W base b m vL (.slice vb (R.length + 1) vd) vP vI vE vF L C A → Chg (fun j => j = b ∨ some j = (Value.slice (some ⟨gr,0,none⟩) R.length rc).ownBlock) w W → w6.heap.size ≤ W.heap.size → (∀ g,(Value.slice vb (R.length + 1) vd).ownBlock = some g → Chg (fun j => j = g) W W') → C'.length = C.length → (Value.slice vb (R.length + 1) vd).ownBlock ≠ none → W'.ownsRow base 67 4 (.slice vb (R.length + 1) vd) C'.length (C'.flatMap Edge.cells) →
       NumX W' base b m vL (.slice vb (R.length + 1) vd) vP vI vE vF L C' A ∧ Chg (fun j => j = b ∨ some j = (Value.slice (some ⟨gr,0,none⟩) R.length rc).ownBlock) w W' := fun W W' C C' hW hc hz hg hlen hnn hrow => by
       cases hgv : (Value.slice vb (R.length + 1) vd).ownBlock with
       | none => exact absurd hgv hnn
       | some g =>
        have c := hg g hgv
        have hdr' := c.own hW.hdr fun he => (hW.mR (g := g) (.inl hgv)).2.1 he.symm
        refine ⟨hW.newR (c.mono fun j hj => .inr (by rw [hj]; exact hgv.symm)) hdr' hrow fun g hg => .inl hg,hc.newT c fun j hj => ?_⟩
        rcases hnew4 g hgv with h1 | h1
        · exact .inl (.inr (by rw [hj]; exact h1.symm))
        · exact .inr (by have := k04.size; omega)
      refine loop Aa (σ := Nat × Edge) (fun t => [(0,pt b 0),(3,pt q 0),(4,.int .i64 k),(5,.int .i64 t.1)])
       (fun t W => k ≤ t.1 ∧ t.1 ≤ R.length ∧ NumX W base b m vL (.slice vb (R.length + 1) vd) vP vI vE vF L (R.take t.1 ++ t.2 :: R.drop t.1) A ∧ Own W q 67 e.cells ∧ Chg (fun j => j = b ∨ some j = (Value.slice (some ⟨gr,0,none⟩) R.length rc).ownBlock) w W ∧ w6.heap.size ≤ W.heap.size) (fun t => t.1) (R.length,e)
       ⟨rfl,rfl,rfl,rfl,trivial⟩ ⟨hk,Nat.le_refl _,by simpa using hX6,mq6,c06,Nat.le_refl _⟩ ?_
      rintro ⟨i,y⟩ e1' w7 ⟨hki,hi,hX7,mq7,c07,hz7⟩
      simp only at hki hi hX7
      have hCl : (R.take i ++ y :: R.drop i).length = R.length + 1 := by simp; omega
      refine sp (fun hgt => ?_) (fun hle => ?_)
      · have hgt : k < i := by simp only at hgt; omega
        have hxi : R[i - 1]? = some (R[i - 1]'(by omega)) := List.getElem?_eq_getElem _
        have hYe : ∃ Y,Y = R[i - 1]'(by omega) := ⟨_,rfl⟩
        obtain ⟨Y,hY⟩ := hYe
        rw [← hY] at hxi
        have hCi : (R.take i ++ y :: R.drop i)[i - 1]? = some Y := by rw [List.getElem?_append_left (by simp; omega),List.getElem?_take,if_pos (by omega),hxi]
        have hsp := Cl hk4 hX7.o.rR (k := i) (by rw [hCl]; omega)
        obtain ⟨g,cap,rest,hv,-,hO,hmk⟩ := hsp
        rw [hCl] at hv
        injection hv with hv1 _ hv2
        subst hv1 hv2
        refine Ax Aa mixed 14 (by kernel_rfl) (fun _ => False) ?_
        conv => whnf
        refine A7 Aa (v := .slice (some ⟨g,0,none⟩) (R.length + 1) vd) rfl rfl (fun W hW _ => Own.at_ (xs := [.slice (some ⟨g,0,none⟩) (R.length + 1) vd]) (o := 2) (hW.own hX7.hdr id) rfl) (by rfl) fun _ => ?_
        conv => whnf
        refine A7 Aa (v := .slice (some ⟨g,0,none⟩) (R.length + 1) vd) rfl rfl (fun W hW _ => Own.at_ (xs := [.slice (some ⟨g,0,none⟩) (R.length + 1) vd]) (o := 2) (hW.own hX7.hdr id) rfl) (by rfl) fun _ => ?_
        conv => whnf
        refine C3 (show _ = ((i - 1 : Nat) : Int) by rw [show ((i : Int) - 1) = ((i - 1 : Nat) : Int) by omega]; exact As (by omega) (by omega)) ?_
        conv => whnf
        refine ne ⟨by omega,by omega⟩ ?_
        conv => whnf
        refine A7 Aa (v := Y.val) rfl rfl (fun W hW _ => by rw [Int.toNat_natCast]; exact D9 hk4 hCi (hW.own hO id)) (by rfl) fun _ => ?_
        conv => whnf
        refine ne ⟨by omega,by omega⟩ ?_
        conv => whnf
        intro w8 k8 _
        refine st Aa (o := 0 + i * 4) (k8.own hO id) (by rfl) (by rw [List.length_append,An hk4,hCl]; show 0 + i * 4 + 4 ≤ _; omega) rfl ?_
        intro w9 z9 c9 m9
        have m9 : Own w9 g 67 (Gk ((R.take i ++ y :: R.drop i).flatMap Edge.cells ++ rest) (0 + i * 4) Y.cells) := m9
        have hset : (R.take i ++ y :: R.drop i).set i Y = R.take (i - 1) ++ Y :: R.drop (i - 1) := by
         rw [List.set_append_right _ _ (by simp; omega),List.length_take,Nat.min_eq_left (by omega),Nat.sub_self,List.set_cons_zero]
         have h1 : R.take i = R.take (i - 1) ++ [Y] := by
          have := List.take_succ_eq_append_getElem (l := R) (i := i - 1) (by omega)
          rw [show i - 1 + 1 = i by omega,← hY] at this
          exact this
         have h2 : R.drop (i - 1) = Y :: R.drop i := by
          have := List.drop_eq_getElem_cons (l := R) (i := i - 1) (by omega)
          rw [show i - 1 + 1 = i by omega,← hY] at this
          exact this
         rw [h1,h2]
         simp
        have hlay := Cn hk4 rest Y (R.take i ++ y :: R.drop i) i (by rw [hCl]; omega)
        rw [hset] at hlay
        rw [Nat.zero_add,hlay] at m9
        have hCl2 : (R.take (i - 1) ++ Y :: R.drop (i - 1)).length = (R.take i ++ y :: R.drop i).length := by rw [hCl]; simp; omega
        have hrow9 := hmk w9 _ hCl2 m9
        rw [← hCl2] at hrow9
        rw [hCl2,hCl] at hrow9
        have hrow9 : w9.ownsRow base 67 4 (.slice (some ⟨g,0,none⟩) (R.length + 1) vd) (R.take (i - 1) ++ Y :: R.drop (i - 1)).length ((R.take (i - 1) ++ Y :: R.drop (i - 1)).flatMap Edge.cells) := by
         rw [hCl2,hCl]; exact hrow9
        have c79 : Chg (fun j => j = g) w7 w9 := (k8.mono fun _ hf => hf.elim).trans c9
        have hs := hstep w7 w9 _ (R.take (i - 1) ++ Y :: R.drop (i - 1)) hX7 c07 hz7 (fun g' hg' => by
         have : g = g' := by simpa [Value.ownBlock] using hg'
         subst this; exact c79) hCl2 (by simp [Value.ownBlock]) hrow9
        refine C3 (show _ = ((i - 1 : Nat) : Int) by rw [show ((i : Int) - 1) = ((i - 1 : Nat) : Int) by omega]; exact As (by omega) (by omega)) ?_
        refine again (i - 1,Y) ⟨rfl,rfl,rfl,rfl,trivial⟩ ⟨by simp only; omega,by simp only; omega,hs.1,?_,hs.2,by have := c79.size; omega⟩ (by simp only; omega)
        exact c79.own mq7 fun he => hnq g (by simp [Value.ownBlock]) he.symm
      · have hki' : i = k := by simp only at hle; omega
        subst hki'
        have hsp := Cl hk4 hX7.o.rR (k := i) (by rw [hCl]; omega)
        obtain ⟨g,cap,rest,hv,-,hO,hmk⟩ := hsp
        rw [hCl] at hv
        injection hv with hv1 _ hv2
        subst hv1 hv2
        refine Ax Aa mixed 7 (by kernel_rfl) (fun _ => False) ?_
        conv => whnf
        refine A7 Aa (v := .slice (some ⟨g,0,none⟩) (R.length + 1) vd) rfl rfl (fun W hW _ => Own.at_ (xs := [.slice (some ⟨g,0,none⟩) (R.length + 1) vd]) (o := 2) (hW.own hX7.hdr id) rfl) (by rfl) fun _ => ?_
        conv => whnf
        refine A7 Aa (v := e.val) rfl rfl (fun W hW _ => Own.at_ (xs := e.cells) (o := 0) (hW.own mq7 id) rfl) (by rfl) fun _ => ?_
        conv => whnf
        refine ne ⟨by omega,by omega⟩ ?_
        conv => whnf
        intro w8 k8 _
        refine st Aa (o := 0 + i * 4) (k8.own hO id) (by rfl) (by rw [List.length_append,An hk4,hCl]; show 0 + i * 4 + 4 ≤ _; omega) rfl ?_
        intro w9 z9 c9 m9
        have m9 : Own w9 g 67 (Gk ((R.take i ++ y :: R.drop i).flatMap Edge.cells ++ rest) (0 + i * 4) e.cells) := m9
        have hset : (R.take i ++ y :: R.drop i).set i e = R.take i ++ e :: R.drop i := by
         rw [List.set_append_right _ _ (by simp; omega),List.length_take,Nat.min_eq_left (by omega),Nat.sub_self,List.set_cons_zero]
        have hlay := Cn hk4 rest e (R.take i ++ y :: R.drop i) i (by rw [hCl]; omega)
        rw [hset] at hlay
        rw [Nat.zero_add,hlay] at m9
        have hCl2 : (R.take i ++ e :: R.drop i).length = (R.take i ++ y :: R.drop i).length := by simp
        have hrow9 := hmk w9 _ hCl2 m9
        rw [hCl] at hrow9
        have hrow9 : w9.ownsRow base 67 4 (.slice (some ⟨g,0,none⟩) (R.length + 1) vd) (R.take i ++ e :: R.drop i).length ((R.take i ++ e :: R.drop i).flatMap Edge.cells) := by
         rw [hCl2,hCl]; exact hrow9
        have c79 : Chg (fun j => j = g) w7 w9 := (k8.mono fun _ hf => hf.elim).trans c9
        have hs := hstep w7 w9 _ (R.take i ++ e :: R.drop i) hX7 c07 hz7 (fun g' hg' => by
         have : g = g' := by simpa [Value.ownBlock] using hg'
         subst this; exact c79) hCl2 (by simp [Value.ownBlock]) hrow9
        exact ⟨_,_,Nh hR hk hge hlt,hs.1,hs.2,fun g hg => (hnew4 g hg).imp id fun h => by have := k04.size; omega⟩
 · refine Ax Aa mixed 14 (by kernel_rfl) (fun _ => False) ?_
   conv => whnf
   refine Bs (by omega) ?_
   conv => whnf
   intro w3 k3 _
   refine Ax Aa mixed 14 (by kernel_rfl) (fun _ => False) ?_
   conv => whnf
   refine Bs (by omega) ?_
   conv => whnf
   intro w4 k4 _
   have k14 := (k2.trans k3).trans k4
   have hlt : ∀ x,0 < k → R[k - 1]? = some x → Ee e x = false ∧ x ≠ e := fun x hx _ => absurd hx hk0
   clear hrd
   have h4 := hR1.kp k14
   have mq4 := k14.own mq id
   have hLt : ∀ g,(Value.slice ra R.length rc).ownBlock = some g → g < w4.heap.size := fun g hg => (h4.o.rR.lt g hg).2
   have hLt0 : ∀ g,(Value.slice ra R.length rc).ownBlock = some g → g < w.heap.size := fun g hg => (h.o.rR.lt g hg).2
   have hne_b : some b ≠ (Value.slice ra R.length rc).ownBlock := fun he => (h4.mR (g := b) (.inl he.symm)).2.1 rfl
   have hne_q : some q ≠ (Value.slice ra R.length rc).ownBlock := fun he => by have := hLt0 q he.symm; omega
   have hpre := Ek w4 (.slice ra R.length rc) (R.length * 4) e.cells
   refine Dg Aa mixed 10 (by kernel_rfl) _ hpre ?_
   conv => whnf
   refine Gy hpre Aa rfl rfl (fun W hW _ => hW.chg.range (Own.at_ (xs := [.slice ra R.length rc]) (o := 2) h4.hdr rfl) hne_b) (by rfl) fun _ => ?_
   conv => whnf
   refine Gy (v := e.val) hpre Aa rfl rfl (fun W hW _ => hW.chg.range (Own.at_ (xs := e.cells) (o := 0) mq4 rfl) hne_q) (by rfl) fun _ => ?_
   conv => whnf
   refine Uh hpre rfl rfl rfl rfl rfl (by decide) (fun b o W W' hb ho hS => hS.chg.heap ho fun hc => by have := hLt b hc.symm; omega) (fun W hS => hS.chg.size) fun q2 D hD => ?_
   conv => whnf
   refine apr (m := 1) (news := e.cells) Aa rfl rfl rfl rfl rfl rfl rfl (by decide) h4.o.rR rfl (fun W hS hDn => Own.at_ (xs := e.cells) (o := 0) (hD W (hDn 6 (by kernel_rfl))).1 rfl) rfl (by simp only [maxLen]; omega) (by show (R.length + 1) * 24 ≤ _; omega) h4.base fun v' D2 hD2 => ?_
   conv => whnf
   intro w5 hS5 hd5
   have hD5 := hD2 w5 (hd5 7)
   obtain ⟨hown,hnew⟩ := hD5
   have hf5 := Ae hown
   obtain ⟨vb,vd,rfl⟩ := hf5
   have hdr5 := hS5.chg.own h4.hdr hne_b
   refine st Aa hdr5 rfl (show 3 ≤ 8 by decide) rfl ?_
   intro w6 z6 c6 hdr6
   have hdr6 : Own w6 b 101 [vL,.map (some m),.slice vb (R.length + 1) vd,vP,.int .i64 A.states,vI,vE,vF] := hdr6
   have hnb5 : ∀ g,(Value.slice vb (R.length + 1) vd).ownBlock = some g → ¬ g = b := fun g hg he => by
    subst he
    exact Ai hown hdr5 (fun cs fr hh => by injection hh with _ h2; exact absurd h2 (by decide)) hg
   have hrow6 := Ab hown c6 hnb5
   have c46 : Chg (fun j => j = b ∨ some j = (Value.slice ra R.length rc).ownBlock) w4 w6 := (hS5.chg.mono fun _ => .inr).trans (c6.mono fun _ => .inl)
   have k04 := k1.trans k14
   have hnew4 : ∀ g,(Value.slice vb (R.length + 1) vd).ownBlock = some g → (Value.slice ra R.length rc).ownBlock = some g ∨ w4.heap.size ≤ g := fun g hg => hnew g hg
   have hrow6 : w6.ownsRow base 67 4 (.slice vb (R.length + 1) vd) (R ++ [e]).length ((R ++ [e]).flatMap Edge.cells) := by
    rw [List.length_append,List.flatMap_append]
    exact hrow6
   have hX6 : NumX w6 base b m vL (.slice vb (R.length + 1) vd) vP vI vE vF L (R ++ [e]) A := h4.newR c46 hdr6 hrow6 hnew4
   have hnq : ∀ g,(Value.slice vb (R.length + 1) vd).ownBlock = some g → g ≠ q := fun g hg he => by
    rcases hnew4 g hg with h1 | h1
    · exact hne_q (by rw [← he]; exact h1.symm)
    · have := mq4.lt; omega
   have mq6 : Own w6 q 67 e.cells := c46.own mq4 fun hh => hh.elim (A2 mq4 h4.hdr (by decide)) hne_q
   refine ld Aa (Own.at_ (xs := [.slice vb (R.length + 1) vd]) (o := 2) hX6.hdr rfl) (by rfl) ?_
   refine C3 (show _ = ((R.length : Nat) : Int) by rw [show (((R.length + 1 : Nat) : Int) - 1) = ((R.length : Nat) : Int) by omega]; exact As (by omega) (by omega)) ?_
   have c06 : Chg (fun j => j = b ∨ some j = (Value.slice ra R.length rc).ownBlock) w w6 := (k04.mono fun _ hf => hf.elim).trans c46
   have hstep : ∀ (W W' : World) (C C' : List Edge),NumX W base b m vL (.slice vb (R.length + 1) vd) vP vI vE vF L C A → Chg (fun j => j = b ∨ some j = (Value.slice ra R.length rc).ownBlock) w W → w6.heap.size ≤ W.heap.size → (∀ g,(Value.slice vb (R.length + 1) vd).ownBlock = some g → Chg (fun j => j = g) W W') → C'.length = C.length → (Value.slice vb (R.length + 1) vd).ownBlock ≠ none → W'.ownsRow base 67 4 (.slice vb (R.length + 1) vd) C'.length (C'.flatMap Edge.cells) →
    NumX W' base b m vL (.slice vb (R.length + 1) vd) vP vI vE vF L C' A ∧ Chg (fun j => j = b ∨ some j = (Value.slice ra R.length rc).ownBlock) w W' := fun W W' C C' hW hc hz hg hlen hnn hrow => by
    cases hgv : (Value.slice vb (R.length + 1) vd).ownBlock with
    | none => exact absurd hgv hnn
    | some g =>
     have c := hg g hgv
     have hdr' := c.own hW.hdr fun he => (hW.mR (g := g) (.inl hgv)).2.1 he.symm
     refine ⟨hW.newR (c.mono fun j hj => .inr (by rw [hj]; exact hgv.symm)) hdr' hrow fun g hg => .inl hg,hc.newT c fun j hj => ?_⟩
     rcases hnew4 g hgv with h1 | h1
     · exact .inl (.inr (by rw [hj]; exact h1.symm))
     · exact .inr (by have := k04.size; omega)
   refine loop Aa (σ := Nat × Edge) (fun t => [(0,pt b 0),(3,pt q 0),(4,.int .i64 k),(5,.int .i64 t.1)])
    (fun t W => k ≤ t.1 ∧ t.1 ≤ R.length ∧ NumX W base b m vL (.slice vb (R.length + 1) vd) vP vI vE vF L (R.take t.1 ++ t.2 :: R.drop t.1) A ∧ Own W q 67 e.cells ∧ Chg (fun j => j = b ∨ some j = (Value.slice ra R.length rc).ownBlock) w W ∧ w6.heap.size ≤ W.heap.size) (fun t => t.1) (R.length,e)
    ⟨rfl,rfl,rfl,rfl,trivial⟩ ⟨hk,Nat.le_refl _,by simpa using hX6,mq6,c06,Nat.le_refl _⟩ ?_
   rintro ⟨i,y⟩ e1' w7 ⟨hki,hi,hX7,mq7,c07,hz7⟩
   simp only at hki hi hX7
   have hCl : (R.take i ++ y :: R.drop i).length = R.length + 1 := by simp; omega
   refine sp (fun hgt => ?_) (fun hle => ?_)
   · have hgt : k < i := by simp only at hgt; omega
     have hxi : R[i - 1]? = some (R[i - 1]'(by omega)) := List.getElem?_eq_getElem _
     have hYe : ∃ Y,Y = R[i - 1]'(by omega) := ⟨_,rfl⟩
     obtain ⟨Y,hY⟩ := hYe
     rw [← hY] at hxi
     have hCi : (R.take i ++ y :: R.drop i)[i - 1]? = some Y := by rw [List.getElem?_append_left (by simp; omega),List.getElem?_take,if_pos (by omega),hxi]
     have hsp := Cl hk4 hX7.o.rR (k := i) (by rw [hCl]; omega)
     obtain ⟨g,cap,rest,hv,-,hO,hmk⟩ := hsp
     rw [hCl] at hv
     injection hv with hv1 _ hv2
     subst hv1 hv2
     refine Ax Aa mixed 14 (by kernel_rfl) (fun _ => False) ?_
     conv => whnf
     refine A7 Aa (v := .slice (some ⟨g,0,none⟩) (R.length + 1) vd) rfl rfl (fun W hW _ => Own.at_ (xs := [.slice (some ⟨g,0,none⟩) (R.length + 1) vd]) (o := 2) (hW.own hX7.hdr id) rfl) (by rfl) fun _ => ?_
     conv => whnf
     refine A7 Aa (v := .slice (some ⟨g,0,none⟩) (R.length + 1) vd) rfl rfl (fun W hW _ => Own.at_ (xs := [.slice (some ⟨g,0,none⟩) (R.length + 1) vd]) (o := 2) (hW.own hX7.hdr id) rfl) (by rfl) fun _ => ?_
     conv => whnf
     refine C3 (show _ = ((i - 1 : Nat) : Int) by rw [show ((i : Int) - 1) = ((i - 1 : Nat) : Int) by omega]; exact As (by omega) (by omega)) ?_
     conv => whnf
     refine ne ⟨by omega,by omega⟩ ?_
     conv => whnf
     refine A7 Aa (v := Y.val) rfl rfl (fun W hW _ => by rw [Int.toNat_natCast]; exact D9 hk4 hCi (hW.own hO id)) (by rfl) fun _ => ?_
     conv => whnf
     refine ne ⟨by omega,by omega⟩ ?_
     conv => whnf
     intro w8 k8 _
     refine st Aa (o := 0 + i * 4) (k8.own hO id) (by rfl) (by rw [List.length_append,An hk4,hCl]; show 0 + i * 4 + 4 ≤ _; omega) rfl ?_
     intro w9 z9 c9 m9
     have m9 : Own w9 g 67 (Gk ((R.take i ++ y :: R.drop i).flatMap Edge.cells ++ rest) (0 + i * 4) Y.cells) := m9
     have hset : (R.take i ++ y :: R.drop i).set i Y = R.take (i - 1) ++ Y :: R.drop (i - 1) := by
      rw [List.set_append_right _ _ (by simp; omega),List.length_take,Nat.min_eq_left (by omega),Nat.sub_self,List.set_cons_zero]
      have h1 : R.take i = R.take (i - 1) ++ [Y] := by
       have := List.take_succ_eq_append_getElem (l := R) (i := i - 1) (by omega)
       rw [show i - 1 + 1 = i by omega,← hY] at this
       exact this
      have h2 : R.drop (i - 1) = Y :: R.drop i := by
       have := List.drop_eq_getElem_cons (l := R) (i := i - 1) (by omega)
       rw [show i - 1 + 1 = i by omega,← hY] at this
       exact this
      rw [h1,h2]
      simp
     have hlay := Cn hk4 rest Y (R.take i ++ y :: R.drop i) i (by rw [hCl]; omega)
     rw [hset] at hlay
     rw [Nat.zero_add,hlay] at m9
     have hCl2 : (R.take (i - 1) ++ Y :: R.drop (i - 1)).length = (R.take i ++ y :: R.drop i).length := by rw [hCl]; simp; omega
     have hrow9 := hmk w9 _ hCl2 m9
     rw [← hCl2] at hrow9
     rw [hCl2,hCl] at hrow9
     have hrow9 : w9.ownsRow base 67 4 (.slice (some ⟨g,0,none⟩) (R.length + 1) vd) (R.take (i - 1) ++ Y :: R.drop (i - 1)).length ((R.take (i - 1) ++ Y :: R.drop (i - 1)).flatMap Edge.cells) := by
      rw [hCl2,hCl]; exact hrow9
     have c79 : Chg (fun j => j = g) w7 w9 := (k8.mono fun _ hf => hf.elim).trans c9
     have hs := hstep w7 w9 _ (R.take (i - 1) ++ Y :: R.drop (i - 1)) hX7 c07 hz7 (fun g' hg' => by
      have : g = g' := by simpa [Value.ownBlock] using hg'
      subst this; exact c79) hCl2 (by simp [Value.ownBlock]) hrow9
     refine C3 (show _ = ((i - 1 : Nat) : Int) by rw [show ((i : Int) - 1) = ((i - 1 : Nat) : Int) by omega]; exact As (by omega) (by omega)) ?_
     refine again (i - 1,Y) ⟨rfl,rfl,rfl,rfl,trivial⟩ ⟨by simp only; omega,by simp only; omega,hs.1,?_,hs.2,by have := c79.size; omega⟩ (by simp only; omega)
     exact c79.own mq7 fun he => hnq g (by simp [Value.ownBlock]) he.symm
   · have hki' : i = k := by simp only at hle; omega
     subst hki'
     have hsp := Cl hk4 hX7.o.rR (k := i) (by rw [hCl]; omega)
     obtain ⟨g,cap,rest,hv,-,hO,hmk⟩ := hsp
     rw [hCl] at hv
     injection hv with hv1 _ hv2
     subst hv1 hv2
     refine Ax Aa mixed 7 (by kernel_rfl) (fun _ => False) ?_
     conv => whnf
     refine A7 Aa (v := .slice (some ⟨g,0,none⟩) (R.length + 1) vd) rfl rfl (fun W hW _ => Own.at_ (xs := [.slice (some ⟨g,0,none⟩) (R.length + 1) vd]) (o := 2) (hW.own hX7.hdr id) rfl) (by rfl) fun _ => ?_
     conv => whnf
     refine A7 Aa (v := e.val) rfl rfl (fun W hW _ => Own.at_ (xs := e.cells) (o := 0) (hW.own mq7 id) rfl) (by rfl) fun _ => ?_
     conv => whnf
     refine ne ⟨by omega,by omega⟩ ?_
     conv => whnf
     intro w8 k8 _
     refine st Aa (o := 0 + i * 4) (k8.own hO id) (by rfl) (by rw [List.length_append,An hk4,hCl]; show 0 + i * 4 + 4 ≤ _; omega) rfl ?_
     intro w9 z9 c9 m9
     have m9 : Own w9 g 67 (Gk ((R.take i ++ y :: R.drop i).flatMap Edge.cells ++ rest) (0 + i * 4) e.cells) := m9
     have hset : (R.take i ++ y :: R.drop i).set i e = R.take i ++ e :: R.drop i := by
      rw [List.set_append_right _ _ (by simp; omega),List.length_take,Nat.min_eq_left (by omega),Nat.sub_self,List.set_cons_zero]
     have hlay := Cn hk4 rest e (R.take i ++ y :: R.drop i) i (by rw [hCl]; omega)
     rw [hset] at hlay
     rw [Nat.zero_add,hlay] at m9
     have hCl2 : (R.take i ++ e :: R.drop i).length = (R.take i ++ y :: R.drop i).length := by simp
     have hrow9 := hmk w9 _ hCl2 m9
     rw [hCl] at hrow9
     have hrow9 : w9.ownsRow base 67 4 (.slice (some ⟨g,0,none⟩) (R.length + 1) vd) (R.take i ++ e :: R.drop i).length ((R.take i ++ e :: R.drop i).flatMap Edge.cells) := by
      rw [hCl2,hCl]; exact hrow9
     have c79 : Chg (fun j => j = g) w7 w9 := (k8.mono fun _ hf => hf.elim).trans c9
     have hs := hstep w7 w9 _ (R.take i ++ e :: R.drop i) hX7 c07 hz7 (fun g' hg' => by
      have : g = g' := by simpa [Value.ownBlock] using hg'
      subst this; exact c79) hCl2 (by simp [Value.ownBlock]) hrow9
     exact ⟨_,_,Nh hR hk hge hlt,hs.1,hs.2,fun g hg => (hnew4 g hg).imp id fun h => by have := k04.size; omega⟩
theorem Do : Af prog 55 = true := by kernel_rfl
theorem Fk {w : World} {base b m : Nat} {vL vR vP vI vE vF : Value} {L : List G1} {R : List Edge} {A : Buchi} (h : NumX w base b m vL vR vP vI vE vF L R A) (hl : R.length < 1000000000) (hel : A.edges.length < 1000000000000) :
 Calls prog 55 [pt b 0].toArray w (Bg fun _ w' => ∃ vE',NumX w' base b m vL Ad vP vI vE' vF L [] { A with edges := A.edges ++ R,states := (L.length : Nat) } ∧
  Chg (fun k => k = b ∨ some k = vE.ownBlock) w w') := by
 have hk4 : ∀ x : Edge,x.cells.length = 4 := fun _ => rfl
 have hf := Ae h.o.rR
 obtain ⟨ra,rc,rfl⟩ := hf
 have hf := Ae h.o.rE
 obtain ⟨ea,ec,rfl⟩ := hf
 have hf := Ae h.rL
 obtain ⟨la,lc,rfl⟩ := hf
 refine call Aa func55 rfl ntmps55 (by kernel_rfl) ?_
 have hLt : ∀ g,(Value.slice ea A.edges.length ec).ownBlock = some g → g < w.heap.size := fun g hg => (h.o.rE.lt g hg).2
 have hne_b : some b ≠ (Value.slice ea A.edges.length ec).ownBlock := fun he => (h.mR (g := b) (.inr (.inr (.inr (.inl he.symm))))).2.1 rfl
 have fin : ∀ (w1 : World) (va : Option Addr) (vc : Nat),Chg (fun k => some k = (Value.slice ea A.edges.length ec).ownBlock) w w1 → w1.ownsRow base 67 4 (.slice va (A.edges.length + R.length) vc) (A.edges.length + R.length) (A.edges.flatMap Edge.cells ++ R.flatMap Edge.cells) →
  ∀ w2,Chg (fun k => k = b) w1 w2 → Own w2 b 101 [.slice la L.length lc,.map (some m),Ad,vP,.int .i64 (L.length : Nat),vI,.slice va (A.edges.length + R.length) vc,vF] →
  ∃ vE',NumX w2 base b m (.slice la L.length lc) Ad vP vI vE' vF L [] { A with edges := A.edges ++ R,states := (L.length : Nat) } ∧ Chg (fun k => k = b ∨ some k = (Value.slice ea A.edges.length ec).ownBlock) w w2 := fun w1 va vc c1 hrow w2 c2 hdr => by
  have hdr1 := c1.own h.hdr hne_b
  have hnb : ∀ g,(Value.slice va (A.edges.length + R.length) vc).ownBlock = some g → ¬ g = b := fun g hg he => by
   subst he
   exact Ai hrow hdr1 (fun cs fr hh => by injection hh with _ h2; exact absurd h2 (by decide)) hg
  have c02 : Chg (fun k => k = b ∨ some k = (Value.slice ea A.edges.length ec).ownBlock) w w2 := (c1.mono fun _ => .inr).trans (c2.mono fun _ => .inl)
  refine ⟨_,h.newE c02 hdr ?_,c02⟩
  have h2 := Ab hrow c2 hnb
  rw [List.length_append,List.flatMap_append]
  exact h2
 have tail : True := trivial
 rcases Dl h.o.rR with ⟨hv,hn0,-⟩ | ⟨gr,cap,hv,hrg⟩
 · injection hv with hv1 hv2 hv3
   subst hv1 hv3
   have hR0 : R = [] := List.eq_nil_of_length_eq_zero hn0
   subst hR0
   refine Ax Aa mixed 14 (by kernel_rfl) (fun _ => False) ?_
   conv => whnf
   refine A7 Aa (v := .slice ea A.edges.length ec) rfl rfl (fun W hW _ => Own.at_ (xs := [.slice ea A.edges.length ec]) (o := 6) (hW.own h.hdr id) rfl) (by rfl) fun _ => ?_
   conv => whnf
   refine A7 Aa (v := .slice none 0 0) rfl rfl (fun W hW _ => Own.at_ (xs := [.slice none 0 0]) (o := 2) (hW.own h.hdr id) rfl) (by rfl) fun _ => ?_
   conv => whnf
   refine apn Aa rfl rfl rfl rfl rfl rfl h.o.rE fun _ => ?_
   conv => whnf
   intro w1 c1 _
   refine st Aa (c1.own h.hdr id) rfl (show 7 ≤ 8 by decide) rfl ?_
   intro w2 z2 c2 m2
   refine st Aa m2 rfl (show 3 ≤ 8 by decide) rfl ?_
   intro w3 z3 c3 m3
   refine ld Aa (Own.at_ (xs := [.slice la L.length lc]) (o := 0) m3 rfl) (by rfl) ?_
   refine st Aa m3 rfl (show 5 ≤ 8 by decide) rfl ?_
   intro w4 z4 c4 m4
   exact fin w1 ea ec (c1.mono fun _ hf => hf.elim) (by simpa using Ab h.o.rE c1 fun _ _ => id) w4 ((c2.trans c3).trans c4) m4
 · injection hv with hv1 hv2 hv3
   subst hv1 hv3
   have hpre := Ek w (.slice ea A.edges.length ec) (A.edges.length * 4) (R.flatMap Edge.cells)
   have hne_r : some gr ≠ (Value.slice ea A.edges.length ec).ownBlock := fun he => h.o.sE gr rfl he.symm
   refine Dg Aa mixed 14 (by kernel_rfl) _ hpre ?_
   conv => whnf
   refine Gy (v := .slice ea A.edges.length ec) hpre Aa rfl rfl (fun W hW _ => hW.chg.range (Own.at_ (xs := [.slice ea A.edges.length ec]) (o := 6) h.hdr rfl) hne_b) (by rfl) fun _ => ?_
   conv => whnf
   refine Gy (v := .slice (some ⟨gr,0,none⟩) R.length rc) hpre Aa rfl rfl (fun W hW _ => hW.chg.range (Own.at_ (xs := [.slice (some ⟨gr,0,none⟩) R.length rc]) (o := 2) h.hdr rfl) hne_b) (by rfl) fun _ => ?_
   conv => whnf
   refine apr (m := R.length) (news := R.flatMap Edge.cells) Aa rfl rfl rfl rfl rfl rfl rfl (by decide) h.o.rE (An hk4 R) (fun W hS hDn => hS.chg.range hrg hne_r) (Yi R) (by simp only [maxLen]; omega) (by show (A.edges.length + R.length) * 24 ≤ _; omega) h.base fun v' D2 hD2 => ?_
   conv => whnf
   intro w1 hS1 hd1
   have hD1 := hD2 w1 (hd1 10)
   obtain ⟨hown,-⟩ := hD1
   have hf5 := Ae hown
   obtain ⟨va,vc,rfl⟩ := hf5
   refine st Aa (hS1.chg.own h.hdr hne_b) rfl (show 7 ≤ 8 by decide) rfl ?_
   intro w2 z2 c2 m2
   refine st Aa m2 rfl (show 3 ≤ 8 by decide) rfl ?_
   intro w3 z3 c3 m3
   refine ld Aa (Own.at_ (xs := [.slice la L.length lc]) (o := 0) m3 rfl) (by rfl) ?_
   refine st Aa m3 rfl (show 5 ≤ 8 by decide) rfl ?_
   intro w4 z4 c4 m4
   exact fin w1 va vc hS1.chg hown w4 ((c2.trans c3).trans c4) m4
end Go.Au
namespace Go.Au
open Go.Proofs.Tryz
open Go Go.RowKit
abbrev fB (b : Bool) : List Value := [.bool b]
abbrev AgP := RowE (fun _ cs (b : Bool) => cs = [.bool b]) 1
abbrev BoolRows (lo hi : Nat) := RowE (fun w cs (xs : List Bool) => ∃ u,cs = [u] ∧ AgP lo hi w u xs) 1 lo hi
theorem BoolRows.chg {lo hi : Nat} {w w' : World} {v : Value} {xs : List (List Bool)} (h : BoolRows lo hi w v xs) (k : Kp w w') : BoolRows lo hi w' v xs :=
 RowE.chg h k (fun _ _ _ h => h) fun _ _ ⟨u,h1,h2⟩ => ⟨u,h1,h2.chg k (fun _ _ _ h => h) (fun _ _ h => h)⟩
def B8 (N : Nat) (l : List Int) : List Bool := (List.range N).map fun (i : Nat) => decide ((i : Int) ∈ l)
theorem Zy (l : List Bool) : l.flatMap fB = l.map Value.bool := by induction l <;> simp_all
theorem Ai1 (n : Nat) (b : Bool) : Ic [.bool b] n = (List.replicate n b).flatMap fB := by
 induction n with
 | zero => rfl
 | succ n ih => simp [Ic,ih,List.replicate_succ]
theorem Ai0 (l : List Bool) (i : Nat) (b : Bool) (o : Nat) (ho : o = i) : Gk (l.flatMap fB) o [.bool b] = (l.set i b).flatMap fB := by
 subst ho
 show (l.flatMap fB).set o (.bool b) = _
 rw [Zy,Zy,← List.map_set]
theorem Vj (N : Nat) (l : List Int) (s : Nat) (hs : s < N) : (B8 N l).set s true = B8 N (l ++ [(s : Int)]) := by
 unfold B8
 apply List.ext_getElem?
 intro i
 rw [List.getElem?_set]
 simp only [List.getElem?_map,List.length_map,List.length_range]
 by_cases hi : i < N
 · rw [List.getElem?_range hi]
   by_cases hsi : s = i
   · subst hsi
     rw [if_pos rfl,if_pos hs]
     simp
   · rw [if_neg hsi]
     have : ¬ (i : Int) = (s : Int) := by omega
     simp [this]
 · rw [List.getElem?_eq_none (by simpa using hi)]
   split
   · omega
   · rfl
theorem Hg {N : Nat} {l : List Int} {i : Nat} (h : i < N) : (B8 N l)[i]? = some (decide ((i : Int) ∈ l)) := by simp [B8,h]
theorem D8 (N : Nat) (l : List Int) : (B8 N l).length = N := by simp [B8]
theorem G0 : Af prog 49 = true := by kernel_rfl
theorem I3 {w : World} {lo hi : Nat} {pv iv ev sv : Value} {g : General} (hv : GenV lo hi w pv iv ev sv g) (hg : Good g) {N : Nat} (hN : g.states = N) (hS : g.sets.length < 1000000) :
 Calls prog 49 [.agg #[pv,.int .i64 g.states,iv,ev,sv]].toArray w (Bg fun r w' => Kp w w' ∧ BoolRows w.heap.size w'.heap.size w' r (g.sets.map (B8 N))) := by
 have h0 := hg.s0
 have h1 := hg.s1
 have hls := hv.ls
 obtain ⟨sa,sc,rfl,-,hsets⟩ := id hv.sets
 refine call Aa func49 rfl ntmps49 (by kernel_rfl) ?_
 refine nd fun p w1 e1 s1 k1 m1 => ?_
 have m1 : Own w1 p 27 [pv,.int .i64 g.states,iv,ev,.slice sa g.sets.length sc] := m1
 refine loop Aa (σ := Nat × Value × List Value) (fun t => [(1,pt p 0),(3,t.2.1),(4,.int .i64 t.1)])
  (fun t w' => Kp w1 w' ∧ t.1 ≤ g.sets.length ∧ w'.ownsRow w1.heap.size 107 1 t.2.1 t.1 t.2.2 ∧ ∀ (j : Nat) (x : List Int),(g.sets.take t.1)[j]? = some x → ∃ b : Nat,t.2.2[j]? = some (Value.slice (some ⟨b,0,none⟩) N N) ∧ w1.heap.size ≤ b ∧ Own w' b 4 ((B8 N x).flatMap fB)) (fun t => g.sets.length - t.1) (0,Ad,[])
  ⟨rfl,rfl,rfl,trivial⟩ ⟨Chg.refl _ _,by simp,World.ownsRow_nil _ _ _ _,by simp⟩ ?_
 rintro ⟨s,ov,vs⟩ e0 w2 ⟨k2,hs,ho,hrows⟩
 refine ld Aa (Own.at_ (xs := [.slice sa g.sets.length sc]) (o := 4) (k2.own m1 id) rfl) (by rfl) ?_
 refine sp (fun hlt => ?_) (fun hge => ?_)
 · have hs' : s < g.sets.length := by simp only at hlt; omega
   obtain ⟨bs,os,rfl,-,-,cs,hcs,hrd,u,rfl,⟨ua,uc,rfl,huc,hel⟩,hul⟩ := hsets s g.sets[s] (by simp)
   have hgs := hg.sets g.sets[s] (by simp)
   refine ld Aa (Own.at_ (xs := [.int .i64 g.states]) (o := 1) (k2.own m1 id) rfl) (by rfl) ?_
   refine ms Aa rfl rfl rfl rfl rfl rfl h0 (Int.le_refl _) (by show (1 : Int) * _ ≤ _; omega) (by omega) fun b w3 e3 s3 k3 m3 => ?_
   have m3 : Own w3 b 4 ((B8 N []).flatMap fB) := by
    have m3 : Own w3 b 4 (Ic [.bool false] g.states.toNat) := m3
    rw [hN,Int.toNat_natCast,Ai1] at m3
    have : List.replicate N false = B8 N [] := by
     apply List.ext_getElem?; intro i; simp only [B8,List.getElem?_map,List.getElem?_replicate]
     by_cases hi : i < N
     · rw [if_pos hi,List.getElem?_range hi]; simp
     · rw [if_neg hi,List.getElem?_eq_none (by simpa using hi)]; rfl
    rwa [this] at m3
   have hk13 : Kp w1 w3 := k2.trans k3
   have hb1 : w1.heap.size ≤ b := by have := k2.size; omega
   refine loop Aa (σ := Nat) (fun i => [(1,pt p 0),(3,ov),(4,.int .i64 s),(5,.slice (some ⟨b,0,none⟩) N N),(6,.int .i64 i)])
    (fun i w' => Chg (fun k => k = b) w3 w' ∧ w'.heap.size = w3.heap.size ∧ i ≤ g.sets[s].length ∧ Own w' b 4 ((B8 N (g.sets[s].take i)).flatMap fB)) (fun i => g.sets[s].length - i) 0
    ⟨rfl,rfl,rfl,?_,rfl,trivial⟩ ⟨Chg.refl _ _,rfl,by omega,by simpa using m3⟩ ?_
   · show Value.slice _ g.states.toNat g.states.toNat = _
     rw [hN,Int.toNat_natCast]
   rintro i e1' w4 ⟨c4,s4,hi,m4⟩
   have k4 : Kp w1 w4 := hk13.newS c4 fun j hj => by omega
   have B4 : Own w4 p 27 [pv,.int .i64 g.states,iv,ev,.slice (some ⟨bs,os,none⟩) g.sets.length sc] := k4.own m1 id
   have R4 : w4.rangeAt bs (os + s * 1) [.slice ua g.sets[s].length uc] := (k1.trans k4).range hrd id
   refine ld Aa (Own.at_ (xs := [.slice (some ⟨bs,os,none⟩) g.sets.length sc]) (o := 4) B4 rfl) (by rfl) ?_
   refine ne ⟨by omega,by omega⟩ ?_
   refine ld Aa R4 (by rfl) ?_
   refine sp (fun hlt2 => ?_) (fun hge2 => ?_)
   · have hi' : i < g.sets[s].length := by omega
     obtain ⟨bi,oi,rfl,-,-,cs,hcs,hrdi,rfl⟩ := hel i g.sets[s][i] (by simp)
     have hr := hgs g.sets[s][i] (by simp)
     obtain ⟨k,hk⟩ : ∃ k : Nat,g.sets[s][i] = k := ⟨g.sets[s][i].toNat,by omega⟩
     refine ld Aa (Own.at_ (xs := [.slice (some ⟨bs,os,none⟩) g.sets.length sc]) (o := 4) B4 rfl) (by rfl) ?_
     refine ne ⟨by omega,by omega⟩ ?_
     refine ld Aa R4 (by rfl) ?_
     refine ne ⟨by omega,hlt2⟩ ?_
     refine ld Aa ((k1.trans k4).range hrdi id) (by rfl) ?_
     refine ne ⟨by omega,by omega⟩ ?_
     have hkN : k < N := by omega
     refine st Aa (o := 0 + g.sets[s][i].toNat * 1) m4 rfl (by rw [hk,Int.toNat_natCast,Zy,List.length_map,D8]; show 0 + k * 1 + 1 ≤ N; omega) rfl ?_
     intro w5 s5 k5 m5
     refine aw (by omega) (by omega) ?_
     refine again (i + 1) ⟨rfl,rfl,rfl,rfl,rfl,trivial⟩ ⟨c4.trans k5,by omega,by omega,?_⟩ (by omega)
     have m5 : Own w5 b 4 (Gk ((B8 N (g.sets[s].take i)).flatMap fB) (0 + g.sets[s][i].toNat * 1) [.bool true]) := m5
     rw [Ai0 _ k _ _ (by omega),Vj _ _ _ hkN] at m5
     rw [List.take_succ_eq_append_getElem hi',hk]
     exact m5
   · have hall : g.sets[s].take i = g.sets[s] := List.take_of_length_le (by omega)
     rw [hall] at m4
     have o4 : w4.ownsRow w1.heap.size 107 1 ov s vs := Ab (Ab ho k3 fun _ _ h => h) c4 fun b' hb' hbb => by
      subst hbb
      have := (ho.lt b' hb').2
      omega
     have hne : ov.ownBlock ≠ some b := Ai o4 m4 (fun cs fr hh => by injection hh with _ h2; exact absurd h2 (by decide))
     refine ne (by decide) ?_
     refine nd fun q w5 e5 s5 k5 m5 => ?_
     have o5 := Ab o4 k5 fun _ _ h => h
     have hw1 := k4.size
     refine ap (m := 1) (news := [.slice (some ⟨b,0,none⟩) N N]) Aa rfl rfl rfl rfl rfl rfl rfl (by decide) o5 rfl (Own.at_ (o := 0) m5 rfl) rfl (by simp only [maxLen]; omega) (by show (_ + 1) * 24 ≤ _; omega) (by omega) ?_
     intro v' w6 o6 c6
     have k6 : Kp w1 w6 := (k4.trans k5).newS c6 fun j hj => (o5.lt j hj.symm).1
     have hT : ∀ b' cs,Own w5 b' 4 cs → ¬ some b' = ov.ownBlock := fun b' cs hb' he => Ai o5 hb' (fun cs fr hh => by injection hh with _ h2; exact absurd h2 (by decide)) he.symm
     refine aw (by omega) (by omega) ?_
     refine again (s + 1,v',vs ++ [Value.slice (some ⟨b,0,none⟩) N N]) ⟨rfl,rfl,rfl,trivial⟩ ⟨k6,by simp only; omega,o6,fun j x hj => ?_⟩ (by simp only; omega)
     have hvl : vs.length = s := by have := ho.1; simpa using this
     have hj' := (List.getElem?_eq_some_iff.1 hj).1
     simp only [List.length_take] at hj'
     rcases Nat.lt_or_ge j s with hjs | hjs
     · obtain ⟨b',q1,q2,q3⟩ := hrows j x (by rw [List.getElem?_take,if_pos hjs]; rw [List.getElem?_take,if_pos (by omega)] at hj; exact hj)
       have hb'b : b' ≠ b := by have := q3.lt; omega
       have q5 : Own w5 b' 4 ((B8 N x).flatMap fB) := k5.own (c4.own (k3.own q3 id) hb'b) id
       exact ⟨b',by rw [List.getElem?_append_left (by omega),q1],q2,c6.own q5 (hT b' _ q5)⟩
     · have : j = s := by omega
       subst this
       rw [List.getElem?_take,if_pos (by omega),List.getElem?_eq_getElem hs'] at hj
       cases hj
       have q5 := k5.own m4 id
       exact ⟨b,by rw [List.getElem?_append_right (by omega),hvl,Nat.sub_self]; rfl,hb1,c6.own q5 (hT b _ q5)⟩
 · have hsn : s = g.sets.length := by simp only at hge; omega
   subst hsn
   have hz := k1.size
   refine ⟨k1.trans k2,?_⟩
   have : BoolRows w1.heap.size w2.heap.size w2 ov (g.sets.map (B8 N)) := Rp ho (by simp) fun i x hx => by
    rw [List.getElem?_map] at hx
    cases hg' : g.sets[i]? with
    | none => rw [hg'] at hx; cases hx
    | some y =>
     rw [hg'] at hx
     cases hx
     obtain ⟨b,q1,q2,q3⟩ := hrows i y (by rw [List.take_of_length_le (Nat.le_refl _),hg'])
     refine ⟨_,q1,_,rfl,?_⟩
     have := C8 (f := fB) (l := B8 N y) (fun _ => rfl) (by decide) q3 (by rw [D8]; simp only [maxLen]; omega)
     rw [D8] at this
     exact (this.lo1 q2).mono (fun _ _ h => h) (Nat.le_refl _) (Nat.le_refl _)
   exact this.mono (fun _ _ ⟨u,h1,h2⟩ => ⟨u,h1,h2.mono (fun _ _ h => h) hz (Nat.le_refl _)⟩) hz (Nat.le_refl _)
end Go.Au
namespace Go.Au
open Go.Proofs.Tryz
open Go Go.RowKit Go.MapKept
abbrev RowsE (lo hi : Nat) := RowE (fun w cs (xs : List Edge) => ∃ u,cs = [u] ∧ RowE (fun _ cs x => cs = Edge.cells x) 4 lo hi w u xs) 1 lo hi
theorem RowsE.chg {lo hi : Nat} {w w' : World} {v : Value} {xs : List (List Edge)} (h : RowsE lo hi w v xs) (k : Kp w w') : RowsE lo hi w' v xs :=
 RowE.chg h k (fun _ _ _ h => h) fun _ _ ⟨u,h1,h2⟩ => ⟨u,h1,h2.chg k (fun _ _ _ h => h) (fun _ _ h => h)⟩
def B1 (n : Nat) (es : List Edge) : List (List Edge) := (List.range n).map fun (s : Nat) => Aj es s
def Gu (e : Edge) : Int × Edge := (e.frm,e)
theorem Vo (es : List Edge) (s : Int) : Cd (es.map Gu) s = Aj es s := by
 unfold Cd Aj Gu
 induction es with
 | nil => rfl
 | cons e r ih =>
  simp only [List.map_cons,List.filter_cons]
  by_cases h : e.frm = s
  · simp only [h,decide_true,if_true,List.map_cons]
    rw [ih]
  · simp only [h,decide_false,Bool.false_eq_true,if_false]
    exact ih
theorem I9 : Af prog 50 = true := by kernel_rfl
set_option maxHeartbeats 1000000 in
theorem Nb {w : World} {lo hi : Nat} {ev : Value} {n : Nat} {es : List Edge} (hv : RowE (fun _ cs x => cs = Edge.cells x) 4 lo hi w ev es) (hhw : hi ≤ w.heap.size) (hn : n ≤ 65536) (hE : es.length < 1099511627776) (hr : ∀ e ∈ es,0 ≤ e.frm ∧ e.frm < n) :
 Calls prog 50 [.int .i64 (n : Nat),ev].toArray w (Bg fun r w' => Kp w w' ∧ RowsE w.heap.size w'.heap.size w' r (B1 n es)) := by
 obtain ⟨ea,ec,rfl,hec,hedges⟩ := id hv
 refine call Aa func50 rfl ntmps50 (by kernel_rfl) ?_
 refine ms Aa rfl rfl rfl rfl rfl rfl (by omega) (Int.le_refl _) (by show (24 : Int) * _ ≤ _; omega) (by omega) fun bb w1 e1 s1 k1 m1 => ?_
 have m1 : Own w1 bb 24 (Ic [Ad] ((n : Nat) : Int).toNat) := m1
 rw [Int.toNat_natCast] at m1 ⊢
 have hby0 : RowsV 24 67 4 Edge.cells w1 bb bb n (Ic [Ad] n) [] := RowsV.zero m1
 refine loop Aa (σ := Nat × List Value) (fun t => [(1,.slice ea es.length ec),(5,.slice (some ⟨bb,0,none⟩) n n),(6,.int .i64 t.1)])
  (fun t w' => t.1 ≤ es.length ∧ Kp w w' ∧ RowsV 24 67 4 Edge.cells w' bb bb n t.2 ((es.take t.1).map Gu)) (fun t => es.length - t.1) (0,Ic [Ad] n)
  ⟨rfl,rfl,rfl,trivial⟩ ⟨by omega,k1,by simpa using hby0⟩ ?_
 rintro ⟨i,vs⟩ env w8 ⟨hi,k08,hby⟩
 simp only at hi hby
 refine sp (fun hlt => ?_) (fun hge => ?_)
 · have hi' : i < es.length := by simp only at hlt; omega
   obtain ⟨b,o,rfl,hlo,hhi,cs,hcs,hrd,rfl⟩ := hedges i es[i] (by simp)
   have her := hr es[i] (by simp)
   have hf0 : ∃ f : Nat,es[i].frm = f := ⟨es[i].frm.toNat,by omega⟩
   obtain ⟨f,hf⟩ := hf0
   have hfn : f < n := by omega
   have hrow := hby.at_ (fun _ => rfl) (by decide) hfn
   have hmb := hby.mb
   have hml := Ya ((es.take i).map Gu) (f : Int)
   have hml2 : ((es.take i).map Gu).length ≤ i := by simp; omega
   have hltB : ∀ k,(vs.getD f Ad).ownBlock = some k → bb ≤ k ∧ k < w8.heap.size := fun k hk => hrow.lt k hk
   have hnb : some bb ≠ (vs.getD f Ad).ownBlock := fun he => Ai hrow hmb (fun cs fr hh => by injection hh with _ h2; exact absurd h2 (by decide)) he.symm
   have hvf := hby.get hfn
   have hfm := Ae hrow
   obtain ⟨va,vc,hvs⟩ := hfm
   have hzb := hmb.lt
   have hbs : b < w.heap.size := by omega
   have hnE : some b ≠ (vs.getD f Ad).ownBlock := fun he => by have := (hltB b he.symm).1; omega
   have hfrm : ∀ W,Kp w8 W → True := fun _ _ => trivial
   have hrdf : w8.rangeAt b (o + i * 4 + 0) [.int .i64 es[i].frm] := (k08.range (J1 hrd) id)
   have hrde : w8.rangeAt b (o + i * 4) es[i].cells := k08.range hrd id
   have hpre := Ek w8 (vs.getD f Ad) ((Cd ((es.take i).map Gu) (f : Int)).length * 4) es[i].cells
   refine Dg Aa mixed 21 (by kernel_rfl) _ hpre ?_
   conv => whnf
   refine ne ⟨by omega,by omega⟩ ?_
   conv => whnf
   refine Gy hpre Aa rfl rfl (fun W h _ => h.chg.range hrdf hnE) (by rfl) fun _ => ?_
   conv => whnf
   refine ne ⟨by omega,by omega⟩ ?_
   conv => whnf
   refine Gy hpre Aa rfl rfl (fun W h _ => h.chg.range hrdf hnE) (by rfl) fun _ => ?_
   conv => whnf
   refine ne ⟨by omega,by omega⟩ ?_
   conv => whnf
   refine Gy (v := vs.getD f Ad) hpre Aa rfl rfl (fun W h _ => h.chg.range (Own.one hmb hvf (by show 0 + es[i].frm.toNat * 1 = f; omega)) hnb) (by rfl) fun _ => ?_
   conv => whnf
   refine ne ⟨by omega,by omega⟩ ?_
   conv => whnf
   refine Gy (v := es[i].val) hpre Aa rfl rfl (fun W h _ => h.chg.range hrde hnE) (by rfl) fun _ => ?_
   conv => whnf
   refine Uh hpre rfl rfl rfl rfl rfl (by decide) (fun b o W W' hb ho hS => hS.chg.heap ho fun hc => by have := (hltB b hc.symm).2; omega) (fun W hS => hS.chg.size) fun q2 D hD => ?_
   conv => whnf
   refine apr (m := 1) (news := es[i].cells) Aa rfl rfl rfl rfl rfl rfl rfl (by decide) hrow rfl (fun W hS hDn => Own.at_ (xs := es[i].cells) (o := 0) (hD W (hDn 18 (by kernel_rfl))).1 rfl) rfl (by simp only [maxLen]; omega) (by show (_ + 1) * 24 ≤ _; omega) (by omega) fun v' D2 hD2 => ?_
   conv => whnf
   refine ne ⟨by omega,by omega⟩ ?_
   conv => whnf
   intro W2 hS hDn
   have hDD := hD2 W2 (hDn 19)
   obtain ⟨hown',hnew⟩ := hDD
   have hmbW := hS.chg.own hmb hnb
   have hfo := Ae hown'
   obtain ⟨a',cap',rfl⟩ := hfo
   refine st Aa hmbW (by rfl) ?_ rfl ?_
   · show 0 + es[i].frm.toNat * 1 + 1 ≤ vs.length
     rw [hby.len]; omega
   intro w11 s11 k11 m11
   refine aw (by omega) (by omega) ?_
   have m11 : Own w11 bb 24 (vs.set f (.slice a' ((Cd ((es.take i).map Gu) (f : Int)).length + 1) cap')) := by
    have m11 : Own w11 bb 24 (vs.set (0 + es[i].frm.toNat * 1) (.slice a' ((Cd ((es.take i).map Gu) (f : Int)).length + 1) cap')) := m11
    rwa [show 0 + es[i].frm.toNat * 1 = f by omega] at m11
   have hset := hby.set (by decide) hf hfn hS.chg (n' := (Cd ((es.take i).map Gu) (f : Int)).length + 1) (x := es[i]) hown' hnew k11 m11
   refine again (i + 1,vs.set f (.slice a' ((Cd ((es.take i).map Gu) (f : Int)).length + 1) cap')) ⟨rfl,rfl,rfl,trivial⟩ ⟨by simp only; omega,?_,?_⟩ (by simp only; omega)
   · refine Chg.newS (T := fun k => k = bb ∨ some k = (vs.getD f Ad).ownBlock) k08 ((hS.chg.mono fun _ => .inr).trans (k11.mono fun _ => .inl)) fun k hk => ?_
     rcases hk with rfl | hk
     · omega
     · have := (hltB k hk.symm).1; omega
   · have : (es.take (i + 1)).map Gu = (es.take i).map Gu ++ [(es[i].frm,es[i])] := by
      rw [List.take_succ_eq_append_getElem hi',List.map_append]; rfl
     rw [this]
     exact hset
 · have hall : es.take i = es := List.take_of_length_le (by simp only at hge; omega)
   rw [hall] at hby
   refine ⟨k08,?_⟩
   have h1 := hby.row (Nat.le_refl _) (fun _ => rfl) (by decide)
   have h2 : RowsE bb w8.heap.size w8 (.slice (some ⟨bb,0,none⟩) n n) ((List.range n).map fun (s : Nat) => Cd (es.map Gu) s) := h1
   have h3 : ((List.range n).map fun (s : Nat) => Cd (es.map Gu) s) = B1 n es := by
    unfold B1
    exact List.map_congr_left fun s _ => Vo es s
   rw [h3] at h2
   exact h2.mono (fun _ _ ⟨u,a1,a2⟩ => ⟨u,a1,a2.mono (fun _ _ h => h) (by omega) (Nat.le_refl _)⟩) (by omega) (Nat.le_refl _)
theorem Y9 : ∀ p q : G1,H9 p = H9 q → p = q := fun p q h => by
 simp only [H9,Value.agg.injEq] at h
 have := congrArg Array.toList h
 simp at this
 exact Prod.ext this.1 (Prod.ext this.2.1 this.2.2)
theorem H2 : Af prog 51 = true := by kernel_rfl
theorem J0 {w : World} {lo hi : Nat} {pv : Value} {props : List ByteArray} (hv : Ib lo hi w pv props) (hl : props.length < 1000000000) :
 Calls prog 51 [pv].toArray w (Bg fun r w' => Kp w w' ∧ ∃ b m vP,r = pt b 0 ∧ w.heap.size ≤ b ∧ w.heap.size ≤ m ∧ NumX w' w.heap.size b m Ad Ad vP Ad Ad Ad [] [] { props := props,states := 0,init := [],edges := [],final := [] }) := by
 obtain ⟨pa,pc,rfl,-⟩ := id hv
 refine call Aa func51 rfl ntmps51 (by kernel_rfl) ?_
 refine nd fun m w1 e1 z1 k1 mm => ?_
 refine nd fun b w2 e2 z2 k2 mb => ?_
 have mb : Own w2 b 101 [Ad,.map (some m),Ad,Ad,.int .i64 0,Ad,Ad,Ad] := mb
 refine ld Aa (Own.at_ (xs := [Ad]) (o := 3) mb rfl) (by rfl) ?_
 have k02 := k1.trans k2
 have hnil : w2.ownsRow w.heap.size 9 1 Ad 0 [] := World.ownsRow_nil _ _ _ _
 refine apV (f := Y4) Aa rfl rfl rfl rfl rfl rfl rfl (by decide) hnil (fun _ => rfl) (hv.chg k02 (fun _ _ _ h => h) (fun _ _ h => h)) (fun _ => rfl) (by simp only [maxLen]; omega) (by show (_ + _) * 16 ≤ _; omega) k02.size ?_
 intro v' w3 o3 c3
 have hf := Ae o3
 obtain ⟨va,vc,rfl⟩ := hf
 have mb3 := c3.own mb fun he => by cases he
 refine st Aa mb3 rfl (show 4 ≤ 8 by decide) rfl ?_
 intro w4 z4 c4 m4
 rw [Nat.zero_add] at o3
 have m4 : Own w4 b 101 [Ad,.map (some m),Ad,.slice va (0 + props.length) vc,.int .i64 0,Ad,Ad,Ad] := m4
 rw [Nat.zero_add] at m4
 have hnb : ∀ g,(Value.slice va props.length vc).ownBlock = some g → ¬ g = b := fun g hg he => by
  subst he
  exact Ai o3 mb3 (fun cs fr hh => by injection hh with _ h2; exact absurd h2 (by decide)) hg
 refine ⟨(k02.newS c3 fun j hj => by cases hj).newS c4 fun j hj => by have := k1.size; omega,b,m,_,rfl,by have := k1.size; omega,by omega,m4,?_,World.ownsRow_nil _ _ _ _,?_,by have := k02.size; have := c3.size; have := c4.size; omega,List.nodup_nil⟩
 · have hm1 : w1.heap[m]? = some (.map #[] 0) := mm
   have hm4 : w4.heap[m]? = some (.map #[] 0) := c4.heap (c3.heap (k2.heap hm1 id) fun he => by cases he) (by omega)
   exact MapE.made hm4 Y9
 · exact ⟨World.ownsRow_nil _ _ _ _,Ab o3 c4 hnb,World.ownsRow_nil _ _ _ _,World.ownsRow_nil _ _ _ _,World.ownsRow_nil _ _ _ _,fun g hg => by (cases hg),fun g hg => by (cases hg)⟩
theorem Q3 : Af prog 97 = true := by kernel_rfl
theorem W0 (w : World) (a b : Edge) : Calls prog 97 [a.val,b.val].toArray w (Bg fun r w' => r = .bool (Dr a b) ∧ Kp w w') := by
 refine call Aa func97 rfl ntmps97 (by kernel_rfl) ?_
 refine nd fun p w1 e1 s1 k1 m1 => ?_
 refine nd fun q w2 e2 s2 k2 m2 => ?_
 have A : Own w2 p 111 a.cells := k2.own m1 id
 have B : Own w2 q 111 b.cells := m2
 have K := k1.trans k2
 have fin : ∀ c : Bool,c = Dr a b → (Value.bool c = .bool (Dr a b) ∧ Kp w w2) := fun c hc => ⟨by rw [hc],K⟩
 refine ld Aa (Own.at_ (xs := [.int .i64 a.frm]) (o := 0) A rfl) rfl ?_
 refine ld Aa (Own.at_ (xs := [.int .i64 b.frm]) (o := 0) B rfl) rfl ?_
 refine sp (fun h1 => ?_) (fun h1 => ?_)
 · refine ld Aa (Own.at_ (xs := [.int .i64 a.frm]) (o := 0) A rfl) rfl ?_
   refine ld Aa (Own.at_ (xs := [.int .i64 b.frm]) (o := 0) B rfl) rfl ?_
   refine Zc ?_
   refine fin _ ?_
   unfold Dr Ci
   rw [Bb,if_neg (fun h => h1 (cmp3_eq0.1 h))]
   exact decide_eq_decide.2 cmp3_lt0.symm
 refine ld Aa (Own.at_ (xs := [.int .i64 a.to]) (o := 1) A rfl) rfl ?_
 refine ld Aa (Own.at_ (xs := [.int .i64 b.to]) (o := 1) B rfl) rfl ?_
 have h1 : a.frm = b.frm := Decidable.not_not.1 h1
 refine sp (fun h2 => ?_) (fun h2 => ?_)
 · refine ld Aa (Own.at_ (xs := [.int .i64 a.to]) (o := 1) A rfl) rfl ?_
   refine ld Aa (Own.at_ (xs := [.int .i64 b.to]) (o := 1) B rfl) rfl ?_
   refine Zc ?_
   refine fin _ ?_
   unfold Dr Ci
   rw [Bb,if_pos (cmp3_eq0.2 h1),Bb,if_neg (fun h => h2 (cmp3_eq0.1 h))]
   exact decide_eq_decide.2 cmp3_lt0.symm
 refine ld Aa (Own.at_ (xs := [.int .u16 a.must]) (o := 2) A rfl) rfl ?_
 refine ld Aa (Own.at_ (xs := [.int .u16 b.must]) (o := 2) B rfl) rfl ?_
 have h2 : a.to = b.to := Decidable.not_not.1 h2
 refine sp (fun h3 => ?_) (fun h3 => ?_)
 · refine ld Aa (Own.at_ (xs := [.int .u16 a.must]) (o := 2) A rfl) rfl ?_
   refine ld Aa (Own.at_ (xs := [.int .u16 b.must]) (o := 2) B rfl) rfl ?_
   refine Zc ?_
   refine fin _ ?_
   unfold Dr Ci
   rw [Bb,if_pos (cmp3_eq0.2 h1),Bb,if_pos (cmp3_eq0.2 h2),Bb,if_neg (fun h => h3 (cmp3_eq0.1 h))]
   exact decide_eq_decide.2 cmp3_lt0.symm
 have h3 : a.must = b.must := Decidable.not_not.1 h3
 refine ld Aa (Own.at_ (xs := [.int .u16 a.no]) (o := 3) A rfl) rfl ?_
 refine ld Aa (Own.at_ (xs := [.int .u16 b.no]) (o := 3) B rfl) rfl ?_
 refine Zc ?_
 refine fin _ ?_
 unfold Dr Ci
 rw [Bb,if_pos (cmp3_eq0.2 h1),Bb,if_pos (cmp3_eq0.2 h2),Bb,if_pos (cmp3_eq0.2 h3),Bb]
 by_cases h4 : Er a.no b.no = 0
 · rw [if_pos h4]
   have := cmp3_eq0.1 h4
   exact decide_eq_decide.2 (by simp [Dx]; omega)
 · rw [if_neg h4]
   exact decide_eq_decide.2 cmp3_lt0.symm
theorem Jr : Af prog 57 = true := by kernel_rfl
theorem Sz {w : World} {lo hi lo' hi' c c' : Nat} {a a' : Option Addr} {xs ys : List ByteArray} (h : Ib lo hi w (.slice a xs.length c) xs) (h' : Ib lo' hi' w (.slice a' ys.length c') ys) (hl : xs.length < 4611686018427387904) (hl' : ys.length < 4611686018427387904) :
 Calls prog 57 [.slice a xs.length c,.slice a' ys.length c'].toArray w (Bg fun r w' => r = .bool (decide (xs = ys)) ∧ Kp w w') := by
 obtain ⟨_,_,e1,-,hr⟩ := h
 injection e1 with h1 _ h3
 subst h1 h3
 obtain ⟨_,_,e1,-,hr'⟩ := h'
 injection e1 with h1 _ h3
 subst h1 h3
 refine call Aa func57 rfl ntmps57 (by kernel_rfl) ?_
 by_cases hlen : xs.length = ys.length
 · refine Bs (by omega) ?_
   refine loop Aa (σ := Nat) (fun i => [(0,.slice a xs.length c),(1,.slice a' ys.length c'),(5,.int .i64 i)]) (fun i w' => Kp w w' ∧ i ≤ xs.length ∧ xs.take i = ys.take i) (fun i => xs.length - i) 0
    ⟨rfl,rfl,rfl,trivial⟩ ⟨Chg.refl _ _,by omega,rfl⟩ ?_
   rintro i e0 w1 ⟨k,hi,htk⟩
   refine sp (fun hlt => ?_) (fun hge => ?_)
   · have hi' : i < xs.length := by omega
     obtain ⟨b,o,rfl,-,-,cs,-,hrd,rfl⟩ := hr i xs[i] (by simp [hi'])
     obtain ⟨b',o',rfl,-,-,cs',-,hrd',rfl⟩ := hr' i (ys[i]'(by omega)) (by simp [show i < ys.length by omega])
     refine Ax Aa mixed 9 (by kernel_rfl) (fun _ => False) ?_
     conv => whnf
     refine ne ⟨by omega,by omega⟩ ?_
     conv => whnf
     refine A7 (v := .string xs[i]) Aa rfl rfl (fun V hV _ => by rw [Int.toNat_natCast]; exact (k.trans hV).range hrd id) (by rfl) fun _ => ?_
     conv => whnf
     refine ne ⟨by omega,by omega⟩ ?_
     conv => whnf
     refine A7 (v := .string (ys[i]'(by omega))) Aa rfl rfl (fun V hV _ => by rw [Int.toNat_natCast]; exact (k.trans hV).range hrd' id) (by rfl) fun _ => ?_
     conv => whnf
     by_cases he : xs[i] = ys[i]'(by omega)
     · refine Bs (fun h => h he) ?_
       conv => whnf
       intro V hV _
       refine aw (by omega) (by omega) ?_
       refine again (i + 1) ⟨rfl,rfl,rfl,trivial⟩ ⟨k.trans hV,by omega,?_⟩ (by omega)
       rw [List.take_succ_eq_append_getElem hi',List.take_succ_eq_append_getElem (show i < ys.length by omega),htk,he]
     · refine Dj he ?_
       conv => whnf
       intro V hV _
       refine ⟨congrArg Value.bool ?_,k.trans hV⟩
       rw [decide_eq_false]
       rintro rfl
       exact he rfl
   · refine ⟨congrArg Value.bool ?_,k⟩
     have : i = xs.length := by omega
     subst this
     rw [List.take_length,hlen,List.take_length] at htk
     rw [decide_eq_true htk]
 · refine Dj (by omega) ?_
   refine ⟨congrArg Value.bool ?_,Chg.refl _ _⟩
   rw [decide_eq_false]
   rintro rfl
   exact hlen rfl
theorem R3 : Af prog 53 = true := by kernel_rfl
theorem U3 {w : World} {lo hi : Nat} {v : Value} {sets : List (List Int)} {n q c : Nat} (hv : BoolRows lo hi w v (sets.map (B8 n))) (hq : q < n) (hc : c < max sets.length 1) (hl : sets.length < 1000000) :
 Calls prog 53 [v,.int .i64 (q : Nat),.int .i64 (c : Nat)].toArray w (Bg fun r w' => r = .int .i64 (Be sets ((q : Nat),(c : Nat))) ∧ Kp w w') := by
 obtain ⟨va,vc,rfl,-,hr⟩ := id hv
 rw [List.length_map] at hv ⊢
 refine call Aa func53 rfl ntmps53 (by kernel_rfl) ?_
 refine sp (fun h0 => ?_) (fun h0 => ?_)
 · have h0 : sets.length = 0 := by omega
   refine ⟨congrArg (Value.int .i64) ?_,Chg.refl _ _⟩
   unfold Be
   rw [if_neg (by omega)]
 · have h0 : sets.length ≠ 0 := by omega
   have hcl : c < sets.length := by omega
   obtain ⟨b,o,rfl,-,-,cs,-,hrd,u,rfl,hu⟩ := hr c (B8 n sets[c]) (by simp [hcl])
   obtain ⟨ua,uc,rfl,-,hur⟩ := hu
   obtain ⟨b2,o2,rfl,-,-,cs2,-,hrd2,rfl⟩ := hur q (decide ((q : Int) ∈ sets[c])) (Hg hq)
   rw [D8] at hrd
   refine ne ⟨by omega,by omega⟩ ?_
   refine ld Aa hrd (by rfl) ?_
   refine ne ⟨by omega,by omega⟩ ?_
   have hsh : Fd sets ((q : Nat),(c : Nat)) = decide ((q : Int) ∈ sets[c]) := by
    unfold Fd
    simp only [Int.toNat_natCast]
    have : sets.getD c [] = sets[c] := by rw [List.getD_eq_getElem?_getD,List.getElem?_eq_getElem hcl]; rfl
    exact decide_eq_decide.2 (by rw [this])
   by_cases hqs : (q : Int) ∈ sets[c]
   · rw [decide_eq_true hqs] at hrd2 hsh
     refine ld Aa hrd2 (by rfl) ?_
     refine aw (by omega) (by omega) ?_
     refine ne (by omega) ?_
     refine C3 (show _ = (((c + 1) % sets.length : Nat) : Int) from Int.ofNat_tmod _ _) ?_
     refine ⟨congrArg (Value.int .i64) ?_,Chg.refl _ _⟩
     unfold Be
     rw [if_pos ⟨h0,hsh⟩]
     simp
   · rw [decide_eq_false hqs] at hrd2 hsh
     refine ld Aa hrd2 (by rfl) ?_
     refine ⟨congrArg (Value.int .i64) ?_,Chg.refl _ _⟩
     unfold Be
     rw [if_neg (by rw [hsh]; simp)]
structure NAppR (T : Nat → Prop) (b : Nat) (w0 : World) (v : Value) (k : Nat) (news : List Value) (W W' : World) : Prop where
 c : CAppR T w0 v k news W W'
 hdr : ∀ vL r,Own W b 101 (vL :: r) → ∃ vL',Own W' b 101 (vL' :: r)
theorem Kv (T : Nat → Prop) (b : Nat) (w0 : World) (v : Value) (k : Nat) (news : List Value) : Pre (NAppR T b w0 v k news) :=
 ⟨fun h => ⟨(Bh T w0 v k news).kp h,fun vL r ho => ⟨vL,h.own ho id⟩⟩,fun h g => ⟨(Bh T w0 v k news).trans h.c g.c,fun vL r ho => by
   obtain ⟨v1,h1⟩ := h.hdr vL r ho
   exact g.hdr v1 r h1⟩⟩
theorem NAppR.bears {T : Nat → Prop} {b : Nat} {w0 : World} {v : Value} {k : Nat} {news : List Value} (hv : ∀ g,v.ownBlock = some g → g < w0.heap.size) (hT : ∀ g,T g → g < w0.heap.size) (hn : ∀ g,T g → v.ownBlock ≠ some g) (hb : T b) : BearsApp (NAppR T b w0 v k news) w0 v k news :=
 have B := CAppR.bears (k := k) (news := news) hv hT hn
 ⟨Kv _ _ _ _ _ _,fun W W' h => B.row W W' h.c,fun W W' g o h => B.new W W' g o h.c,fun W W' h => B.size W W' h.c,
   fun W W' h0 h => ⟨B.of W W' h0.c h,fun vL r ho => ⟨vL,h.chg.own ho fun hc => hn b hb hc.symm⟩⟩⟩
section
variable {w w1 w2 : World} {base b m : Nat} {vL vR vP vI vE vF vL' : Value} {L L' : List G1} {R : List Edge} {A : Buchi}
theorem NumX.ofI (h : NumX w base b m vL vR vP vI vE vF L R A) (c : Chg (fun g => (g = b ∨ g = m ∨ some g = vL.ownBlock) ∨ some g = vI.ownBlock) w w1) (hm : MapE prog 104 H9 (fun n : Int => .int .i64 n) w1 m (Ji L'))
 (hL : w1.ownsRow base 104 3 vL' L'.length (L'.flatMap Eg)) (hnL : ∀ g,vL'.ownBlock = some g → vL.ownBlock = some g ∨ w.heap.size ≤ g) {vI' : Value} {I' : List Int} (hI : w1.ownsRow base 3 1 vI' I'.length (I'.flatMap Ia))
 (hnI : ∀ g,vI'.ownBlock = some g → vI.ownBlock = some g ∨ w.heap.size ≤ g) (c2 : Chg (fun k => k = b) w1 w2) (hdr : Own w2 b 101 [vL',.map (some m),vR,vP,.int .i64 A.states,vI',vE,vF]) (nd : L'.Nodup) {cs : List Value} (hb : Own w1 b 101 cs) :
 NumX w2 base b m vL' vR vP vI' vE vF L' R { A with init := I' } := by
 have hS : ∀ g,Ho vR vP vI vE vF g → vI.ownBlock ≠ some g → ¬ ((g = b ∨ g = m ∨ some g = vL.ownBlock) ∨ some g = vI.ownBlock) := fun g hg hne hh => by
  have h1 := h.mR hg
  rcases hh with (hh | hh | hh) | hh
  · exact h1.2.1 hh
  · exact h1.1 hh
  · exact h1.2.2 hh.symm
  · exact hne hh.symm
 have hR := Ab h.o.rR c fun g hg => hS g (.inl hg) fun he => Aq h.o.rR h.o.rI (by decide) g hg he
 have hP := Ab h.o.rP c fun g hg => hS g (.inr (.inl hg)) fun he => Aq h.o.rP h.o.rI (by decide) g hg he
 have hE := Ab h.o.rE c fun g hg => hS g (.inr (.inr (.inr (.inl hg)))) fun he => Aq h.o.rE h.o.rI (by decide) g hg he
 have hF := Ab h.o.rF c fun g hg => hS g (.inr (.inr (.inr (.inr hg)))) fun he => h.o.sI g he hg
 have off : ∀ {el size n v xs},w1.ownsRow base el size v n xs → el ≠ 101 → ∀ g,v.ownBlock = some g → ¬ g = b := fun ho hel g hg he => by
  subst he
  exact Ai ho hb (fun cs fr hh => by injection hh with _ h2; exact hel h2.symm) hg
 refine ⟨hdr,hm.chg c2 (Ne.symm h.bm),Ab hL c2 (off hL (by decide)),⟨Ab hR c2 (off hR (by decide)),Ab hP c2 (off hP (by decide)),Ab hI c2 (off hI (by decide)),Ab hE c2 (off hE (by decide)),Ab hF c2 (off hF (by decide)),fun g hg he => ?_,h.o.sE⟩,by have := h.base; have := c.size; have := c2.size; omega,nd⟩
 rcases hnI g hg with h1 | h1
 · exact h.o.sI g h1 he
 · have := (h.o.rF.lt g he).2; omega
structure NumC (W : World) (base b m : Nat) (vL' : Value) (L' : List G1) (r : List Value) : Prop where
 hdr : Own W b 101 (vL' :: r)
 map : MapE prog 104 H9 (fun n : Int => .int .i64 n) W m (Ji L')
 rL : W.ownsRow base 104 3 vL' L'.length (L'.flatMap Eg)
theorem NumC.once {W W' w0 : World} {v : Value} {k : Nat} {news : List Value} {T : Nat → Prop} {r : List Value} (h : NumC W base b m vL' L' r) (hS : CAppR T w0 v k news W W') (hz : w0.heap.size < W.heap.size) (hb : T b) (hm : T m) (hL : ∀ g,vL'.ownBlock = some g → T g ∨ w0.heap.size ≤ g)
 (hT : ∀ g,T g → g < w0.heap.size) (hv : ∀ g,v.ownBlock = some g → g < w0.heap.size) : NumC W' base b m vL' L' r := by
 have honce := hS.once.resolve_right (by omega)
 refine ⟨(honce b hb h.hdr.lt).trans h.hdr,Hh h.map (honce m hm h.map.lt),El h.rL fun g hg => ?_⟩
 rcases hL g hg with h1 | h1
 · exact honce g h1 (h.rL.lt g hg).2
 · refine hS.chg.block g (h.rL.lt g hg).2 fun hh => ?_
   rcases hh with hh | hh
   · have := hT g hh; omega
   · have := hv g hh.symm; omega
theorem NumC.x {W : World} (h : NumX w base b m vL vR vP vI vE vF L R A) (c : Chg (fun g => g = b ∨ g = m ∨ some g = vL.ownBlock) w W) (hc : NumC W base b m vL' L' [.map (some m),vR,vP,.int .i64 A.states,vI,vE,vF]) (nd : L'.Nodup) : NumX W base b m vL' vR vP vI vE vF L' R A :=
 ⟨hc.hdr,hc.map,hc.rL,h.o.keep c fun g hg hh => by
   have h1 := h.mR hg
   rcases hh with hh | hh | hh
   · exact h1.2.1 hh
   · exact h1.1 hh
   · exact h1.2.2 hh.symm,by have := h.base; have := c.size; omega,nd⟩
end
theorem RowsE.chgS {S : Nat → Prop} {lo hi : Nat} {w w' : World} {v : Value} {xs : List (List Edge)} (h : RowsE lo hi w v xs) (k : Chg S w w') (hs : ∀ b,lo ≤ b → b < hi → ¬ S b) : RowsE lo hi w' v xs :=
 RowE.chg h k hs fun _ _ ⟨u,h1,h2⟩ => ⟨u,h1,h2.chg k hs (fun _ _ h => h)⟩
theorem BoolRows.chgS {S : Nat → Prop} {lo hi : Nat} {w w' : World} {v : Value} {xs : List (List Bool)} (h : BoolRows lo hi w v xs) (k : Chg S w w') (hs : ∀ b,lo ≤ b → b < hi → ¬ S b) : BoolRows lo hi w' v xs :=
 RowE.chg h k hs fun _ _ ⟨u,h1,h2⟩ => ⟨u,h1,h2.chg k hs (fun _ _ h => h)⟩
theorem Na {n k : Nat} {p : Ag} (h : InB n k p) (hn : n < 1000000000) (hk : k < 1000000000) : T64 (Dh p) := by
 obtain ⟨h1,h2,h3,h4⟩ := h
 exact ⟨show G7 p.1 from ⟨by omega,by omega⟩,show G7 (0 : Int) from ⟨by decide,by decide⟩,show G7 p.2 from ⟨by omega,by omega⟩⟩
theorem Ce {α β : Type} {f : α → β} (hf : ∀ a b,f a = f b → a = b) {l : List α} (h : l.Nodup) : (l.map f).Nodup := by
 unfold List.Nodup
 rw [List.pairwise_map]
 exact h.imp fun hne he => hne (hf _ _ he)
theorem Of {W : World} {b : Nat} {t : TypeId} {x y : Value} {r r' : List Value} (h : Own W b t (x :: r)) (h' : Own W b t (y :: r')) : r = r' := by
 have h2 := Option.some.inj ((show W.heap[b]? = _ from h).symm.trans h')
 injection h2 with h2
 have h3 := congrArg Array.toList h2
 simp at h3
 exact h3.2
theorem O7 : Af prog 17 = true := by kernel_rfl
set_option maxHeartbeats 4000000 in
theorem Zn {w : World} {pv iv ev sv : Value} {g : General} (hv : GenV 0 w.heap.size w pv iv ev sv g) (hel : g.edges.length < 1000000) (hbox : g.states.toNat * max g.sets.length 1 < 65536) (hsl : g.sets.length < 65536) :
 Calls prog 17 [.agg #[pv,.int .i64 g.states,iv,ev,sv]].toArray w (Bg fun r w' => Kp w w' ∧ ((Al g = false ∧ r = .tuple #[.agg #[Ad,.int .i64 0,Ad,Ad,Ad],.int .i64 100]) ∨ (Al g = true ∧ ∃ y,r = .tuple #[Fg (Db g) y,.int .i64 0] ∧ Ev w.heap.size w' (Db g) y))) := by
 obtain ⟨pa,pc,rfl,-⟩ := id hv.props
 obtain ⟨ia,ic,rfl,-,hir⟩ := id hv.init
 obtain ⟨ea,ec,rfl,-⟩ := id hv.edges
 obtain ⟨sa,sc,rfl,-⟩ := id hv.sets
 refine call Aa func17 rfl ntmps17 (by kernel_rfl) ?_
 refine nd fun b1 w1 e1 z1 k1 m1 => ?_
 have m1 : Own w1 b1 27 [.slice pa g.props.length pc,.int .i64 g.states,.slice ia g.init.length ic,.slice ea g.edges.length ec,.slice sa g.sets.length sc] := m1
 refine nd fun b2 w2 e2 z2 k2 m2 => ?_
 have m2 : Own w2 b2 29 [Ad,.int .i64 0,Ad,Ad,Ad] := m2
 have m1 := k2.own m1 id
 have k12 := k1.trans k2
 refine ld Aa (v := .agg #[.slice pa g.props.length pc,.int .i64 g.states,.slice ia g.init.length ic,.slice ea g.edges.length ec,.slice sa g.sets.length sc]) (Own.at_ (xs := [.slice pa g.props.length pc,.int .i64 g.states,.slice ia g.init.length ic,.slice ea g.edges.length ec,.slice sa g.sets.length sc]) (o := 0) m1 rfl) (by rfl) ?_
 have hchk := S9 (hv.chg k12 (Nat.le_refl _) (Nat.le_refl _))
 have hexc : ∃ cc,Al g = cc := ⟨_,rfl⟩
 obtain ⟨cc,hc⟩ := hexc
 rw [hc] at hchk
 refine cl Mu hchk ?_
 rintro _ w3 ⟨rfl,k3⟩
 have m1 := k3.own m1 id
 have m2 := k3.own m2 id
 have K3 := k12.trans k3
 cases cc with
 | false =>
  refine Dj (by decide) ?_
  refine st Aa m2 rfl (Nat.le_refl 5) rfl ?_
  intro w4 z4 k4 m4
  have m4 : Own w4 b2 29 [Ad,.int .i64 0,Ad,Ad,Ad] := m4
  refine ld Aa (v := .agg #[Ad,.int .i64 0,Ad,Ad,Ad]) (Own.at_ (xs := [Ad,.int .i64 0,Ad,Ad,Ad]) (o := 0) m4 rfl) (by rfl) ?_
  exact ⟨K3.newS k4 fun j hj => by omega,.inl ⟨hc,rfl⟩⟩
 | true =>
  refine Bs (by decide) ?_
  have hG := Good.of hc
  have hn : ∃ n : Nat,g.states = n := ⟨g.states.toNat,by have := hG.s0; omega⟩
  obtain ⟨n,hn⟩ := hn
  have hs1 := hG.s1
  have hdg : Db g = Cf g.props g.init g.sets (Aj g.edges) (n * max g.sets.length 1) := by unfold Db; rw [hn,Int.toNat_natCast]
  rw [hn,Int.toNat_natCast] at hbox
  have hK1 : 0 < max g.sets.length 1 := by omega
  have hn65 : n < 65536 := by
   have := Nat.mul_le_mul_left n (show 1 ≤ max g.sets.length 1 by omega)
   omega
  refine ld Aa (v := .agg #[.slice pa g.props.length pc,.int .i64 g.states,.slice ia g.init.length ic,.slice ea g.edges.length ec,.slice sa g.sets.length sc]) (Own.at_ (xs := [.slice pa g.props.length pc,.int .i64 g.states,.slice ia g.init.length ic,.slice ea g.edges.length ec,.slice sa g.sets.length sc]) (o := 0) m1 rfl) (by rfl) ?_
  have hmem := I3 ((hv.chg K3 (Nat.le_refl _) K3.size)) hG hn (by omega)
  refine cl G0 hmem ?_
  rintro inV w4 ⟨k4,hIn⟩
  have m1 := k4.own m1 id
  have m2 := k4.own m2 id
  have K4 := K3.trans k4
  refine ld Aa (Own.at_ (xs := [.int .i64 g.states]) (o := 1) m1 rfl) (by rfl) ?_
  refine ld Aa (Own.at_ (xs := [.slice ea g.edges.length ec]) (o := 3) m1 rfl) (by rfl) ?_
  have hed : RowE (fun _ cs x => cs = Edge.cells x) 4 0 w.heap.size w4 (.slice ea g.edges.length ec) g.edges := (hv.edges.chg K4 (fun _ _ _ h => h) (fun _ _ h => h)).mono (fun _ _ h => h.1) (Nat.le_refl _) (Nat.le_refl _)
  have hfrom := Nb (n := n) hed K4.size (by omega) (by omega) fun e he => by have := hG.edges e he; omega
  rewrite [← hn] at hfrom
  refine cl I9 hfrom ?_
  rintro frV w5 ⟨k5,hFr⟩
  have m1 := k5.own m1 id
  have m2 := k5.own m2 id
  have K5 := K4.trans k5
  have hIn := hIn.chg k5
  refine ld Aa (Own.at_ (xs := [.slice pa g.props.length pc]) (o := 0) m1 rfl) (by rfl) ?_
  have hnum := J0 (hv.props.chg K5 (fun _ _ _ h => h) (fun _ _ h => h)) (by have h8 : _ ≤ 8 := C2 hc; exact Nat.lt_of_le_of_lt h8 (by decide))
  refine cl H2 hnum ?_
  rintro _ w6 ⟨k6,b,m,vP,rfl,hb5,hm5,X6⟩
  have m1 := k6.own m1 id
  have m2 := k6.own m2 id
  have K6 := K5.trans k6
  have hIn := hIn.chg k6
  have hFr := hFr.chg k6
  have hB : ∃ B,B = w5.heap.size := ⟨_,rfl⟩
  obtain ⟨B,hB⟩ := hB
  have hz5 : w3.heap.size ≤ w4.heap.size ∧ w4.heap.size ≤ B ∧ w.heap.size ≤ B ∧ b1 < B ∧ b2 < B := by
   have := k4.size; have := k5.size; have := K5.size; have := k3.size; omega
  rw [← hB] at X6 hb5 hm5 hFr
  have hK : ∀ {V},Chg (fun g => B ≤ g) w6 V → Kp w V := fun {V} hc => K6.newS hc fun g hg => by have : B ≤ g := hg; omega
  have hInV : ∀ {V},Chg (fun g => B ≤ g) w6 V → BoolRows w3.heap.size w4.heap.size V inV (g.sets.map (B8 n)) := fun {V} hc => hIn.chgS hc fun g _ h2 hh => by have : B ≤ g := hh; omega
  have hFrV : ∀ {V},Chg (fun g => B ≤ g) w6 V → RowsE w4.heap.size B V frV (B1 n g.edges) := fun {V} hc => hFr.chgS hc fun g _ h2 hh => by have : B ≤ g := hh; omega
  clear hIn hFr hmem hfrom hnum hchk
  have hTB : ∀ {V vL vR vI vE vF L R A},NumX V B b m vL vR vP vI vE vF L R A → ∀ g,(g = b ∨ g = m ∨ some g = vL.ownBlock) → B ≤ g := fun {V vL vR vI vE vF L R A} hX g hg => by
   rcases hg with rfl | rfl | hg
   · exact hb5
   · exact hm5
   · exact Ah hX.rL hg.symm
  have hini : ∀ s ∈ g.init,0 ≤ s ∧ s < n := fun s hs => by have := hG.init s hs; omega
  have hnd := (Bu hc).1
  have hto : ∀ e ∈ g.edges,0 ≤ e.to ∧ e.to < n := fun e he => by have := hG.edges e he; omega
  have hto' : ∀ s,∀ e ∈ Aj g.edges s,0 ≤ e.to ∧ e.to < n := fun s e he => hto e (List.mem_filter.1 he).1
  have hil : g.init.length ≤ n := by
   have h1 := A8 (l := g.init) (r := (List.range n).map fun (i : Nat) => (i : Int)) hnd fun s hs' => by
    have := hini s hs'
    exact List.mem_map.2 ⟨s.toNat,by rw [List.mem_range]; omega,by omega⟩
   simpa using h1
  have hI0len : ∀ j,j ≤ g.init.length → (A9 (g.init.take j)) = ((g.init.take j).map fun s => (s,(0 : Int)),(List.range j).map fun (i : Nat) => (i : Int)) := fun j hj => by
   have := Bf (l := g.init.take j) (hnd.sublist (List.take_sublist _ _))
   rw [this,List.length_take,Nat.min_eq_left hj]
  refine loop Aa (σ := Nat × Value × Value) (fun t => [(1,pt b1 0),(2,pt b2 0),(4,inV),(5,frV),(6,pt b 0),(7,.int .i64 t.1)])
   (fun t V => t.1 ≤ g.init.length ∧ Chg (fun g => B ≤ g) w6 V ∧ NumX V B b m t.2.1 Ad vP t.2.2 Ad Ad ((A9 (g.init.take t.1)).1.map Dh) [] { props := g.props,states := 0,init := (A9 (g.init.take t.1)).2,edges := [],final := [] }) (fun t => g.init.length - t.1) (0,Ad,Ad)
   ⟨rfl,rfl,rfl,rfl,rfl,rfl,trivial⟩ ⟨Nat.zero_le _,Chg.refl _ _,by simpa [A9] using X6⟩ ?_
  rintro ⟨j,xL,xI⟩ ea7 w7 ⟨hj,c7,X7⟩
  simp only at hj X7
  have m17 := c7.own m1 fun hh => by have : B ≤ b1 := hh; omega
  refine ld Aa (Own.at_ (xs := [.slice ia g.init.length ic]) (o := 2) m17 rfl) (by rfl) ?_
  refine sp (fun hlt => ?_) (fun hge => ?_)
  · have hj' : j < g.init.length := by simp only at hlt; omega
    have hsd : ∃ s,s = g.init[j] := ⟨_,rfl⟩
    obtain ⟨s,hsd⟩ := hsd
    have hxs : g.init[j]? = some s := by rw [hsd]; simp
    have hsr := hini s (List.mem_of_getElem? hxs)
    obtain ⟨q,o,hia,-,hqlt,cs,-,hrd,hcs⟩ := hir j s hxs
    subst hia hcs
    have hA0 : ∃ A0,A0 = A9 (g.init.take j) := ⟨_,rfl⟩
    obtain ⟨A0,hA0⟩ := hA0
    have hT1 : A0.1.length = j := by rw [hA0,hI0len j (by omega)]; simp; omega
    have hT2 : A0.2.length = j := by rw [hA0,hI0len j (by omega)]; simp
    have hsnoc : A9 (g.init.take (j + 1)) = Ry A0 s := by
     rw [List.take_succ_eq_append_getElem hj',E4,← hsd,hA0]
    rw [← hA0] at X7
    have hTTx : ∃ TT : Nat → Prop,TT = fun g => g = b ∨ g = m ∨ some g = xL.ownBlock := ⟨_,rfl⟩
    obtain ⟨TT,hTT⟩ := hTTx
    have hTb : ∀ g,TT g → B ≤ g := fun g hg => hTB X7 g (by rw [hTT] at hg; exact hg)
    have hTl : ∀ g,TT g → g < w7.heap.size := fun g hg => by
     rw [hTT] at hg
     rcases hg with rfl | rfl | hg
     · exact X7.hdr.lt
     · exact X7.map.lt
     · exact (X7.rL.lt g hg.symm).2
    have hIl : ∀ g,xI.ownBlock = some g → g < w7.heap.size := fun g hg => (X7.o.rI.lt g hg).2
    have hTn : ∀ g,TT g → xI.ownBlock ≠ some g := fun g hg he => by
     have h1 := X7.mR (g := g) (.inr (.inr (.inl he)))
     rw [hTT] at hg
     rcases hg with hg | hg | hg
     · exact h1.2.1 hg
     · exact h1.1 hg
     · exact h1.2.2 hg.symm
    have hbT : TT b := by rw [hTT]; exact .inl rfl
    have hmT : TT m := by rw [hTT]; exact .inr (.inl rfl)
    have hbears := NAppR.bears (T := TT) (b := b) (w0 := w7) (v := xI) (k := j * 1) (news := [.int .i64 (Aw A0.1 (s,0) : Nat)]) hIl hTl hTn hbT
    have hpre := Kv TT b w7 xI (j * 1) [.int .i64 (Aw A0.1 (s,0) : Nat)]
    have hdrS : ∀ {W},NAppR TT b w7 xI (j * 1) [.int .i64 (Aw A0.1 (s,0) : Nat)] w7 W → ∃ vL',Own W b 101 [vL',.map (some m),Ad,vP,.int .i64 0,xI,Ad,Ad] := fun {W} hS => hS.hdr _ _ X7.hdr
    have lowS : ∀ {W},NAppR TT b w7 xI (j * 1) [.int .i64 (Aw A0.1 (s,0) : Nat)] w7 W → Chg (fun g => B ≤ g) w7 W := fun {W} hS => hS.c.chg.mono fun g hg => hg.elim (fun h => hTb g h) fun h => Ah X7.o.rI h.symm
    refine Gm Aa mixed 19 [6,7,8,9,10,11,12,13,0,1,2,3,4,5,14,15,16,17,18] (by kernel_rfl) (NAppR TT b w7 xI (j * 1) [.int .i64 (Aw A0.1 (s,0) : Nat)]) hpre (fun W => W.heap.size = w7.heap.size ∧ Kp w7 W) 13 ⟨rfl,(Chg.refl _ _).drew⟩ ?_
    conv => whnf
    refine Fc hpre Aa rfl rfl (fun W h _ _ => Own.at_ (xs := [.slice (some ⟨q,o,none⟩) g.init.length ic]) (o := 2) ((lowS h).own m17 fun hh => by have : B ≤ b1 := hh; omega) rfl) (by rfl) fun _ => ?_
    conv => whnf
    refine ne ⟨by omega,by omega⟩ ?_
    conv => whnf
    refine Fc hpre Aa (v := .int .i64 s) rfl rfl (fun W h _ _ => by rw [Int.toNat_natCast]; exact (K6.newS (c7.trans (lowS h)) (fun g hg => by have : B ≤ g := hg; omega)).range hrd id) (by rfl) fun _ => ?_
    conv => whnf
    refine Jp (τ := Value) (hne := ⟨undef⟩) (.int .i64 (Aw A0.1 (s,0) : Nat)) (fun v' W => NumC W B b m v' ((B7 A0.1 (s,0)).map Dh) [.map (some m),Ad,vP,.int .i64 0,xI,Ad,Ad] ∧ (∀ g,v'.ownBlock = some g → xL.ownBlock = some g ∨ w7.heap.size ≤ g) ∧ w7.heap.size < W.heap.size) rfl rfl rfl (fun v' W W' hFv hS => ?_) I8 (fun W hS _ hU => ?_) fun v' D hD => ?_
    · obtain ⟨f1,f2,f3⟩ := hFv
      exact ⟨f1.once hS.c f3 hbT hmT (fun g hg => (f2 g hg).imp (fun h => by rw [hTT]; exact .inr (.inr h.symm)) id) hTl hIl,f2,by have := hS.c.chg.size; omega⟩
    · obtain ⟨hU1,hU2⟩ := hU
      have hcall := Qa (X7.kp hU2) (p := Dh (s,0)) (Na (n := n) (k := 1) ⟨hsr.1,hsr.2,Int.le_refl _,(show (0 : Int) < ((1 : Nat) : Int) by decide)⟩ (by omega) (by decide)) (by rw [List.length_map]; omega)
      refine hcall.mono fun en W' hr => ?_
      cases en with
      | returned v =>
       obtain ⟨rfl,v',hX,hc',hg',hs'⟩ := hr
       rw [Gi Cv] at hX
       refine ⟨congrArg (fun i : Nat => Value.int .i64 (i : Int)) (E2 Cv _ _),⟨⟨hc'.mono fun g hg => .inl (by rw [hTT]; exact hg),fun g hg hl => .inl (hc'.block g hl fun hT => hTn g (by rw [hTT]; exact hT) hg),.inr (by omega)⟩,fun vL0 r0 ho => ⟨v',?_⟩⟩,v',⟨hX.hdr,hX.map,hX.rL⟩,fun g hg => (hg' g hg).imp id fun h => by omega,by omega⟩
       have h1 := hU2.own X7.hdr id
       rw [Of ho h1]
       exact hX.hdr
      | _ => exact hr.elim
    conv => whnf
    refine Fc hpre Aa rfl rfl (fun W h _ _ => by
     obtain ⟨vL',hh⟩ := hdrS h
     exact Own.at_ (xs := [xI]) (o := 5) hh rfl) (by rfl) fun _ => ?_
    conv => whnf
    refine ⟨fun W hS hDn hU => ?_,?_⟩
    · have := (hD W (hDn 13 (by kernel_rfl))).2.2
      omega
    refine Uh hpre rfl rfl rfl rfl rfl (by decide) (fun b o W W' hb ho hS => hbears.new W W' b o hS hb ho) (fun W hS => hbears.size _ _ hS) fun q2 D2 hD2 => ?_
    conv => whnf
    refine ⟨fun W hS hDn hU => ?_,?_⟩
    · have := (hD W (hDn 13 (by kernel_rfl))).2.2
      omega
    refine Un (m := 1) (news := [.int .i64 (Aw A0.1 (s,0) : Nat)]) Aa hbears rfl rfl rfl rfl rfl rfl rfl (by decide) (show w7.ownsRow B 3 1 xI j _ from hT2 ▸ X7.o.rI) rfl (fun W hS hDn => Own.at_ (xs := [.int .i64 (Aw A0.1 (s,0) : Nat)]) (o := 0) (hD2 W (hDn 14 (by kernel_rfl))).1 rfl) rfl (by simp only [maxLen]; omega) (by show (_ + 1) * 8 ≤ _; omega) X7.base fun xI' D3 hD3 => ?_
    conv => whnf
    intro w11 hS11 hd11
    have hN11 := hD w11 (hd11 13)
    have hI11 := hD3 w11 (hd11 15)
    obtain ⟨nc11,hnew11,hsz11⟩ := hN11
    obtain ⟨rI11,hnewI⟩ := hI11
    have hfI := Ae rI11
    obtain ⟨ia',ic',hxi'⟩ := hfI
    subst hxi'
    refine st Aa nc11.hdr rfl (show 6 ≤ 8 by decide) rfl ?_
    intro w12 z12 c12 ob12
    have ob12 : Own w12 b 101 [v',.map (some m),Ad,vP,.int .i64 0,.slice ia' (j + 1) ic',Ad,Ad] := ob12
    have hnd2 : (B7 A0.1 (s,0)).Nodup ∧ True := ⟨Ca (by rw [hA0,hI0len j (by omega)]; exact Ce (fun a b h => by injection h) (hnd.sublist (List.take_sublist _ _))),trivial⟩
    have hX12 := X7.ofI (hS11.c.chg.mono fun g hg => by rw [hTT] at hg; exact hg) nc11.map nc11.rL hnew11 (vI' := .slice ia' (j + 1) ic') (I' := A0.2 ++ [(Aw A0.1 (s,0) : Int)]) (by
     rw [List.length_append,List.flatMap_append]
     show w11.ownsRow B 3 1 _ (A0.2.length + 1) _
     rw [hT2]
     exact rI11) hnewI c12 ob12 (Ce Cv hnd2.1) nc11.hdr
    refine aw (by simp only; omega) (by simp only; omega) ?_
    refine again (j + 1,v',.slice ia' (j + 1) ic') ⟨rfl,rfl,rfl,rfl,rfl,rfl,trivial⟩ ⟨by simp only; omega,?_,?_⟩ (by simp only; omega)
    · exact (c7.trans (lowS hS11)).trans (c12.mono fun g hg => by rw [hg]; exact hb5)
    · simp only
      rw [hsnoc]
      exact hX12
  · have hje : j = g.init.length := by simp only at hge; omega
    subst hje
    rw [List.take_length] at X7
    have hL0x : ∃ L0,L0 = (A9 g.init).1 := ⟨_,rfl⟩
    obtain ⟨L0,hL0⟩ := hL0x
    have hIx : ∃ I,I = (A9 g.init).2 := ⟨_,rfl⟩
    obtain ⟨I,hIe⟩ := hIx
    rw [← hL0,← hIe] at X7
    have hok0 : DOk n (max g.sets.length 1) (L0,[],[]) := ⟨by
     show L0.Nodup
     rw [hL0,Bf hnd]
     exact Ce (fun a b h => by injection h) hnd,fun q hq => by
     have hq : q ∈ L0 := hq
     rw [hL0,Bf hnd] at hq
     obtain ⟨s,hs',rfl⟩ := List.mem_map.1 hq
     have := hini s hs'
     exact ⟨this.1,this.2,Int.le_refl _,by show (0 : Int) < _; omega⟩⟩
    have hxI : ∃ vI,vI = xI := ⟨_,rfl⟩
    obtain ⟨vI,hvI⟩ := hxI
    rw [← hvI] at X7
    refine loop Aa (σ := Nat × Value × Value × Value × List Edge) (fun t => [(1,pt b1 0),(2,pt b2 0),(4,inV),(5,frV),(6,pt b 0),(8,.int .i64 t.1)])
     (fun t V => t.1 ≤ (A5 g.sets (Aj g.edges) (L0,[],[]) t.1).1.length ∧ Chg (fun g => B ≤ g) w6 V ∧ NumX V B b m t.2.1 Ad vP vI t.2.2.1 t.2.2.2.1 ((A5 g.sets (Aj g.edges) (L0,[],[]) t.1).1.map Dh) [] { props := g.props,states := if t.1 = 0 then 0 else ((A5 g.sets (Aj g.edges) (L0,[],[]) t.1).1.length : Nat),init := I,edges := t.2.2.2.2,final := (A5 g.sets (Aj g.edges) (L0,[],[]) t.1).2.2 } ∧
       Ref t.2.2.2.2 [] [] (A5 g.sets (Aj g.edges) (L0,[],[]) t.1).2.1 t.1) (fun t => n * max g.sets.length 1 - t.1) (0,xL,Ad,Ad,[])
     ⟨rfl,rfl,rfl,rfl,rfl,rfl,trivial⟩ ⟨Nat.zero_le _,c7,X7,Ref.zero⟩ ?_
    rintro ⟨i,vL,vE,vF,D⟩ eb wA ⟨hi1,cA,XA,hRef⟩
    simp only at hi1 XA hRef
    have hDok := Fq hto' hok0 i
    have hDl := Ff (sets := g.sets) (fr := Aj g.edges) (L0 := L0) (m := g.edges.length) (fun s => List.length_filter_le _ _) i
    have hLb := A6 hDok.nd hDok.box
    have hDx : ∃ DD,DD = A5 g.sets (Aj g.edges) (L0,[],[]) i := ⟨_,rfl⟩
    obtain ⟨DD,hDi⟩ := hDx
    rw [← hDi] at hi1 XA hRef hDok hLb hDl
    obtain ⟨L,E,F⟩ := DD
    simp only at hi1 XA hRef hLb hDl
    have hDlen : D.length ≤ 65536 * 1000000 := by
     have hn : D.Nodup := hRef.d.imp fun {x y} hxy he => by subst he; rw [Gx] at hxy; cases hxy
     have h1 := A8 (l := D) (r := E) hn fun x hx => (hRef.dm x).1 hx
     exact Nat.le_trans (Nat.le_trans h1 hDl.1) (Nat.mul_le_mul (by omega) (by omega))
    have hfN := Ae XA.rL
    obtain ⟨na,nc,rfl⟩ := hfN
    have hLm : (L.map Dh).length = L.length := List.length_map _
    refine ld Aa (Own.at_ (xs := [.slice na (L.map Dh).length nc]) (o := 0) XA.hdr rfl) (by rfl) ?_
    refine sp (fun hlt => ?_) (fun hge => ?_)
    · have hiL : i < L.length := by simp only at hlt; omega
      have hxi : L[i]? = some L[i] := by simp
      have hbxi := hDok.box L[i] (List.getElem_mem hiL)
      have hppx : ∃ pp,pp = L[i] := ⟨_,rfl⟩
      obtain ⟨pp,hpp⟩ := hppx
      rw [← hpp] at hxi hbxi
      obtain ⟨pS,pW⟩ := pp
      obtain ⟨q1,q2,q3,q4⟩ := hbxi
      simp only at q1 q2 q3 q4
      have hpsx : ∃ ps : Nat,pS = ps := ⟨pS.toNat,by omega⟩
      obtain ⟨ps,rfl⟩ := hpsx
      have hpwx : ∃ pw : Nat,pW = pw := ⟨pW.toNat,by omega⟩
      obtain ⟨pw,rfl⟩ := hpwx
      have hpsn : ps < n := by omega
      have hpwk : pw < max g.sets.length 1 := by omega
      have hxT : (L.map Dh)[i]? = some (((ps : Nat) : Int),(0 : Int),((pw : Nat) : Int)) := by rw [List.getElem?_map,hxi]; rfl
      have hrowN := Av (f := Eg) (fun _ => rfl) XA.rL (by decide)
      obtain ⟨_,_,e1',-,hrN⟩ := hrowN
      injection e1' with e1' _ e2'
      subst e1' e2'
      obtain ⟨qb,qo,rfl,-,-,cs0,-,hrd0,rfl⟩ := hrN i _ hxT
      refine ld Aa (Own.at_ (xs := [.slice (some ⟨qb,qo,none⟩) (L.map Dh).length nc]) (o := 0) XA.hdr rfl) (by rfl) ?_
      refine ne ⟨Int.natCast_nonneg _,Int.ofNat_lt.2 (by rw [hLm]; exact hiL)⟩ ?_
      refine ld Aa (v := H9 ((ps : Nat),0,(pw : Nat))) (by rw [Int.toNat_natCast]; exact hrd0) (by rfl) ?_
      refine nd fun b9 wB eB zB kB mp => ?_
      refine st Aa (cs := [.int .i64 0,.int .i64 0,.int .i64 0]) mp rfl (Nat.le_refl 3) rfl ?_
      intro wC zC kC mp
      have mp : Own wC b9 104 [.int .i64 (ps : Nat),.int .i64 0,.int .i64 (pw : Nat)] := mp
      have kAC : Kp wA wC := kB.new eB kC
      have cC := cA.newT kAC fun _ hf => hf.elim
      have XC := XA.kp kAC
      have hb9 : ∀ g,(Value.slice (some ⟨qb,qo,none⟩) (L.map Dh).length nc).ownBlock = some g → g ≠ b9 := fun g hg he => by have := (XA.rL.lt g hg).2; omega
      have hvNx : ∃ vN,vN = Value.slice (some ⟨qb,qo,none⟩) (L.map Dh).length nc := ⟨_,rfl⟩
      obtain ⟨vN,hvN⟩ := hvNx
      rw [← hvN] at XC hb9
      clear XA hrN hrd0
      refine ld Aa (Own.at_ (xs := [.int .i64 (ps : Nat)]) (o := 0) mp rfl) (by rfl) ?_
      refine ld Aa (Own.at_ (xs := [.int .i64 (pw : Nat)]) (o := 2) mp rfl) (by rfl) ?_
      have hdx : ∃ d,d = Be g.sets ((ps : Nat),(pw : Nat)) := ⟨_,rfl⟩
      obtain ⟨d,hdd⟩ := hdx
      have hdr := Cq (sets := g.sets) (p := ((ps : Nat),(pw : Nat))) ⟨q3,q4⟩
      rw [← hdd] at hdr
      have hbeh := U3 (hInV cC) hpsn hpwk (by omega)
      rw [← hdd] at hbeh
      refine cl R3 hbeh ?_
      rintro _ wD ⟨rfl,kD⟩
      have cD := cC.newT kD fun _ hf => hf.elim
      have XD := XC.kp kD
      have mpD := kD.own mp id
      have hlx : ∃ l,l = Aj g.edges ((ps : Nat) : Int) := ⟨_,rfl⟩
      obtain ⟨l,hl⟩ := hlx
      have hll : l.length < 1000000 := by rw [hl]; have := List.length_filter_le (fun e : Edge => decide (e.frm = ((ps : Nat) : Int))) g.edges; unfold Aj; omega
      have hlto : ∀ e ∈ l,0 ≤ e.to ∧ e.to < n := by rw [hl]; exact hto' _
      refine loop Aa (σ := Nat × Value × Value × List Edge) (fun t => [(1,pt b1 0),(2,pt b2 0),(4,inV),(5,frV),(6,pt b 0),(8,.int .i64 i),(9,pt b9 0),(10,.int .i64 d),(11,.int .i64 t.1)])
       (fun t V => t.1 ≤ l.length ∧ Chg (fun g => B ≤ g) w6 V ∧ NumX V B b m t.2.1 t.2.2.1 vP vI vE vF ((Ba i d (L,[]) (l.take t.1)).1.map Dh) t.2.2.2 { props := g.props,states := if i = 0 then 0 else (L.length : Nat),init := I,edges := D,final := F } ∧
         Ref D t.2.2.2 (Ba i d (L,[]) (l.take t.1)).2 E i ∧ Own V b9 104 [.int .i64 (ps : Nat),.int .i64 0,.int .i64 (pw : Nat)] ∧ t.2.1.ownBlock ≠ some b9 ∧ t.2.2.2.length ≤ t.1) (fun t => l.length - t.1) (0,vN,Ad,[])
       ⟨rfl,rfl,rfl,rfl,rfl,rfl,rfl,rfl,rfl,trivial⟩ ⟨Nat.zero_le _,cD,XD,hRef,mpD,fun hh => hb9 b9 hh rfl,Nat.le_refl _⟩ ?_
      rintro ⟨k,vL,vR,R⟩ ec wE ⟨hk,cE,XE,hRefE,mpE,hb9E,hRl⟩
      simp only at hk XE hRefE hb9E hRl
      have hfr := hFrV cE
      obtain ⟨fa,fc,rfl,-,hfrr⟩ := id hfr
      have hrs : (B1 n g.edges)[ps]? = some l := by unfold B1; rw [List.getElem?_map,List.getElem?_range hpsn,hl]; rfl
      have hrl : (B1 n g.edges).length = n := by unfold B1; simp
      obtain ⟨fb,fo,rfl,-,-,csf,-,hrdf,uf,rfl,huf⟩ := hfrr ps l hrs
      obtain ⟨la,lc,rfl,-,hlr⟩ := huf
      refine ld Aa (Own.at_ (xs := [.int .i64 (ps : Nat)]) (o := 0) mpE rfl) (by rfl) ?_
      refine ne ⟨by omega,by rw [hrl]; omega⟩ ?_
      refine ld Aa (v := .slice la l.length lc) (by rw [Int.toNat_natCast]; exact hrdf) (by rfl) ?_
      refine sp (fun hlt2 => ?_) (fun hge2 => ?_)
      · have hk' : k < l.length := by simp only at hlt2; omega
        have hex : ∃ e,e = l[k] := ⟨_,rfl⟩
        obtain ⟨e,hed⟩ := hex
        have hxe : l[k]? = some e := by rw [hed]; simp
        have het := hlto e (List.mem_of_getElem? hxe)
        obtain ⟨lb,lo2,rfl,-,hlb2,cse,-,hrde,rfl⟩ := hlr k e hxe
        refine ld Aa (Own.at_ (xs := [.int .i64 (ps : Nat)]) (o := 0) mpE rfl) (by rfl) ?_
        refine ne ⟨by omega,by rw [hrl]; omega⟩ ?_
        refine ld Aa (v := .slice (some ⟨lb,lo2,none⟩) l.length lc) (by rw [Int.toNat_natCast]; exact hrdf) (by rfl) ?_
        refine ne ⟨by omega,by omega⟩ ?_
        refine ld Aa (v := e.val) (by rw [Int.toNat_natCast]; exact hrde) (by rfl) ?_
        refine nd fun b12 wF eF zF kF m12 => ?_
        refine st Aa (cs := [.int .i64 0,.int .i64 0,.int .u16 0,.int .u16 0]) m12 rfl (Nat.le_refl 4) rfl ?_
        intro wG zG kG m12
        have m12 : Own wG b12 67 e.cells := m12
        have kEG : Kp wE wG := kF.new eF kG
        have cG := cE.newT kEG fun _ hf => hf.elim
        have XG := XE.kp kEG
        have mpG := kEG.own mpE id
        have hA1x : ∃ A1,A1 = Ba i d (L,[]) (l.take k) := ⟨_,rfl⟩
        obtain ⟨A1,hA1⟩ := hA1x
        rw [← hA1] at XG hRefE
        have hb1 := Cm (n := n) (k := max g.sets.length 1) (i := i) (d := d) hdr (l.take k) (L,[]) (fun x hx => hlto x (List.mem_of_mem_take hx)) hDok.nd hDok.box
        rw [← hA1] at hb1
        have hA1l := A6 hb1.1 hb1.2.1
        have hsnoc : Ba i d (L,[]) (l.take (k + 1)) = G4 i d A1 e := by
         rw [List.take_succ_eq_append_getElem hk',Ey,← hed,hA1]
        have hTTx : ∃ TT : Nat → Prop,TT = fun g => g = b ∨ g = m ∨ some g = vL.ownBlock := ⟨_,rfl⟩
        obtain ⟨TT,hTT⟩ := hTTx
        have hTb : ∀ g,TT g → B ≤ g := fun g hg => hTB XG g (by rw [hTT] at hg; exact hg)
        have hTl : ∀ g,TT g → g < wE.heap.size := fun g hg => by
         rw [hTT] at hg
         rcases hg with rfl | rfl | hg
         · exact XE.hdr.lt
         · exact XE.map.lt
         · exact (XE.rL.lt g hg.symm).2
        have hz12 : wE.heap.size = b12 := eF
        have hn12 : ¬ TT b12 := fun hh => by have := hTl b12 hh; omega
        have hbT : TT b := by rw [hTT]; exact .inl rfl
        have hmT : TT m := by rw [hTT]; exact .inr (.inl rfl)
        have hpre := Bh TT wG Ad 0 []
        have lowS : ∀ {W},CAppR TT wG Ad 0 [] wG W → Chg TT wG W := fun {W} hS => hS.chg.mono fun g hg => hg.elim id fun h => by cases h
        refine Gm Aa mixed 13 [2,3,4,5,6,7,0,1,8,9,10,11,12] (by kernel_rfl) (CAppR TT wG Ad 0 []) hpre (fun W => W.heap.size = wG.heap.size ∧ Kp wG W) 7 ⟨rfl,(Chg.refl _ _).drew⟩ ?_
        conv => whnf
        refine Fc hpre Aa rfl rfl (fun W h _ _ => Own.at_ (xs := [.int .i64 e.to]) (o := 1) ((lowS h).own m12 hn12) rfl) (by rfl) fun _ => ?_
        conv => whnf
        refine Jp (τ := Value) (hne := ⟨undef⟩) (.int .i64 (Aw A1.1 (e.to,d) : Nat)) (fun v' W => NumC W B b m v' ((B7 A1.1 (e.to,d)).map Dh) [.map (some m),vR,vP,.int .i64 (if i = 0 then 0 else (L.length : Nat)),vI,vE,vF] ∧ (∀ g,v'.ownBlock = some g → vL.ownBlock = some g ∨ wG.heap.size ≤ g) ∧ wG.heap.size < W.heap.size) rfl rfl rfl (fun v' W W' hFv hS => ?_) I8 (fun W hS _ hU => ?_) fun v' Dd hD => ?_
        · obtain ⟨f1,f2,f3⟩ := hFv
          exact ⟨f1.once hS f3 hbT hmT (fun g hg => (f2 g hg).imp (fun h => by rw [hTT]; exact .inr (.inr h.symm)) id) (fun g hg => by have := hTl g hg; omega) (fun g hg => by cases hg),f2,by have := hS.chg.size; omega⟩
        · obtain ⟨hU1,hU2⟩ := hU
          have hcall := Qa (XG.kp hU2) (p := Dh (e.to,d)) (Na (n := n) (k := max g.sets.length 1) ⟨het.1,het.2,hdr.1,hdr.2⟩ (by omega) (by omega)) (by rw [List.length_map]; omega)
          refine hcall.mono fun en W' hr => ?_
          cases en with
          | returned v =>
           obtain ⟨rfl,v',hX,hc',hg',hs'⟩ := hr
           rw [Gi Cv] at hX
           exact ⟨congrArg (fun i : Nat => Value.int .i64 (i : Int)) (E2 Cv _ _),⟨hc'.mono fun g hg => .inl (by rw [hTT]; exact hg),fun g hg hl => (by cases hg),.inr (by omega)⟩,v',⟨hX.hdr,hX.map,hX.rL⟩,fun g hg => (hg' g hg).imp id fun h => by omega,by omega⟩
          | _ => exact hr.elim
        conv => whnf
        refine Fc hpre Aa rfl rfl (fun W h _ _ => Own.at_ (xs := [.int .u16 e.must]) (o := 2) ((lowS h).own m12 hn12) rfl) (by rfl) fun _ => ?_
        conv => whnf
        refine Fc hpre Aa rfl rfl (fun W h _ _ => Own.at_ (xs := [.int .u16 e.no]) (o := 3) ((lowS h).own m12 hn12) rfl) (by rfl) fun _ => ?_
        conv => whnf
        intro wH hSH hdH
        have hNH := hD wH (hdH 7)
        obtain ⟨ncH,hnewH,hszH⟩ := hNH
        have hndH : ((B7 A1.1 (e.to,d)).map Dh).Nodup := Ce Cv (Ca hb1.1)
        have cGH : Chg (fun g => g = b ∨ g = m ∨ some g = vL.ownBlock) wG wH := (lowS hSH).mono fun g hg => by rw [hTT] at hg; exact hg
        have XH := NumC.x XG cGH ncH hndH
        have hcallE := Rm XH hRefE.r (by omega) ⟨i,(Aw A1.1 (e.to,d) : Nat),e.must,e.no⟩
        refine cl L7 hcallE ?_
        rintro rE wI ⟨R',vR',hIns,XI,cI,hnewR⟩
        have hfv := Ae XI.rL
        obtain ⟨va,vc,rfl⟩ := hfv
        have hA2l : (B7 A1.1 (e.to,d)).length ≤ n * max g.sets.length 1 := A6 (n := n) (k := max g.sets.length 1) (Ca hb1.1) (Ky hb1.2.1 ⟨het.1,het.2,hdr.1,hdr.2⟩)
        refine ld Aa (Own.at_ (xs := [.slice va ((B7 A1.1 (e.to,d)).map Dh).length vc]) (o := 0) XI.hdr rfl) (by rfl) ?_
        refine Bs (by rw [List.length_map]; omega) ?_
        have hb9T : ¬ TT b9 := fun hh => by
         rw [hTT] at hh
         rcases hh with hh | hh | hh
         · exact A2 mpG XG.hdr (by decide) hh
         · exact XG.map.ne mpG hh
         · exact hb9E hh.symm
        have mpH := (lowS hSH).own mpG hb9T
        have hb9R : some b9 ≠ vR.ownBlock := fun he => Ai XH.o.rR mpH (fun cs fr hh => by injection hh with _ h2; exact absurd h2 (by decide)) he.symm
        refine aw (by simp only; omega) (by simp only; omega) ?_
        refine again (k + 1,.slice va ((B7 A1.1 (e.to,d)).map Dh).length vc,vR',R') ⟨rfl,rfl,rfl,rfl,rfl,rfl,rfl,rfl,rfl,trivial⟩ ⟨by simp only; omega,?_,?_,?_,cI.own mpH fun hh => hh.elim (A2 mpH XH.hdr (by decide)) hb9R,fun hh => ?_,?_⟩ (by simp only; omega)
        · exact (cG.trans ((lowS hSH).mono hTb)).trans (cI.mono fun g hg => hg.elim (fun h => by rw [h]; exact hb5) fun h => Ah XH.o.rR h.symm)
        · simp only
          rw [hsnoc]
          exact XI
        · simp only
          rw [hsnoc]
          exact hRefE.ins hIns rfl
        · rcases hnewH b9 hh with h1 | h1
          · exact hb9E h1
          · have := mpG.lt; omega
        · have := hIns.len hRefE.r
          simp only
          omega
      · have hke : k = l.length := by simp only at hge2; omega
        subst hke
        rw [List.take_length] at XE hRefE
        have hA1x : ∃ A1,A1 = Ba i d (L,[]) l := ⟨_,rfl⟩
        obtain ⟨A1,hA1⟩ := hA1x
        rw [← hA1] at XE hRefE
        have hiv := hInV cE
        obtain ⟨iva,ivc,rfl,-,hirr⟩ := hiv
        have hml : (g.sets.map (B8 n)).length = g.sets.length := List.length_map _
        have hb1 := Cm (n := n) (k := max g.sets.length 1) (i := i) (d := d) hdr l (L,[]) hlto hDok.nd hDok.box
        rw [← hA1] at hb1
        have hA1l := A6 hb1.1 hb1.2.1
        have hRlen : i + 1 ≤ A1.1.length := by
         have h1 := Dy i d l (L,[])
         rw [← hA1] at h1
         simp only at h1
         omega
        have hDn : A5 g.sets (Aj g.edges) (L0,[],[]) (i + 1) = (A1.1,E ++ A1.2,F ++ if B9 g.sets ((ps : Nat),(pw : Nat)) = true then [(i : Int)] else []) := by
         show Gh g.sets (Aj g.edges) i (A5 g.sets (Aj g.edges) (L0,[],[]) i) = _
         rw [← hDi]
         unfold Gh
         rw [hxi]
         simp only
         rw [← hdd,← hl,Eh,← hA1]
        have hFl : F.length ≤ i := hDl.2
        refine aw (by omega) (by omega) ?_
        by_cases hk0 : g.sets.length = 0
        · have hfin : F ++ (if B9 g.sets ((ps : Nat),(pw : Nat)) = true then [(i : Int)] else []) = F ++ [(i : Int)] := by
           rw [if_pos]
           unfold B9
           exact decide_eq_true (.inl hk0)
          refine Ax Aa mixed 18 (by kernel_rfl) (fun _ => False) ?_
          conv => whnf
          refine Dj (by omega) ?_
          conv => whnf
          intro wJ kJ _
          have XJ := XE.kp kJ
          have cJ := cE.newT kJ fun _ hf => hf.elim
          refine ld Aa (Own.at_ (xs := [vF]) (o := 7) XJ.hdr rfl) (by rfl) ?_
          refine ne (by decide) ?_
          refine nd fun bq wK eK zK kK mq => ?_
          have mq : Own wK bq 3 [.int .i64 (i : Nat)] := mq
          have XK := XJ.kp kK
          have cK := cJ.newT kK fun _ hf => hf.elim
          refine Yu (m := 1) (news := [.int .i64 (i : Nat)]) Aa rfl rfl rfl rfl rfl rfl rfl (by decide) (show wK.ownsRow B 3 1 vF F.length (F.flatMap Ia) from XK.o.rF) rfl (Own.at_ (xs := [.int .i64 (i : Nat)]) (o := 0) mq rfl) rfl (by simp only [maxLen]; omega) (by show (_ + 1) * 8 ≤ _; omega) XK.base fun vF' wM rFM cM hnewF => ?_
          have hff := Ae rFM
          obtain ⟨fa',fc',rfl⟩ := hff
          have hbF : some b ≠ vF.ownBlock := fun he => (XK.mR (g := b) (.inr (.inr (.inr (.inr he.symm))))).2.1 rfl
          have hdrM := cM.own XK.hdr hbF
          refine st Aa hdrM rfl (show 8 ≤ 8 by decide) rfl ?_
          intro wN zN cN hdrN
          have hdrN : Own wN b 101 [vL,.map (some m),vR,vP,.int .i64 (if i = 0 then 0 else (L.length : Nat)),vI,vE,.slice fa' (F.length + 1) fc'] := hdrN
          have hnbF : ∀ g,(Value.slice fa' (F.length + 1) fc').ownBlock = some g → ¬ g = b := fun g hg he => by
           subst he
           exact Ai rFM hdrM (fun cs fr hh => by injection hh with _ h2; exact absurd h2 (by decide)) hg
          have cKN : Chg (fun j => j = b ∨ some j = vF.ownBlock) wK wN := (cM.mono fun _ => .inr).trans (cN.mono fun _ => .inl)
          have XN := XK.newF cKN (vF' := .slice fa' (F.length + 1) fc') (F' := F ++ [(i : Int)]) hdrN (by
           rw [List.length_append,List.flatMap_append]
           exact Ab rFM cN hnbF) hnewF
          have cN6 := cK.trans (cKN.mono fun g hg => hg.elim (fun h => by rw [h]; exact hb5) fun h => Ah XK.o.rF h.symm)
          have hsh := Fk XN (by omega) (by simp only; omega)
          refine cl Do hsh ?_
          rintro rS wS ⟨vE',XS,cS⟩
          refine aw (by omega) (by omega) ?_
          refine again (i + 1,vL,vE',(.slice fa' (F.length + 1) fc'),D ++ R) ⟨rfl,rfl,rfl,rfl,rfl,rfl,trivial⟩ ⟨?_,cN6.trans (cS.mono fun g hg => hg.elim (fun h => by rw [h]; exact hb5) fun h => Ah XN.o.rE h.symm),?_,?_⟩ (by simp only; omega)
          all_goals (try simp only)
          all_goals (try rw [hDn])
          · exact hRlen
          · rw [hfin,if_neg (by omega)]
            rw [List.length_map] at XS
            exact XS
          · exact hRefE.shut
        · by_cases hpl1 : pw + 1 = g.sets.length
          · have hsl2 : g.sets[pw]? = some (g.sets[pw]'(by omega)) := List.getElem?_eq_getElem _
            have hsx : ∃ S,S = g.sets[pw]'(by omega) := ⟨_,rfl⟩
            obtain ⟨S,hS⟩ := hsx
            rw [← hS] at hsl2
            obtain ⟨ib,io,rfl,-,-,ics,-,hird,iu,rfl,hiu⟩ := hirr pw (B8 n S) (by rw [List.getElem?_map,hsl2]; rfl)
            obtain ⟨ja,jc,rfl,-,hjr⟩ := hiu
            obtain ⟨jb,jo,rfl,-,-,jcs,-,hjrd,rfl⟩ := hjr ps (decide ((ps : Int) ∈ S)) (Hg hpsn)
            rw [D8] at hird
            have hfS : B9 g.sets ((ps : Nat),(pw : Nat)) = decide ((ps : Int) ∈ S) := by
             have h1 : Fd g.sets ((ps : Nat),(pw : Nat)) = decide ((ps : Int) ∈ S) := by
              unfold Fd
              simp only [Int.toNat_natCast]
              have : g.sets.getD pw [] = S := by rw [List.getD_eq_getElem?_getD,hsl2]; rfl
              exact decide_eq_decide.2 (by rw [this])
             unfold B9
             rw [h1]
             by_cases hh : (ps : Int) ∈ S
             · rw [decide_eq_true hh]; exact decide_eq_true (.inr ⟨by show ((pw : Nat) : Int) + 1 = _; omega,rfl⟩)
             · rw [decide_eq_false hh]; exact decide_eq_false (by rintro (h2 | ⟨-,h2⟩); exact hk0 h2; cases h2)
            have hwalk : ∀ t : Bool,t = decide ((ps : Int) ∈ S) → True := fun _ _ => trivial
            cases hps : decide ((ps : Int) ∈ S) with
            | true =>
             rw [hps] at hjrd hfS
             have hfin : F ++ (if B9 g.sets ((ps : Nat),(pw : Nat)) = true then [(i : Int)] else []) = F ++ [(i : Int)] := by rw [if_pos hfS]
             refine Ax Aa mixed 18 (by kernel_rfl) (fun _ => False) ?_
             conv => whnf
             refine Bs (by omega) ?_
             conv => whnf
             refine A7 Aa (v := .int .i64 (pw : Nat)) rfl rfl (fun W hW _ => Own.at_ (xs := [.int .i64 (pw : Nat)]) (o := 2) (hW.own mpE id) rfl) (by rfl) fun _ => ?_
             conv => whnf
             refine Dj (by omega) ?_
             conv => whnf
             refine ne ⟨by omega,by omega⟩ ?_
             conv => whnf
             refine A7 Aa (v := .slice (some ⟨jb,jo,none⟩) n jc) rfl rfl (fun W hW _ => by
              rw [show ((((g.sets.map (B8 n)).length : Nat) : Int) - 1).toNat = pw by omega]
              exact hW.range hird id) (by rfl) fun _ => ?_
             conv => whnf
             refine A7 Aa (v := .int .i64 (ps : Nat)) rfl rfl (fun W hW _ => Own.at_ (xs := [.int .i64 (ps : Nat)]) (o := 0) (hW.own mpE id) rfl) (by rfl) fun _ => ?_
             conv => whnf
             refine ne ⟨by omega,by omega⟩ ?_
             conv => whnf
             refine A7 Aa (v := .bool true) rfl rfl (fun W hW _ => by rw [Int.toNat_natCast]; exact hW.range hjrd id) (by rfl) fun _ => ?_
             conv => whnf
             intro wJ kJ _
             have XJ := XE.kp kJ
             have cJ := cE.newT kJ fun _ hf => hf.elim
             refine ld Aa (Own.at_ (xs := [vF]) (o := 7) XJ.hdr rfl) (by rfl) ?_
             refine ne (by decide) ?_
             refine nd fun bq wK eK zK kK mq => ?_
             have mq : Own wK bq 3 [.int .i64 (i : Nat)] := mq
             have XK := XJ.kp kK
             have cK := cJ.newT kK fun _ hf => hf.elim
             refine Yu (m := 1) (news := [.int .i64 (i : Nat)]) Aa rfl rfl rfl rfl rfl rfl rfl (by decide) (show wK.ownsRow B 3 1 vF F.length (F.flatMap Ia) from XK.o.rF) rfl (Own.at_ (xs := [.int .i64 (i : Nat)]) (o := 0) mq rfl) rfl (by simp only [maxLen]; omega) (by show (_ + 1) * 8 ≤ _; omega) XK.base fun vF' wM rFM cM hnewF => ?_
             have hff := Ae rFM
             obtain ⟨fa',fc',rfl⟩ := hff
             have hbF : some b ≠ vF.ownBlock := fun he => (XK.mR (g := b) (.inr (.inr (.inr (.inr he.symm))))).2.1 rfl
             have hdrM := cM.own XK.hdr hbF
             refine st Aa hdrM rfl (show 8 ≤ 8 by decide) rfl ?_
             intro wN zN cN hdrN
             have hdrN : Own wN b 101 [vL,.map (some m),vR,vP,.int .i64 (if i = 0 then 0 else (L.length : Nat)),vI,vE,.slice fa' (F.length + 1) fc'] := hdrN
             have hnbF : ∀ g,(Value.slice fa' (F.length + 1) fc').ownBlock = some g → ¬ g = b := fun g hg he => by
              subst he
              exact Ai rFM hdrM (fun cs fr hh => by injection hh with _ h2; exact absurd h2 (by decide)) hg
             have cKN : Chg (fun j => j = b ∨ some j = vF.ownBlock) wK wN := (cM.mono fun _ => .inr).trans (cN.mono fun _ => .inl)
             have XN := XK.newF cKN (vF' := .slice fa' (F.length + 1) fc') (F' := F ++ [(i : Int)]) hdrN (by
              rw [List.length_append,List.flatMap_append]
              exact Ab rFM cN hnbF) hnewF
             have cN6 := cK.trans (cKN.mono fun g hg => hg.elim (fun h => by rw [h]; exact hb5) fun h => Ah XK.o.rF h.symm)
             have hsh := Fk XN (by omega) (by simp only; omega)
             refine cl Do hsh ?_
             rintro rS wS ⟨vE',XS,cS⟩
             refine aw (by omega) (by omega) ?_
             refine again (i + 1,vL,vE',(.slice fa' (F.length + 1) fc'),D ++ R) ⟨rfl,rfl,rfl,rfl,rfl,rfl,trivial⟩ ⟨?_,cN6.trans (cS.mono fun g hg => hg.elim (fun h => by rw [h]; exact hb5) fun h => Ah XN.o.rE h.symm),?_,?_⟩ (by simp only; omega)
             all_goals (try simp only)
             all_goals (try rw [hDn])
             · exact hRlen
             · rw [hfin,if_neg (by omega)]
               rw [List.length_map] at XS
               exact XS
             · exact hRefE.shut
            | false =>
             rw [hps] at hjrd hfS
             have hfin : F ++ (if B9 g.sets ((ps : Nat),(pw : Nat)) = true then [(i : Int)] else []) = F := by rw [hfS]; simp
             refine Ax Aa mixed 18 (by kernel_rfl) (fun _ => False) ?_
             conv => whnf
             refine Bs (by omega) ?_
             conv => whnf
             refine A7 Aa (v := .int .i64 (pw : Nat)) rfl rfl (fun W hW _ => Own.at_ (xs := [.int .i64 (pw : Nat)]) (o := 2) (hW.own mpE id) rfl) (by rfl) fun _ => ?_
             conv => whnf
             refine Dj (by omega) ?_
             conv => whnf
             refine ne ⟨by omega,by omega⟩ ?_
             conv => whnf
             refine A7 Aa (v := .slice (some ⟨jb,jo,none⟩) n jc) rfl rfl (fun W hW _ => by
              rw [show ((((g.sets.map (B8 n)).length : Nat) : Int) - 1).toNat = pw by omega]
              exact hW.range hird id) (by rfl) fun _ => ?_
             conv => whnf
             refine A7 Aa (v := .int .i64 (ps : Nat)) rfl rfl (fun W hW _ => Own.at_ (xs := [.int .i64 (ps : Nat)]) (o := 0) (hW.own mpE id) rfl) (by rfl) fun _ => ?_
             conv => whnf
             refine ne ⟨by omega,by omega⟩ ?_
             conv => whnf
             refine A7 Aa (v := .bool false) rfl rfl (fun W hW _ => by rw [Int.toNat_natCast]; exact hW.range hjrd id) (by rfl) fun _ => ?_
             conv => whnf
             intro wJ kJ _
             have XJ := XE.kp kJ
             have cJ := cE.newT kJ fun _ hf => hf.elim
             have hsh := Fk XJ (by omega) (by simp only; omega)
             refine cl Do hsh ?_
             rintro rS wS ⟨vE',XS,cS⟩
             refine aw (by omega) (by omega) ?_
             refine again (i + 1,vL,vE',vF,D ++ R) ⟨rfl,rfl,rfl,rfl,rfl,rfl,trivial⟩ ⟨?_,cJ.trans (cS.mono fun g hg => hg.elim (fun h => by rw [h]; exact hb5) fun h => Ah XJ.o.rE h.symm),?_,?_⟩ (by simp only; omega)
             all_goals (try simp only)
             all_goals (try rw [hDn])
             · exact hRlen
             · rw [hfin,if_neg (by omega)]
               rw [List.length_map] at XS
               exact XS
             · exact hRefE.shut
          · have hfin : F ++ (if B9 g.sets ((ps : Nat),(pw : Nat)) = true then [(i : Int)] else []) = F := by
             have : B9 g.sets ((ps : Nat),(pw : Nat)) = false := by
              unfold B9
              refine decide_eq_false ?_
              rintro (h2 | ⟨h2,-⟩)
              · exact hk0 h2
              · have h2 : ((pw : Nat) : Int) + 1 = _ := h2
                omega
             rw [this]; simp
            refine Ax Aa mixed 18 (by kernel_rfl) (fun _ => False) ?_
            conv => whnf
            refine Bs (by omega) ?_
            conv => whnf
            refine A7 Aa (v := .int .i64 (pw : Nat)) rfl rfl (fun W hW _ => Own.at_ (xs := [.int .i64 (pw : Nat)]) (o := 2) (hW.own mpE id) rfl) (by rfl) fun _ => ?_
            conv => whnf
            refine Bs (by omega) ?_
            conv => whnf
            intro wJ kJ _
            have XJ := XE.kp kJ
            have cJ := cE.newT kJ fun _ hf => hf.elim
            have hsh := Fk XJ (by omega) (by simp only; omega)
            refine cl Do hsh ?_
            rintro rS wS ⟨vE',XS,cS⟩
            refine aw (by omega) (by omega) ?_
            refine again (i + 1,vL,vE',vF,D ++ R) ⟨rfl,rfl,rfl,rfl,rfl,rfl,trivial⟩ ⟨?_,cJ.trans (cS.mono fun g hg => hg.elim (fun h => by rw [h]; exact hb5) fun h => Ah XJ.o.rE h.symm),?_,?_⟩ (by simp only; omega)
            all_goals (try simp only)
            all_goals (try rw [hDn])
            · exact hRlen
            · rw [hfin,if_neg (by omega)]
              rw [List.length_map] at XS
              exact XS
            · exact hRefE.shut
    · have hiL : L.length ≤ i := by simp only at hge; omega
      have hiE : i = L.length := by omega
      have hstop := E5 (sets := g.sets) (fr := Aj g.edges) (st0 := (L0,[],[])) (i := i) (by rw [← hDi]; exact hiL) (n * max g.sets.length 1) (by omega)
      rw [← hDi] at hstop
      have hgd : Db g = { props := g.props,states := (L.length : Nat),init := I,edges := D,final := F } := by
       rw [hdg]
       unfold Cf
       rw [← hL0,← hIe,hstop,hRef.done]
      have hst : (if i = 0 then (0 : Int) else ((L.length : Nat) : Int)) = ((L.length : Nat) : Int) := by
       split
       · omega
       · rfl
      rw [hst] at XA
      have hfP := Ae XA.o.rP
      obtain ⟨pA,pC,rfl⟩ := hfP
      have hfI := Ae XA.o.rI
      obtain ⟨iA,iC,hvI2⟩ := hfI
      have hfE := Ae XA.o.rE
      obtain ⟨eA,eC,rfl⟩ := hfE
      have hfF := Ae XA.o.rF
      obtain ⟨fA,fC,rfl⟩ := hfF
      have hvI3 := hvI.symm.trans hvI2
      subst hvI2
      refine ld Aa (v := .agg #[(.slice pA g.props.length pC),.int .i64 (L.length : Nat),(.slice iA I.length iC),(.slice eA D.length eC),(.slice fA F.length fC)]) (Own.at_ (xs := [(.slice pA g.props.length pC),.int .i64 (L.length : Nat),(.slice iA I.length iC),(.slice eA D.length eC),(.slice fA F.length fC)]) (o := 3) XA.hdr rfl) (by rfl) ?_
      have m2A := cA.own m2 fun hh => by have : B ≤ b2 := hh; omega
      refine st Aa m2A rfl (Nat.le_refl 5) rfl ?_
      intro wB zB cB m2B
      have m2B : Own wB b2 29 [(.slice pA g.props.length pC),.int .i64 (L.length : Nat),(.slice iA I.length iC),(.slice eA D.length eC),(.slice fA F.length fC)] := m2B
      refine ld Aa (v := .agg #[(.slice pA g.props.length pC),.int .i64 (L.length : Nat),(.slice iA I.length iC),(.slice eA D.length eC),(.slice fA F.length fC)]) (Own.at_ (xs := [(.slice pA g.props.length pC),.int .i64 (L.length : Nat),(.slice iA I.length iC),(.slice eA D.length eC),(.slice fA F.length fC)]) (o := 0) m2B rfl) (by rfl) ?_
      have oB := XA.o.keep cB fun g hg he => by
       have h1 := (XA.o.lt hg).1
       have h2 : g = b2 := he
       omega
      have low : ∀ {el size v n xs},wB.ownsRow B el size v n xs → wB.ownsRow w.heap.size el size v n xs := fun {el size v n xs} h => Ap h (by omega)
      have hout : OutV w.heap.size wB (.slice pA g.props.length pC) (.slice iA I.length iC) (.slice eA D.length eC) (.slice fA F.length fC) (Db g) := by
       rw [hgd]
       exact ⟨low oB.rP,low oB.rI,low oB.rE,low oB.rF,oB.sI⟩
      have hf := hout.form
      obtain ⟨y,y1,y2,y3,y4⟩ := hf
      refine ⟨(hK cA).newS cB fun j hj => by have : j = b2 := hj; omega,.inr ⟨hc,y,?_,?_⟩⟩
      · show Value.tuple #[.agg #[(.slice pA g.props.length pC),.int .i64 (L.length : Nat),(.slice iA I.length iC),(.slice eA D.length eC),(.slice fA F.length fC)],.int .i64 0] = .tuple #[Fg (Db g) y,.int .i64 0]
        unfold Fg
        rw [← y1,← y2,← y3,← y4]
        rw [show ((L.length : Nat) : Int) = (Db g).states by rw [hgd]]
      · show OutV _ _ _ _ _ _ _
        rw [← y1,← y2,← y3,← y4]
        exact hout
theorem Qy : Af prog 18 = true := by kernel_rfl
set_option maxHeartbeats 4000000 in
theorem AaS {w : World} {pv iv ev fv : Value} {g : Buchi} (hv : BuchiV 0 w.heap.size w pv iv ev fv g) (hel : g.edges.length < 1000000) (hst : g.states < 65536) :
 Calls prog 18 [.agg #[pv,.int .i64 g.states,iv,ev,fv]].toArray w (Bg fun r w' => Kp w w' ∧ ((Al g.general = false ∧ r = .tuple #[.agg #[Ad,.int .i64 0,Ad,Ad,Ad],.int .i64 100]) ∨ (Al g.general = true ∧ ∃ y,r = .tuple #[Fg (D6 g) y,.int .i64 0] ∧ Ev w.heap.size w' (D6 g) y))) := by
 obtain ⟨pa,pc,rfl,-⟩ := id hv.props
 obtain ⟨ia,ic,rfl,-,hir⟩ := id hv.init
 obtain ⟨ea,ec,rfl,-⟩ := id hv.edges
 obtain ⟨sa,sc,rfl,-⟩ := id hv.final
 refine call Aa func18 rfl ntmps18 (by kernel_rfl) ?_
 refine nd fun b1 w1 e1 z1 k1 m1 => ?_
 have m1 : Own w1 b1 29 [.slice pa g.props.length pc,.int .i64 g.states,.slice ia g.init.length ic,.slice ea g.edges.length ec,.slice sa g.final.length sc] := m1
 refine nd fun b2 w2 e2 z2 k2 m2 => ?_
 have m2 : Own w2 b2 29 [Ad,.int .i64 0,Ad,Ad,Ad] := m2
 have m1 := k2.own m1 id
 have k12 := k1.trans k2
 refine ld Aa (v := .agg #[.slice pa g.props.length pc,.int .i64 g.states,.slice ia g.init.length ic,.slice ea g.edges.length ec,.slice sa g.final.length sc]) (Own.at_ (xs := [.slice pa g.props.length pc,.int .i64 g.states,.slice ia g.init.length ic,.slice ea g.edges.length ec,.slice sa g.final.length sc]) (o := 0) m1 rfl) (by rfl) ?_
 have hchk := Lu (hv.chg k12 (Nat.le_refl _) (Nat.le_refl _))
 have hexc : ∃ cc,Al g.general = cc := ⟨_,rfl⟩
 obtain ⟨cc,hc⟩ := hexc
 rw [hc] at hchk
 refine cl Kh hchk ?_
 rintro _ w2c ⟨rfl,k2c⟩
 have m1 := k2c.own m1 id
 have m2 := k2c.own m2 id
 have K2c := k12.trans k2c
 cases cc with
 | false =>
  refine Dj (by decide) ?_
  refine st Aa m2 rfl (Nat.le_refl 5) rfl ?_
  intro w4 z4 k4 m4
  have m4 : Own w4 b2 29 [Ad,.int .i64 0,Ad,Ad,Ad] := m4
  refine ld Aa (v := .agg #[Ad,.int .i64 0,Ad,Ad,Ad]) (Own.at_ (xs := [Ad,.int .i64 0,Ad,Ad,Ad]) (o := 0) m4 rfl) (by rfl) ?_
  exact ⟨K2c.newS k4 fun j hj => by omega,.inl ⟨hc,rfl⟩⟩
 | true =>
  refine Bs (by decide) ?_
  have hG := Good.of hc
  have hn : ∃ n : Nat,g.states = n := ⟨g.states.toNat,by have : (0 : Int) ≤ g.states := hG.s0; omega⟩
  obtain ⟨n,hn⟩ := hn
  have hs1 : g.states ≤ 65536 := hG.s1
  have hBLx : ∃ BL,BL = Jf n g := ⟨_,rfl⟩
  obtain ⟨BL,hBL⟩ := hBLx
  have hdg : D6 g = { Cf g.props g.init [] (Aj g.edges) (n * 1) with final := Ea g.final BL BL.length } := by unfold D6; rw [hn,Int.toNat_natCast,← hBL]
  have hbox : n * 1 < 65536 := by omega
  have hK1 : 0 < 1 := by omega
  have hn65 : n < 65536 := by omega
  refine ld Aa (v := .agg #[.slice pa g.props.length pc,.int .i64 g.states,.slice ia g.init.length ic,.slice ea g.edges.length ec,.slice sa g.final.length sc]) (Own.at_ (xs := [.slice pa g.props.length pc,.int .i64 g.states,.slice ia g.init.length ic,.slice ea g.edges.length ec,.slice sa g.final.length sc]) (o := 0) m1 rfl) (by rfl) ?_
  refine cl Eu (Gf w2c pa ia ea sa _ pc _ ic _ ec _ sc g.states) ?_
  rintro _ w3 ⟨k3g,qg,hq1,hq2,hqm,rfl⟩
  have m1 := k3g.own m1 id
  have m2 := k3g.own m2 id
  have k3 := k2c.trans k3g
  have K3 := K2c.trans k3g
  have hgg := (hv.chg K3 (Nat.le_refl _) K3.size).general hqm
  have hgg := hgg.chg (Chg.refl _ w3) (Nat.le_refl _) (show max w3.heap.size (qg + 1) ≤ w3.heap.size by omega)
  have hmem := I3 hgg hG hn (by show 1 < 1000000; decide)
  refine cl G0 hmem ?_
  rintro inV w4 ⟨k4,hIn⟩
  have hIn : BoolRows w3.heap.size w4.heap.size w4 inV [B8 n g.final] := hIn
  have m1 := k4.own m1 id
  have m2 := k4.own m2 id
  have K4 := K3.trans k4
  refine ld Aa (Own.at_ (xs := [.int .i64 g.states]) (o := 1) m1 rfl) (by rfl) ?_
  refine ld Aa (Own.at_ (xs := [.slice ea g.edges.length ec]) (o := 3) m1 rfl) (by rfl) ?_
  have hed : RowE (fun _ cs x => cs = Edge.cells x) 4 0 w.heap.size w4 (.slice ea g.edges.length ec) g.edges := (hv.edges.chg K4 (fun _ _ _ h => h) (fun _ _ h => h)).mono (fun _ _ h => h.1) (Nat.le_refl _) (Nat.le_refl _)
  have hfrom := Nb (n := n) hed K4.size (by omega) (by omega) fun e he => by have := hG.edges e he; have h2 : e.frm < g.states := this.2.1; omega
  rewrite [← hn] at hfrom
  refine cl I9 hfrom ?_
  rintro frV w5 ⟨k5,hFr⟩
  have m1 := k5.own m1 id
  have m2 := k5.own m2 id
  have K5 := K4.trans k5
  have hIn := hIn.chg k5
  refine ld Aa (Own.at_ (xs := [.slice pa g.props.length pc]) (o := 0) m1 rfl) (by rfl) ?_
  have hnum := J0 (hv.props.chg K5 (fun _ _ _ h => h) (fun _ _ h => h)) (by have h8 : _ ≤ 8 := C2 hc; exact Nat.lt_of_le_of_lt h8 (by decide))
  refine cl H2 hnum ?_
  rintro _ w6 ⟨k6,b,m,vP,rfl,hb5,hm5,X6⟩
  have m1 := k6.own m1 id
  have m2 := k6.own m2 id
  have K6 := K5.trans k6
  have hIn := hIn.chg k6
  have hFr := hFr.chg k6
  have hB : ∃ B,B = w5.heap.size := ⟨_,rfl⟩
  obtain ⟨B,hB⟩ := hB
  have hz5 : w3.heap.size ≤ w4.heap.size ∧ w4.heap.size ≤ B ∧ w.heap.size ≤ B ∧ b1 < B ∧ b2 < B := by
   have := k4.size; have := k5.size; have := K5.size; have := k3.size; omega
  rw [← hB] at X6 hb5 hm5 hFr
  have hK : ∀ {V},Chg (fun g => B ≤ g) w6 V → Kp w V := fun {V} hc => K6.newS hc fun g hg => by have : B ≤ g := hg; omega
  have hInV : ∀ {V},Chg (fun g => B ≤ g) w6 V → BoolRows w3.heap.size w4.heap.size V inV [B8 n g.final] := fun {V} hc => hIn.chgS hc fun g _ h2 hh => by have : B ≤ g := hh; omega
  have hFrV : ∀ {V},Chg (fun g => B ≤ g) w6 V → RowsE w4.heap.size B V frV (B1 n g.edges) := fun {V} hc => hFr.chgS hc fun g _ h2 hh => by have : B ≤ g := hh; omega
  clear hIn hFr hmem hfrom hnum hchk
  have hTB : ∀ {V vL vR vI vE vF L R A},NumX V B b m vL vR vP vI vE vF L R A → ∀ g,(g = b ∨ g = m ∨ some g = vL.ownBlock) → B ≤ g := fun {V vL vR vI vE vF L R A} hX g hg => by
   rcases hg with rfl | rfl | hg
   · exact hb5
   · exact hm5
   · exact Ah hX.rL hg.symm
  have hini : ∀ s ∈ g.init,0 ≤ s ∧ s < n := fun s hs => by have := hG.init s hs; have h2 : s < g.states := this.2; omega
  have hnd : g.init.Nodup := (Bu hc).1
  have hto : ∀ e ∈ g.edges,0 ≤ e.to ∧ e.to < n := fun e he => by have := hG.edges e he; have h2 : e.to < g.states := this.2.2.2; omega
  have hto' : ∀ s,∀ e ∈ Aj g.edges s,0 ≤ e.to ∧ e.to < n := fun s e he => hto e (List.mem_filter.1 he).1
  have hil : g.init.length ≤ n := by
   have h1 := A8 (l := g.init) (r := (List.range n).map fun (i : Nat) => (i : Int)) hnd fun s hs' => by
    have := hini s hs'
    exact List.mem_map.2 ⟨s.toNat,by rw [List.mem_range]; omega,by omega⟩
   simpa using h1
  have hI0len : ∀ j,j ≤ g.init.length → (A9 (g.init.take j)) = ((g.init.take j).map fun s => (s,(0 : Int)),(List.range j).map fun (i : Nat) => (i : Int)) := fun j hj => by
   have := Bf (l := g.init.take j) (hnd.sublist (List.take_sublist _ _))
   rw [this,List.length_take,Nat.min_eq_left hj]
  refine loop Aa (σ := Nat × Value × Value) (fun t => [(1,pt b1 0),(2,pt b2 0),(4,inV),(5,frV),(6,pt b 0),(7,.int .i64 t.1)])
   (fun t V => t.1 ≤ g.init.length ∧ Chg (fun g => B ≤ g) w6 V ∧ NumX V B b m t.2.1 Ad vP t.2.2 Ad Ad ((A9 (g.init.take t.1)).1.map Dh) [] { props := g.props,states := 0,init := (A9 (g.init.take t.1)).2,edges := [],final := [] }) (fun t => g.init.length - t.1) (0,Ad,Ad)
   ⟨rfl,rfl,rfl,rfl,rfl,rfl,trivial⟩ ⟨Nat.zero_le _,Chg.refl _ _,by simpa [A9] using X6⟩ ?_
  rintro ⟨j,xL,xI⟩ ea7 w7 ⟨hj,c7,X7⟩
  simp only at hj X7
  have m17 := c7.own m1 fun hh => by have : B ≤ b1 := hh; omega
  refine ld Aa (Own.at_ (xs := [.slice ia g.init.length ic]) (o := 2) m17 rfl) (by rfl) ?_
  refine sp (fun hlt => ?_) (fun hge => ?_)
  · have hj' : j < g.init.length := by simp only at hlt; omega
    have hsd : ∃ s,s = g.init[j] := ⟨_,rfl⟩
    obtain ⟨s,hsd⟩ := hsd
    have hxs : g.init[j]? = some s := by rw [hsd]; simp
    have hsr := hini s (List.mem_of_getElem? hxs)
    obtain ⟨q,o,hia,-,hqlt,cs,-,hrd,hcs⟩ := hir j s hxs
    subst hia hcs
    have hA0 : ∃ A0,A0 = A9 (g.init.take j) := ⟨_,rfl⟩
    obtain ⟨A0,hA0⟩ := hA0
    have hT1 : A0.1.length = j := by rw [hA0,hI0len j (by omega)]; simp; omega
    have hT2 : A0.2.length = j := by rw [hA0,hI0len j (by omega)]; simp
    have hsnoc : A9 (g.init.take (j + 1)) = Ry A0 s := by
     rw [List.take_succ_eq_append_getElem hj',E4,← hsd,hA0]
    rw [← hA0] at X7
    have hTTx : ∃ TT : Nat → Prop,TT = fun g => g = b ∨ g = m ∨ some g = xL.ownBlock := ⟨_,rfl⟩
    obtain ⟨TT,hTT⟩ := hTTx
    have hTb : ∀ g,TT g → B ≤ g := fun g hg => hTB X7 g (by rw [hTT] at hg; exact hg)
    have hTl : ∀ g,TT g → g < w7.heap.size := fun g hg => by
     rw [hTT] at hg
     rcases hg with rfl | rfl | hg
     · exact X7.hdr.lt
     · exact X7.map.lt
     · exact (X7.rL.lt g hg.symm).2
    have hIl : ∀ g,xI.ownBlock = some g → g < w7.heap.size := fun g hg => (X7.o.rI.lt g hg).2
    have hTn : ∀ g,TT g → xI.ownBlock ≠ some g := fun g hg he => by
     have h1 := X7.mR (g := g) (.inr (.inr (.inl he)))
     rw [hTT] at hg
     rcases hg with hg | hg | hg
     · exact h1.2.1 hg
     · exact h1.1 hg
     · exact h1.2.2 hg.symm
    have hbT : TT b := by rw [hTT]; exact .inl rfl
    have hmT : TT m := by rw [hTT]; exact .inr (.inl rfl)
    have hbears := NAppR.bears (T := TT) (b := b) (w0 := w7) (v := xI) (k := j * 1) (news := [.int .i64 (Aw A0.1 (s,0) : Nat)]) hIl hTl hTn hbT
    have hpre := Kv TT b w7 xI (j * 1) [.int .i64 (Aw A0.1 (s,0) : Nat)]
    have hdrS : ∀ {W},NAppR TT b w7 xI (j * 1) [.int .i64 (Aw A0.1 (s,0) : Nat)] w7 W → ∃ vL',Own W b 101 [vL',.map (some m),Ad,vP,.int .i64 0,xI,Ad,Ad] := fun {W} hS => hS.hdr _ _ X7.hdr
    have lowS : ∀ {W},NAppR TT b w7 xI (j * 1) [.int .i64 (Aw A0.1 (s,0) : Nat)] w7 W → Chg (fun g => B ≤ g) w7 W := fun {W} hS => hS.c.chg.mono fun g hg => hg.elim (fun h => hTb g h) fun h => Ah X7.o.rI h.symm
    refine Gm Aa mixed 19 [6,7,8,9,10,11,12,13,0,1,2,3,4,5,14,15,16,17,18] (by kernel_rfl) (NAppR TT b w7 xI (j * 1) [.int .i64 (Aw A0.1 (s,0) : Nat)]) hpre (fun W => W.heap.size = w7.heap.size ∧ Kp w7 W) 13 ⟨rfl,(Chg.refl _ _).drew⟩ ?_
    conv => whnf
    refine Fc hpre Aa rfl rfl (fun W h _ _ => Own.at_ (xs := [.slice (some ⟨q,o,none⟩) g.init.length ic]) (o := 2) ((lowS h).own m17 fun hh => by have : B ≤ b1 := hh; omega) rfl) (by rfl) fun _ => ?_
    conv => whnf
    refine ne ⟨by omega,by omega⟩ ?_
    conv => whnf
    refine Fc hpre Aa (v := .int .i64 s) rfl rfl (fun W h _ _ => by rw [Int.toNat_natCast]; exact (K6.newS (c7.trans (lowS h)) (fun g hg => by have : B ≤ g := hg; omega)).range hrd id) (by rfl) fun _ => ?_
    conv => whnf
    refine Jp (τ := Value) (hne := ⟨undef⟩) (.int .i64 (Aw A0.1 (s,0) : Nat)) (fun v' W => NumC W B b m v' ((B7 A0.1 (s,0)).map Dh) [.map (some m),Ad,vP,.int .i64 0,xI,Ad,Ad] ∧ (∀ g,v'.ownBlock = some g → xL.ownBlock = some g ∨ w7.heap.size ≤ g) ∧ w7.heap.size < W.heap.size) rfl rfl rfl (fun v' W W' hFv hS => ?_) I8 (fun W hS _ hU => ?_) fun v' D hD => ?_
    · obtain ⟨f1,f2,f3⟩ := hFv
      exact ⟨f1.once hS.c f3 hbT hmT (fun g hg => (f2 g hg).imp (fun h => by rw [hTT]; exact .inr (.inr h.symm)) id) hTl hIl,f2,by have := hS.c.chg.size; omega⟩
    · obtain ⟨hU1,hU2⟩ := hU
      have hcall := Qa (X7.kp hU2) (p := Dh (s,0)) (Na (n := n) (k := 1) ⟨hsr.1,hsr.2,Int.le_refl _,(show (0 : Int) < ((1 : Nat) : Int) by decide)⟩ (by omega) (by decide)) (by rw [List.length_map]; omega)
      refine hcall.mono fun en W' hr => ?_
      cases en with
      | returned v =>
       obtain ⟨rfl,v',hX,hc',hg',hs'⟩ := hr
       rw [Gi Cv] at hX
       refine ⟨congrArg (fun i : Nat => Value.int .i64 (i : Int)) (E2 Cv _ _),⟨⟨hc'.mono fun g hg => .inl (by rw [hTT]; exact hg),fun g hg hl => .inl (hc'.block g hl fun hT => hTn g (by rw [hTT]; exact hT) hg),.inr (by omega)⟩,fun vL0 r0 ho => ⟨v',?_⟩⟩,v',⟨hX.hdr,hX.map,hX.rL⟩,fun g hg => (hg' g hg).imp id fun h => by omega,by omega⟩
       have h1 := hU2.own X7.hdr id
       rw [Of ho h1]
       exact hX.hdr
      | _ => exact hr.elim
    conv => whnf
    refine Fc hpre Aa rfl rfl (fun W h _ _ => by
     obtain ⟨vL',hh⟩ := hdrS h
     exact Own.at_ (xs := [xI]) (o := 5) hh rfl) (by rfl) fun _ => ?_
    conv => whnf
    refine ⟨fun W hS hDn hU => ?_,?_⟩
    · have := (hD W (hDn 13 (by kernel_rfl))).2.2
      omega
    refine Uh hpre rfl rfl rfl rfl rfl (by decide) (fun b o W W' hb ho hS => hbears.new W W' b o hS hb ho) (fun W hS => hbears.size _ _ hS) fun q2 D2 hD2 => ?_
    conv => whnf
    refine ⟨fun W hS hDn hU => ?_,?_⟩
    · have := (hD W (hDn 13 (by kernel_rfl))).2.2
      omega
    refine Un (m := 1) (news := [.int .i64 (Aw A0.1 (s,0) : Nat)]) Aa hbears rfl rfl rfl rfl rfl rfl rfl (by decide) (show w7.ownsRow B 3 1 xI j _ from hT2 ▸ X7.o.rI) rfl (fun W hS hDn => Own.at_ (xs := [.int .i64 (Aw A0.1 (s,0) : Nat)]) (o := 0) (hD2 W (hDn 14 (by kernel_rfl))).1 rfl) rfl (by simp only [maxLen]; omega) (by show (_ + 1) * 8 ≤ _; omega) X7.base fun xI' D3 hD3 => ?_
    conv => whnf
    intro w11 hS11 hd11
    have hN11 := hD w11 (hd11 13)
    have hI11 := hD3 w11 (hd11 15)
    obtain ⟨nc11,hnew11,hsz11⟩ := hN11
    obtain ⟨rI11,hnewI⟩ := hI11
    have hfI := Ae rI11
    obtain ⟨ia',ic',hxi'⟩ := hfI
    subst hxi'
    refine st Aa nc11.hdr rfl (show 6 ≤ 8 by decide) rfl ?_
    intro w12 z12 c12 ob12
    have ob12 : Own w12 b 101 [v',.map (some m),Ad,vP,.int .i64 0,.slice ia' (j + 1) ic',Ad,Ad] := ob12
    have hnd2 : (B7 A0.1 (s,0)).Nodup ∧ True := ⟨Ca (by rw [hA0,hI0len j (by omega)]; exact Ce (fun a b h => by injection h) (hnd.sublist (List.take_sublist _ _))),trivial⟩
    have hX12 := X7.ofI (hS11.c.chg.mono fun g hg => by rw [hTT] at hg; exact hg) nc11.map nc11.rL hnew11 (vI' := .slice ia' (j + 1) ic') (I' := A0.2 ++ [(Aw A0.1 (s,0) : Int)]) (by
     rw [List.length_append,List.flatMap_append]
     show w11.ownsRow B 3 1 _ (A0.2.length + 1) _
     rw [hT2]
     exact rI11) hnewI c12 ob12 (Ce Cv hnd2.1) nc11.hdr
    refine aw (by simp only; omega) (by simp only; omega) ?_
    refine again (j + 1,v',.slice ia' (j + 1) ic') ⟨rfl,rfl,rfl,rfl,rfl,rfl,trivial⟩ ⟨by simp only; omega,?_,?_⟩ (by simp only; omega)
    · exact (c7.trans (lowS hS11)).trans (c12.mono fun g hg => by rw [hg]; exact hb5)
    · simp only
      rw [hsnoc]
      exact hX12
  · have hje : j = g.init.length := by simp only at hge; omega
    subst hje
    rw [List.take_length] at X7
    have hL0x : ∃ L0,L0 = (A9 g.init).1 := ⟨_,rfl⟩
    obtain ⟨L0,hL0⟩ := hL0x
    have hIx : ∃ I,I = (A9 g.init).2 := ⟨_,rfl⟩
    obtain ⟨I,hIe⟩ := hIx
    rw [← hL0,← hIe] at X7
    have hok0 : DOk n (1) (L0,[],[]) := ⟨by
     show L0.Nodup
     rw [hL0,Bf hnd]
     exact Ce (fun a b h => by injection h) hnd,fun q hq => by
     have hq : q ∈ L0 := hq
     rw [hL0,Bf hnd] at hq
     obtain ⟨s,hs',rfl⟩ := List.mem_map.1 hq
     have := hini s hs'
     exact ⟨this.1,this.2,Int.le_refl _,by show (0 : Int) < _; omega⟩⟩
    have hxI : ∃ vI,vI = xI := ⟨_,rfl⟩
    obtain ⟨vI,hvI⟩ := hxI
    rw [← hvI] at X7
    refine loop Aa (σ := Nat × Value × Value × Value × List Edge) (fun t => [(1,pt b1 0),(2,pt b2 0),(4,inV),(5,frV),(6,pt b 0),(8,.int .i64 t.1)])
     (fun t V => t.1 ≤ (A5 [] (Aj g.edges) (L0,[],[]) t.1).1.length ∧ Chg (fun g => B ≤ g) w6 V ∧ NumX V B b m t.2.1 Ad vP vI t.2.2.1 t.2.2.2.1 ((A5 [] (Aj g.edges) (L0,[],[]) t.1).1.map Dh) [] { props := g.props,states := if t.1 = 0 then 0 else ((A5 [] (Aj g.edges) (L0,[],[]) t.1).1.length : Nat),init := I,edges := t.2.2.2.2,final := Ea g.final BL t.1 } ∧
       Ref t.2.2.2.2 [] [] (A5 [] (Aj g.edges) (L0,[],[]) t.1).2.1 t.1) (fun t => n * 1 - t.1) (0,xL,Ad,Ad,[])
     ⟨rfl,rfl,rfl,rfl,rfl,rfl,trivial⟩ ⟨Nat.zero_le _,c7,X7,Ref.zero⟩ ?_
    rintro ⟨i,vL,vE,vF,D⟩ eb wA ⟨hi1,cA,XA,hRef⟩
    simp only at hi1 XA hRef
    have hDok : DOk n 1 (A5 [] (Aj g.edges) (L0,[],[]) i) := Fq (sets := []) hto' hok0 i
    have hDl := Ff (sets := []) (fr := Aj g.edges) (L0 := L0) (m := g.edges.length) (fun s => List.length_filter_le _ _) i
    have hLb := A6 hDok.nd hDok.box
    have hDx : ∃ DD,DD = A5 [] (Aj g.edges) (L0,[],[]) i := ⟨_,rfl⟩
    obtain ⟨DD,hDi⟩ := hDx
    rw [← hDi] at hi1 XA hRef hDok hLb hDl
    obtain ⟨L,E,F⟩ := DD
    have hF0x : ∃ F0,F0 = Ea g.final BL i := ⟨_,rfl⟩
    obtain ⟨F0,hF0⟩ := hF0x
    rw [← hF0] at XA
    have hF0l : F0.length ≤ i := by rw [hF0]; exact L2 _ _ _
    simp only at hi1 XA hRef hLb hDl
    have hDlen : D.length ≤ 65536 * 1000000 := by
     have hn : D.Nodup := hRef.d.imp fun {x y} hxy he => by subst he; rw [Gx] at hxy; cases hxy
     have h1 := A8 (l := D) (r := E) hn fun x hx => (hRef.dm x).1 hx
     exact Nat.le_trans (Nat.le_trans h1 hDl.1) (Nat.mul_le_mul (by omega) (by omega))
    have hfN := Ae XA.rL
    obtain ⟨na,nc,rfl⟩ := hfN
    have hLm : (L.map Dh).length = L.length := List.length_map _
    refine ld Aa (Own.at_ (xs := [.slice na (L.map Dh).length nc]) (o := 0) XA.hdr rfl) (by rfl) ?_
    refine sp (fun hlt => ?_) (fun hge => ?_)
    · have hiL : i < L.length := by simp only at hlt; omega
      have hxi : L[i]? = some L[i] := by simp
      have hbxi := hDok.box L[i] (List.getElem_mem hiL)
      have hppx : ∃ pp,pp = L[i] := ⟨_,rfl⟩
      obtain ⟨pp,hpp⟩ := hppx
      rw [← hpp] at hxi hbxi
      obtain ⟨pS,pW⟩ := pp
      obtain ⟨q1,q2,q3,q4⟩ := hbxi
      simp only at q1 q2 q3 q4
      have hpsx : ∃ ps : Nat,pS = ps := ⟨pS.toNat,by omega⟩
      obtain ⟨ps,rfl⟩ := hpsx
      have hpwx : ∃ pw : Nat,pW = pw := ⟨pW.toNat,by omega⟩
      obtain ⟨pw,rfl⟩ := hpwx
      have hpsn : ps < n := by omega
      have hpwk : pw < 1 := by omega
      have hxT : (L.map Dh)[i]? = some (((ps : Nat) : Int),(0 : Int),((pw : Nat) : Int)) := by rw [List.getElem?_map,hxi]; rfl
      have hrowN := Av (f := Eg) (fun _ => rfl) XA.rL (by decide)
      obtain ⟨_,_,e1',-,hrN⟩ := hrowN
      injection e1' with e1' _ e2'
      subst e1' e2'
      obtain ⟨qb,qo,rfl,-,-,cs0,-,hrd0,rfl⟩ := hrN i _ hxT
      refine ld Aa (Own.at_ (xs := [.slice (some ⟨qb,qo,none⟩) (L.map Dh).length nc]) (o := 0) XA.hdr rfl) (by rfl) ?_
      refine ne ⟨Int.natCast_nonneg _,Int.ofNat_lt.2 (by rw [hLm]; exact hiL)⟩ ?_
      obtain rfl : pw = 0 := by omega
      have hrd0 := J1 hrd0
      refine ld Aa (v := .int .i64 (ps : Nat)) (by rw [Int.toNat_natCast]; exact hrd0) (by rfl) ?_
      have hvNx : ∃ vN,vN = Value.slice (some ⟨qb,qo,none⟩) (L.map Dh).length nc := ⟨_,rfl⟩
      obtain ⟨vN,hvN⟩ := hvNx
      have XD := XA
      have cD := cA
      rw [← hvN] at XD
      clear XA hrN hrd0
      have hdd : (0 : Int) = Be [] ((ps : Nat),((0 : Nat) : Int)) := rfl
      have hdr : (0 : Int) ≤ 0 ∧ (0 : Int) < (1 : Nat) := ⟨Int.le_refl _,by decide⟩
      have hlx : ∃ l,l = Aj g.edges ((ps : Nat) : Int) := ⟨_,rfl⟩
      obtain ⟨l,hl⟩ := hlx
      have hll : l.length < 1000000 := by rw [hl]; have := List.length_filter_le (fun e : Edge => decide (e.frm = ((ps : Nat) : Int))) g.edges; unfold Aj; omega
      have hlto : ∀ e ∈ l,0 ≤ e.to ∧ e.to < n := by rw [hl]; exact hto' _
      refine loop Aa (σ := Nat × Value × Value × List Edge) (fun t => [(1,pt b1 0),(2,pt b2 0),(4,inV),(5,frV),(6,pt b 0),(8,.int .i64 i),(9,.int .i64 (ps : Nat)),(10,.int .i64 t.1)])
       (fun t V => t.1 ≤ l.length ∧ Chg (fun g => B ≤ g) w6 V ∧ NumX V B b m t.2.1 t.2.2.1 vP vI vE vF ((Ba i 0 (L,[]) (l.take t.1)).1.map Dh) t.2.2.2 { props := g.props,states := if i = 0 then 0 else (L.length : Nat),init := I,edges := D,final := F0 } ∧
         Ref D t.2.2.2 (Ba i 0 (L,[]) (l.take t.1)).2 E i ∧ t.2.2.2.length ≤ t.1) (fun t => l.length - t.1) (0,vN,Ad,[])
       ⟨rfl,rfl,rfl,rfl,rfl,rfl,rfl,rfl,trivial⟩ ⟨Nat.zero_le _,cD,XD,hRef,Nat.le_refl _⟩ ?_
      rintro ⟨k,vL,vR,R⟩ ec wE ⟨hk,cE,XE,hRefE,hRl⟩
      simp only at hk XE hRefE hRl
      have hfr := hFrV cE
      obtain ⟨fa,fc,rfl,-,hfrr⟩ := id hfr
      have hrs : (B1 n g.edges)[ps]? = some l := by unfold B1; rw [List.getElem?_map,List.getElem?_range hpsn,hl]; rfl
      have hrl : (B1 n g.edges).length = n := by unfold B1; simp
      obtain ⟨fb,fo,rfl,-,-,csf,-,hrdf,uf,rfl,huf⟩ := hfrr ps l hrs
      obtain ⟨la,lc,rfl,-,hlr⟩ := huf
      refine ne ⟨by omega,by rw [hrl]; omega⟩ ?_
      refine ld Aa (v := .slice la l.length lc) (by rw [Int.toNat_natCast]; exact hrdf) (by rfl) ?_
      refine sp (fun hlt2 => ?_) (fun hge2 => ?_)
      · have hk' : k < l.length := by simp only at hlt2; omega
        have hex : ∃ e,e = l[k] := ⟨_,rfl⟩
        obtain ⟨e,hed⟩ := hex
        have hxe : l[k]? = some e := by rw [hed]; simp
        have het := hlto e (List.mem_of_getElem? hxe)
        obtain ⟨lb,lo2,rfl,-,hlb2,cse,-,hrde,rfl⟩ := hlr k e hxe
        refine ne ⟨by omega,by rw [hrl]; omega⟩ ?_
        refine ld Aa (v := .slice (some ⟨lb,lo2,none⟩) l.length lc) (by rw [Int.toNat_natCast]; exact hrdf) (by rfl) ?_
        refine ne ⟨by omega,by omega⟩ ?_
        refine ld Aa (v := e.val) (by rw [Int.toNat_natCast]; exact hrde) (by rfl) ?_
        refine nd fun b12 wF eF zF kF m12 => ?_
        refine st Aa (cs := [.int .i64 0,.int .i64 0,.int .u16 0,.int .u16 0]) m12 rfl (Nat.le_refl 4) rfl ?_
        intro wG zG kG m12
        have m12 : Own wG b12 67 e.cells := m12
        have kEG : Kp wE wG := kF.new eF kG
        have cG := cE.newT kEG fun _ hf => hf.elim
        have XG := XE.kp kEG
        have hA1x : ∃ A1,A1 = Ba i 0 (L,[]) (l.take k) := ⟨_,rfl⟩
        obtain ⟨A1,hA1⟩ := hA1x
        rw [← hA1] at XG hRefE
        have hb1 := Cm (n := n) (k := 1) (i := i) (d := 0) hdr (l.take k) (L,[]) (fun x hx => hlto x (List.mem_of_mem_take hx)) hDok.nd hDok.box
        rw [← hA1] at hb1
        have hA1l := A6 hb1.1 hb1.2.1
        have hsnoc : Ba i 0 (L,[]) (l.take (k + 1)) = G4 i 0 A1 e := by
         rw [List.take_succ_eq_append_getElem hk',Ey,← hed,hA1]
        have hTTx : ∃ TT : Nat → Prop,TT = fun g => g = b ∨ g = m ∨ some g = vL.ownBlock := ⟨_,rfl⟩
        obtain ⟨TT,hTT⟩ := hTTx
        have hTb : ∀ g,TT g → B ≤ g := fun g hg => hTB XG g (by rw [hTT] at hg; exact hg)
        have hTl : ∀ g,TT g → g < wE.heap.size := fun g hg => by
         rw [hTT] at hg
         rcases hg with rfl | rfl | hg
         · exact XE.hdr.lt
         · exact XE.map.lt
         · exact (XE.rL.lt g hg.symm).2
        have hz12 : wE.heap.size = b12 := eF
        have hn12 : ¬ TT b12 := fun hh => by have := hTl b12 hh; omega
        have hbT : TT b := by rw [hTT]; exact .inl rfl
        have hmT : TT m := by rw [hTT]; exact .inr (.inl rfl)
        have hpre := Bh TT wG Ad 0 []
        have lowS : ∀ {W},CAppR TT wG Ad 0 [] wG W → Chg TT wG W := fun {W} hS => hS.chg.mono fun g hg => hg.elim id fun h => by cases h
        refine Gm Aa mixed 12 [2,3,4,5,6,0,1,7,8,9,10,11] (by kernel_rfl) (CAppR TT wG Ad 0 []) hpre (fun W => W.heap.size = wG.heap.size ∧ Kp wG W) 6 ⟨rfl,(Chg.refl _ _).drew⟩ ?_
        conv => whnf
        refine Fc hpre Aa rfl rfl (fun W h _ _ => Own.at_ (xs := [.int .i64 e.to]) (o := 1) ((lowS h).own m12 hn12) rfl) (by rfl) fun _ => ?_
        conv => whnf
        refine Jp (τ := Value) (hne := ⟨undef⟩) (.int .i64 (Aw A1.1 (e.to,0) : Nat)) (fun v' W => NumC W B b m v' ((B7 A1.1 (e.to,0)).map Dh) [.map (some m),vR,vP,.int .i64 (if i = 0 then 0 else (L.length : Nat)),vI,vE,vF] ∧ (∀ g,v'.ownBlock = some g → vL.ownBlock = some g ∨ wG.heap.size ≤ g) ∧ wG.heap.size < W.heap.size) rfl rfl rfl (fun v' W W' hFv hS => ?_) I8 (fun W hS _ hU => ?_) fun v' Dd hD => ?_
        · obtain ⟨f1,f2,f3⟩ := hFv
          exact ⟨f1.once hS f3 hbT hmT (fun g hg => (f2 g hg).imp (fun h => by rw [hTT]; exact .inr (.inr h.symm)) id) (fun g hg => by have := hTl g hg; omega) (fun g hg => by cases hg),f2,by have := hS.chg.size; omega⟩
        · obtain ⟨hU1,hU2⟩ := hU
          have hcall := Qa (XG.kp hU2) (p := Dh (e.to,0)) (Na (n := n) (k := 1) ⟨het.1,het.2,hdr.1,hdr.2⟩ (by omega) (by omega)) (by rw [List.length_map]; omega)
          refine hcall.mono fun en W' hr => ?_
          cases en with
          | returned v =>
           obtain ⟨rfl,v',hX,hc',hg',hs'⟩ := hr
           rw [Gi Cv] at hX
           exact ⟨congrArg (fun i : Nat => Value.int .i64 (i : Int)) (E2 Cv _ _),⟨hc'.mono fun g hg => .inl (by rw [hTT]; exact hg),fun g hg hl => (by cases hg),.inr (by omega)⟩,v',⟨hX.hdr,hX.map,hX.rL⟩,fun g hg => (hg' g hg).imp id fun h => by omega,by omega⟩
          | _ => exact hr.elim
        conv => whnf
        refine Fc hpre Aa rfl rfl (fun W h _ _ => Own.at_ (xs := [.int .u16 e.must]) (o := 2) ((lowS h).own m12 hn12) rfl) (by rfl) fun _ => ?_
        conv => whnf
        refine Fc hpre Aa rfl rfl (fun W h _ _ => Own.at_ (xs := [.int .u16 e.no]) (o := 3) ((lowS h).own m12 hn12) rfl) (by rfl) fun _ => ?_
        conv => whnf
        intro wH hSH hdH
        have hNH := hD wH (hdH 6)
        obtain ⟨ncH,hnewH,hszH⟩ := hNH
        have hndH : ((B7 A1.1 (e.to,0)).map Dh).Nodup := Ce Cv (Ca hb1.1)
        have cGH : Chg (fun g => g = b ∨ g = m ∨ some g = vL.ownBlock) wG wH := (lowS hSH).mono fun g hg => by rw [hTT] at hg; exact hg
        have XH := NumC.x XG cGH ncH hndH
        have hcallE := Rm XH hRefE.r (by omega) ⟨i,(Aw A1.1 (e.to,0) : Nat),e.must,e.no⟩
        refine cl L7 hcallE ?_
        rintro rE wI ⟨R',vR',hIns,XI,cI,hnewR⟩
        have hfv := Ae XI.rL
        obtain ⟨va,vc,rfl⟩ := hfv
        have hA2l : (B7 A1.1 (e.to,0)).length ≤ n * 1 := A6 (n := n) (k := 1) (Ca hb1.1) (Ky hb1.2.1 ⟨het.1,het.2,hdr.1,hdr.2⟩)
        refine aw (by simp only; omega) (by simp only; omega) ?_
        refine again (k + 1,.slice va ((B7 A1.1 (e.to,0)).map Dh).length vc,vR',R') ⟨rfl,rfl,rfl,rfl,rfl,rfl,rfl,rfl,trivial⟩ ⟨by simp only; omega,?_,?_,?_,?_⟩ (by simp only; omega)
        · exact (cG.trans ((lowS hSH).mono hTb)).trans (cI.mono fun g hg => hg.elim (fun h => by rw [h]; exact hb5) fun h => Ah XH.o.rR h.symm)
        · simp only
          rw [hsnoc]
          exact XI
        · simp only
          rw [hsnoc]
          exact hRefE.ins hIns rfl
        · have := hIns.len hRefE.r
          simp only
          omega
      · have hke : k = l.length := by simp only at hge2; omega
        subst hke
        rw [List.take_length] at XE hRefE
        have hA1x : ∃ A1,A1 = Ba i 0 (L,[]) l := ⟨_,rfl⟩
        obtain ⟨A1,hA1⟩ := hA1x
        rw [← hA1] at XE hRefE
        have hiv := hInV cE
        obtain ⟨iva,ivc,rfl,-,hirr⟩ := hiv
        have hb1 := Cm (n := n) (k := 1) (i := i) (d := 0) hdr l (L,[]) hlto hDok.nd hDok.box
        rw [← hA1] at hb1
        have hA1l := A6 hb1.1 hb1.2.1
        have hRlen : i + 1 ≤ A1.1.length := by
         have h1 := Dy i 0 l (L,[])
         rw [← hA1] at h1
         simp only at h1
         omega
        have hDn : A5 [] (Aj g.edges) (L0,[],[]) (i + 1) = (A1.1,E ++ A1.2,F ++ if B9 [] ((ps : Nat),((0 : Nat) : Int)) = true then [(i : Int)] else []) := by
         show Gh [] (Aj g.edges) i (A5 [] (Aj g.edges) (L0,[],[]) i) = _
         rw [← hDi]
         unfold Gh
         rw [hxi]
         simp only
         rw [← hdd,← hl,Eh,← hA1]
        have hFl : F.length ≤ i := hDl.2
        obtain ⟨ib,io,rfl,-,-,ics,-,hird,iu,rfl,hiu⟩ := hirr 0 (B8 n g.final) rfl
        obtain ⟨ja,jc,rfl,-,hjr⟩ := hiu
        obtain ⟨jb,jo,rfl,-,-,jcs,-,hjrd,rfl⟩ := hjr ps (decide ((ps : Int) ∈ g.final)) (Hg hpsn)
        rw [D8] at hird
        have hLBL : BL[i]? = some (((ps : Nat) : Int),((0 : Nat) : Int)) := by
         have h1 := O2 ([] : List (List Int)) (Aj g.edges) (L0,[],[]) (i := i) (j := n * 1) (by omega)
         rw [← hDi] at h1
         have h2 : Jf n g = (A5 [] (Aj g.edges) (L0,[],[]) (n * 1)).1 := by unfold Jf; rw [hL0]
         rw [hBL,h2]
         exact R0 h1 hxi
        have hfs := Or (F := g.final) hLBL
        rw [← hF0] at hfs
        refine ne ⟨by decide,by show (0 : Int) < ((1 : Nat) : Int); decide⟩ ?_
        refine ld Aa (v := .slice (some ⟨jb,jo,none⟩) n jc) hird (by rfl) ?_
        refine ne ⟨by omega,by omega⟩ ?_
        cases hps : decide ((ps : Int) ∈ g.final) with
        | true =>
         rw [hps] at hjrd
         have hfin : Ea g.final BL (i + 1) = F0 ++ [(i : Int)] := by rw [hfs,if_pos hps]
         refine ld Aa (v := .bool true) (by rw [Int.toNat_natCast]; exact hjrd) (by rfl) ?_
         refine ld Aa (Own.at_ (xs := [vF]) (o := 7) XE.hdr rfl) (by rfl) ?_
         refine ne (by decide) ?_
         refine nd fun bq wK eK zK kK mq => ?_
         have mq : Own wK bq 3 [.int .i64 (i : Nat)] := mq
         have XK := XE.kp kK
         have cK := cE.newT kK fun _ hf => hf.elim
         refine Yu (m := 1) (news := [.int .i64 (i : Nat)]) Aa rfl rfl rfl rfl rfl rfl rfl (by decide) (show wK.ownsRow B 3 1 vF F0.length (F0.flatMap Ia) from XK.o.rF) rfl (Own.at_ (xs := [.int .i64 (i : Nat)]) (o := 0) mq rfl) rfl (by simp only [maxLen]; omega) (by show (_ + 1) * 8 ≤ _; omega) XK.base fun vF' wM rFM cM hnewF => ?_
         have hff := Ae rFM
         obtain ⟨fa',fc',rfl⟩ := hff
         have hbF : some b ≠ vF.ownBlock := fun he => (XK.mR (g := b) (.inr (.inr (.inr (.inr he.symm))))).2.1 rfl
         have hdrM := cM.own XK.hdr hbF
         refine st Aa hdrM rfl (show 8 ≤ 8 by decide) rfl ?_
         intro wN zN cN hdrN
         have hdrN : Own wN b 101 [vL,.map (some m),vR,vP,.int .i64 (if i = 0 then 0 else (L.length : Nat)),vI,vE,.slice fa' (F0.length + 1) fc'] := hdrN
         have hnbF : ∀ g,(Value.slice fa' (F0.length + 1) fc').ownBlock = some g → ¬ g = b := fun g hg he => by
          subst he
          exact Ai rFM hdrM (fun cs fr hh => by injection hh with _ h2; exact absurd h2 (by decide)) hg
         have cKN : Chg (fun j => j = b ∨ some j = vF.ownBlock) wK wN := (cM.mono fun _ => .inr).trans (cN.mono fun _ => .inl)
         have XN := XK.newF cKN (vF' := .slice fa' (F0.length + 1) fc') (F' := F0 ++ [(i : Int)]) hdrN (by
          rw [List.length_append,List.flatMap_append]
          exact Ab rFM cN hnbF) hnewF
         have cN6 := cK.trans (cKN.mono fun g hg => hg.elim (fun h => by rw [h]; exact hb5) fun h => Ah XK.o.rF h.symm)
         have hsh := Fk XN (by omega) (by simp only; omega)
         refine cl Do hsh ?_
         rintro rS wS ⟨vE',XS,cS⟩
         refine aw (by omega) (by omega) ?_
         refine again (i + 1,vL,vE',(.slice fa' (F0.length + 1) fc'),D ++ R) ⟨rfl,rfl,rfl,rfl,rfl,rfl,trivial⟩ ⟨?_,cN6.trans (cS.mono fun g hg => hg.elim (fun h => by rw [h]; exact hb5) fun h => Ah XN.o.rE h.symm),?_,?_⟩ (by simp only; omega)
         all_goals (try simp only)
         all_goals (try rw [hDn])
         · exact hRlen
         · rw [hfin,if_neg (show ¬ (i + 1 = 0) by omega)]
           rw [List.length_map] at XS
           exact XS
         · exact hRefE.shut
        | false =>
         rw [hps] at hjrd
         have hfin : Ea g.final BL (i + 1) = F0 := by
          rw [hfs,if_neg (by show ¬ decide ((ps : Int) ∈ g.final) = true; rw [hps]; simp)]; simp
         refine ld Aa (v := .bool false) (by rw [Int.toNat_natCast]; exact hjrd) (by rfl) ?_
         have hsh := Fk XE (by omega) (by simp only; omega)
         refine cl Do hsh ?_
         rintro rS wS ⟨vE',XS,cS⟩
         refine aw (by omega) (by omega) ?_
         refine again (i + 1,vL,vE',vF,D ++ R) ⟨rfl,rfl,rfl,rfl,rfl,rfl,trivial⟩ ⟨?_,cE.trans (cS.mono fun g hg => hg.elim (fun h => by rw [h]; exact hb5) fun h => Ah XE.o.rE h.symm),?_,?_⟩ (by simp only; omega)
         all_goals (try simp only)
         all_goals (try rw [hDn])
         · exact hRlen
         · rw [hfin,if_neg (show ¬ (i + 1 = 0) by omega)]
           rw [List.length_map] at XS
           exact XS
         · exact hRefE.shut
    · have hiL : L.length ≤ i := by simp only at hge; omega
      have hiE : i = L.length := by omega
      have hstop := E5 (sets := []) (fr := Aj g.edges) (st0 := (L0,[],[])) (i := i) (by rw [← hDi]; exact hiL) (n * 1) (by omega)
      rw [← hDi] at hstop
      have hBLL : BL = L := by
       rw [hBL]
       unfold Jf
       rw [← hL0,hstop]
      have hgd : D6 g = { props := g.props,states := (L.length : Nat),init := I,edges := D,final := F0 } := by
       rw [hdg]
       unfold Cf
       rw [← hL0,← hIe,hstop,hRef.done,hF0,hBLL,hiE]
      have hst : (if i = 0 then (0 : Int) else ((L.length : Nat) : Int)) = ((L.length : Nat) : Int) := by
       split
       · omega
       · rfl
      rw [hst] at XA
      have hfP := Ae XA.o.rP
      obtain ⟨pA,pC,rfl⟩ := hfP
      have hfI := Ae XA.o.rI
      obtain ⟨iA,iC,hvI2⟩ := hfI
      have hfE := Ae XA.o.rE
      obtain ⟨eA,eC,rfl⟩ := hfE
      have hfF := Ae XA.o.rF
      obtain ⟨fA,fC,rfl⟩ := hfF
      have hvI3 := hvI.symm.trans hvI2
      subst hvI2
      refine ld Aa (v := .agg #[(.slice pA g.props.length pC),.int .i64 (L.length : Nat),(.slice iA I.length iC),(.slice eA D.length eC),(.slice fA F0.length fC)]) (Own.at_ (xs := [(.slice pA g.props.length pC),.int .i64 (L.length : Nat),(.slice iA I.length iC),(.slice eA D.length eC),(.slice fA F0.length fC)]) (o := 3) XA.hdr rfl) (by rfl) ?_
      have m2A := cA.own m2 fun hh => by have : B ≤ b2 := hh; omega
      refine st Aa m2A rfl (Nat.le_refl 5) rfl ?_
      intro wB zB cB m2B
      have m2B : Own wB b2 29 [(.slice pA g.props.length pC),.int .i64 (L.length : Nat),(.slice iA I.length iC),(.slice eA D.length eC),(.slice fA F0.length fC)] := m2B
      refine ld Aa (v := .agg #[(.slice pA g.props.length pC),.int .i64 (L.length : Nat),(.slice iA I.length iC),(.slice eA D.length eC),(.slice fA F0.length fC)]) (Own.at_ (xs := [(.slice pA g.props.length pC),.int .i64 (L.length : Nat),(.slice iA I.length iC),(.slice eA D.length eC),(.slice fA F0.length fC)]) (o := 0) m2B rfl) (by rfl) ?_
      have oB := XA.o.keep cB fun g hg he => by
       have h1 := (XA.o.lt hg).1
       have h2 : g = b2 := he
       omega
      have low : ∀ {el size v n xs},wB.ownsRow B el size v n xs → wB.ownsRow w.heap.size el size v n xs := fun {el size v n xs} h => Ap h (by omega)
      have hout : OutV w.heap.size wB (.slice pA g.props.length pC) (.slice iA I.length iC) (.slice eA D.length eC) (.slice fA F0.length fC) (D6 g) := by
       rw [hgd]
       exact ⟨low oB.rP,low oB.rI,low oB.rE,low oB.rF,oB.sI⟩
      have hf := hout.form
      obtain ⟨y,y1,y2,y3,y4⟩ := hf
      refine ⟨(hK cA).newS cB fun j hj => by have : j = b2 := hj; omega,.inr ⟨hc,y,?_,?_⟩⟩
      · show Value.tuple #[.agg #[(.slice pA g.props.length pC),.int .i64 (L.length : Nat),(.slice iA I.length iC),(.slice eA D.length eC),(.slice fA F0.length fC)],.int .i64 0] = .tuple #[Fg (D6 g) y,.int .i64 0]
        unfold Fg
        rw [← y1,← y2,← y3,← y4]
        rw [show ((L.length : Nat) : Int) = (D6 g).states by rw [hgd]]
      · show OutV _ _ _ _ _ _ _
        rw [← y1,← y2,← y3,← y4]
        exact hout
theorem Yk : Af prog 58 = true := by kernel_rfl
set_option maxHeartbeats 4000000 in
theorem AaO {w : World} {lo hi lo2 hi2 : Nat} {xv yv : Value} {x y : List Edge} (hx : RowE (fun _ cs x => cs = Edge.cells x) 4 lo hi w xv x) (hy : RowE (fun _ cs x => cs = Edge.cells x) 4 lo2 hi2 w yv y) (hxl : x.length ≤ 1000) (hyl : y.length ≤ 1000) :
 Calls prog 58 [xv,yv].toArray w (Bg fun r w' => Kp w w' ∧ ∃ W,Ways x y x.length 0 W ∧ RowE (fun _ cs x => cs = Edge.cells x) 4 w.heap.size w'.heap.size w' r W) := by
 have hk4 : ∀ x : Edge,x.cells.length = 4 := fun _ => rfl
 obtain ⟨xa,xc,rfl,-,hxr⟩ := id hx
 obtain ⟨ya,yc,rfl,-,hyr⟩ := id hy
 have hxy : x.length * y.length ≤ 1000 * 1000 := Nat.mul_le_mul hxl hyl
 have hB : ∃ B,B = w.heap.size := ⟨_,rfl⟩
 obtain ⟨B,hB⟩ := hB
 refine call Aa func58 rfl ntmps58 (by kernel_rfl) ?_
 refine loop Aa (σ := Nat × Value × List Edge) (fun t => [(0,.slice xa x.length xc),(1,.slice ya y.length yc),(5,t.2.1),(6,.int .i64 t.1)])
  (fun t V => t.1 ≤ x.length ∧ Kp w V ∧ Ways x y t.1 0 t.2.2 ∧ V.ownsRow B 111 4 t.2.1 t.2.2.length (t.2.2.flatMap Edge.cells)) (fun t => x.length - t.1) (0,Ad,[])
  ⟨rfl,rfl,rfl,rfl,trivial⟩ ⟨Nat.zero_le _,Chg.refl _ _,Ways.zero,World.ownsRow_nil _ _ _ _⟩ ?_
 rintro ⟨i,ov,O⟩ e0 w1 ⟨hi1,k1,hO,oO⟩
 simp only at hi1 hO oO
 refine sp (fun hlt => ?_) (fun hge => ?_)
 · have hi' : i < x.length := by simp only at hlt; omega
   refine loop Aa (σ := Nat × Value × List Edge) (fun t => [(0,.slice xa x.length xc),(1,.slice ya y.length yc),(5,t.2.1),(6,.int .i64 i),(7,.int .i64 t.1)])
    (fun t V => t.1 ≤ y.length ∧ Kp w V ∧ Ways x y i t.1 t.2.2 ∧ V.ownsRow B 111 4 t.2.1 t.2.2.length (t.2.2.flatMap Edge.cells)) (fun t => y.length - t.1) (0,ov,O)
    ⟨rfl,rfl,rfl,rfl,rfl,trivial⟩ ⟨Nat.zero_le _,k1,hO,oO⟩ ?_
   rintro ⟨k,ov,R⟩ e1 w2 ⟨hk1,k2,hW,oR⟩
   simp only at hk1 hW oR
   refine sp (fun hlt2 => ?_) (fun hge2 => ?_)
   · have hk' : k < y.length := by simp only at hlt2; omega
     have hdx : ∃ d,d = x[i] := ⟨_,rfl⟩
     obtain ⟨d,hd⟩ := hdx
     have hxd : x[i]? = some d := by rw [hd]; simp
     have hex : ∃ e,e = y[k] := ⟨_,rfl⟩
     obtain ⟨e,he⟩ := hex
     have hye : y[k]? = some e := by rw [he]; simp
     obtain ⟨xb,xo,hxa,-,-,csx,-,hrx,hcsx⟩ := hxr i d hxd
     obtain ⟨yb,yo,hya,-,-,csy,-,hry,hcsy⟩ := hyr k e hye
     subst hxa hya hcsx hcsy
     have hRl : R.length ≤ 1000000 := by have := hW.len; omega
     have rx : ∀ {W},Kp w2 W → ∀ (o : Nat) (v : Value),d.cells[o]? = some v → W.rangeAt xb (xo + ((i : Nat) : Int).toNat * 4 + o) [v] := fun {W} hW o v hv => by
      rw [Int.toNat_natCast]
      intro j u hu
      have hj : j = 0 := by
       have := (List.getElem?_eq_some_iff.1 hu).1
       simpa using this
      subst hj
      have hu : v = u := by simpa using hu
      subst hu
      have := ((k2.trans hW).range hrx id) o v hv
      rw [Nat.add_zero]
      exact this
     have ry : ∀ {W},Kp w2 W → ∀ (o : Nat) (v : Value),e.cells[o]? = some v → W.rangeAt yb (yo + ((k : Nat) : Int).toNat * 4 + o) [v] := fun {W} hW o v hv => by
      rw [Int.toNat_natCast]
      intro j u hu
      have hj : j = 0 := by
       have := (List.getElem?_eq_some_iff.1 hu).1
       simpa using this
      subst hj
      have hu : v = u := by simpa using hu
      subst hu
      have := ((k2.trans hW).range hry id) o v hv
      rw [Nat.add_zero]
      exact this
     refine Ax Aa mixed 34 (by kernel_rfl) (fun _ => False) ?_
     conv => whnf
     refine ne ⟨by omega,by omega⟩ ?_
     conv => whnf
     refine A7 Aa rfl rfl (fun W hW _ => rx hW 1 (.int .i64 d.to) rfl) (by rfl) fun _ => ?_
     conv => whnf
     refine ne ⟨by omega,by omega⟩ ?_
     conv => whnf
     refine A7 Aa rfl rfl (fun W hW _ => ry hW 1 (.int .i64 e.to) rfl) (by rfl) fun _ => ?_
     conv => whnf
     refine ne ⟨by omega,by omega⟩ ?_
     conv => whnf
     refine A7 Aa rfl rfl (fun W hW _ => rx hW 2 (.int .u16 d.must) rfl) (by rfl) fun _ => ?_
     conv => whnf
     refine ne ⟨by omega,by omega⟩ ?_
     conv => whnf
     refine A7 Aa rfl rfl (fun W hW _ => ry hW 2 (.int .u16 e.must) rfl) (by rfl) fun _ => ?_
     conv => whnf
     refine ar ?_
     conv => whnf
     refine ne ⟨by omega,by omega⟩ ?_
     conv => whnf
     refine A7 Aa rfl rfl (fun W hW _ => rx hW 3 (.int .u16 d.no) rfl) (by rfl) fun _ => ?_
     conv => whnf
     refine ne ⟨by omega,by omega⟩ ?_
     conv => whnf
     refine A7 Aa rfl rfl (fun W hW _ => ry hW 3 (.int .u16 e.no) rfl) (by rfl) fun _ => ?_
     conv => whnf
     refine ar ?_
     conv => whnf
     refine alk rfl rfl fun q D hD => ?_
     conv => whnf
     intro w3 k3 hd3
     have hq := hD w3 (hd3 33)
     obtain ⟨mq0,hqz⟩ := hq
     refine st Aa mq0 rfl (Nat.le_refl 4) rfl ?_
     intro w4 z4 k4' mq
     have hZx : ∃ Z,Z = Ns d e := ⟨_,rfl⟩
     obtain ⟨Z,hZ⟩ := hZx
     have mqZ : Own w4 q 111 (Ns d e).cells := mq
     have mq2 : Own w4 q 111 Z.cells := by rw [hZ]; exact mqZ
     clear mq mqZ
     have mq := mq2
     have k24 : Kp w2 w4 := k3.newS k4' fun j hj => by have : j = q := hj; omega
     have k04 := k2.trans k24
     have oR2 := oR
     have oR := Ab oR k24 fun _ _ => id
     have hf := Ae oR
     obtain ⟨ra,rc,rfl⟩ := hf
     have hRlt : ∀ g,(Value.slice ra R.length rc).ownBlock = some g → g < q := fun g hg => by have := (oR2.lt g hg).2; omega
     refine ld Aa (Own.at_ (xs := [.int .u16 Z.must]) (o := 2) mq rfl) (by rfl) ?_
     refine ld Aa (Own.at_ (xs := [.int .u16 Z.no]) (o := 3) mq rfl) (by rfl) ?_
     refine ar ?_
     refine sp (fun hne => ?_) (fun heq => ?_)
     · have hok : Kq d e = false := by
        unfold Kq
        rw [← hZ]
        exact decide_eq_false hne
       refine aw (by omega) (by omega) ?_
       exact again (k + 1,.slice ra R.length rc,R) ⟨rfl,rfl,rfl,rfl,rfl,trivial⟩ ⟨by simp only; omega,k04,hW.skip hxd hye hok,oR⟩ (by simp only; omega)
     · have hok : Kq d e = true := by
        unfold Kq
        rw [← hZ]
        exact decide_eq_true (Decidable.not_not.1 heq)
       have hR : R.Pairwise fun x y => Ee x y = true := hW.srt
       have hadd : ∀ {W'},Ins R Z W' → Ways x y i (k + 1) W' := fun {W'} h => hW.add hxd hye hok (hZ ▸ h)
       have hrd : ∀ (p : Nat) (z : Edge),R[p]? = some z → ∃ g,ra = some ⟨g,0,none⟩ ∧ w4.rangeAt g (0 + p * 4) z.cells := fun p z hz => by
        have hpl := (List.getElem?_eq_some_iff.1 hz).1
        obtain ⟨g,cap,rest,h0,-,hO,-⟩ := Cl hk4 oR hpl
        injection h0 with h0 _ _
        exact ⟨g,h0,D9 hk4 hz hO⟩
       refine loop Aa (σ := Nat) (fun p => [(0,.slice (some ⟨xb,xo,none⟩) x.length xc),(1,.slice (some ⟨yb,yo,none⟩) y.length yc),(5,.slice ra R.length rc),(6,.int .i64 i),(7,.int .i64 k),(8,pt q 0),(9,.int .i64 p)])
        (fun p W => Kp w4 W ∧ p ≤ R.length ∧ ∀ (j : Nat) (z : Edge),p ≤ j → R[j]? = some z → Ee Z z = true) (fun p => p) R.length
        ⟨rfl,rfl,rfl,rfl,rfl,rfl,rfl,trivial⟩ ⟨Chg.refl _ _,Nat.le_refl _,fun j z hj hz => by have := (List.getElem?_eq_some_iff.1 hz).1; omega⟩ ?_
       rintro p e9 wP ⟨kP,hp,hge3⟩
       by_cases hp0 : 0 < p
       · have hxk : R[p - 1]? = some (R[p - 1]'(by omega)) := List.getElem?_eq_getElem _
         have hXe : ∃ X,X = R[p - 1]'(by omega) := ⟨_,rfl⟩
         obtain ⟨X,hX⟩ := hXe
         rw [← hX] at hxk
         have hg0 := hrd (p - 1) X hxk
         obtain ⟨gr,hgr,hrd0⟩ := hg0
         subst hgr
         have hrdW : ∀ W,Kp wP W → W.rangeAt gr (0 + (p - 1) * 4) X.cells := fun W hW => (kP.trans hW).range hrd0 id
         refine Ax Aa mixed 11 (by kernel_rfl) (fun _ => False) ?_
         conv => whnf
         refine Dj (by omega) ?_
         conv => whnf
         refine A7 Aa (v := Z.val) rfl rfl (fun W hW _ => Own.at_ (xs := Z.cells) (o := 0) ((kP.trans hW).own mq id) rfl) (by rfl) fun _ => ?_
         conv => whnf
         refine C3 (show _ = ((p - 1 : Nat) : Int) by rw [show ((p : Int) - 1) = ((p - 1 : Nat) : Int) by omega]; exact As (by omega) (by omega)) ?_
         conv => whnf
         refine ne ⟨by omega,by omega⟩ ?_
         conv => whnf
         refine A7 Aa (v := X.val) rfl rfl (fun W hW _ => by rw [Int.toNat_natCast]; exact hrdW W hW) (by rfl) fun _ => ?_
         conv => whnf
         cases hah : Ee Z X with
         | true =>
          refine Co (v := .bool true) rfl rfl rfl Q3 (fun W _ _ => by have := W0 W Z X; rw [Ls,hah] at this; exact this) fun _ => ?_
          conv => whnf
          intro W hW' _
          refine C3 (show _ = ((p - 1 : Nat) : Int) by rw [show ((p : Int) - 1) = ((p - 1 : Nat) : Int) by omega]; exact As (by omega) (by omega)) ?_
          refine again (p - 1) ⟨rfl,rfl,rfl,rfl,rfl,rfl,rfl,trivial⟩ ⟨kP.trans hW',by omega,fun j z hj hz => ?_⟩ (by omega)
          rcases Nat.lt_or_ge j p with h1 | h1
          · obtain rfl : j = p - 1 := by omega
            rw [hxk] at hz
            cases hz
            exact hah
          · exact hge3 j z h1 hz
         | false =>
          refine Co (v := .bool false) rfl rfl rfl Q3 (fun W _ _ => by have := W0 W Z X; rw [Ls,hah] at this; exact this) fun _ => ?_
          conv => whnf
          intro wQ kQ _
          have k23 := kP.trans kQ
          refine Ax Aa mixed 11 (by kernel_rfl) (fun _ => False) ?_
          conv => whnf
          refine Dj (by omega) ?_
          conv => whnf
          refine C3 (show _ = ((p - 1 : Nat) : Int) by rw [show ((p : Int) - 1) = ((p - 1 : Nat) : Int) by omega]; exact As (by omega) (by omega)) ?_
          conv => whnf
          refine ne ⟨by omega,by omega⟩ ?_
          conv => whnf
          refine A7 Aa (v := X.val) rfl rfl (fun W hW _ => by rw [Int.toNat_natCast]; exact hrdW W (kQ.trans hW)) (by rfl) fun _ => ?_
          conv => whnf
          refine A7 Aa (v := Z.val) rfl rfl (fun W hW _ => Own.at_ (xs := Z.cells) (o := 0) ((k23.trans hW).own mq id) rfl) (by rfl) fun _ => ?_
          conv => whnf
          refine ne ⟨by kernel_rfl,by kernel_rfl⟩ ?_
          conv => whnf
          by_cases hXZ : X = Z
          · refine Dj ((Mg X Z).2 hXZ) ?_
            conv => whnf
            intro wW kW _
            have kk := k23.trans kW
            refine aw (by omega) (by omega) ?_
            exact again (k + 1,.slice (some ⟨gr,0,none⟩) R.length rc,R) ⟨rfl,rfl,rfl,rfl,rfl,trivial⟩ ⟨by simp only; omega,k04.trans kk,hadd (Wy hR (hXZ ▸ List.mem_of_getElem? hxk)),Ab oR kk fun _ _ => id⟩ (by simp only; omega)
          · refine Bs (fun hh => hXZ ((Mg X Z).1 hh)) ?_
            conv => whnf
            intro wW kW _
            have k14 := k23.trans kW
            have hlt3 : ∀ z,0 < p → R[p - 1]? = some z → Ee Z z = false ∧ z ≠ Z := fun z _ hz => by
             rw [hxk] at hz
             cases hz
             exact ⟨hah,hXZ⟩
            clear hrdW hrd0 hrd
            have k44 := k14
            have mqW := k14.own mq id
            have oRW : wW.ownsRow B 111 4 (.slice (some ⟨gr,0,none⟩) R.length rc) R.length (R.flatMap Edge.cells) := Ab oR k14 fun _ _ => id
            refine ld Aa (v := Z.val) (Own.at_ (xs := Z.cells) (o := 0) mqW rfl) (by rfl) ?_
            refine ne (by decide) ?_
            refine nd fun q2 w5 e5 z5 k5 m5 => ?_
            have m5 : Own w5 q2 111 Z.cells := m5
            have oR5 := Ab oRW k5 fun _ _ => id
            have mq5 := k5.own mqW id
            have kW5 : Kp w4 w5 := k14.trans k5
            have hw45 := kW5.size
            have hw05 := (k04.trans kW5).size
            refine Yu (m := 1) (news := Z.cells) Aa rfl rfl rfl rfl rfl rfl rfl (by decide) oR5 rfl (Own.at_ (xs := Z.cells) (o := 0) m5 rfl) rfl (by simp only [maxLen]; omega) (by show (_ + 1) * 24 ≤ _; omega) (by omega) fun v' w6 o6 c6 hnew6 => ?_
            have hf6 := Ae o6
            obtain ⟨vb,vd,rfl⟩ := hf6
            have hne_q : some q ≠ (Value.slice (some ⟨gr,0,none⟩) R.length rc).ownBlock := fun he => by have := hRlt q he.symm; omega
            have mq6 := c6.own mq5 hne_q
            have k06 : Kp w w6 := (k04.trans kW5).newS c6 fun g hg => by have := (oR5.lt g hg.symm).1; omega
            have hnB : ∀ g,(Value.slice vb (R.length + 1) vd).ownBlock = some g → B ≤ g ∧ g ≠ q := fun g hg => by
             refine ⟨(o6.lt g hg).1,fun he => ?_⟩
             rcases hnew6 g hg with h1 | h1
             · exact hne_q (by rw [← he]; exact h1.symm)
             · have := mq5.lt; omega
            have o6 : w6.ownsRow B 111 4 (.slice vb (R.length + 1) vd) (R ++ [Z]).length ((R ++ [Z]).flatMap Edge.cells) := by
             rw [List.length_append,List.flatMap_append]
             exact o6
            refine C3 (show _ = ((R.length : Nat) : Int) by rw [show (((R.length + 1 : Nat) : Int) - 1) = ((R.length : Nat) : Int) by omega]; exact As (by omega) (by omega)) ?_
            refine loop Aa (σ := Nat × Edge) (fun t => [(0,.slice (some ⟨xb,xo,none⟩) x.length xc),(1,.slice (some ⟨yb,yo,none⟩) y.length yc),(5,.slice vb (R.length + 1) vd),(6,.int .i64 i),(7,.int .i64 k),(8,pt q 0),(9,.int .i64 p),(10,.int .i64 t.1)])
             (fun t V => p ≤ t.1 ∧ t.1 ≤ R.length ∧ V.ownsRow B 111 4 (.slice vb (R.length + 1) vd) (R.length + 1) ((R.take t.1 ++ t.2 :: R.drop t.1).flatMap Edge.cells) ∧ Own V q 111 Z.cells ∧ Kp w V) (fun t => t.1) (R.length,Z)
             ⟨rfl,rfl,rfl,rfl,rfl,rfl,rfl,rfl,trivial⟩ ⟨hp,Nat.le_refl _,by simpa using o6,mq6,k06⟩ ?_
            rintro ⟨i7,u⟩ e7' w7 ⟨hpi,hi7,o7,mq7,k07⟩
            simp only at hpi hi7 o7
            have hCl : (R.take i7 ++ u :: R.drop i7).length = R.length + 1 := by simp; omega
            have hsp := Cl hk4 (ys := R.take i7 ++ u :: R.drop i7) (by rw [hCl]; exact o7) (k := i7) (by rw [hCl]; omega)
            obtain ⟨g,cap,rest,hv,hgB,hO7,hmk⟩ := hsp
            rw [hCl] at hv hmk
            injection hv with hv1 _ hv2
            subst hv1 hv2
            have hgq : g ≠ q := (hnB g (by simp [Value.ownBlock])).2
            refine sp (fun hgt => ?_) (fun hle => ?_)
            · have hgt : p < i7 := by simp only at hgt; omega
              have hxi : R[i7 - 1]? = some (R[i7 - 1]'(by omega)) := List.getElem?_eq_getElem _
              have hYe : ∃ Y,Y = R[i7 - 1]'(by omega) := ⟨_,rfl⟩
              obtain ⟨Y,hY⟩ := hYe
              rw [← hY] at hxi
              have hCi : (R.take i7 ++ u :: R.drop i7)[i7 - 1]? = some Y := by rw [List.getElem?_append_left (by simp; omega),List.getElem?_take,if_pos (by omega),hxi]
              refine C3 (show _ = ((i7 - 1 : Nat) : Int) by rw [show ((i7 : Int) - 1) = ((i7 - 1 : Nat) : Int) by omega]; exact As (by omega) (by omega)) ?_
              refine ne ⟨by omega,by omega⟩ ?_
              refine ld Aa (v := Y.val) (by rw [Int.toNat_natCast]; exact D9 hk4 hCi hO7) (by rfl) ?_
              refine ne ⟨by omega,by omega⟩ ?_
              refine st Aa (o := 0 + i7 * 4) hO7 (by rfl) (by rw [List.length_append,An hk4,hCl]; show 0 + i7 * 4 + 4 ≤ _; omega) rfl ?_
              intro w9 z9 c9 m9
              have m9 : Own w9 g 111 (Gk ((R.take i7 ++ u :: R.drop i7).flatMap Edge.cells ++ rest) (0 + i7 * 4) Y.cells) := m9
              have hset : (R.take i7 ++ u :: R.drop i7).set i7 Y = R.take (i7 - 1) ++ Y :: R.drop (i7 - 1) := by
               rw [List.set_append_right _ _ (by simp; omega),List.length_take,Nat.min_eq_left (by omega),Nat.sub_self,List.set_cons_zero]
               have h1 : R.take i7 = R.take (i7 - 1) ++ [Y] := by
                have := List.take_succ_eq_append_getElem (l := R) (i := i7 - 1) (by omega)
                rw [show i7 - 1 + 1 = i7 by omega,← hY] at this
                exact this
               have h2 : R.drop (i7 - 1) = Y :: R.drop i7 := by
                have := List.drop_eq_getElem_cons (l := R) (i := i7 - 1) (by omega)
                rw [show i7 - 1 + 1 = i7 by omega,← hY] at this
                exact this
               rw [h1,h2]
               simp
              have hlay := Cn hk4 rest Y (R.take i7 ++ u :: R.drop i7) i7 (by rw [hCl]; omega)
              rw [hset] at hlay
              rw [Nat.zero_add,hlay] at m9
              have hCl2 : (R.take (i7 - 1) ++ Y :: R.drop (i7 - 1)).length = (R.take i7 ++ u :: R.drop i7).length := by rw [hCl]; simp; omega
              have hrow9 := hmk w9 _ (hCl2.trans hCl) m9
              refine C3 (show _ = ((i7 - 1 : Nat) : Int) by rw [show ((i7 : Int) - 1) = ((i7 - 1 : Nat) : Int) by omega]; exact As (by omega) (by omega)) ?_
              refine again (i7 - 1,Y) ⟨rfl,rfl,rfl,rfl,rfl,rfl,rfl,rfl,trivial⟩ ⟨by simp only; omega,by simp only; omega,hrow9,c9.own mq7 fun he => hgq he.symm,k07.newS c9 fun j hj => by have : j = g := hj; omega⟩ (by simp only; omega)
            · have hki' : i7 = p := by simp only at hle; omega
              subst hki'
              refine ld Aa (v := Z.val) (Own.at_ (xs := Z.cells) (o := 0) mq7 rfl) (by rfl) ?_
              refine ne ⟨by omega,by omega⟩ ?_
              refine st Aa (o := 0 + i7 * 4) hO7 (by rfl) (by rw [List.length_append,An hk4,hCl]; show 0 + i7 * 4 + 4 ≤ _; omega) rfl ?_
              intro w9 z9 c9 m9
              have m9 : Own w9 g 111 (Gk ((R.take i7 ++ u :: R.drop i7).flatMap Edge.cells ++ rest) (0 + i7 * 4) Z.cells) := m9
              have hset : (R.take i7 ++ u :: R.drop i7).set i7 Z = R.take i7 ++ Z :: R.drop i7 := by
               rw [List.set_append_right _ _ (by simp; omega),List.length_take,Nat.min_eq_left (by omega),Nat.sub_self,List.set_cons_zero]
              have hlay := Cn hk4 rest Z (R.take i7 ++ u :: R.drop i7) i7 (by rw [hCl]; omega)
              rw [hset] at hlay
              rw [Nat.zero_add,hlay] at m9
              have hCl2 : (R.take i7 ++ Z :: R.drop i7).length = R.length + 1 := by simp; omega
              have hrow9 := hmk w9 _ hCl2 m9
              refine aw (by omega) (by omega) ?_
              refine again (k + 1,.slice (some ⟨g,0,none⟩) (R.length + 1) vd,R.take i7 ++ Z :: R.drop i7) ⟨rfl,rfl,rfl,rfl,rfl,trivial⟩ ⟨by simp only; omega,k07.newS c9 fun j hj => by have : j = g := hj; omega,?_,?_⟩ (by simp only; omega)
              · simp only
                exact hadd (Nh hR hp hge3 hlt3)
              · simp only
                rw [hCl2]
                exact hrow9
       · refine Ax Aa mixed 11 (by kernel_rfl) (fun _ => False) ?_
         conv => whnf
         refine Bs (by omega) ?_
         conv => whnf
         intro wQ kQ _
         refine Ax Aa mixed 11 (by kernel_rfl) (fun _ => False) ?_
         conv => whnf
         refine Bs (by omega) ?_
         conv => whnf
         intro wW kW _
         have k14 := (kP.trans kQ).trans kW
         have hlt3 : ∀ z,0 < p → R[p - 1]? = some z → Ee Z z = false ∧ z ≠ Z := fun z hz _ => absurd hz hp0
         clear hrd
         have k44 := k14
         have mqW := k14.own mq id
         have oRW : wW.ownsRow B 111 4 (.slice ra R.length rc) R.length (R.flatMap Edge.cells) := Ab oR k14 fun _ _ => id
         refine ld Aa (v := Z.val) (Own.at_ (xs := Z.cells) (o := 0) mqW rfl) (by rfl) ?_
         refine ne (by decide) ?_
         refine nd fun q2 w5 e5 z5 k5 m5 => ?_
         have m5 : Own w5 q2 111 Z.cells := m5
         have oR5 := Ab oRW k5 fun _ _ => id
         have mq5 := k5.own mqW id
         have kW5 : Kp w4 w5 := k14.trans k5
         have hw45 := kW5.size
         have hw05 := (k04.trans kW5).size
         refine Yu (m := 1) (news := Z.cells) Aa rfl rfl rfl rfl rfl rfl rfl (by decide) oR5 rfl (Own.at_ (xs := Z.cells) (o := 0) m5 rfl) rfl (by simp only [maxLen]; omega) (by show (_ + 1) * 24 ≤ _; omega) (by omega) fun v' w6 o6 c6 hnew6 => ?_
         have hf6 := Ae o6
         obtain ⟨vb,vd,rfl⟩ := hf6
         have hne_q : some q ≠ (Value.slice ra R.length rc).ownBlock := fun he => by have := hRlt q he.symm; omega
         have mq6 := c6.own mq5 hne_q
         have k06 : Kp w w6 := (k04.trans kW5).newS c6 fun g hg => by have := (oR5.lt g hg.symm).1; omega
         have hnB : ∀ g,(Value.slice vb (R.length + 1) vd).ownBlock = some g → B ≤ g ∧ g ≠ q := fun g hg => by
          refine ⟨(o6.lt g hg).1,fun he => ?_⟩
          rcases hnew6 g hg with h1 | h1
          · exact hne_q (by rw [← he]; exact h1.symm)
          · have := mq5.lt; omega
         have o6 : w6.ownsRow B 111 4 (.slice vb (R.length + 1) vd) (R ++ [Z]).length ((R ++ [Z]).flatMap Edge.cells) := by
          rw [List.length_append,List.flatMap_append]
          exact o6
         refine C3 (show _ = ((R.length : Nat) : Int) by rw [show (((R.length + 1 : Nat) : Int) - 1) = ((R.length : Nat) : Int) by omega]; exact As (by omega) (by omega)) ?_
         refine loop Aa (σ := Nat × Edge) (fun t => [(0,.slice (some ⟨xb,xo,none⟩) x.length xc),(1,.slice (some ⟨yb,yo,none⟩) y.length yc),(5,.slice vb (R.length + 1) vd),(6,.int .i64 i),(7,.int .i64 k),(8,pt q 0),(9,.int .i64 p),(10,.int .i64 t.1)])
          (fun t V => p ≤ t.1 ∧ t.1 ≤ R.length ∧ V.ownsRow B 111 4 (.slice vb (R.length + 1) vd) (R.length + 1) ((R.take t.1 ++ t.2 :: R.drop t.1).flatMap Edge.cells) ∧ Own V q 111 Z.cells ∧ Kp w V) (fun t => t.1) (R.length,Z)
          ⟨rfl,rfl,rfl,rfl,rfl,rfl,rfl,rfl,trivial⟩ ⟨hp,Nat.le_refl _,by simpa using o6,mq6,k06⟩ ?_
         rintro ⟨i7,u⟩ e7' w7 ⟨hpi,hi7,o7,mq7,k07⟩
         simp only at hpi hi7 o7
         have hCl : (R.take i7 ++ u :: R.drop i7).length = R.length + 1 := by simp; omega
         have hsp := Cl hk4 (ys := R.take i7 ++ u :: R.drop i7) (by rw [hCl]; exact o7) (k := i7) (by rw [hCl]; omega)
         obtain ⟨g,cap,rest,hv,hgB,hO7,hmk⟩ := hsp
         rw [hCl] at hv hmk
         injection hv with hv1 _ hv2
         subst hv1 hv2
         have hgq : g ≠ q := (hnB g (by simp [Value.ownBlock])).2
         refine sp (fun hgt => ?_) (fun hle => ?_)
         · have hgt : p < i7 := by simp only at hgt; omega
           have hxi : R[i7 - 1]? = some (R[i7 - 1]'(by omega)) := List.getElem?_eq_getElem _
           have hYe : ∃ Y,Y = R[i7 - 1]'(by omega) := ⟨_,rfl⟩
           obtain ⟨Y,hY⟩ := hYe
           rw [← hY] at hxi
           have hCi : (R.take i7 ++ u :: R.drop i7)[i7 - 1]? = some Y := by rw [List.getElem?_append_left (by simp; omega),List.getElem?_take,if_pos (by omega),hxi]
           refine C3 (show _ = ((i7 - 1 : Nat) : Int) by rw [show ((i7 : Int) - 1) = ((i7 - 1 : Nat) : Int) by omega]; exact As (by omega) (by omega)) ?_
           refine ne ⟨by omega,by omega⟩ ?_
           refine ld Aa (v := Y.val) (by rw [Int.toNat_natCast]; exact D9 hk4 hCi hO7) (by rfl) ?_
           refine ne ⟨by omega,by omega⟩ ?_
           refine st Aa (o := 0 + i7 * 4) hO7 (by rfl) (by rw [List.length_append,An hk4,hCl]; show 0 + i7 * 4 + 4 ≤ _; omega) rfl ?_
           intro w9 z9 c9 m9
           have m9 : Own w9 g 111 (Gk ((R.take i7 ++ u :: R.drop i7).flatMap Edge.cells ++ rest) (0 + i7 * 4) Y.cells) := m9
           have hset : (R.take i7 ++ u :: R.drop i7).set i7 Y = R.take (i7 - 1) ++ Y :: R.drop (i7 - 1) := by
            rw [List.set_append_right _ _ (by simp; omega),List.length_take,Nat.min_eq_left (by omega),Nat.sub_self,List.set_cons_zero]
            have h1 : R.take i7 = R.take (i7 - 1) ++ [Y] := by
             have := List.take_succ_eq_append_getElem (l := R) (i := i7 - 1) (by omega)
             rw [show i7 - 1 + 1 = i7 by omega,← hY] at this
             exact this
            have h2 : R.drop (i7 - 1) = Y :: R.drop i7 := by
             have := List.drop_eq_getElem_cons (l := R) (i := i7 - 1) (by omega)
             rw [show i7 - 1 + 1 = i7 by omega,← hY] at this
             exact this
            rw [h1,h2]
            simp
           have hlay := Cn hk4 rest Y (R.take i7 ++ u :: R.drop i7) i7 (by rw [hCl]; omega)
           rw [hset] at hlay
           rw [Nat.zero_add,hlay] at m9
           have hCl2 : (R.take (i7 - 1) ++ Y :: R.drop (i7 - 1)).length = (R.take i7 ++ u :: R.drop i7).length := by rw [hCl]; simp; omega
           have hrow9 := hmk w9 _ (hCl2.trans hCl) m9
           refine C3 (show _ = ((i7 - 1 : Nat) : Int) by rw [show ((i7 : Int) - 1) = ((i7 - 1 : Nat) : Int) by omega]; exact As (by omega) (by omega)) ?_
           refine again (i7 - 1,Y) ⟨rfl,rfl,rfl,rfl,rfl,rfl,rfl,rfl,trivial⟩ ⟨by simp only; omega,by simp only; omega,hrow9,c9.own mq7 fun he => hgq he.symm,k07.newS c9 fun j hj => by have : j = g := hj; omega⟩ (by simp only; omega)
         · have hki' : i7 = p := by simp only at hle; omega
           subst hki'
           refine ld Aa (v := Z.val) (Own.at_ (xs := Z.cells) (o := 0) mq7 rfl) (by rfl) ?_
           refine ne ⟨by omega,by omega⟩ ?_
           refine st Aa (o := 0 + i7 * 4) hO7 (by rfl) (by rw [List.length_append,An hk4,hCl]; show 0 + i7 * 4 + 4 ≤ _; omega) rfl ?_
           intro w9 z9 c9 m9
           have m9 : Own w9 g 111 (Gk ((R.take i7 ++ u :: R.drop i7).flatMap Edge.cells ++ rest) (0 + i7 * 4) Z.cells) := m9
           have hset : (R.take i7 ++ u :: R.drop i7).set i7 Z = R.take i7 ++ Z :: R.drop i7 := by
            rw [List.set_append_right _ _ (by simp; omega),List.length_take,Nat.min_eq_left (by omega),Nat.sub_self,List.set_cons_zero]
           have hlay := Cn hk4 rest Z (R.take i7 ++ u :: R.drop i7) i7 (by rw [hCl]; omega)
           rw [hset] at hlay
           rw [Nat.zero_add,hlay] at m9
           have hCl2 : (R.take i7 ++ Z :: R.drop i7).length = R.length + 1 := by simp; omega
           have hrow9 := hmk w9 _ hCl2 m9
           refine aw (by omega) (by omega) ?_
           refine again (k + 1,.slice (some ⟨g,0,none⟩) (R.length + 1) vd,R.take i7 ++ Z :: R.drop i7) ⟨rfl,rfl,rfl,rfl,rfl,trivial⟩ ⟨by simp only; omega,k07.newS c9 fun j hj => by have : j = g := hj; omega,?_,?_⟩ (by simp only; omega)
           · simp only
             exact hadd (Nh hR hp hge3 hlt3)
           · simp only
             rw [hCl2]
             exact hrow9
   · have hke : k = y.length := by simp only at hge2; omega
     subst hke
     refine aw (by omega) (by omega) ?_
     exact again (i + 1,ov,R) ⟨rfl,rfl,rfl,rfl,trivial⟩ ⟨by simp only; omega,k2,hW.row,oR⟩ (by simp only; omega)
 · have hie : i = x.length := by simp only at hge; omega
   subst hie
   refine ⟨k1,O,hO,?_⟩
   have h1 := Av (f := Edge.cells) (fun _ => rfl) oO (by decide)
   rw [← hB]
   exact h1
end Go.Au
namespace Go.Au
open Go.Proofs.Tryz
open Go
theorem Jo {n letters : Int} : ∀ {es : List Edge} {p : Option Edge},Ay n letters p es = true → ∀ e ∈ es,e.must < letters ∧ e.no < letters ∧ bits .and .u16 e.must e.no = 0
 | [],_,_,e,he => by simp at he
 | x :: r,p,h,e,he => by
  unfold Ay at h
  simp only [Bool.and_eq_true,Bool.not_eq_true',decide_eq_false_iff_not] at h
  obtain ⟨-,-,h1,h2,h3,-,h4⟩ := h
  rcases List.mem_cons.1 he with rfl | he
  · exact ⟨by omega,by omega,Classical.byContradiction fun hh => h3 hh⟩
  · exact Jo h4 e he
structure Made (props : List ByteArray) (init : List Int) (sets : List (List Int)) (fr : Int → List Edge) (N : Nat) : Prop where
 nd : init.Nodup
 ex : ∃ L,Deg sets fr (A9 init).1 N L ∧ L.length ≤ N ∧ L.Nodup ∧ ∀ p ∈ L,0 ≤ p.2 ∧ p.2 < (max sets.length 1 : Nat)
theorem Rw {props : List ByteArray} {init : List Int} {sets : List (List Int)} {fr : Int → List Edge} {n : Nat} (hnd : init.Nodup) (hini : ∀ s ∈ init,0 ≤ s ∧ s < n) (hto : ∀ s,∀ e ∈ fr s,0 ≤ e.to ∧ e.to < n) : Made props init sets fr (n * max sets.length 1) := by
 have h := Fq (n := n) (sets := sets) (fr := fr) hto (st0 := ((A9 init).1,[],[])) ⟨by
  rw [Bf hnd]
  show (init.map fun s => (s,(0 : Int))).Nodup
  unfold List.Nodup
  rw [List.pairwise_map]
  exact hnd.imp fun h he => h (by injection he),by
  rw [Bf hnd]
  intro q hq
  obtain ⟨s,hs,rfl⟩ := List.mem_map.1 hq
  have := hini s hs
  exact ⟨this.1,this.2,Int.le_refl 0,by show (0 : Int) < ((max sets.length 1 : Nat) : Int); omega⟩⟩ (n * max sets.length 1)
 have hl := A6 h.nd h.box
 exact ⟨hnd,_,AcC hl,hl,h.nd,fun p hp => ⟨(h.box p hp).2.2.1,(h.box p hp).2.2.2⟩⟩
theorem Made.acc {props : List ByteArray} {init : List Int} {sets : List (List Int)} {fr : Int → List Edge} {N : Nat} (h : Made props init sets fr N) {σ : Nat → Int} : AbY (Cf props init sets fr N).general σ ↔ AgQ fr init sets σ := by
 obtain ⟨L,h1,h2,h3,h4⟩ := h.ex
 exact AbB h.nd h1 h4 h3
theorem Made.check {props : List ByteArray} {init : List Int} {sets : List (List Int)} {fr : Int → List Edge} {N : Nat} (h : Made props init sets fr N) (hn : Bz props = true) (hN : N ≤ 65536) (hed : ∀ s,∀ e ∈ fr s,e.must < 2 ^ props.length ∧ e.no < 2 ^ props.length ∧ bits .and .u16 e.must e.no = 0) : Al (Cf props init sets fr N).general = true := by
 obtain ⟨L,h1,h2,h3,h4⟩ := h.ex
 exact Yf hn h.nd h1 (by omega) hed
theorem Made.states {props : List ByteArray} {init : List Int} {sets : List (List Int)} {fr : Int → List Edge} {N : Nat} (h : Made props init sets fr N) : 0 ≤ (Cf props init sets fr N).states ∧ (Cf props init sets fr N).states ≤ N := by
 obtain ⟨L,h1,h2,h3,h4⟩ := h.ex
 show (0 : Int) ≤ (((A5 sets fr ((A9 init).1,[],[]) N).1.length : Nat) : Int) ∧ (((A5 sets fr ((A9 init).1,[],[]) N).1.length : Nat) : Int) ≤ N
 rw [h1.list]; omega
theorem AbC {props : List ByteArray} {init : List Int} {sets : List (List Int)} {fr : Int → List Edge} {N : Nat} (h : Made props init sets fr N) (hw : ∀ s,∀ e ∈ fr s,e.wf) : ∀ e ∈ (Cf props init sets fr N).edges,e.wf := fun e he => by
 obtain ⟨L,h1,h2,h3,h4⟩ := h.ex
 have he : e ∈ Br (Bj (A5 sets fr ((A9 init).1,[],[]) N).2.1) := he
 rw [Fz,Fu,h1.edges,Od] at he
 obtain ⟨i,p,-,d,hd,rfl⟩ := he
 exact hw _ d hd
theorem Z7 {props : List ByteArray} {init : List Int} {sets : List (List Int)} {fr : Int → List Edge} {N m : Nat} (hm : ∀ s,(fr s).length ≤ m) : (Cf props init sets fr N).edges.length ≤ N * m := by
 refine Nat.le_trans (I7 _ _) ?_
 unfold Bj
 rw [List.length_mergeSort]
 exact (Ff (L0 := (A9 init).1) hm N).1
theorem Yg {g : General} (h : Al g = true) : Made g.props g.init g.sets (Aj g.edges) (g.states.toNat * max g.sets.length 1) := by
 have hG := Good.of h
 have h0 := hG.s0
 refine Rw (Bu h).1 (fun s hs => ?_) fun s e he => ?_
 · have := hG.init s hs; omega
 · have := hG.edges e (List.mem_filter.1 he).1; omega
theorem Wa {a b : Buchi} (hA : Al a.general = true) (hB : Al b.general = true) : Made a.props (Bq b.states.toNat a.init b.init) (H7 (a.states.toNat * b.states.toNat) b.states.toNat a.final b.final) (Tv b.states.toNat a.edges b.edges) (a.states.toNat * b.states.toNat * 2) := by
 have gA := Good.of hA
 have gB := Good.of hB
 have a0 : 0 ≤ a.states := gA.s0
 have b0 : 0 ≤ b.states := gB.s0
 have iA : ∀ s ∈ a.init,0 ≤ s ∧ s < (a.states.toNat : Nat) := fun s hs => by have : 0 ≤ s ∧ s < a.states := gA.init s hs; omega
 have iB : ∀ s ∈ b.init,0 ≤ s ∧ s < (b.states.toNat : Nat) := fun s hs => by have : 0 ≤ s ∧ s < b.states := gB.init s hs; omega
 have tA : ∀ e ∈ a.edges,0 ≤ e.to ∧ e.to < (a.states.toNat : Nat) := fun e he => by have : 0 ≤ e.frm ∧ e.frm < a.states ∧ 0 ≤ e.to ∧ e.to < a.states := gA.edges e he; omega
 have tB : ∀ e ∈ b.edges,0 ≤ e.to ∧ e.to < (b.states.toNat : Nat) := fun e he => by have : 0 ≤ e.frm ∧ e.frm < b.states ∧ 0 ≤ e.to ∧ e.to < b.states := gB.edges e he; omega
 have h := Rw (props := a.props) (sets := H7 (a.states.toNat * b.states.toNat) b.states.toNat a.final b.final) (fr := Tv b.states.toNat a.edges b.edges) (Gz (Bu hA).2 (Bu hB).2 iB) (Fy iA iB) (Vt tA tB)
 exact h
end Go.Au