/- Own text of this workplace: a part of the proofs of this place's statements. -/
import Derived.Test.YtjibhchnhkjgkaaGreatP0
import Derived.Test.YtjibhchnhkjgkaaGreatG
import Derived.Test.YtjibhchnhkjgkaaGreatP2
import Derived.Test.YtjibhchnhkjgkaaGreatP3
import Derived.Test.YtjibhchnhkjgkaaGreatP4
set_option maxRecDepth 40000
set_option linter.unusedVariables false
set_option linter.unusedSimpArgs false
set_option linter.unusedSectionVars false
namespace Go.Au
open Go.Proofs.Tryz
open Go Go.RowKit Go.MapKept
def Cf (props : List ByteArray) (init : List Int) (sets : List (List Int)) (fr : Int → List Edge) (bound : Nat) : Buchi :=
 { props := props,states := ((A5 sets fr ((A9 init).1,[],[]) bound).1.length : Nat),init := (A9 init).2,edges := Br (Bj (A5 sets fr ((A9 init).1,[],[]) bound).2.1),final := (A5 sets fr ((A9 init).1,[],[]) bound).2.2 }
structure OutV (base : Nat) (w : World) (vP vI vE vF : Value) (g : Buchi) : Prop where
 props : w.ownsRow base 9 1 vP g.props.length (g.props.flatMap Y4)
 rI : w.ownsRow base 3 1 vI g.init.length (g.init.flatMap Ia)
 rE : w.ownsRow base 67 4 vE g.edges.length (g.edges.flatMap Edge.cells)
 rF : w.ownsRow base 3 1 vF g.final.length (g.final.flatMap Ia)
 sep : ∀ g,vI.ownBlock = some g → vF.ownBlock ≠ some g
theorem Pa : Af prog 30 = true := by kernel_rfl
set_option maxHeartbeats 4000000 in
theorem Z6 {w : World} {flo fhi lb bb n : Nat} {pv iv sv : Value} {props : List ByteArray} {init : List Int} {sets : List (List Int)} {es : List Edge}
 (hp : Ib 0 w.heap.size w pv props) (hi : Ef 0 w.heap.size w iv init) (hF : FromV w flo fhi lb bb n es) (hfhi : fhi ≤ w.heap.size) (hs : H6 0 w.heap.size w sv sets) (hsort : ∀ F ∈ sets,F.Pairwise (· ≤ ·))
 (hpl : props.length < 1000000000000) (hel : es.length < 1000000) (hbox : n * max sets.length 1 < 65536) (hsl : sets.length < 65536) (hini : ∀ s ∈ init,0 ≤ s ∧ s < n) (hnd : init.Nodup) (hto : ∀ e ∈ es,0 ≤ e.to ∧ e.to < n) :
 Calls prog 30 [.agg #[pv,iv,.func (.func 77) #[] #[pt lb 0],sv]].toArray w (Bg fun r w' => Kp w w' ∧ ∃ vP vI vE vF,r = .tuple #[.agg #[vP,.int .i64 (Cf props init sets (Aj es) (n * max sets.length 1)).states,vI,vE,vF],.int .i64 0] ∧ OutV w.heap.size w' vP vI vE vF (Cf props init sets (Aj es) (n * max sets.length 1))) := by
 have hobt_ : ∃ fv : Value,fv = .func (.func 77) #[] #[pt lb 0] := ⟨_,rfl⟩
 obtain ⟨fv,hfv⟩ := hobt_
 have hobt_ := id hp
 obtain ⟨pa,pc,rfl,-⟩ := hobt_
 have hobt_ := id hi
 obtain ⟨ia,ic,rfl,hic,hir⟩ := hobt_
 have hobt_ := id hs
 obtain ⟨sa,sc,rfl,-⟩ := hobt_
 refine call Aa func30 rfl ntmps30 (by kernel_rfl) ?_
 refine nd fun b1 w1 e1 z1 k1 mb => ?_
 have mb : Own w1 b1 79 [.slice pa props.length pc,.slice ia init.length ic,.func (.func 77) #[] #[pt lb 0],.slice sa sets.length sc] := mb
 have mach : MachV w1 b1 0 w.heap.size (.slice pa props.length pc) (.slice ia init.length ic) (.func (.func 77) #[] #[pt lb 0]) (.slice sa sets.length sc) props init sets :=
  ⟨mb,hp.chg k1 (fun _ _ _ h => h) (fun _ _ h => h),hi.chg k1 (fun _ _ _ h => h) (fun _ _ h => h),hs.chg k1 (fun _ _ _ h => h) (fun _ _ ⟨u,hu,hr,hl⟩ => ⟨u,hu,hr.chg k1 (fun _ _ _ h => h) (fun _ _ h => h),hl⟩)⟩
 refine nd fun b2 w2 e2 z2 k2 m2 => ?_
 have m2 : Own w2 b2 29 [Ad,.int .i64 0,Ad,Ad,Ad] := m2
 refine ld Aa (Own.at_ (xs := [.slice sa sets.length sc]) (o := 3) (k2.own mb id) rfl) (by rfl) ?_
 refine nd fun m5 w3 e3 z3 k3 mm5 => ?_
 refine nd fun b5 w4 e4 z4 k4 mb5 => ?_
 have mb5 : Own w4 b5 132 [.map (some m5),Ad,.bool false] := mb5
 have k14 : Kp w1 w4 := k2.trans (k3.trans k4)
 refine ld Aa (Own.at_ (xs := [.slice pa props.length pc]) (o := 0) (k14.own mb id) rfl) (by rfl) ?_
 have hcl := Ua (hp.chg (k1.trans k14) (fun _ _ _ h => h) (fun _ _ h => h)) hpl
 refine cl Pb hcl ?_
 rintro _ w5 ⟨k5,⟨ca,cc,rfl⟩,hpS⟩
 refine nd fun b6 w6' e6 z6 k6 mb6 => ?_
 refine st Aa mb6 rfl (Nat.le_refl 5) rfl ?_
 intro w6 z6' k6' ob0
 have hobt_ : ∃ pv',pv' = Value.slice ca props.length cc := ⟨_,rfl⟩
 obtain ⟨pv',hpv'⟩ := hobt_
 have ob0 : Own w6 b6 29 [.slice ca props.length cc,.int .i64 0,Ad,Ad,Ad] := ob0
 rewrite [← hpv'] at hpS ob0
 have k56 : Kp w5 w6 := k6.new e6 k6'
 have k46 : Kp w4 w6 := k5.trans k56
 have k16 : Kp w1 w6 := k14.trans k46
 have k06 : Kp w w6 := k1.trans k16
 have s5 := k5.size
 have hws6 : w.heap.size ≤ b1 := by omega
 have hb5w : b1 < b5 ∧ b1 < m5 ∧ m5 < b5 ∧ b5 < b6 ∧ b6 < w6.heap.size ∧ w4.heap.size = b5 + 1 ∧ w5.heap.size = b6 := by omega
 have hb6lt : b6 < w6.heap.size := by omega
 have pS6 : w6.ownsRow w4.heap.size 9 1 pv' props.length (props.flatMap Y4) := Ab hpS k56 fun _ _ => id
 have pS6l : ∀ g,pv'.ownBlock = some g → g < w5.heap.size := fun g hg => (hpS.lt g hg).2
 have hobt_ : ∃ T6 : Nat → Prop,T6 = fun g => g = b5 ∨ g = m5 ∨ g = b6 := ⟨_,rfl⟩
 obtain ⟨T6,hT6⟩ := hobt_
 have T6i : ∀ g,T6 g ↔ (g = b5 ∨ g = m5 ∨ g = b6) := fun g => by rw [hT6]
 have nums0 : NumV w6 w6.heap.size b5 m5 Ad [] := ⟨k46.own mb5 id,(MapE.made (by
  have : w3.heap[m5]? = some (.map #[] 0) := mm5
  exact (k4.trans k46).heap this id) Ej),World.ownsRow_nil _ _ _ _,Nat.le_refl _,List.nodup_nil⟩
 have hK : ∀ {V},Chg T6 w6 V → Kp w1 V := fun {V} hc => k16.newS hc fun g hg => by rewrite [T6i] at hg; omega
 have hto' : ∀ s,∀ e ∈ Aj es s,0 ≤ e.to ∧ e.to < n := fun s e he => hto e (List.mem_filter.1 he).1
 have hK1 : 0 < max sets.length 1 := by omega
 refine ld Aa (Own.at_ (xs := [.slice ia init.length ic]) (o := 1) (k16.own mb id) rfl) (by rfl) ?_
 have hn65 : n < 65536 := by
  have := Nat.mul_le_mul_left n (show 1 ≤ max sets.length 1 by omega)
  omega
 have hI0len : ∀ m,m ≤ init.length → (A9 (init.take m)) = ((init.take m).map fun s => (s,(0 : Int)),(List.range m).map fun (i : Nat) => (i : Int)) := fun m hm => by
  have := Bf (l := init.take m) (hnd.sublist (List.take_sublist _ _))
  rewrite [List.length_take,Nat.min_eq_left hm] at this
  exact this
 have hinl : init.length ≤ n := by
  have h1 := A8 (l := init) (r := (List.range n).map fun (i : Nat) => (i : Int)) hnd fun s hs' => by
   have := hini s hs'
   exact List.mem_map.2 ⟨s.toNat,by rw [List.mem_range]; omega,by omega⟩
  simpa using h1
 refine loop Aa (σ := Nat × Value × Value) (fun t => [(1,pt b1 0),(2,pt b2 0),(4,.int .i64 sets.length),(5,pt b5 0),(6,pt b6 0),(7,.func (.func 79) #[] #[pt b1 0]),(27,.slice ia init.length ic),(28,.int .i64 init.length),(29,.int .i64 t.1)])
  (fun t V => t.1 ≤ init.length ∧ Chg T6 w6 V ∧ NumV V w6.heap.size b5 m5 t.2.1 (A9 (init.take t.1)).1 ∧ Own V b6 29 [pv',.int .i64 0,t.2.2,Ad,Ad] ∧ V.ownsRow w6.heap.size 3 1 t.2.2 t.1 ((A9 (init.take t.1)).2.flatMap Ia)) (fun t => init.length - t.1) (0,Ad,Ad)
  ⟨rfl,rfl,rfl,rfl,rfl,rfl,rfl,rfl,rfl,trivial⟩ ⟨Nat.zero_le _,Chg.refl _ _,nums0,ob0,World.ownsRow_nil _ _ _ _⟩ ?_
 rintro ⟨j,xN,xI⟩ ea w7 ⟨hj,c7,nums7,ob7,rI7⟩
 simp only at hj nums7 ob7 rI7
 refine sp (fun hlt => ?_) (fun hge => ?_)
 · have hj' : j < init.length := by simp only at hlt; omega
   have hobt_ : ∃ s,s = init[j] := ⟨_,rfl⟩
   obtain ⟨s,hsd⟩ := hobt_
   have hxs : init[j]? = some s := by rw [hsd]; simp
   have hsr := hini s (List.mem_of_getElem? hxs)
   have hobt_ := hir j s hxs
   obtain ⟨q,o,hia,-,-,cs,-,hrd,hcs⟩ := hobt_
   subst hia hcs
   have hT1 : (A9 (init.take j)).1.length = j := by rw [hI0len j (by omega)]; simp; omega
   have hT2 : (A9 (init.take j)).2.length = j := by rw [hI0len j (by omega)]; simp
   have hsnoc : A9 (init.take (j + 1)) = Ry (A9 (init.take j)) s := by
    rw [List.take_succ_eq_append_getElem hj',E4,← hsd]
   have hobt_ : ∃ A0,A0 = A9 (init.take j) := ⟨_,rfl⟩
   obtain ⟨A0,hA0⟩ := hobt_
   rewrite [← hA0] at nums7 rI7 hT1 hT2 hsnoc
   refine ne ⟨by simp only; omega,by simp only; omega⟩ ?_
   refine ld Aa (v := .int .i64 s) (by rw [Int.toNat_natCast]; exact (k1.trans (hK c7)).range hrd id) (by rfl) ?_
   have hsep := Aq nums7.row rI7 (by decide)
   have hm5 := nums7.map.h
   obtain ⟨es5,clk5,hm5,-⟩ := hm5
   have hbI : ∀ {b t cs},Own w7 b t cs → t ≠ 3 → some b ≠ xI.ownBlock := fun {b t cs} ho ht he => Ai rI7 ho (fun cs fr hh => by injection hh with _ h2; exact ht h2) he.symm
   have hmI : some m5 ≠ xI.ownBlock := fun he => Ai rI7 hm5 (fun cs fr hh => by cases hh) he.symm
   have hbN : ∀ {b t cs},Own w7 b t cs → t ≠ 136 → some b ≠ xN.ownBlock := fun {b t cs} ho ht he => Ai nums7.row ho (fun cs fr hh => by injection hh with _ h2; exact ht h2) he.symm
   have hobt_ : ∃ TT : Nat → Prop,TT = fun g => g = b5 ∨ g = m5 ∨ some g = xN.ownBlock := ⟨_,rfl⟩
   obtain ⟨TT,hTT⟩ := hobt_
   have h5lt := nums7.hdr.lt
   have hm5lt := nums7.map.lt
   have h5m : b5 ≠ m5 := nums7.map.ne nums7.hdr
   have h6m : b6 ≠ m5 := nums7.map.ne ob7
   have h56 : b5 ≠ b6 := A2 nums7.hdr ob7 (by decide)
   have hbears := CAppR.bears (T := TT) (w0 := w7) (v := xI) (k := j * 1) (news := [.int .i64 (Aw A0.1 (s,0) : Nat)]) (fun g hg => (rI7.lt g hg).2) (fun g hg => by
    rewrite [hTT] at hg
    rcases hg with rfl | rfl | hg
    · exact h5lt
    · exact hm5lt
    · exact (nums7.row.lt g hg.symm).2) (fun g hg => by
    rewrite [hTT] at hg
    rcases hg with rfl | rfl | hg
    · exact fun he => hbI nums7.hdr (by decide) he.symm
    · exact fun he => hmI he.symm
    · exact fun he => hsep g hg.symm he)
   have hst6 : ∀ {W},CAppR TT w7 xI (j * 1) [.int .i64 (Aw A0.1 (s,0) : Nat)] w7 W → Own W b6 29 [pv',.int .i64 0,xI,Ad,Ad] := fun {W} hS => hS.chg.own ob7 fun hT => by
    rewrite [hTT] at hT
    rcases hT with (hT | hT | hT) | hT
    · exact h56 hT.symm
    · exact h6m hT
    · exact hbN ob7 (by decide) hT
    · exact hbI ob7 (by decide) hT
   refine Gm Aa mixed 9 [2,3,4,5,0,1,6,7,8] (by kernel_rfl) (CAppR TT w7 xI (j * 1) [.int .i64 (Aw A0.1 (s,0) : Nat)]) (Bh _ _ _ _ _) (fun W => W.heap.size = w7.heap.size ∧ Kp w7 W) 5 ⟨rfl,(Chg.refl _ _).drew⟩ ?_
   conv => whnf
   refine Jp (τ := Value) (hne := ⟨undef⟩) (.int .i64 (Aw A0.1 (s,0) : Nat)) (fun v' W => NumV W w6.heap.size b5 m5 v' (B7 A0.1 (s,0)) ∧ (∀ g,v'.ownBlock = some g → xN.ownBlock = some g ∨ w7.heap.size ≤ g) ∧ w7.heap.size < W.heap.size) rfl rfl rfl (fun v' W W' hFv hS => ?_) Ja (fun W hS _ hU => ?_) fun v' D hD => ?_
   · obtain ⟨f1,f2,f3⟩ := hFv
     have honce := hS.once.resolve_right (by omega)
     refine ⟨⟨?_,?_,?_,Nat.le_trans f1.base hS.chg.size,f1.nd⟩,f2,by have := hS.chg.size; omega⟩
     · exact (honce b5 (by rw [hTT]; exact .inl rfl) f1.hdr.lt).trans f1.hdr
     · exact Hh f1.map (honce m5 (by rw [hTT]; exact .inr (.inl rfl)) f1.map.lt)
     · refine El f1.row fun g hg => ?_
       rcases f2 g hg with h1 | h1
       · exact honce g (by rw [hTT]; exact .inr (.inr h1.symm)) (f1.row.lt g hg).2
       · exact hS.chg.block g (f1.row.lt g hg).2 fun hT => by
          rewrite [hTT] at hT
          rcases hT with (rfl | rfl | hT) | hT
          · omega
          · omega
          · have := (nums7.row.lt g hT.symm).2; omega
          · have := (rI7.lt g hT.symm).2; omega
   · obtain ⟨hU1,hU2⟩ := hU
     refine (Qh (nums7.chg hU2 id id fun _ _ => id) (p := (s,0)) (show G7 s from ⟨by omega,by omega⟩) (show G7 (0 : Int) from ⟨by decide,by decide⟩) (by omega)).mono fun en W' hr => ?_
     cases en with
     | returned v =>
      obtain ⟨rfl,v',hn',hc',hg',hs'⟩ := hr
      refine ⟨rfl,⟨hc'.mono fun g hg => .inl (by rw [hTT]; exact hg),fun g hg hl => .inl (hc'.block g hl fun hT => ?_),.inr (by omega)⟩,v',hn',fun g hg => (hg' g hg).imp id fun h => by omega,by omega⟩
      rcases hT with rfl | rfl | hT
      · exact hbI nums7.hdr (by decide) hg.symm
      · exact hmI hg.symm
      · exact hsep g hT.symm hg
     | _ => exact hr.elim
   conv => whnf
   refine Fc (Bh _ _ _ _ _) Aa rfl rfl (fun W h _ _ => Own.at_ (xs := [xI]) (o := 2) (hst6 h) rfl) (by rfl) fun _ => ?_
   conv => whnf
   refine ⟨fun W hS hDn hU => ?_,?_⟩
   · have := (hD W (hDn 5 (by kernel_rfl))).2.2
     omega
   refine Uh (Bh _ _ _ _ _) rfl rfl rfl rfl rfl (by decide) (fun b o W W' hb ho hS => hbears.new W W' b o hS hb ho) (fun W hS => hbears.size _ _ hS) fun q2 D2 hD2 => ?_
   conv => whnf
   refine ⟨fun W hS hDn hU => ?_,?_⟩
   · have := (hD W (hDn 5 (by kernel_rfl))).2.2
     omega
   refine Un (m := 1) (news := [.int .i64 (Aw A0.1 (s,0) : Nat)]) Aa hbears rfl rfl rfl rfl rfl rfl rfl (by decide) rI7 rfl (fun W hS hDn => Own.at_ (xs := [.int .i64 (Aw A0.1 (s,0) : Nat)]) (o := 0) (hD2 W (hDn 6 (by kernel_rfl))).1 rfl) rfl (by simp only [maxLen]; omega) (by show (_ + 1) * 8 ≤ _; omega) c7.size fun xI' D3 hD3 => ?_
   conv => whnf
   intro w11 hS11 hd11
   have hN11 := hD w11 (hd11 5)
   have hI11 := hD3 w11 (hd11 7)
   obtain ⟨nums11,hnew11,hsz11⟩ := hN11
   obtain ⟨rI11,hnewI⟩ := hI11
   have hfI := Ae rI11
   obtain ⟨ia',ic',hxi'⟩ := hfI
   subst hxi'
   have ob11 := hst6 hS11
   refine st Aa ob11 rfl (show 3 ≤ 5 by decide) rfl ?_
   intro w12 z12 c12 ob12
   have ob12 : Own w12 b6 29 [pv',.int .i64 0,.slice ia' (j + 1) ic',Ad,Ad] := ob12
   have n6 : ∀ {el size v n xs},w11.ownsRow w6.heap.size el size v n xs → ∀ g,v.ownBlock = some g → ¬ g = b6 := fun h g hg he => by
    have := Ah h hg
    omega
   have nums12 := nums11.chg c12 h56 (Ne.symm h6m) (n6 nums11.row)
   have rI12 := Ab rI11 c12 (n6 rI11)
   refine aw (by simp only; omega) (by simp only; omega) ?_
   refine again (j + 1,v',.slice ia' (j + 1) ic') ⟨rfl,rfl,rfl,rfl,rfl,rfl,rfl,rfl,rfl,trivial⟩ ⟨by simp only; omega,?_,?_,ob12,?_⟩ (by simp only; omega)
   · refine (c7.newT hS11.chg fun g hg => ?_).newT c12 fun g hg => .inl ((T6i _).2 (.inr (.inr hg)))
     rewrite [hTT] at hg
     rcases hg with (rfl | rfl | hg) | hg
     · exact .inl ((T6i _).2 (.inl rfl))
     · exact .inl ((T6i _).2 (.inr (.inl rfl)))
     · exact .inr (Ah nums7.row hg.symm)
     · exact .inr (Ah rI7 hg.symm)
   · simp only
     rw [hsnoc]
     exact nums12
   · simp only
     rw [hsnoc]
     show w12.ownsRow w6.heap.size 3 1 _ (j + 1) ((A0.2 ++ [_]).flatMap Ia)
     rw [List.flatMap_append]
     exact rI12
 · have hje : j = init.length := by simp only at hge; omega
   subst hje
   rewrite [List.take_length] at nums7 rI7
   have hobt_ : ∃ L0,L0 = (A9 init).1 := ⟨_,rfl⟩
   obtain ⟨L0,hL0⟩ := hobt_
   have hobt_ : ∃ I,I = (A9 init).2 := ⟨_,rfl⟩
   obtain ⟨I,hIe⟩ := hobt_
   have hIr : I = (List.range init.length).map fun (i : Nat) => (i : Int) := by rw [hIe,Bf hnd]
   have hIl : I.length = init.length := by rw [hIr]; simp
   rewrite [← hL0] at nums7
   rewrite [← hIe,← hIl] at rI7
   have hobt_ : ∃ vI,vI = xI := ⟨_,rfl⟩
   obtain ⟨vI,hvI⟩ := hobt_
   rewrite [← hvI] at ob7 rI7
   have hok0 : DOk n (max sets.length 1) (L0,[],[]) := ⟨nums7.nd,fun q hq => by
    have hq : q ∈ L0 := hq
    rewrite [hL0,Bf hnd] at hq
    have hobt_ := List.mem_map.1 hq
    obtain ⟨s,hs',rfl⟩ := hobt_
    have := hini s hs'
    exact ⟨this.1,this.2,Int.le_refl _,by show (0 : Int) < _; omega⟩⟩
   refine loop Aa (σ := Nat × Value × Value × Value) (fun t => [(1,pt b1 0),(2,pt b2 0),(4,.int .i64 sets.length),(5,pt b5 0),(6,pt b6 0),(7,.func (.func 79) #[] #[pt b1 0]),(10,.int .i64 t.1)])
    (fun t V => t.1 ≤ (A5 sets (Aj es) (L0,[],[]) t.1).1.length ∧ Chg T6 w6 V ∧ NumV V w6.heap.size b5 m5 t.2.1 (A5 sets (Aj es) (L0,[],[]) t.1).1 ∧ Own V b6 29 [pv',.int .i64 0,vI,t.2.2.1,t.2.2.2] ∧ V.ownsRow w6.heap.size 3 1 vI I.length (I.flatMap Ia) ∧
      V.ownsRow w6.heap.size 67 4 t.2.2.1 (A5 sets (Aj es) (L0,[],[]) t.1).2.1.length ((A5 sets (Aj es) (L0,[],[]) t.1).2.1.flatMap Edge.cells) ∧ V.ownsRow w6.heap.size 3 1 t.2.2.2 (A5 sets (Aj es) (L0,[],[]) t.1).2.2.length ((A5 sets (Aj es) (L0,[],[]) t.1).2.2.flatMap Ia) ∧ ∀ g,vI.ownBlock = some g → t.2.2.2.ownBlock ≠ some g) (fun t => n * max sets.length 1 - t.1) (0,xN,Ad,Ad)
    ⟨rfl,rfl,rfl,rfl,rfl,rfl,rfl,trivial⟩ ⟨Nat.zero_le _,c7,nums7,ob7,rI7,World.ownsRow_nil _ _ _ _,World.ownsRow_nil _ _ _ _,fun g _ h => by cases h⟩ ?_
   rintro ⟨i,vN,vE,vF⟩ eb wA ⟨hi1,cA,numsA,obA,rIA,rEA,rFA,hsepF⟩
   simp only at hi1 numsA obA rEA rFA hsepF
   have hDok := Fq hto' hok0 i
   have hDl := Ff (sets := sets) (fr := Aj es) (L0 := L0) (m := es.length) (fun s => List.length_filter_le _ _) i
   have hLb := A6 hDok.nd hDok.box
   have hobt_ : ∃ D,D = A5 sets (Aj es) (L0,[],[]) i := ⟨_,rfl⟩
   obtain ⟨D,hDi⟩ := hobt_
   rewrite [← hDi] at hi1 numsA rEA rFA hDok hLb hDl
   obtain ⟨L,E,F⟩ := D
   simp only at hi1 numsA rEA rFA hLb hDl
   have hEb : E.length ≤ 65536 * 1000000 := Nat.le_trans hDl.1 (Nat.mul_le_mul (by omega) (by omega))
   have hfN := Ae numsA.row
   obtain ⟨na,nc,rfl⟩ := hfN
   refine ld Aa (Own.at_ (xs := [.slice na L.length nc]) (o := 1) numsA.hdr rfl) (by rfl) ?_
   refine sp (fun hlt => ?_) (fun hge => ?_)
   · have hiL : i < L.length := by simp only at hlt; omega
     have hxi : L[i]? = some L[i] := by simp
     have hbxi := hDok.box L[i] (List.getElem_mem hiL)
     have hobt_ : ∃ pp,pp = L[i] := ⟨_,rfl⟩
     obtain ⟨pp,hpp⟩ := hobt_
     rewrite [← hpp] at hxi hbxi
     obtain ⟨pS,pW⟩ := pp
     obtain ⟨q1,q2,q3,q4⟩ := hbxi
     simp only at q1 q2 q3 q4
     have hobt_ : ∃ ps : Nat,pS = ps := ⟨pS.toNat,by omega⟩
     obtain ⟨ps,rfl⟩ := hobt_
     have hobt_ : ∃ pw : Nat,pW = pw := ⟨pW.toNat,by omega⟩
     obtain ⟨pw,rfl⟩ := hobt_
     have hpsn : ps < n := by omega
     have hpi := hxi
     have hrowN := Av (f := Ao) (fun _ => rfl) numsA.row (by decide)
     obtain ⟨_,_,e1',-,hrN⟩ := hrowN
     injection e1' with e1' _ e2'
     subst e1' e2'
     have hobt_ := hrN i _ hxi
     obtain ⟨qb,qo,rfl,-,-,cs0,-,hrd0,rfl⟩ := hobt_
     refine ld Aa (Own.at_ (xs := [.slice (some ⟨qb,qo,none⟩) L.length nc]) (o := 1) numsA.hdr rfl) (by rfl) ?_
     refine ne ⟨Int.natCast_nonneg _,Int.ofNat_lt.2 hiL⟩ ?_
     refine ld Aa (v := Bp ((ps : Nat),(pw : Nat))) (by rw [Int.toNat_natCast]; exact hrd0) (by rfl) ?_
     refine nd fun b11 wB eB zB kB mp => ?_
     refine st Aa (cs := [.int .i64 0,.int .i64 0]) mp rfl (Nat.le_refl 2) rfl ?_
     intro wC zC kC mp
     have mp : Own wC b11 136 [.int .i64 (ps : Nat),.int .i64 (pw : Nat)] := mp
     have kAC : Kp wA wC := kB.new eB kC
     have cC := cA.newT kAC fun _ hf => hf.elim
     have numsC := numsA.chg kAC id id fun _ _ => id
     have obC := kAC.own obA id
     have rIC := Ab rIA kAC fun _ _ => id
     have rEC := Ab rEA kAC fun _ _ => id
     have rFC := Ab rFA kAC fun _ _ => id
     have hobt_ : ∃ vN,vN = Value.slice (some ⟨qb,qo,none⟩) L.length nc := ⟨_,rfl⟩
     obtain ⟨vN,hvN⟩ := hobt_
     rewrite [← hvN] at numsC
     clear numsA obA rIA rEA rFA hrN hrd0
     refine ld Aa (Own.at_ (xs := [.int .i64 (pw : Nat)]) (o := 1) mp rfl) (by rfl) ?_
     by_cases hk0 : sets.length = 0
     focus
      refine Bs (by omega) ?_
      refine Dj (by omega) ?_
      refine ld Aa (Own.at_ (xs := [vF]) (o := 4) obC rfl) (by rfl) ?_
      refine ne (by decide) ?_
      refine nd fun bq wE eE zE kE mq => ?_
      have mq : Own wE bq 3 [.int .i64 (i : Nat)] := mq
      have cC := cC.newT kE fun _ hf => hf.elim
      have numsC := numsC.chg kE id id fun _ _ => id
      have obC := kE.own obC id
      have rIC := Ab rIC kE fun _ _ => id
      have rEC := Ab rEC kE fun _ _ => id
      have rFC := Ab rFC kE fun _ _ => id
      have mp := kE.own mp id
      refine Yu (m := 1) (news := [.int .i64 (i : Nat)]) Aa rfl rfl rfl rfl rfl rfl rfl (by decide) rFC rfl (Own.at_ (xs := [.int .i64 (i : Nat)]) (o := 0) mq rfl) rfl (by simp only [maxLen]; omega) (by show (_ + 1) * 8 ≤ _; omega) cC.size fun vF' wG rFG cG hnewF => ?_
      have hff := Ae rFG
      obtain ⟨fa,fc,rfl⟩ := hff
      have hGF : ∀ {b t cs},Own wE b t cs → t ≠ 3 → ¬ some b = vF.ownBlock := fun {b t cs} ho ht he => Ai rFC ho (fun cs fr hh => by injection hh with _ h2; exact ht h2) he.symm
      have hobt_ := id numsC.map.h
      obtain ⟨esG,clkG,hmG,-⟩ := hobt_
      have obG := cG.own obC (hGF obC (by decide))
      have mpG := cG.own mp (hGF mp (by decide))
      have numsG := numsC.chg cG (hGF numsC.hdr (by decide)) (fun he => Ai rFC hmG (fun cs fr hh => by cases hh) he.symm) (fun g hg he => Aq numsC.row rFC (by decide) g hg he.symm)
      have rIG := Ab rIC cG fun g hg he => hsepF g hg he.symm
      have rEG := Ab rEC cG fun g hg he => Aq rEC rFC (by decide) g hg he.symm
      refine st Aa obG rfl (show 5 ≤ 5 by decide) rfl ?_
      intro wH zH cH obH
      have hobt_ : ∃ vF2,vF2 = Value.slice fa (F.length + 1) fc := ⟨_,rfl⟩
      obtain ⟨vF2,hvF2⟩ := hobt_
      rewrite [← hvF2] at rFG hnewF
      have obH : Own wH b6 29 [pv',.int .i64 0,vI,vE,.slice fa (F.length + 1) fc] := obH
      rewrite [← hvF2] at obH
      have ob := obH
      have n6 : ∀ {el size v n xs},wG.ownsRow w6.heap.size el size v n xs → ∀ g,v.ownBlock = some g → ¬ g = b6 := fun h g hg he => by
       have := Ah h hg
       omega
      have h6m : b6 ≠ m5 := numsG.map.ne obG
      have h56 : b5 ≠ b6 := A2 numsG.hdr obG (by decide)
      have nums := numsG.chg cH h56 (Ne.symm h6m) (n6 numsG.row)
      have rI := Ab rIG cH (n6 rIG)
      have rE := Ab rEG cH (n6 rEG)
      have rF0 := Ab rFG cH (n6 rFG)
      have rF : wH.ownsRow w6.heap.size 3 1 vF2 (F ++ [(i : Int)]).length ((F ++ [(i : Int)]).flatMap Ia) := by
       rw [List.length_append,List.flatMap_append]
       exact rF0
      have mp := cH.own mpG (fun he => by subst he; exact A2 mpG obG (by decide) rfl)
      have c5 := (cC.newT cG fun g hg => .inr (Ah rFC hg.symm)).newT cH fun g hg => .inl (by rw [T6i]; exact .inr (.inr hg))
      have K5 := hK c5
      have hsepF : ∀ g,vI.ownBlock = some g → vF2.ownBlock ≠ some g := fun g hg he => by
       rcases hnewF g he with h1 | h1
       · exact hsepF g hg h1
       · have := (rIC.lt g hg).2; omega
      have hdd : Be sets (((ps : Nat) : Int),((pw : Nat) : Int)) = (pw : Nat) := by unfold Be; rw [if_neg fun h => h.1 hk0]
      have hddr := Cq (sets := sets) (p := (((ps : Nat) : Int),((pw : Nat) : Int))) ⟨q3,q4⟩
      rewrite [hdd] at hddr
      have hfl : F ++ (if B9 sets (((ps : Nat) : Int),((pw : Nat) : Int)) = true then [(i : Int)] else []) = F ++ [(i : Int)] := by
       rw [show B9 sets (((ps : Nat) : Int),((pw : Nat) : Int)) = true from decide_eq_true (.inl hk0)]
       simp
      have hjoin : ∃ (dd : Int) (vFx : Value) (Fx : List Int),((pw : Nat) : Int) = dd ∧ vF2 = vFx ∧ F ++ [(i : Int)] = Fx := ⟨_,_,_,rfl,rfl,rfl⟩
      obtain ⟨dd,vFx,Fx,hDD,hVF,hFL⟩ := hjoin
      have hdd := hdd.trans hDD
      have hfl := hfl.trans hFL
      rewrite [hDD] at hddr
      rewrite [hVF] at ob hsepF
      rewrite [hVF,hFL] at rF
     rotate_right
     focus
      have hpw : pw < sets.length := by omega
      refine Dj (by omega) ?_
      refine ld Aa (Own.at_ (xs := [.int .i64 (pw : Nat)]) (o := 1) mp rfl) (by rfl) ?_
      refine ld Aa (Own.at_ (xs := [.int .i64 (ps : Nat)]) (o := 0) mp rfl) (by rfl) ?_
      have hexh : ∃ hb,Fd sets (((ps : Nat) : Int),((pw : Nat) : Int)) = hb := ⟨_,rfl⟩
      obtain ⟨hb,hhas⟩ := hexh
      cases hb
      focus
       have hh := Rz (mach.kp (hK cC)) hsort (c := pw) (s := ps) (by omega)
       rewrite [hhas] at hh
       refine cl Lm hh ?_
       rintro _ wh ⟨rfl,kh⟩
       have cC := cC.newT kh fun _ hf => hf.elim
       have numsC := numsC.chg kh id id fun _ _ => id
       have obC := kh.own obC id
       have rIC := Ab rIC kh fun _ _ => id
       have rEC := Ab rEC kh fun _ _ => id
       have rFC := Ab rFC kh fun _ _ => id
       have mp := kh.own mp id
       refine Bs (by omega) ?_
       refine ld Aa (Own.at_ (xs := [.int .i64 (pw : Nat)]) (o := 1) mp rfl) (by rfl) ?_
       refine C3 (show _ = ((sets.length - 1 : Nat) : Int) by rw [show ((sets.length : Int) - 1) = ((sets.length - 1 : Nat) : Int) by omega]; exact As (by omega) (by omega)) ?_
       by_cases hlast : pw = sets.length - 1
       focus
        refine Dj (by omega) ?_
        refine ld Aa (Own.at_ (xs := [.int .i64 (pw : Nat)]) (o := 1) mp rfl) (by rfl) ?_
        refine ld Aa (Own.at_ (xs := [.int .i64 (ps : Nat)]) (o := 0) mp rfl) (by rfl) ?_
        have hh := Rz (mach.kp (hK cC)) hsort (c := pw) (s := ps) (by omega)
        rewrite [hhas] at hh
        refine cl Lm hh ?_
        rintro _ wh ⟨rfl,kh⟩
        have cC := cC.newT kh fun _ hf => hf.elim
        have numsC := numsC.chg kh id id fun _ _ => id
        have obC := kh.own obC id
        have rIC := Ab rIC kh fun _ _ => id
        have rEC := Ab rEC kh fun _ _ => id
        have rFC := Ab rFC kh fun _ _ => id
        have mp := kh.own mp id
        have ob := obC
        have nums := numsC
        have rI := rIC
        have rE := rEC
        have rF := rFC
        have c5 := cC
        have K5 := hK c5
        have hdd : Be sets (((ps : Nat) : Int),((pw : Nat) : Int)) = (pw : Nat) := by unfold Be; rw [hhas,if_neg (by simp)]
        have hddr := Cq (sets := sets) (p := (((ps : Nat) : Int),((pw : Nat) : Int))) ⟨q3,q4⟩
        rewrite [hdd] at hddr
        have hfl : F ++ (if B9 sets (((ps : Nat) : Int),((pw : Nat) : Int)) = true then [(i : Int)] else []) = F := by
         rw [show B9 sets (((ps : Nat) : Int),((pw : Nat) : Int)) = false from decide_eq_false (by rw [hhas]; simp [hk0])]
         simp
        have hjoin : ∃ (dd : Int) (vFx : Value) (Fx : List Int),((pw : Nat) : Int) = dd ∧ vF = vFx ∧ F = Fx := ⟨_,_,_,rfl,rfl,rfl⟩
        obtain ⟨dd,vFx,Fx,hDD,hVF,hFL⟩ := hjoin
        have hdd := hdd.trans hDD
        have hfl := hfl.trans hFL
        rewrite [hDD] at hddr
        rewrite [hVF] at ob hsepF
        rewrite [hVF,hFL] at rF
       rotate_right
       focus
        refine Bs (by omega) ?_
        have ob := obC
        have nums := numsC
        have rI := rIC
        have rE := rEC
        have rF := rFC
        have c5 := cC
        have K5 := hK c5
        have hdd : Be sets (((ps : Nat) : Int),((pw : Nat) : Int)) = (pw : Nat) := by unfold Be; rw [hhas,if_neg (by simp)]
        have hddr := Cq (sets := sets) (p := (((ps : Nat) : Int),((pw : Nat) : Int))) ⟨q3,q4⟩
        rewrite [hdd] at hddr
        have hfl : F ++ (if B9 sets (((ps : Nat) : Int),((pw : Nat) : Int)) = true then [(i : Int)] else []) = F := by
         rw [show B9 sets (((ps : Nat) : Int),((pw : Nat) : Int)) = false from decide_eq_false (by rw [hhas]; simp [hk0])]
         simp
        have hjoin : ∃ (dd : Int) (vFx : Value) (Fx : List Int),((pw : Nat) : Int) = dd ∧ vF = vFx ∧ F = Fx := ⟨_,_,_,rfl,rfl,rfl⟩
        obtain ⟨dd,vFx,Fx,hDD,hVF,hFL⟩ := hjoin
        have hdd := hdd.trans hDD
        have hfl := hfl.trans hFL
        rewrite [hDD] at hddr
        rewrite [hVF] at ob hsepF
        rewrite [hVF,hFL] at rF
      rotate_right
      focus
       have hh := Rz (mach.kp (hK cC)) hsort (c := pw) (s := ps) (by omega)
       rewrite [hhas] at hh
       refine cl Lm hh ?_
       rintro _ wh ⟨rfl,kh⟩
       have cC := cC.newT kh fun _ hf => hf.elim
       have numsC := numsC.chg kh id id fun _ _ => id
       have obC := kh.own obC id
       have rIC := Ab rIC kh fun _ _ => id
       have rEC := Ab rEC kh fun _ _ => id
       have rFC := Ab rFC kh fun _ _ => id
       have mp := kh.own mp id
       refine ld Aa (Own.at_ (xs := [.int .i64 (pw : Nat)]) (o := 1) mp rfl) (by rfl) ?_
       refine C3 (show _ = ((pw + 1 : Nat) : Int) by exact As (by omega) (by omega)) ?_
       refine ne (by omega) ?_
       refine C3 (show _ = (((pw + 1) % sets.length : Nat) : Int) by rw [Int.tmod_eq_emod_of_nonneg (by omega)]; rfl) ?_
       refine Bs (by omega) ?_
       refine ld Aa (Own.at_ (xs := [.int .i64 (pw : Nat)]) (o := 1) mp rfl) (by rfl) ?_
       refine C3 (show _ = ((sets.length - 1 : Nat) : Int) by rw [show ((sets.length : Int) - 1) = ((sets.length - 1 : Nat) : Int) by omega]; exact As (by omega) (by omega)) ?_
       by_cases hlast : pw = sets.length - 1
       focus
        refine Dj (by omega) ?_
        refine ld Aa (Own.at_ (xs := [.int .i64 (pw : Nat)]) (o := 1) mp rfl) (by rfl) ?_
        refine ld Aa (Own.at_ (xs := [.int .i64 (ps : Nat)]) (o := 0) mp rfl) (by rfl) ?_
        have hh := Rz (mach.kp (hK cC)) hsort (c := pw) (s := ps) (by omega)
        rewrite [hhas] at hh
        refine cl Lm hh ?_
        rintro _ wh ⟨rfl,kh⟩
        have cC := cC.newT kh fun _ hf => hf.elim
        have numsC := numsC.chg kh id id fun _ _ => id
        have obC := kh.own obC id
        have rIC := Ab rIC kh fun _ _ => id
        have rEC := Ab rEC kh fun _ _ => id
        have rFC := Ab rFC kh fun _ _ => id
        have mp := kh.own mp id
        refine ld Aa (Own.at_ (xs := [vF]) (o := 4) obC rfl) (by rfl) ?_
        refine ne (by decide) ?_
        refine nd fun bq wE eE zE kE mq => ?_
        have mq : Own wE bq 3 [.int .i64 (i : Nat)] := mq
        have cC := cC.newT kE fun _ hf => hf.elim
        have numsC := numsC.chg kE id id fun _ _ => id
        have obC := kE.own obC id
        have rIC := Ab rIC kE fun _ _ => id
        have rEC := Ab rEC kE fun _ _ => id
        have rFC := Ab rFC kE fun _ _ => id
        have mp := kE.own mp id
        refine Yu (m := 1) (news := [.int .i64 (i : Nat)]) Aa rfl rfl rfl rfl rfl rfl rfl (by decide) rFC rfl (Own.at_ (xs := [.int .i64 (i : Nat)]) (o := 0) mq rfl) rfl (by simp only [maxLen]; omega) (by show (_ + 1) * 8 ≤ _; omega) cC.size fun vF' wG rFG cG hnewF => ?_
        have hff := Ae rFG
        obtain ⟨fa,fc,rfl⟩ := hff
        have hGF : ∀ {b t cs},Own wE b t cs → t ≠ 3 → ¬ some b = vF.ownBlock := fun {b t cs} ho ht he => Ai rFC ho (fun cs fr hh => by injection hh with _ h2; exact ht h2) he.symm
        have hobt_ := id numsC.map.h
        obtain ⟨esG,clkG,hmG,-⟩ := hobt_
        have obG := cG.own obC (hGF obC (by decide))
        have mpG := cG.own mp (hGF mp (by decide))
        have numsG := numsC.chg cG (hGF numsC.hdr (by decide)) (fun he => Ai rFC hmG (fun cs fr hh => by cases hh) he.symm) (fun g hg he => Aq numsC.row rFC (by decide) g hg he.symm)
        have rIG := Ab rIC cG fun g hg he => hsepF g hg he.symm
        have rEG := Ab rEC cG fun g hg he => Aq rEC rFC (by decide) g hg he.symm
        refine st Aa obG rfl (show 5 ≤ 5 by decide) rfl ?_
        intro wH zH cH obH
        have hobt_ : ∃ vF2,vF2 = Value.slice fa (F.length + 1) fc := ⟨_,rfl⟩
        obtain ⟨vF2,hvF2⟩ := hobt_
        rewrite [← hvF2] at rFG hnewF
        have obH : Own wH b6 29 [pv',.int .i64 0,vI,vE,.slice fa (F.length + 1) fc] := obH
        rewrite [← hvF2] at obH
        have ob := obH
        have n6 : ∀ {el size v n xs},wG.ownsRow w6.heap.size el size v n xs → ∀ g,v.ownBlock = some g → ¬ g = b6 := fun h g hg he => by
         have := Ah h hg
         omega
        have h6m : b6 ≠ m5 := numsG.map.ne obG
        have h56 : b5 ≠ b6 := A2 numsG.hdr obG (by decide)
        have nums := numsG.chg cH h56 (Ne.symm h6m) (n6 numsG.row)
        have rI := Ab rIG cH (n6 rIG)
        have rE := Ab rEG cH (n6 rEG)
        have rF0 := Ab rFG cH (n6 rFG)
        have rF : wH.ownsRow w6.heap.size 3 1 vF2 (F ++ [(i : Int)]).length ((F ++ [(i : Int)]).flatMap Ia) := by
         rw [List.length_append,List.flatMap_append]
         exact rF0
        have mp := cH.own mpG (fun he => by subst he; exact A2 mpG obG (by decide) rfl)
        have c5 := (cC.newT cG fun g hg => .inr (Ah rFC hg.symm)).newT cH fun g hg => .inl (by rw [T6i]; exact .inr (.inr hg))
        have K5 := hK c5
        have hsepF : ∀ g,vI.ownBlock = some g → vF2.ownBlock ≠ some g := fun g hg he => by
         rcases hnewF g he with h1 | h1
         · exact hsepF g hg h1
         · have := (rIC.lt g hg).2; omega
        have hdd : Be sets (((ps : Nat) : Int),((pw : Nat) : Int)) = (((pw + 1) % sets.length : Nat) : Int) := by unfold Be; rw [if_pos ⟨hk0,hhas⟩]; rfl
        have hddr := Cq (sets := sets) (p := (((ps : Nat) : Int),((pw : Nat) : Int))) ⟨q3,q4⟩
        rewrite [hdd] at hddr
        have hfl : F ++ (if B9 sets (((ps : Nat) : Int),((pw : Nat) : Int)) = true then [(i : Int)] else []) = F ++ [(i : Int)] := by
         rw [show B9 sets (((ps : Nat) : Int),((pw : Nat) : Int)) = true from decide_eq_true (.inr ⟨by show ((pw : Nat) : Int) + 1 = _; omega,hhas⟩)]
         simp
        have hjoin : ∃ (dd : Int) (vFx : Value) (Fx : List Int),((((pw + 1) % sets.length : Nat) : Int) : Int) = dd ∧ vF2 = vFx ∧ F ++ [(i : Int)] = Fx := ⟨_,_,_,rfl,rfl,rfl⟩
        obtain ⟨dd,vFx,Fx,hDD,hVF,hFL⟩ := hjoin
        have hdd := hdd.trans hDD
        have hfl := hfl.trans hFL
        rewrite [hDD] at hddr
        rewrite [hVF] at ob hsepF
        rewrite [hVF,hFL] at rF
       rotate_right
       focus
        refine Bs (by omega) ?_
        have ob := obC
        have nums := numsC
        have rI := rIC
        have rE := rEC
        have rF := rFC
        have c5 := cC
        have K5 := hK c5
        have hdd : Be sets (((ps : Nat) : Int),((pw : Nat) : Int)) = (((pw + 1) % sets.length : Nat) : Int) := by unfold Be; rw [if_pos ⟨hk0,hhas⟩]; rfl
        have hddr := Cq (sets := sets) (p := (((ps : Nat) : Int),((pw : Nat) : Int))) ⟨q3,q4⟩
        rewrite [hdd] at hddr
        have hfl : F ++ (if B9 sets (((ps : Nat) : Int),((pw : Nat) : Int)) = true then [(i : Int)] else []) = F := by
         rw [show B9 sets (((ps : Nat) : Int),((pw : Nat) : Int)) = false from decide_eq_false (by rintro (h | ⟨h,-⟩); exact hk0 h; exact hlast (by have h : ((pw : Nat) : Int) + 1 = _ := h; omega))]
         simp
        have hjoin : ∃ (dd : Int) (vFx : Value) (Fx : List Int),((((pw + 1) % sets.length : Nat) : Int) : Int) = dd ∧ vF = vFx ∧ F = Fx := ⟨_,_,_,rfl,rfl,rfl⟩
        obtain ⟨dd,vFx,Fx,hDD,hVF,hFL⟩ := hjoin
        have hdd := hdd.trans hDD
        have hfl := hfl.trans hFL
        rewrite [hDD] at hddr
        rewrite [hVF] at ob hsepF
        rewrite [hVF,hFL] at rF
     all_goals
      refine ld Aa (Own.at_ (xs := [.func (.func 77) #[] #[pt lb 0]]) (o := 2) (K5.own mb id) rfl) (by rfl) ?_
      refine ld Aa (Own.at_ (xs := [.int .i64 (ps : Nat)]) (o := 0) mp rfl) (by rfl) ?_
      have hby := Xi (hF.kp (k1.trans K5)) hpsn
      have hobt_ : ∃ l,l = Aj es (ps : Int) := ⟨_,rfl⟩
      obtain ⟨l,hl⟩ := hobt_
      rewrite [← hl] at hby
      refine cl Nk hby ?_
      rintro r0 w7 ⟨k7,hER0⟩
      have hER := Cy hER0 k7 (Nat.le_refl _) (Nat.le_refl _)
      obtain ⟨ra,rc,hr0,hrc,hre⟩ := hER
      subst hr0
      have hll : l.length ≤ es.length := by rw [hl]; unfold Aj; exact List.length_filter_le _ _
      have hlm : ∀ e ∈ l,e ∈ es := fun e he => by rewrite [hl] at he; exact (List.mem_filter.1 he).1
      have c7 := c5.newT k7 fun _ hf => hf.elim
      have nums7 := nums.chg k7 id id fun _ _ => id
      have ob7 := k7.own ob id
      have rI7 := Ab rI k7 fun _ _ => id
      have rE7 := Ab rE k7 fun _ _ => id
      have rF7 := Ab rF k7 fun _ _ => id
      refine loop Aa (σ := Nat × Value × Value) (fun t => [(1,pt b1 0),(2,pt b2 0),(4,.int .i64 sets.length),(5,pt b5 0),(6,pt b6 0),(7,.func (.func 79) #[] #[pt b1 0]),(10,.int .i64 i),(12,.int .i64 dd),(103,.slice ra l.length rc),(104,.int .i64 l.length),(105,.int .i64 t.1)])
       (fun t V => t.1 ≤ l.length ∧ Chg T6 w6 V ∧ w7.heap.size ≤ V.heap.size ∧ NumV V w6.heap.size b5 m5 t.2.1 (Ba i dd (L,E) (l.take t.1)).1 ∧ Own V b6 29 [pv',.int .i64 0,vI,t.2.2,vFx] ∧ V.ownsRow w6.heap.size 3 1 vI I.length (I.flatMap Ia) ∧ V.ownsRow w6.heap.size 67 4 t.2.2 (Ba i dd (L,E) (l.take t.1)).2.length ((Ba i dd (L,E) (l.take t.1)).2.flatMap Edge.cells) ∧ V.ownsRow w6.heap.size 3 1 vFx Fx.length (Fx.flatMap Ia)) (fun t => l.length - t.1) (0,vN,vE)
       ⟨rfl,rfl,rfl,rfl,rfl,rfl,rfl,congrArg (Value.int .i64) hDD,by rfl,rfl,rfl,trivial⟩ ⟨by simp only; omega,c7,Nat.le_refl _,nums7,ob7,rI7,rE7,rF7⟩ ?_
      rintro ⟨j,xN,xE⟩ e2 w8 ⟨hj,c8,z8,nums8,ob8,rI8,rE8,rF8⟩
      simp only at hj nums8 ob8 rE8
      have hobt_ : ∃ R,R = Ba i dd (L,E) (l.take j) := ⟨_,rfl⟩
      obtain ⟨R,hR⟩ := hobt_
      rewrite [← hR] at nums8 rE8
      refine sp (fun hlt => ?_) (fun hge => ?_)
      · have hj' : j < l.length := by simp only at hlt; omega
        have hxj : l[j]? = some l[j] := by simp
        have hobt_ : ∃ e,e = l[j] := ⟨_,rfl⟩
        obtain ⟨e,he⟩ := hobt_
        rewrite [← he] at hxj
        have hem := hlm e (List.mem_of_getElem? hxj)
        have heto := hto e hem
        have hobt_ := hre j e hxj
        obtain ⟨q,o,rfl,hq1,hq2,cs,-,hrd,rfl,-⟩ := hobt_
        have hsnoc : Ba i dd (L,E) (l.take (j + 1)) = G4 i dd R e := by
         rw [List.take_succ_eq_append_getElem hj',Ey,← hR,he]
        have hok := Cm (n := n) (k := max sets.length 1) (i := i) hddr (l.take j) (L,E) (fun x hx => hto x (hlm x (List.mem_of_mem_take hx))) hDok.nd hDok.box
        rewrite [← hR] at hok
        have hRl := A6 hok.1 hok.2.1
        have hRE : R.2.length ≤ 65536 * 1000000 + 1000000 := by
         have h3 := hok.2.2
         simp only [List.length_take] at h3
         omega
        have hpI : G7 e.to ∧ G7 (e.to,(dd : Int)).2 := ⟨⟨by omega,by omega⟩,⟨by show _ ≤ (dd : Int); omega,by show (dd : Int) ≤ _; omega⟩⟩
        refine ne ⟨by simp only; omega,by simp only; omega⟩ ?_
        have kw8 : ∀ g,g < w.heap.size → w8.heap[g]? = w7.heap[g]? := fun g hg => by
         rw [c8.block g (by omega) (by rw [T6i]; omega),c7.block g (by omega) (by rw [T6i]; omega)]
        refine ld Aa (v := e.val) (by rw [Int.toNat_natCast]; exact Ku hrd (kw8 q (by omega))) (by rfl) ?_
        refine nd fun b14 w9 e9 z9 k9 m14 => ?_
        refine st Aa (cs := [.int .i64 0,.int .i64 0,.int .u16 0,.int .u16 0]) m14 rfl (Nat.le_refl 4) rfl ?_
        intro w10 z10 k10 m14
        have m14 : Own w10 b14 67 e.cells := m14
        have k810 : Kp w8 w10 := k9.new e9 k10
        have nums10 := nums8.chg k810 id id fun _ _ => id
        have ob10 := k810.own ob8 id
        have rI10 := Ab rI8 k810 fun _ _ => id
        have rE10 := Ab rE8 k810 fun _ _ => id
        have rF10 := Ab rF8 k810 fun _ _ => id
        have hsep := Aq nums10.row rE10 (by decide)
        have hm5 := nums10.map.h
        obtain ⟨es5,clk5,hm5,-⟩ := hm5
        have hbE : ∀ {b t cs},Own w10 b t cs → t ≠ 67 → some b ≠ xE.ownBlock := fun {b t cs} ho ht he => Ai rE10 ho (fun cs fr hh => by injection hh with _ h2; exact ht h2) he.symm
        have hmE : some m5 ≠ xE.ownBlock := fun he => Ai rE10 hm5 (fun cs fr hh => by cases hh) he.symm
        have hltE8 : ∀ g,xE.ownBlock = some g → g < w8.heap.size := fun g hg => (rE8.lt g hg).2
        have hltN8 : ∀ g,xN.ownBlock = some g → g < w8.heap.size := fun g hg => (nums8.row.lt g hg).2
        have hlt14 : w8.heap.size = b14 := e9
        have hbN : ∀ {b t cs},Own w10 b t cs → t ≠ 136 → some b ≠ xN.ownBlock := fun {b t cs} ho ht he => Ai nums10.row ho (fun cs fr hh => by injection hh with _ h2; exact ht h2) he.symm
        have hobt_ : ∃ TT : Nat → Prop,TT = fun g => g = b5 ∨ g = m5 ∨ some g = xN.ownBlock := ⟨_,rfl⟩
        obtain ⟨TT,hTT⟩ := hobt_
        have h5lt := nums10.hdr.lt
        have hm5lt := nums10.map.lt
        have h5m : b5 ≠ m5 := nums10.map.ne nums10.hdr
        have h6m : b6 ≠ m5 := nums10.map.ne ob10
        have h56 : b5 ≠ b6 := A2 nums10.hdr ob10 (by decide)
        have hbears := CAppR.bears (T := TT) (w0 := w10) (v := xE) (k := R.2.length * 4) (news := Edge.cells ⟨i,(Aw R.1 (e.to,(dd : Int)) : Nat),e.must,e.no⟩) (fun g hg => (rE10.lt g hg).2) (fun g hg => by
         rewrite [hTT] at hg
         rcases hg with rfl | rfl | hg
         · exact h5lt
         · exact hm5lt
         · exact (nums10.row.lt g hg.symm).2) (fun g hg => by
         rewrite [hTT] at hg
         rcases hg with rfl | rfl | hg
         · exact fun he => hbE nums10.hdr (by decide) he.symm
         · exact fun he => hmE he.symm
         · exact fun he => hsep g hg.symm he)
        have hst6 : ∀ {W},CAppR TT w10 xE (R.2.length * 4) (Edge.cells ⟨i,(Aw R.1 (e.to,(dd : Int)) : Nat),e.must,e.no⟩) w10 W → ∀ {b t cs},Own w10 b t cs → t ≠ 67 → t ≠ 136 → b ≠ b5 → b ≠ m5 → Own W b t cs := fun {W} hS {b t cs} ho h1 h2 h3 h4 => hS.chg.own ho fun hT => by
         rewrite [hTT] at hT
         rcases hT with (rfl | rfl | hT) | hT
         · exact h3 rfl
         · exact h4 rfl
         · exact hbN ho h2 hT
         · exact hbE ho h1 hT
        have hst14 : ∀ {W},CAppR TT w10 xE (R.2.length * 4) (Edge.cells ⟨i,(Aw R.1 (e.to,(dd : Int)) : Nat),e.must,e.no⟩) w10 W → Own W b14 67 e.cells := fun {W} hS => hS.chg.own m14 fun hT => by
         rewrite [hTT] at hT
         rcases hT with (rfl | rfl | hT) | hT
         · have := nums8.hdr.lt; omega
         · have := nums8.map.lt; omega
         · have := hltN8 _ hT.symm; omega
         · have := hltE8 _ hT.symm; omega
        refine Gm Aa mixed 17 [3,4,5,6,7,8,0,1,2,9,10,11,12,13,14,15,16] (by kernel_rfl) (CAppR TT w10 xE (R.2.length * 4) (Edge.cells ⟨i,(Aw R.1 (e.to,(dd : Int)) : Nat),e.must,e.no⟩)) (Bh _ _ _ _ _) (fun W => W.heap.size = w10.heap.size ∧ Kp w10 W) 8 ⟨rfl,(Chg.refl _ _).drew⟩ ?_
        conv => whnf
        refine Fc (Bh _ _ _ _ _) Aa rfl rfl (fun W h _ _ => Own.at_ (xs := [.int .i64 e.to]) (o := 1) (hst14 h) rfl) (by rfl) fun _ => ?_
        conv => whnf
        refine Jp (τ := Value) (hne := ⟨undef⟩) (.int .i64 (Aw R.1 (e.to,(dd : Int)) : Nat)) (fun v' W => NumV W w6.heap.size b5 m5 v' (B7 R.1 (e.to,(dd : Int))) ∧ (∀ g,v'.ownBlock = some g → xN.ownBlock = some g ∨ w10.heap.size ≤ g) ∧ w10.heap.size < W.heap.size) rfl rfl rfl (fun v' W W' hFv hS => ?_) Ja (fun W hS _ hU => ?_) fun v' D hD => ?_
        · obtain ⟨f1,f2,f3⟩ := hFv
          have honce := hS.once.resolve_right (by omega)
          have hnE : ∀ g,v'.ownBlock = some g → xE.ownBlock ≠ some g := fun g hg he => by
           rcases f2 g hg with h1 | h1
           · exact hsep g h1 he
           · have := (rE10.lt g he).2; omega
          refine ⟨⟨?_,?_,?_,Nat.le_trans f1.base hS.chg.size,f1.nd⟩,f2,by have := hS.chg.size; omega⟩
          · exact (honce b5 (by rw [hTT]; exact .inl rfl) f1.hdr.lt).trans f1.hdr
          · exact Hh f1.map (honce m5 (by rw [hTT]; exact .inr (.inl rfl)) f1.map.lt)
          · refine El f1.row fun g hg => ?_
            rcases f2 g hg with h1 | h1
            · exact honce g (by rw [hTT]; exact .inr (.inr h1.symm)) (f1.row.lt g hg).2
            · exact hS.chg.block g (f1.row.lt g hg).2 fun hT => by
               rewrite [hTT] at hT
               rcases hT with (rfl | rfl | hT) | hT
               · omega
               · omega
               · have := (nums10.row.lt g hT.symm).2; omega
               · have := (rE10.lt g hT.symm).2; omega
        · obtain ⟨hU1,hU2⟩ := hU
          refine (Qh (nums10.chg hU2 id id fun _ _ => id) (p := (e.to,(dd : Int))) hpI.1 hpI.2 (by omega)).mono fun en W' hr => ?_
          cases en with
          | returned v =>
           obtain ⟨rfl,v',hn',hc',hg',hs'⟩ := hr
           refine ⟨rfl,⟨hc'.mono fun g hg => .inl (by rw [hTT]; exact hg),fun g hg hl => .inl (hc'.block g hl fun hT => ?_),.inr (by omega)⟩,v',hn',fun g hg => (hg' g hg).imp id fun h => by omega,by omega⟩
           rcases hT with rfl | rfl | hT
           · exact hbE nums10.hdr (by decide) hg.symm
           · exact hmE hg.symm
           · exact hsep g hT.symm hg
          | _ => exact hr.elim
        conv => whnf
        refine Fc (Bh _ _ _ _ _) Aa rfl rfl (fun W h _ _ => Own.at_ (xs := [xE]) (o := 3) (hst6 h ob10 (by decide) (by decide) (Ne.symm h56) h6m) rfl) (by rfl) fun _ => ?_
        conv => whnf
        refine Fc (Bh _ _ _ _ _) Aa rfl rfl (fun W h _ _ => Own.at_ (xs := [.int .u16 e.must]) (o := 2) (hst14 h) rfl) (by rfl) fun _ => ?_
        conv => whnf
        refine Fc (Bh _ _ _ _ _) Aa rfl rfl (fun W h _ _ => Own.at_ (xs := [.int .u16 e.no]) (o := 3) (hst14 h) rfl) (by rfl) fun _ => ?_
        conv => whnf
        refine ⟨fun W hS hDn hU => ?_,?_⟩
        · have := (hD W (hDn 8 (by kernel_rfl))).2.2
          omega
        refine Uh (Bh _ _ _ _ _) rfl rfl rfl rfl rfl (by decide) (fun b o W W' hb ho hS => hbears.new W W' b o hS hb ho) (fun W hS => hbears.size _ _ hS) fun q2 D2 hD2 => ?_
        conv => whnf
        refine ⟨fun W hS hDn hU => ?_,?_⟩
        · have := (hD W (hDn 8 (by kernel_rfl))).2.2
          omega
        refine Un (m := 1) (news := Edge.cells ⟨i,(Aw R.1 (e.to,(dd : Int)) : Nat),e.must,e.no⟩) Aa hbears rfl rfl rfl rfl rfl rfl rfl (by decide) rE10 rfl (fun W hS hDn => Own.at_ (xs := Edge.cells ⟨i,(Aw R.1 (e.to,(dd : Int)) : Nat),e.must,e.no⟩) (o := 0) (hD2 W (hDn 14 (by kernel_rfl))).1 rfl) rfl (by simp only [maxLen]; omega) (by show (_ + 1) * 24 ≤ _; omega) (by have := c8.size; have := k810.size; omega) fun xE' D3 hD3 => ?_
        conv => whnf
        intro w11 hS11 hd11
        have hN11 := hD w11 (hd11 8)
        have hE11 := hD3 w11 (hd11 15)
        obtain ⟨nums11,hnew11,hsz11⟩ := hN11
        obtain ⟨rE11,hnewE⟩ := hE11
        have hfE := Ae rE11
        obtain ⟨ea',ec',rfl⟩ := hfE
        have ob11 := hst6 hS11 ob10 (by decide) (by decide) (Ne.symm h56) h6m
        have hI11 : ∀ g,vI.ownBlock = some g → ¬ (TT g ∨ some g = xE.ownBlock) := fun g hg hT => by
         rewrite [hTT] at hT
         rcases hT with (rfl | rfl | hT) | hT
         · exact Ai rI10 nums10.hdr (fun cs fr hh => by injection hh with _ h2; exact absurd h2 (by decide)) hg
         · exact Ai rI10 hm5 (fun cs fr hh => by cases hh) hg
         · exact Aq nums10.row rI10 (by decide) g hT.symm hg
         · exact Aq rE10 rI10 (by decide) g hT.symm hg
        have hF11 : ∀ g,(vFx).ownBlock = some g → ¬ (TT g ∨ some g = xE.ownBlock) := fun g hg hT => by
         rewrite [hTT] at hT
         rcases hT with (rfl | rfl | hT) | hT
         · exact Ai rF10 nums10.hdr (fun cs fr hh => by injection hh with _ h2; exact absurd h2 (by decide)) hg
         · exact Ai rF10 hm5 (fun cs fr hh => by cases hh) hg
         · exact Aq nums10.row rF10 (by decide) g hT.symm hg
         · exact Aq rE10 rF10 (by decide) g hT.symm hg
        have rI11 := Ab rI10 hS11.chg hI11
        have rF11 := Ab rF10 hS11.chg hF11
        refine st Aa ob11 rfl (show 4 ≤ 5 by decide) rfl ?_
        intro w12 z12 c12 ob12
        have ob12 : Own w12 b6 29 [pv',.int .i64 0,vI,.slice ea' (R.2.length + 1) ec',vFx] := ob12
        have hb6N : b6 ≠ b5 := Ne.symm h56
        have n6 : ∀ {el size v n xs},w11.ownsRow w6.heap.size el size v n xs → ∀ g,v.ownBlock = some g → ¬ g = b6 := fun h g hg he => by
         have := Ah h hg
         have := hb6lt
         omega
        have nums12 := nums11.chg c12 h56 (Ne.symm h6m) (n6 nums11.row)
        have rI12 := Ab rI11 c12 (n6 rI11)
        have rE12 := Ab rE11 c12 (n6 rE11)
        have rF12 := Ab rF11 c12 (n6 rF11)
        refine ld Aa (Own.at_ (xs := [.bool false]) (o := 2) nums12.hdr rfl) (by rfl) ?_
        refine aw (by simp only; omega) (by simp only; omega) ?_
        refine again (j + 1,v',.slice ea' (R.2.length + 1) ec') ⟨rfl,rfl,rfl,rfl,rfl,rfl,rfl,rfl,rfl,rfl,rfl,trivial⟩ ⟨by simp only; omega,?_,?_,?_,ob12,rI12,?_,rF12⟩ (by simp only; omega)
        · refine ((c8.newT k810 fun _ hf => hf.elim).newT hS11.chg fun g hg => ?_).newT c12 fun g hg => .inl ((T6i _).2 (.inr (.inr hg)))
          rewrite [hTT] at hg
          rcases hg with (rfl | rfl | hg) | hg
          · exact .inl ((T6i _).2 (.inl rfl))
          · exact .inl ((T6i _).2 (.inr (.inl rfl)))
          · exact .inr (Ah nums10.row hg.symm)
          · exact .inr (Ah rE10 hg.symm)
        · have := k810.size; have := hS11.chg.size; have := c12.size; omega
        · simp only
          rw [hsnoc]
          exact nums12
        · simp only
          rw [hsnoc]
          show w12.ownsRow w6.heap.size 67 4 _ (R.2 ++ [_]).length ((R.2 ++ [_]).flatMap Edge.cells)
          rw [List.length_append,List.flatMap_append]
          exact rE12
      · have hje : j = l.length := by simp only at hge; omega
        subst hje
        rewrite [List.take_length] at hR
        have hDn : A5 sets (Aj es) (L0,[],[]) (i + 1) = (R.1,R.2,Fx) := by
         show Gh sets (Aj es) i (A5 sets (Aj es) (L0,[],[]) i) = _
         rw [← hDi]
         unfold Gh
         rw [hpi]
         simp only
         rw [hdd,← hl,← hR,hfl]
        have hle := Oj
        have hRlen : i + 1 ≤ R.1.length := by
         have h1 := Dy i dd l (L,E)
         rewrite [← hR] at h1
         have h2 := (List.getElem?_eq_some_iff.1 hpi).1
         simp only at h1
         omega
        have hRb : R.1.length ≤ n * max sets.length 1 := by
         have h1 := Fq hto' hok0 (i + 1)
         rewrite [hDn] at h1
         exact A6 h1.nd h1.box
        refine aw (by omega) (by omega) ?_
        refine again (i + 1,xN,xE,vFx) ⟨rfl,rfl,rfl,rfl,rfl,rfl,rfl,trivial⟩ ⟨?_,c8,?_,?_,?_,?_,?_,?_⟩ (by simp only; omega)
        all_goals (try simp only)
        all_goals (try rw [hDn])
        all_goals first
         | exact hRlen
         | exact nums8
         | exact ob8
         | exact rI8
         | exact rE8
         | exact rF8
         | exact hsepF
   · have hiL : L.length ≤ i := by simp only at hge; omega
     have hstop := E5 (sets := sets) (fr := Aj es) (st0 := (L0,[],[])) (i := i) (by rw [← hDi]; exact hiL) (n * max sets.length 1) (by omega)
     rewrite [← hDi] at hstop
     have hobt_ : ∃ g0,g0 = Cf props init sets (Aj es) (n * max sets.length 1) := ⟨_,rfl⟩
     obtain ⟨g0,hg0⟩ := hobt_
     have hgd : g0 = { props := props,states := (L.length : Nat),init := I,edges := Br (Bj E),final := F } := by
      rw [hg0]
      unfold Cf
      rw [← hL0,← hIe,hstop]
     have hfI := Ae rIA
     obtain ⟨iva,ivc,hfI⟩ := hfI
     have hfF := Ae rFA
     obtain ⟨fva,fvc,hfF⟩ := hfF
     have hfE := Ae rEA
     obtain ⟨eva,evc,hfE⟩ := hfE
     subst hfI hfF hfE
     refine ld Aa (Own.at_ (xs := [.bool false]) (o := 2) numsA.hdr rfl) (by rfl) ?_
     refine ld Aa (Own.at_ (xs := [.slice na L.length nc]) (o := 1) numsA.hdr rfl) (by rfl) ?_
     refine st Aa obA rfl (show 2 ≤ 5 by decide) rfl ?_
     intro wB zB cB obB
     have obB : Own wB b6 29 [pv',.int .i64 (L.length : Nat),.slice iva I.length ivc,.slice eva E.length evc,.slice fva F.length fvc] := obB
     have n6 : ∀ {el size v n xs},wA.ownsRow w6.heap.size el size v n xs → ∀ g,v.ownBlock = some g → ¬ g = b6 := fun h g hg he => by
      have := Ah h hg
      omega
     have rIB := Ab rIA cB (n6 rIA)
     have rEB := Ab rEA cB (n6 rEA)
     have rFB := Ab rFA cB (n6 rFA)
     have hb6 : T6 b6 := (T6i _).2 (.inr (.inr rfl))
     have cB6 := cA.newT cB fun g hg => .inl (by rw [hg]; exact hb6)
     refine ld Aa (Own.at_ (xs := [.slice iva I.length ivc]) (o := 2) obB rfl) (by rfl) ?_
     have hso := Ny rIB (by omega)
     refine cl Ll hso ?_
     rintro _ wC ⟨cC,rIC⟩
     have hIs : (I.mergeSort fun x y => decide (x ≤ y)) = I := List.mergeSort_of_pairwise (by
      rw [hIr,List.pairwise_map]
      exact List.pairwise_lt_range.imp fun h => by simpa using Nat.le_of_lt h)
     rewrite [hIs] at rIC
     have d1 : ∀ {g},some g = (Value.slice iva I.length ivc).ownBlock → w6.heap.size ≤ g := fun {g} hg => Ah rIB hg.symm
     have cC6 := cB6.newT cC fun g hg => .inr (d1 hg)
     have obC := cC.own obB fun he => by have := d1 he; omega
     have rEC := Ab rEB cC fun g hg he => Aq rEB rIB (by decide) g hg he.symm
     have rFC := Ab rFB cC fun g hg he => hsepF g he.symm hg
     have hrowI := Av (f := Ia) (fun _ => rfl) rIC (by decide)
     have hIp : I.Pairwise (· < ·) := by
      rw [hIr,List.pairwise_map]
      exact List.pairwise_lt_range.imp fun h => by omega
     refine ld Aa (Own.at_ (xs := [.slice iva I.length ivc]) (o := 2) obC rfl) (by rfl) ?_
     have hcI := Vx (lo := w6.heap.size) (hi := wC.heap.size) (v := .slice iva I.length ivc) (xs := I) hrowI (by omega) hIp
     refine cl Sb hcI ?_
     rintro rI' wD ⟨hri,kD⟩
     subst hri
     refine st Aa (kD.own obC id) rfl (show 3 ≤ 5 by decide) rfl ?_
     intro wE zE cE obE
     have obE : Own wE b6 29 [pv',.int .i64 (L.length : Nat),.slice iva I.length ivc,.slice eva E.length evc,.slice fva F.length fvc] := obE
     have n6' : ∀ {W : World} {el size v n xs},W.ownsRow w6.heap.size el size v n xs → ∀ g,v.ownBlock = some g → ¬ g = b6 := fun h g hg he => by
      have := Ah h hg
      omega
     have cE6 := (cC6.newT kD fun _ hf => hf.elim).newT cE fun g hg => .inl (by rw [hg]; exact hb6)
     have rID := Ab rIC kD fun _ _ => id
     have rED := Ab rEC kD fun _ _ => id
     have rFD := Ab rFC kD fun _ _ => id
     have rIE := Ab rID cE (n6' rID)
     have rEE := Ab rED cE (n6' rED)
     have rFE := Ab rFD cE (n6' rFD)
     refine ld Aa (Own.at_ (xs := [.slice eva E.length evc]) (o := 3) obE rfl) (by rfl) ?_
     have hse := Ie rEE (by omega)
     refine cl G6 hse ?_
     rintro _ wF ⟨cF,rEF⟩
     have d2 : ∀ {g},some g = (Value.slice eva E.length evc).ownBlock → w6.heap.size ≤ g := fun {g} hg => Ah rEE hg.symm
     have cF6 := cE6.newT cF fun g hg => .inr (d2 hg)
     have obF := cF.own obE fun he => by have := d2 he; omega
     have rIF := Ab rIE cF fun g hg he => Aq rEE rIE (by decide) g he.symm hg
     have rFF := Ab rFE cF fun g hg he => Aq rEE rFE (by decide) g he.symm hg
     refine ld Aa (Own.at_ (xs := [.slice eva E.length evc]) (o := 3) obF rfl) (by rfl) ?_
     have hsel : (Bj E).length = E.length := List.length_mergeSort _
     have hco : Calls prog 37 [.slice eva E.length evc].toArray wF _ := Ke (v := .slice eva E.length evc) (xs := Bj E) (by rw [hsel]; exact rEF) (by omega)
     refine cl H3 hco ?_
     rintro rE' wG ⟨cG,rEG,hown⟩
     have hfG := Ae rEG
     obtain ⟨gva,gvc,hfG⟩ := hfG
     subst hfG
     have cG6 := cF6.newT cG fun g hg => .inr (d2 hg)
     have obG := cG.own obF fun he => by have := d2 he; omega
     have rIG := Ab rIF cG fun g hg he => Aq rEE rIE (by decide) g he.symm hg
     have rFG := Ab rFF cG fun g hg he => Aq rEE rFE (by decide) g he.symm hg
     refine st Aa obG rfl (show 4 ≤ 5 by decide) rfl ?_
     intro wH zH cH obH
     have obH : Own wH b6 29 [pv',.int .i64 (L.length : Nat),.slice iva I.length ivc,.slice gva (Br (Bj E)).length gvc,.slice fva F.length fvc] := obH
     have cH6 := cG6.newT cH fun g hg => .inl (by rw [hg]; exact hb6)
     have rIH := Ab rIG cH (n6' rIG)
     have rEH := Ab rEG cH (n6' rEG)
     have rFH := Ab rFG cH (n6' rFG)
     subst hpv'
     refine ld Aa (v := .agg #[.slice ca props.length cc,.int .i64 (L.length : Nat),.slice iva I.length ivc,.slice gva (Br (Bj E)).length gvc,.slice fva F.length fvc]) (Own.at_ (xs := [.slice ca props.length cc,.int .i64 (L.length : Nat),.slice iva I.length ivc,.slice gva (Br (Bj E)).length gvc,.slice fva F.length fvc]) (o := 0) obH rfl) (by rfl) ?_
     have k26 : Kp w2 w6 := (k3.trans k4).trans k46
     have hb2lt := Own.lt m2
     have m2H : Own wH b2 29 [Ad,.int .i64 0,Ad,Ad,Ad] := cH6.own (k26.own m2 id) fun hT => by rewrite [T6i] at hT; omega
     refine st Aa m2H rfl (Nat.le_refl 5) rfl ?_
     intro wI zI cI m2I
     have m2I : Own wI b2 29 [.slice ca props.length cc,.int .i64 (L.length : Nat),.slice iva I.length ivc,.slice gva (Br (Bj E)).length gvc,.slice fva F.length fvc] := m2I
     refine ld Aa (v := .agg #[.slice ca props.length cc,.int .i64 (L.length : Nat),.slice iva I.length ivc,.slice gva (Br (Bj E)).length gvc,.slice fva F.length fvc]) (Own.at_ (xs := [.slice ca props.length cc,.int .i64 (L.length : Nat),.slice iva I.length ivc,.slice gva (Br (Bj E)).length gvc,.slice fva F.length fvc]) (o := 0) m2I rfl) (by rfl) ?_
     have kall : Kp w wI := (k1.trans (hK cH6)).newS cI fun g hg => by omega
     have hlow : ∀ {el size v n xs},wH.ownsRow w6.heap.size el size v n xs → wI.ownsRow w.heap.size el size v n xs := fun {el size v n xs} h => by
      have h2 := Ab h cI fun g hg he => by have := Ah h hg; omega
      exact ⟨h2.1,h2.2.imp id fun ⟨g,cap,cur,a1,a2,a3⟩ => ⟨g,cap,cur,a1,by have := k06.size; omega,a3⟩⟩
     have pSI : wI.ownsRow w.heap.size 9 1 (.slice ca props.length cc) props.length (props.flatMap Y4) := by
      have h1 := Ab pS6 cH6 fun g hg hT => by
       have h3 := Ah pS6 hg
       have h4 := pS6l g hg
       rewrite [T6i] at hT; omega
      have h2 := Ab h1 cI fun g hg hT => by
       have h3 := Ah pS6 hg
       omega
      exact ⟨h2.1,h2.2.imp id fun ⟨g,cap,cur,a1,a2,a3⟩ => ⟨g,cap,cur,a1,by omega,a3⟩⟩
     have hst0 : (((L.length : Nat) : Int)) = (Cf props init sets (Aj es) (n * max sets.length 1)).states := by rw [← hg0,hgd]
     have hout : OutV w.heap.size wI (.slice ca props.length cc) (.slice iva I.length ivc) (.slice gva (Br (Bj E)).length gvc) (.slice fva F.length fvc) (Cf props init sets (Aj es) (n * max sets.length 1)) := by
      rw [← hg0,hgd]
      exact ⟨pSI,hlow rIH,hlow rEH,hlow rFH,hsepF⟩
     exact ⟨kall,.slice ca props.length cc,.slice iva I.length ivc,.slice gva (Br (Bj E)).length gvc,.slice fva F.length fvc,congrArg (fun z : Int => Value.tuple #[.agg #[.slice ca props.length cc,.int .i64 z,.slice iva I.length ivc,.slice gva (Br (Bj E)).length gvc,.slice fva F.length fvc],.int .i64 0]) hst0,hout⟩
abbrev AC1 := Option Addr × Nat
abbrev Wi := AC1 × AC1 × AC1 × AC1
abbrev Fg (g : Buchi) (y : Wi) : Value := .agg #[.slice y.1.1 g.props.length y.1.2,.int .i64 g.states,.slice y.2.1.1 g.init.length y.2.1.2,.slice y.2.2.1.1 g.edges.length y.2.2.1.2,.slice y.2.2.2.1 g.final.length y.2.2.2.2]
abbrev Ev (base : Nat) (w : World) (g : Buchi) (y : Wi) : Prop := OutV base w (.slice y.1.1 g.props.length y.1.2) (.slice y.2.1.1 g.init.length y.2.1.2) (.slice y.2.2.1.1 g.edges.length y.2.2.1.2) (.slice y.2.2.2.1 g.final.length y.2.2.2.2) g
theorem OutV.form {base : Nat} {w : World} {vP vI vE vF : Value} {g : Buchi} (h : OutV base w vP vI vE vF g) : ∃ y : Wi,vP = .slice y.1.1 g.props.length y.1.2 ∧ vI = .slice y.2.1.1 g.init.length y.2.1.2 ∧ vE = .slice y.2.2.1.1 g.edges.length y.2.2.1.2 ∧ vF = .slice y.2.2.2.1 g.final.length y.2.2.2.2 := by
 obtain ⟨a,c,h1⟩ := Ae h.props
 obtain ⟨a2,c2,h2⟩ := Ae h.rI
 obtain ⟨a3,c3,h3⟩ := Ae h.rE
 obtain ⟨a4,c4,h4⟩ := Ae h.rF
 exact ⟨((a,c),(a2,c2),(a3,c3),(a4,c4)),h1,h2,h3,h4⟩
theorem OutV.chg {S : Nat → Prop} {base : Nat} {w w' : World} {vP vI vE vF : Value} {g : Buchi} (h : OutV base w vP vI vE vF g) (k : Chg S w w') (hS : ∀ b,S b → b < base ∨ w.heap.size ≤ b) : OutV base w' vP vI vE vF g := by
 have hr : ∀ {el size v n xs},w.ownsRow base el size v n xs → w'.ownsRow base el size v n xs := fun {el size v n xs} h => Ab h k fun b hb hs => by
  have := h.lt b hb
  rcases hS b hs with h1 | h1 <;> omega
 exact ⟨hr h.props,hr h.rI,hr h.rE,hr h.rF,h.sep⟩
theorem OutV.low {base base' : Nat} {w : World} {vP vI vE vF : Value} {g : Buchi} (h : OutV base w vP vI vE vF g) (hb : base' ≤ base) : OutV base' w vP vI vE vF g := by
 have hr : ∀ {el size v n xs},w.ownsRow base el size v n xs → w.ownsRow base' el size v n xs := fun {el size v n xs} h => ⟨h.1,h.2.imp id fun ⟨g,cap,cur,a1,a2,a3⟩ => ⟨g,cap,cur,a1,by omega,a3⟩⟩
 exact ⟨hr h.props,hr h.rI,hr h.rE,hr h.rF,h.sep⟩
def Db (g : General) : Buchi := Cf g.props g.init g.sets (Aj g.edges) (g.states.toNat * max g.sets.length 1)
theorem Qb {n : Int} : ∀ {l : List Int} {p : Option Int},Ak n p l = true → l.Pairwise (· < ·) ∧ ∀ y,p = some y → ∀ x ∈ l,y < x
 | [],_,_ => ⟨.nil,by simp⟩
 | x :: r,p,h => by
  simp only [Ak,Bool.and_eq_true,Bool.not_eq_true',Bool.or_eq_false_iff,decide_eq_false_iff_not] at h
  obtain ⟨h1,h2⟩ := Qb h.2
  have h3 := h2 x rfl
  refine ⟨List.pairwise_cons.2 ⟨h3,h1⟩,fun y hy z hz => ?_⟩
  subst hy
  have h4 : y < x := by have := h.1.2; simp only [decide_eq_false_iff_not] at this; omega
  rcases List.mem_cons.1 hz with rfl | hz
  · exact h4
  · have := h3 z hz; omega
theorem Bu {g : General} (h : Al g = true) : g.init.Nodup ∧ g.init.Pairwise (· < ·) := by
 simp only [Al,Bool.and_eq_true] at h
 have := (Qb h.1.1.2).1
 exact ⟨this.imp fun h => by omega,this⟩
theorem T0 {w : World} {flo fhi lb bb n : Nat} {pv iv sv : Value} {props : List ByteArray} {init : List Int} {sets : List (List Int)} {es : List Edge}
 (hp : Ib 0 w.heap.size w pv props) (hi : Ef 0 w.heap.size w iv init) (hF : FromV w flo fhi lb bb n es) (hfhi : fhi ≤ w.heap.size) (hs : H6 0 w.heap.size w sv sets) (hsort : ∀ F ∈ sets,F.Pairwise (· ≤ ·))
 (hpl : props.length < 1000000000000) (hel : es.length < 1000000) (hbox : n * max sets.length 1 < 65536) (hsl : sets.length < 65536) (hini : ∀ s ∈ init,0 ≤ s ∧ s < n) (hnd : init.Nodup) (hto : ∀ e ∈ es,0 ≤ e.to ∧ e.to < n) :
 Calls prog 30 [.agg #[pv,iv,.func (.func 77) #[] #[pt lb 0],sv]].toArray w (Bg fun r w' => Kp w w' ∧ ∃ y,r = .tuple #[Fg (Cf props init sets (Aj es) (n * max sets.length 1)) y,.int .i64 0] ∧ Ev w.heap.size w' (Cf props init sets (Aj es) (n * max sets.length 1)) y) := by
 refine (Z6 hp hi hF hfhi hs hsort hpl hel hbox hsl hini hnd hto).mono fun en w' hr => ?_
 cases en with
 | returned v =>
  obtain ⟨k,vP,vI,vE,vF,rfl,h⟩ := hr
  have hf := h.form
  obtain ⟨y,rfl,rfl,rfl,rfl⟩ := hf
  exact ⟨k,y,rfl,h⟩
 | _ => exact hr.elim
theorem L8 : Af prog 9 = true := by kernel_rfl
set_option maxHeartbeats 1000000 in
theorem Z5 {w : World} {pv iv ev sv : Value} {g : General} (hv : GenV 0 w.heap.size w pv iv ev sv g) (hel : g.edges.length < 1000000) (hbox : g.states.toNat * max g.sets.length 1 < 65536) (hsl : g.sets.length < 65536) :
 Calls prog 9 [.agg #[pv,.int .i64 g.states,iv,ev,sv]].toArray w (Bg fun r w' => Kp w w' ∧ ((Al g = false ∧ r = .tuple #[.agg #[Ad,.int .i64 0,Ad,Ad,Ad],.int .i64 100]) ∨ (Al g = true ∧ ∃ y,r = .tuple #[Fg (Db g) y,.int .i64 0] ∧ Ev w.heap.size w' (Db g) y))) := by
 obtain ⟨pa,pc,rfl,-⟩ := id hv.props
 obtain ⟨ia,ic,rfl,-⟩ := id hv.init
 obtain ⟨ea,ec,rfl,-⟩ := id hv.edges
 obtain ⟨sa,sc,rfl,-⟩ := id hv.sets
 refine call Aa func9 rfl ntmps9 (by kernel_rfl) ?_
 refine nd fun b1 w1 e1 z1 k1 m1 => ?_
 have m1 : Own w1 b1 27 [.slice pa g.props.length pc,.int .i64 g.states,.slice ia g.init.length ic,.slice ea g.edges.length ec,.slice sa g.sets.length sc] := m1
 refine nd fun b2 w2 e2 z2 k2 m2 => ?_
 have m2 : Own w2 b2 29 [Ad,.int .i64 0,Ad,Ad,Ad] := m2
 have m1 := k2.own m1 id
 have k12 := k1.trans k2
 refine ld Aa (v := .agg #[.slice pa g.props.length pc,.int .i64 g.states,.slice ia g.init.length ic,.slice ea g.edges.length ec,.slice sa g.sets.length sc]) (Own.at_ (xs := [.slice pa g.props.length pc,.int .i64 g.states,.slice ia g.init.length ic,.slice ea g.edges.length ec,.slice sa g.sets.length sc]) (o := 0) m1 rfl) (by rfl) ?_
 have hchk := R2 (hv.chg k12 (Nat.le_refl _) (Nat.le_refl _))
 have hexc : ∃ cc,Al g = cc := ⟨_,rfl⟩
 obtain ⟨cc,hc⟩ := hexc
 rw [hc] at hchk
 refine cl Ki hchk ?_
 rintro _ w3 ⟨rfl,k3⟩
 have m1 := k3.own m1 id
 have m2 := k3.own m2 id
 have K3 := k12.trans k3
 cases cc with
 | false =>
  refine Dj (by decide) ?_
  refine st Aa m2 rfl (Nat.le_refl 5) rfl ?_
  intro w4 z4 k4 m4
  have m4 : Own w4 b2 29 [Ad,.int .i64 0,Ad,Ad,Ad] := m4
  refine ld Aa (v := .agg #[Ad,.int .i64 0,Ad,Ad,Ad]) (Own.at_ (xs := [Ad,.int .i64 0,Ad,Ad,Ad]) (o := 0) m4 rfl) (by rfl) ?_
  exact ⟨K3.newS k4 fun j hj => by omega,.inl ⟨hc,rfl⟩⟩
 | true =>
  refine Bs (by decide) ?_
  have hG := Good.of hc
  have hn : ∃ n : Nat,g.states = n := ⟨g.states.toNat,by have := hG.s0; omega⟩
  obtain ⟨n,hn⟩ := hn
  have hs1 := hG.s1
  have hdg : Db g = Cf g.props g.init g.sets (Aj g.edges) (n * max g.sets.length 1) := by unfold Db; rw [hn,Int.toNat_natCast]
  rw [hn,Int.toNat_natCast] at hbox
  have hw3 : w2.heap.size ≤ w3.heap.size := k3.size
  have hby : ∀ W,Chg (fun k => k = b2) w3 W → Calls prog 29 [.int .i64 g.states,.slice ea g.edges.length ec].toArray W (Bg fun r w' => Kp W w' ∧ ∃ y : Nat × Nat,r = .func (.func 77) #[] #[pt y.1 0] ∧ w3.heap.size ≤ y.1 ∧ ∃ hi,hi ≤ w'.heap.size ∧ FromV w' w3.heap.size hi y.1 y.2 n g.edges) := fun W hW => by
   have kW : Kp w W := K3.newS hW fun j hj => by omega
   have hE : C9 0 W.heap.size W (.slice ea g.edges.length ec) g.edges := Cy hv.edges kW (Nat.le_refl _) kW.size
   rw [hn]
   refine (AgK hE (by omega) (by omega) (fun e he => by have := hG.edges e he; omega)).mono fun en w' hr => ?_
   cases en with
   | returned v =>
    obtain ⟨k,lb,bb,rfl,hlb,hF⟩ := hr
    have hsz := hW.size
    exact ⟨k,(lb,bb),rfl,by omega,_,Nat.le_refl _,hF.mono hsz (Nat.le_refl _)⟩
   | _ => exact hr.elim
  have hdeg : ∀ W,Chg (fun k => k = b2) w3 W → ∀ y : Nat × Nat,w3.heap.size ≤ y.1 → (∃ hi,hi ≤ W.heap.size ∧ FromV W w3.heap.size hi y.1 y.2 n g.edges) → Calls prog 30 [.agg #[.slice pa g.props.length pc,.slice ia g.init.length ic,.func (.func 77) #[] #[pt y.1 0],.slice sa g.sets.length sc]].toArray W (Bg fun r w' => Kp W w' ∧ ∃ z,r = .tuple #[Fg (Db g) z,.int .i64 0] ∧ Ev w3.heap.size w' (Db g) z) := fun W hW y hy1 hy => by
   obtain ⟨hi,hhi,hF⟩ := hy
   have kW : Kp w W := K3.newS hW fun j hj => by omega
   have hvW := hv.chg kW (Nat.le_refl _) kW.size
   rw [hdg]
   refine (T0 hvW.props hvW.init hF hhi hvW.sets (Et hc) (show g.props.length < 1000000000000 by have := C2 hc; omega) hel hbox hsl (fun s hs => by have := hG.init s hs; omega) (Bu hc).1 (fun e he => by have := hG.edges e he; omega)).mono fun en w' hr => ?_
   cases en with
   | returned v =>
    obtain ⟨k,z,e,h⟩ := hr
    exact ⟨k,z,e,h.low hW.size⟩
   | _ => exact hr.elim
  obtain ⟨Q,hQd⟩ : ∃ Q : World → Prop,Q = fun W => ∃ z : Wi,Own W b2 29 [.slice z.1.1 (Db g).props.length z.1.2,.int .i64 (Db g).states,.slice z.2.1.1 (Db g).init.length z.2.1.2,.slice z.2.2.1.1 (Db g).edges.length z.2.2.1.2,.slice z.2.2.2.1 (Db g).final.length z.2.2.2.2] ∧ Ev w3.heap.size W (Db g) z := ⟨_,rfl⟩
  have hQ : ∀ W W',Q W → Chg (fun k => k = b2) W W' → (b2 < W.heap.size → W'.heap[b2]? = W.heap[b2]?) → Q W' := fun W W' h k hs => by
   rw [hQd] at h ⊢
   obtain ⟨z,h1,h2⟩ := h
   exact ⟨z,(hs h1.lt).trans h1,OutV.chg h2 k fun b hb => .inl (by omega)⟩
  have hne : b1 ≠ b2 := by omega
  refine Gm Aa mixed 17 [4,5,6,7,8,0,1,2,3,9,10,11,12,13,14,15,16] (by kernel_rfl) (ChgQ b2 Q) (Gt hQ) (fun W => Own W b2 29 [Ad,.int .i64 0,Ad,Ad,Ad]) 15 m2 ?_
  conv => whnf
  refine Fc (Gt hQ) Aa rfl rfl (fun W h _ _ => Own.at_ (xs := [.int .i64 g.states]) (o := 1) (h.chg.own m1 hne) rfl) (by rfl) fun _ => ?_
  conv => whnf
  refine Fc (Gt hQ) Aa rfl rfl (fun W h _ _ => Own.at_ (xs := [.slice ea g.edges.length ec]) (o := 3) (h.chg.own m1 hne) rfl) (by rfl) fun _ => ?_
  conv => whnf
  refine Z8 (fun y : Nat × Nat => .func (.func 77) #[] #[pt y.1 0]) (fun y W => w3.heap.size ≤ y.1 ∧ ∃ hi,hi ≤ W.heap.size ∧ FromV W w3.heap.size hi y.1 y.2 n g.edges) rfl rfl rfl (fun y W W' hF hS => ?_) Pc (fun W hS _ => (hby W hS.chg).mono fun en W' hr => ?_) fun y D hD => ?_
  · obtain ⟨h1,hi,h2,h3⟩ := hF
    exact ⟨h1,hi,Nat.le_trans h2 hS.chg.size,h3.chg hS.chg (by omega) (fun b h4 h5 h6 => by omega)⟩
  · cases en with
    | returned v =>
     obtain ⟨k,y,e,h⟩ := hr
     exact ⟨(Gt hQ).kp k,fun hU => k.own hU id,y,e,h⟩
    | _ => exact hr.elim
  conv => whnf
  refine Fc (Gt hQ) Aa rfl rfl (fun W h _ _ => Own.at_ (xs := [.slice pa g.props.length pc]) (o := 0) (h.chg.own m1 hne) rfl) (by rfl) fun _ => ?_
  conv => whnf
  refine Fc (Gt hQ) Aa rfl rfl (fun W h _ _ => Own.at_ (xs := [.slice ia g.init.length ic]) (o := 2) (h.chg.own m1 hne) rfl) (by rfl) fun _ => ?_
  conv => whnf
  refine Fc (Gt hQ) Aa rfl rfl (fun W h _ _ => Own.at_ (xs := [.slice sa g.sets.length sc]) (o := 4) (h.chg.own m1 hne) rfl) (by rfl) fun _ => ?_
  conv => whnf
  refine Z8 (fun z : Wi => .tuple #[Fg (Db g) z,.int .i64 0]) (fun z W => Ev w3.heap.size W (Db g) z) rfl rfl rfl (fun z W W' hF hS => OutV.chg hF hS.chg fun b hb => .inl (by omega)) Pa (fun W hS hDn => (hdeg W hS.chg y (hD W (hDn 8 (by kernel_rfl))).1 (hD W (hDn 8 (by kernel_rfl))).2).mono fun en W' hr => ?_) fun z D2 hD2 => ?_
  · cases en with
    | returned v =>
     obtain ⟨k,z,e,h⟩ := hr
     exact ⟨(Gt hQ).kp k,fun hU => k.own hU id,z,e,h⟩
    | _ => exact hr.elim
  conv => whnf
  refine stu Q rfl (fun W W' h hS => ChgQ.keeps hQ h hS) (fun W h hDn hU => ?_) fun D3 hD3 => ?_
  · have hz := hD2 W (hDn 12 (by kernel_rfl))
    refine st Aa (hU rfl) rfl (Nat.le_refl 5) rfl fun W' z' k' o' => ?_
    have hq : Q W' := by
     rw [hQd]
     exact ⟨z,o',OutV.chg hz k' fun b hb => .inl (by omega)⟩
    exact ⟨⟨k',.inr hq⟩,hq⟩
  conv => whnf
  intro W hS hd
  have hq := hD3 W (hd 15)
  rw [hQd] at hq
  obtain ⟨z',hO,hY⟩ := hq
  refine ld Aa (v := Fg (Db g) z') (Own.at_ (xs := [.slice z'.1.1 (Db g).props.length z'.1.2,.int .i64 (Db g).states,.slice z'.2.1.1 (Db g).init.length z'.2.1.2,.slice z'.2.2.1.1 (Db g).edges.length z'.2.2.1.2,.slice z'.2.2.2.1 (Db g).final.length z'.2.2.2.2]) (o := 0) hO rfl) (by rfl) ?_
  exact ⟨K3.newS hS.chg fun j hj => by omega,.inr ⟨hc,z',rfl,hY.low (by have := K3.size; omega)⟩⟩
theorem J1 {w : World} {b o : Nat} {x : Value} {r : List Value} (h : w.rangeAt b o (x :: r)) : w.rangeAt b (o + 0) [x] := fun j v hv => by
 match j,hv with
 | 0,hv => exact h 0 v (by simpa using hv)
 | j + 1,hv => simp at hv
theorem AaB {w : World} {ev : Value} {n : Nat} {st : Int} {es : List Edge} (hst : st = n) (hv : C9 0 w.heap.size w ev es) (hn : n ≤ 65536) (hE : es.length < 1099511627776) (hr : ∀ e ∈ es,0 ≤ e.frm ∧ e.frm < n) :
 Calls prog 29 [.int .i64 st,ev].toArray w (Bg fun r w' => Kp w w' ∧ ∃ lb bb,r = .func (.func 77) #[] #[pt lb 0] ∧ w.heap.size ≤ lb ∧ FromV w' w.heap.size w'.heap.size lb bb n es) := by
 subst hst
 exact AgK hv hn hE hr
def Jf (n : Nat) (g : Buchi) : List Ag := (A5 [] (Aj g.edges) ((A9 g.init).1,[],[]) (n * 1)).1
theorem Ue : Af prog 31 = true := by kernel_rfl
set_option maxHeartbeats 2000000 in
theorem Yp {w : World} {pv iv ev fv : Value} {g : Buchi} {n : Nat} (hv : BuchiV 0 w.heap.size w pv iv ev fv g) (hn : g.states = n) (hn6 : n < 65536) (hel : g.edges.length < 1000000) (hini : ∀ s ∈ g.init,0 ≤ s ∧ s < n) (hnd : g.init.Nodup) (hed : ∀ e ∈ g.edges,0 ≤ e.frm ∧ e.frm < n ∧ 0 ≤ e.to ∧ e.to < n) :
 Calls prog 31 [.agg #[pv,.int .i64 g.states,iv,ev,fv]].toArray w (Bg fun r w' => Kp w w' ∧ Ef w.heap.size w'.heap.size w' r ((Jf n g).map (·.1))) := by
 obtain ⟨pa,pc,rfl,-⟩ := id hv.props
 obtain ⟨ia,ic,rfl,hic,hir⟩ := id hv.init
 obtain ⟨ea,ec,rfl,-⟩ := id hv.edges
 obtain ⟨fa,fc,rfl,-⟩ := id hv.final
 refine call Aa func31 rfl ntmps31 (by kernel_rfl) ?_
 refine nd fun b1 w1 e1 z1 k1 m1 => ?_
 have m1 : Own w1 b1 29 [.slice pa g.props.length pc,.int .i64 g.states,.slice ia g.init.length ic,.slice ea g.edges.length ec,.slice fa g.final.length fc] := m1
 refine ld Aa (Own.at_ (xs := [.int .i64 g.states]) (o := 1) m1 rfl) (by rfl) ?_
 refine ld Aa (Own.at_ (xs := [.slice ea g.edges.length ec]) (o := 3) m1 rfl) (by rfl) ?_
 have hby := AaB hn (Cy hv.edges k1 (Nat.le_refl _) k1.size) (by omega) (by omega) (fun e he => by have := hed e he; omega)
 refine cl Pc hby ?_
 rintro r0 w2 ⟨k2,lb,bb,hr0,hlb,hF⟩
 subst hr0
 refine nd fun mm w3 e3 z3 k3 mmm => ?_
 refine nd fun b4 w4 e4 z4 k4 mb4 => ?_
 have mb4 : Own w4 b4 132 [.map (some mm),Ad,.bool false] := mb4
 have k24 : Kp w2 w4 := k3.trans k4
 have k14 : Kp w1 w4 := k2.trans k24
 have nums0 : NumV w4 w4.heap.size b4 mm Ad [] := ⟨mb4,(MapE.made (by
  have : w3.heap[mm]? = some (.map #[] 0) := mmm
  exact k4.heap this id) Ej),World.ownsRow_nil _ _ _ _,Nat.le_refl _,List.nodup_nil⟩
 obtain ⟨T4,hT4⟩ : ∃ T4 : Nat → Prop,T4 = fun g => g = b4 ∨ g = mm := ⟨_,rfl⟩
 have T4i : ∀ g,T4 g ↔ (g = b4 ∨ g = mm) := fun g => by rw [hT4]
 have hK : ∀ {V},Chg T4 w4 V → Kp w2 V := fun {V} hc => k24.newS hc fun g hg => by rw [T4i] at hg; omega
 have hnofC : ∀ {V V' : World} {vN : Value} {L : List Ag},Chg T4 w4 V → NumV V w4.heap.size b4 mm vN L → Chg (fun k => k = b4 ∨ k = mm ∨ some k = vN.ownBlock) V V' → Chg T4 w4 V' := fun {V V' vN L} hc hN h => hc.newT h fun g hg => by
  rcases hg with rfl | rfl | hg
  · exact .inl ((T4i _).2 (.inl rfl))
  · exact .inl ((T4i _).2 (.inr rfl))
  · exact .inr (Ah hN.row hg.symm)
 have hI0len : ∀ m,m ≤ g.init.length → (A9 (g.init.take m)) = ((g.init.take m).map fun s => (s,(0 : Int)),(List.range m).map fun (i : Nat) => (i : Int)) := fun m hm => by
  have := Bf (l := g.init.take m) (hnd.sublist (List.take_sublist _ _))
  rw [List.length_take,Nat.min_eq_left hm] at this
  exact this
 have hinl : g.init.length ≤ n := by
  have h1 := A8 (l := g.init) (r := (List.range n).map fun (i : Nat) => (i : Int)) hnd fun s hs' => by
   have := hini s hs'
   exact List.mem_map.2 ⟨s.toNat,by rw [List.mem_range]; omega,by omega⟩
  simpa using h1
 have hto' : ∀ s,∀ e ∈ Aj g.edges s,0 ≤ e.to ∧ e.to < n := fun s e he => (hed e (List.mem_filter.1 he).1).2.2
 refine ld Aa (Own.at_ (xs := [.slice ia g.init.length ic]) (o := 2) (k14.own m1 id) rfl) (by rfl) ?_
 refine loop Aa (σ := Nat × Value) (fun t => [(3,.func (.func 77) #[] #[pt lb 0]),(4,pt b4 0),(22,.slice ia g.init.length ic),(23,.int .i64 g.init.length),(24,.int .i64 t.1)])
  (fun t V => t.1 ≤ g.init.length ∧ Chg T4 w4 V ∧ NumV V w4.heap.size b4 mm t.2 (A9 (g.init.take t.1)).1) (fun t => g.init.length - t.1) (0,Ad)
  ⟨rfl,rfl,rfl,rfl,rfl,trivial⟩ ⟨Nat.zero_le _,Chg.refl _ _,nums0⟩ ?_
 rintro ⟨j,xN⟩ ea0 w7 ⟨hj,c7,nums7⟩
 simp only at hj nums7
 refine sp (fun hlt => ?_) (fun hge => ?_)
 · have hj' : j < g.init.length := by simp only at hlt; omega
   have hexs : ∃ s,s = g.init[j] := ⟨_,rfl⟩
   obtain ⟨s,hsd⟩ := hexs
   have hxs : g.init[j]? = some s := by rw [hsd]; simp
   have hsr := hini s (List.mem_of_getElem? hxs)
   have hrj := hir j s hxs
   obtain ⟨q,o,hia,-,-,cs,-,hrd,hcs⟩ := hrj
   subst hia hcs
   have hT1 : (A9 (g.init.take j)).1.length = j := by rw [hI0len j (by omega)]; simp; omega
   have hsnoc : A9 (g.init.take (j + 1)) = Ry (A9 (g.init.take j)) s := by
    rw [List.take_succ_eq_append_getElem hj',E4,← hsd]
   refine ne ⟨by simp only; omega,by simp only; omega⟩ ?_
   refine ld Aa (v := .int .i64 s) (by rw [Int.toNat_natCast]; exact ((k1.trans k2).trans (hK c7)).range hrd id) (by rfl) ?_
   have hnf := Qh nums7 (p := (s,0)) (show G7 s from ⟨by omega,by omega⟩) (show G7 (0 : Int) from ⟨by decide,by decide⟩) (by omega)
   refine cl Ja hnf ?_
   rintro r8 w8 ⟨hr8,vN8,nums8,c8,-,-⟩
   subst hr8
   refine aw (by simp only; omega) (by simp only; omega) ?_
   refine again (j + 1,vN8) ⟨rfl,rfl,rfl,rfl,rfl,trivial⟩ ⟨by simp only; omega,hnofC c7 nums7 c8,?_⟩ (by simp only; omega)
   simp only
   rw [hsnoc]
   exact nums8
 · have hje : j = g.init.length := by simp only at hge; omega
   subst hje
   rewrite [List.take_length] at nums7
   have hexL : ∃ L0,L0 = (A9 g.init).1 := ⟨_,rfl⟩
   obtain ⟨L0,hL0⟩ := hexL
   rewrite [← hL0] at nums7
   have hok0 : DOk n (max ([] : List (List Int)).length 1) (L0,[],[]) := ⟨nums7.nd,fun q hq => by
    have hq : q ∈ L0 := hq
    rw [hL0,Bf hnd] at hq
    obtain ⟨s,hs',rfl⟩ := List.mem_map.1 hq
    have := hini s hs'
    exact ⟨this.1,this.2,Int.le_refl _,by show (0 : Int) < ((max 0 1 : Nat) : Int); decide⟩⟩
   refine loop Aa (σ := Nat × Value) (fun t => [(3,.func (.func 77) #[] #[pt lb 0]),(4,pt b4 0),(7,.int .i64 t.1)])
    (fun t V => t.1 ≤ (A5 [] (Aj g.edges) (L0,[],[]) t.1).1.length ∧ Chg T4 w4 V ∧ NumV V w4.heap.size b4 mm t.2 (A5 [] (Aj g.edges) (L0,[],[]) t.1).1) (fun t => n * 1 - t.1) (0,xN)
    ⟨rfl,rfl,rfl,trivial⟩ ⟨Nat.zero_le _,c7,nums7⟩ ?_
   rintro ⟨i,vN⟩ eb wA ⟨hi1,cA,numsA⟩
   simp only at hi1 numsA
   have hDok := Fq hto' hok0 i
   have hLb := A6 hDok.nd hDok.box
   have hLb' : (A5 [] (Aj g.edges) (L0,[],[]) i).1.length ≤ n * 1 := hLb
   have hexD : ∃ D,D = A5 [] (Aj g.edges) (L0,[],[]) i := ⟨_,rfl⟩
   obtain ⟨D,hDi⟩ := hexD
   rewrite [← hDi] at hi1 numsA hDok hLb'
   obtain ⟨L,E,F⟩ := D
   simp only at hi1 numsA hLb'
   have hfN := Ae numsA.row
   obtain ⟨na,nc,hfN⟩ := hfN
   subst hfN
   have hrowN := Av (f := Ao) (fun _ => rfl) numsA.row (by decide)
   obtain ⟨na',nc',e1',-,hrN⟩ := hrowN
   injection e1' with e1' _ e2'
   subst e1' e2'
   refine ld Aa (Own.at_ (xs := [.slice na L.length nc]) (o := 1) numsA.hdr rfl) (by rfl) ?_
   refine sp (fun hlt => ?_) (fun hge => ?_)
   · have hiL : i < L.length := by simp only at hlt; omega
     have hexp : ∃ pp,pp = L[i] := ⟨_,rfl⟩
     obtain ⟨pp,hpp⟩ := hexp
     have hxi : L[i]? = some pp := by rw [hpp]; simp
     have hbxi := hDok.box pp (List.mem_of_getElem? hxi)
     obtain ⟨pS,pW⟩ := pp
     obtain ⟨q1,q2,q3,q4⟩ := hbxi
     simp only at q1 q2 q3 q4
     have hpW : pW = 0 := by have : pW < ((max 0 1 : Nat) : Int) := q4; omega
     subst hpW
     have hexps : ∃ ps : Nat,pS = ps := ⟨pS.toNat,by omega⟩
     obtain ⟨ps,hps⟩ := hexps
     subst hps
     have hpsn : ps < n := by omega
     have hri := hrN i _ hxi
     obtain ⟨qb,qo,hna,-,-,cs0,-,hrd0,hcs0⟩ := hri
     subst hna hcs0
     refine ld Aa (Own.at_ (xs := [.slice (some ⟨qb,qo,none⟩) L.length nc]) (o := 1) numsA.hdr rfl) (by rfl) ?_
     refine ne ⟨Int.natCast_nonneg _,Int.ofNat_lt.2 hiL⟩ ?_
     refine ld Aa (v := .int .i64 (ps : Nat)) (by rw [Int.toNat_natCast]; exact J1 hrd0) (by rfl) ?_
     have hexl : ∃ l,l = Aj g.edges (ps : Int) := ⟨_,rfl⟩
     obtain ⟨l,hl⟩ := hexl
     have hbyc := Xi (hF.kp (hK cA)) hpsn
     rewrite [← hl] at hbyc
     refine cl Nk hbyc ?_
     rintro r0 wB ⟨kB,hER0⟩
     have hER := Cy hER0 kB (Nat.le_refl _) (Nat.le_refl _)
     obtain ⟨ra,rc,hr0,hrc,hre⟩ := hER
     subst hr0
     have hlm : ∀ e ∈ l,e ∈ g.edges := fun e he => by rw [hl] at he; exact (List.mem_filter.1 he).1
     have hll : l.length ≤ g.edges.length := by rw [hl]; unfold Aj; exact List.length_filter_le _ _
     have cB := cA.newT kB fun _ hf => hf.elim
     have numsB := numsA.chg kB id id fun _ _ => id
     refine loop Aa (σ := Nat × Value) (fun t => [(3,.func (.func 77) #[] #[pt lb 0]),(4,pt b4 0),(7,.int .i64 i),(51,.slice ra l.length rc),(52,.int .i64 l.length),(53,.int .i64 t.1)])
      (fun t V => t.1 ≤ l.length ∧ Chg T4 w4 V ∧ NumV V w4.heap.size b4 mm t.2 (Ba i 0 (L,E) (l.take t.1)).1) (fun t => l.length - t.1) (0,.slice (some ⟨qb,qo,none⟩) L.length nc)
      ⟨rfl,rfl,rfl,rfl,rfl,rfl,trivial⟩ ⟨Nat.zero_le _,cB,numsB⟩ ?_
     rintro ⟨j,xN2⟩ ec0 wC ⟨hj,cC,numsC⟩
     simp only at hj numsC
     have hexR : ∃ R,R = Ba i 0 (L,E) (l.take j) := ⟨_,rfl⟩
     obtain ⟨R,hR⟩ := hexR
     rewrite [← hR] at numsC
     refine sp (fun hlt => ?_) (fun hge => ?_)
     · have hj' : j < l.length := by simp only at hlt; omega
       have hexe : ∃ e,e = l[j] := ⟨_,rfl⟩
       obtain ⟨e,he⟩ := hexe
       have hxj : l[j]? = some e := by rw [he]; simp
       have hem := hlm e (List.mem_of_getElem? hxj)
       have heto := (hed e hem).2.2
       have hrej := hre j e hxj
       obtain ⟨q,o,hra,hq1,hq2,cs,-,hrd,hcs,-⟩ := hrej
       subst hra hcs
       have hsnoc : Ba i 0 (L,E) (l.take (j + 1)) = G4 i 0 R e := by
        rw [List.take_succ_eq_append_getElem hj',Ey,← hR,he]
       have hok := Cm (n := n) (k := 1) (i := i) (d := 0) ⟨by decide,by decide⟩ (l.take j) (L,E) (fun x hx => (hed x (hlm x (List.mem_of_mem_take hx))).2.2) hDok.nd hDok.box
       rewrite [← hR] at hok
       have hRl := A6 hok.1 hok.2.1
       refine ne ⟨by simp only; omega,by simp only; omega⟩ ?_
       have kBC : ∀ g,g < w2.heap.size → wC.heap[g]? = wB.heap[g]? := fun g hg => by
        rw [cC.block g (by omega) (by rw [T4i]; omega),cB.block g (by omega) (by rw [T4i]; omega)]
       refine ld Aa (v := e.val) (by rw [Int.toNat_natCast]; exact Ku hrd (kBC q (by omega))) (by rfl) ?_
       refine nd fun b9 wD eD zD kD m9 => ?_
       refine st Aa (cs := [.int .i64 0,.int .i64 0,.int .u16 0,.int .u16 0]) m9 rfl (Nat.le_refl 4) rfl ?_
       intro wE zE kE m9
       have m9 : Own wE b9 67 e.cells := m9
       have kCE : Kp wC wE := kD.new eD kE
       refine ld Aa (Own.at_ (xs := [.int .i64 e.to]) (o := 1) m9 rfl) (by rfl) ?_
       have numsE := numsC.chg kCE id id fun _ _ => id
       have cE := cC.newT kCE fun _ hf => hf.elim
       have hnf := Qh numsE (p := (e.to,0)) (show G7 e.to from ⟨by omega,by omega⟩) (show G7 (0 : Int) from ⟨by decide,by decide⟩) (by omega)
       refine cl Ja hnf ?_
       rintro r8 w8 ⟨hr8,vN8,nums8,c8,-,-⟩
       subst hr8
       refine aw (by simp only; omega) (by simp only; omega) ?_
       refine again (j + 1,vN8) ⟨rfl,rfl,rfl,rfl,rfl,rfl,trivial⟩ ⟨by simp only; omega,hnofC cE numsE c8,?_⟩ (by simp only; omega)
       simp only
       rw [hsnoc]
       exact nums8
     · have hje : j = l.length := by simp only at hge; omega
       subst hje
       rewrite [List.take_length] at hR
       have hDn : A5 [] (Aj g.edges) (L0,[],[]) (i + 1) = (R.1,R.2,F ++ if B9 [] ((ps : Int),(0 : Int)) = true then [(i : Int)] else []) := by
        show Gh [] (Aj g.edges) i (A5 [] (Aj g.edges) (L0,[],[]) i) = _
        rw [← hDi]
        unfold Gh
        rw [hxi]
        simp only
        rw [show Be [] ((ps : Int),(0 : Int)) = 0 from rfl,← hl,← hR]
       have hRlen : i + 1 ≤ R.1.length := by
        have h1 := Dy i 0 l (L,E)
        rw [← hR] at h1
        simp only at h1
        omega
       refine aw (by omega) (by omega) ?_
       refine again (i + 1,xN2) ⟨rfl,rfl,rfl,trivial⟩ ⟨by simp only; rw [hDn]; exact hRlen,cC,by simp only; rw [hDn]; exact numsC⟩ (by simp only; omega)
   · have hiL : L.length ≤ i := by simp only at hge; omega
     have hstop := E5 (sets := []) (fr := Aj g.edges) (st0 := (L0,[],[])) (i := i) (by rw [← hDi]; exact hiL) (n * 1) (by omega)
     rewrite [← hDi] at hstop
     have hbre : Jf n g = L := by unfold Jf; rw [← hL0,hstop]
     refine ld Aa (Own.at_ (xs := [.slice na L.length nc]) (o := 1) numsA.hdr rfl) (by rfl) ?_
     have hsz2 : w.heap.size ≤ w4.heap.size := by have := (k1.trans k14).size; exact this
     refine loop Aa (σ := Nat × Value) (fun t => [(10,t.2),(66,.slice na L.length nc),(67,.int .i64 L.length),(68,.int .i64 t.1)])
      (fun t V => t.1 ≤ L.length ∧ Kp wA V ∧ V.ownsRow wA.heap.size 3 1 t.2 t.1 (((L.take t.1).map (·.1)).flatMap Ia)) (fun t => L.length - t.1) (0,Ad)
      ⟨rfl,rfl,rfl,rfl,trivial⟩ ⟨Nat.zero_le _,Chg.refl _ _,by simp; exact World.ownsRow_nil _ _ _ _⟩ ?_
     rintro ⟨j,xO⟩ ed0 wC ⟨hj,kC,rO⟩
     simp only at hj rO
     refine sp (fun hlt => ?_) (fun hge => ?_)
     · have hj' : j < L.length := by simp only at hlt; omega
       have hexp : ∃ pp,pp = L[j] := ⟨_,rfl⟩
       obtain ⟨pp,hpp⟩ := hexp
       have hxi : L[j]? = some pp := by rw [hpp]; simp
       have hri := hrN j _ hxi
       obtain ⟨qb,qo,hna,-,-,cs0,-,hrd0,hcs0⟩ := hri
       subst hna hcs0
       refine ne ⟨by simp only; omega,by simp only; omega⟩ ?_
       refine ld Aa (v := Bp pp) (by rw [Int.toNat_natCast]; exact kC.range hrd0 id) (by rfl) ?_
       refine nd fun b12 wD eD zD kD m12 => ?_
       refine st Aa (cs := [.int .i64 0,.int .i64 0]) m12 rfl (Nat.le_refl 2) rfl ?_
       intro wE zE kE m12
       have m12 : Own wE b12 136 (Ao pp) := m12
       have kCE : Kp wC wE := kD.new eD kE
       have rO := Ab rO kCE fun _ _ => id
       refine ld Aa (Own.at_ (xs := [.int .i64 pp.1]) (o := 0) m12 rfl) (by rfl) ?_
       refine ne (by decide) ?_
       refine nd fun bq wF eF zF kF mq => ?_
       have mq : Own wF bq 3 [.int .i64 pp.1] := mq
       have rO := Ab rO kF fun _ _ => id
       refine ap (m := 1) (news := [.int .i64 pp.1]) Aa rfl rfl rfl rfl rfl rfl rfl (by decide) rO rfl (Own.at_ (xs := [.int .i64 pp.1]) (o := 0) mq rfl) rfl (by simp only [maxLen]; omega) (by show (_ + 1) * 8 ≤ _; omega) (by have := kC.size; have := kCE.size; omega) fun vO wG rG cG => ?_
       refine aw (by simp only; omega) (by simp only; omega) ?_
       refine again (j + 1,vO) ⟨rfl,rfl,rfl,rfl,trivial⟩ ⟨by simp only; omega,((kC.trans kCE).trans kF).newS cG fun g hg => Ah rO hg.symm,?_⟩ (by simp only; omega)
       simp only
       rw [List.take_succ_eq_append_getElem hj',List.map_append,List.flatMap_append,← hpp]
       exact rG
     · have hje : j = L.length := by simp only at hge; omega
       subst hje
       rewrite [List.take_length] at rO
       have hrow := Av (f := Ia) (l := L.map (·.1)) (fun _ => rfl) rO (by decide)
       have kall : Kp w wC := (((k1.trans k2).trans (hK cA)).trans kC)
       refine ⟨kall,?_⟩
       rw [hbre]
       exact RowE.mono hrow (fun _ _ h => h) (by have := cA.size; omega) (Nat.le_refl _)
def Ea (F : List Int) (L : List Ag) (m : Nat) : List Int := ((List.range m).filter fun i => decide ((L.getD i (0,0)).1 ∈ F)).map fun (i : Nat) => (i : Int)
theorem Or {F : List Int} {L : List Ag} {m : Nat} {p : Ag} (h : L[m]? = some p) : Ea F L (m + 1) = Ea F L m ++ if decide (p.1 ∈ F) = true then [(m : Int)] else [] := by
 unfold Ea
 rw [List.range_succ,List.filter_append,List.map_append]
 congr 1
 have : L.getD m (0,0) = p := by rw [List.getD_eq_getElem?_getD,h]; rfl
 rw [List.filter_cons,this]
 split <;> simp
theorem L2 (F : List Int) (L : List Ag) (m : Nat) : (Ea F L m).length ≤ m := by
 unfold Ea
 rw [List.length_map]
 have := List.length_filter_le (fun i => decide ((L.getD i (0,0)).1 ∈ F)) (List.range m)
 rwa [List.length_range] at this
def D6 (g : Buchi) : Buchi := { Cf g.props g.init [] (Aj g.edges) (g.states.toNat * 1) with final := Ea g.final (Jf g.states.toNat g) (Jf g.states.toNat g).length }
theorem Ui {n : Nat} {g : Buchi} (hini : ∀ s ∈ g.init,0 ≤ s ∧ s < n) (hnd : g.init.Nodup) (hto : ∀ e ∈ g.edges,0 ≤ e.to ∧ e.to < n) : (Jf n g).length ≤ n * 1 ∧ ∀ p ∈ Jf n g,InB n 1 p := by
 have h := Fq (n := n) (sets := []) (fr := Aj g.edges) (fun s e he => hto e (List.mem_filter.1 he).1) (st0 := ((A9 g.init).1,[],[])) ⟨by
  rw [Bf hnd]
  show (g.init.map fun s => (s,(0 : Int))).Nodup
  unfold List.Nodup
  rw [List.pairwise_map]
  exact hnd.imp fun h he => h (by injection he),by
  rw [Bf hnd]
  intro q hq
  obtain ⟨s,hs,rfl⟩ := List.mem_map.1 hq
  have := hini s hs
  exact ⟨this.1,this.2,Int.le_refl 0,by show (0 : Int) < ((max 0 1 : Nat) : Int); omega⟩⟩ (n * 1)
 exact ⟨A6 h.nd h.box,h.box⟩
theorem Zi {α : Type} {E : World → List Value → α → Prop} {size lo hi : Nat} {w : World} : RowE E size lo hi w Ad [] := ⟨none,0,rfl,Nat.le_refl _,fun i x hx => by simp at hx⟩
theorem O5 : Af prog 10 = true := by kernel_rfl
set_option maxHeartbeats 1000000 in
theorem AaL {w : World} {pv iv ev fv : Value} {g : Buchi} (hv : BuchiV 0 w.heap.size w pv iv ev fv g) (hel : g.edges.length < 1000000) (hst : g.states < 65536) :
 Calls prog 10 [.agg #[pv,.int .i64 g.states,iv,ev,fv]].toArray w (Bg fun r w' => Kp w w' ∧ ((Al g.general = false ∧ r = .tuple #[.agg #[Ad,.int .i64 0,Ad,Ad,Ad],.int .i64 100]) ∨ (Al g.general = true ∧ ∃ y,r = .tuple #[Fg (D6 g) y,.int .i64 0] ∧ Ev w.heap.size w' (D6 g) y))) := by
 obtain ⟨pa,pc,rfl,-⟩ := id hv.props
 obtain ⟨ia,ic,rfl,-⟩ := id hv.init
 obtain ⟨ea,ec,rfl,-⟩ := id hv.edges
 obtain ⟨fa,fc,rfl,-⟩ := id hv.final
 refine call Aa func10 rfl ntmps10 (by kernel_rfl) ?_
 refine nd fun b1 w1 e1 z1 k1 m1 => ?_
 have m1 : Own w1 b1 29 [.slice pa g.props.length pc,.int .i64 g.states,.slice ia g.init.length ic,.slice ea g.edges.length ec,.slice fa g.final.length fc] := m1
 refine nd fun b2 w2 e2 z2 k2 m2 => ?_
 have m2 : Own w2 b2 29 [Ad,.int .i64 0,Ad,Ad,Ad] := m2
 have m1 := k2.own m1 id
 have k12 := k1.trans k2
 refine ld Aa (v := .agg #[.slice pa g.props.length pc,.int .i64 g.states,.slice ia g.init.length ic,.slice ea g.edges.length ec,.slice fa g.final.length fc]) (Own.at_ (xs := [.slice pa g.props.length pc,.int .i64 g.states,.slice ia g.init.length ic,.slice ea g.edges.length ec,.slice fa g.final.length fc]) (o := 0) m1 rfl) (by rfl) ?_
 have hchk := Lk (hv.chg k12 (Nat.le_refl _) (Nat.le_refl _))
 have hexc : ∃ cc,Al g.general = cc := ⟨_,rfl⟩
 obtain ⟨cc,hc⟩ := hexc
 rw [hc] at hchk
 refine cl Jb hchk ?_
 rintro _ w3 ⟨rfl,k3⟩
 have m1 := k3.own m1 id
 have m2 := k3.own m2 id
 have K3 := k12.trans k3
 cases cc with
 | false =>
  refine Dj (by decide) ?_
  refine st Aa m2 rfl (Nat.le_refl 5) rfl ?_
  intro w4 z4 k4 m4
  have m4 : Own w4 b2 29 [Ad,.int .i64 0,Ad,Ad,Ad] := m4
  refine ld Aa (v := .agg #[Ad,.int .i64 0,Ad,Ad,Ad]) (Own.at_ (xs := [Ad,.int .i64 0,Ad,Ad,Ad]) (o := 0) m4 rfl) (by rfl) ?_
  exact ⟨K3.newS k4 fun j hj => by omega,.inl ⟨hc,rfl⟩⟩
 | true =>
  refine Bs (by decide) ?_
  have hG := Good.of hc
  have hn : ∃ n : Nat,g.states = n := ⟨g.states.toNat,by have := hG.s0; exact (Int.toNat_of_nonneg this).symm⟩
  obtain ⟨n,hn⟩ := hn
  obtain ⟨B,hB⟩ : ∃ B,B = Cf g.props g.init [] (Aj g.edges) (n * 1) := ⟨_,rfl⟩
  have htg : D6 g = { B with final := Ea g.final (Jf n g) (Jf n g).length } := by rw [hB]; unfold D6; rw [hn,Int.toNat_natCast]
  have hini : ∀ s ∈ g.init,0 ≤ s ∧ s < n := fun s hs => by have := hG.init s hs; rw [← hn]; exact this
  have hed : ∀ e ∈ g.edges,0 ≤ e.frm ∧ e.frm < n ∧ 0 ≤ e.to ∧ e.to < n := fun e he => by have := hG.edges e he; rw [← hn]; exact this
  have hnd := (Bu hc).1
  have hn6 : n < 65536 := by omega
  have hby : ∀ W,Kp w3 W → Calls prog 29 [.int .i64 g.states,.slice ea g.edges.length ec].toArray W (Bg fun r w' => Kp W w' ∧ ∃ y : Nat × Nat,r = .func (.func 77) #[] #[pt y.1 0] ∧ w3.heap.size ≤ y.1 ∧ ∃ hi,hi ≤ w'.heap.size ∧ FromV w' w3.heap.size hi y.1 y.2 n g.edges) := fun W hW => by
   have kW : Kp w W := K3.trans hW
   have hE : C9 0 W.heap.size W (.slice ea g.edges.length ec) g.edges := Cy hv.edges kW (Nat.le_refl _) kW.size
   refine (AaB hn hE (by omega) (by omega) (fun e he => by have := hed e he; exact ⟨this.1,this.2.1⟩)).mono fun en w' hr => ?_
   cases en with
   | returned v =>
    obtain ⟨k,lb,bb,rfl,hlb,hF⟩ := hr
    have hsz := hW.size
    exact ⟨k,(lb,bb),rfl,by omega,_,Nat.le_refl _,hF.mono hsz (Nat.le_refl _)⟩
   | _ => exact hr.elim
  have hdeg : ∀ W,Kp w3 W → ∀ y : Nat × Nat,(∃ hi,hi ≤ W.heap.size ∧ FromV W w3.heap.size hi y.1 y.2 n g.edges) → Calls prog 30 [.agg #[.slice pa g.props.length pc,.slice ia g.init.length ic,.func (.func 77) #[] #[pt y.1 0],Ad]].toArray W (Bg fun r w' => Kp W w' ∧ ∃ z,r = .tuple #[Fg B z,.int .i64 0] ∧ Ev w3.heap.size w' B z) := fun W hW y hy => by
   obtain ⟨hi,hhi,hF⟩ := hy
   have kW : Kp w W := K3.trans hW
   have hvW := hv.chg kW (Nat.le_refl _) kW.size
   rw [hB]
   refine (T0 (sets := []) hvW.props hvW.init hF hhi Zi (by simp) (show g.props.length < 1000000000000 by have h8 : _ ≤ 8 := C2 hc; exact Nat.lt_of_le_of_lt h8 (by decide)) hel (by show n * 1 < 65536; omega) (by decide) hini hnd (fun e he => by have := hed e he; exact ⟨this.2.2.1,this.2.2.2⟩)).mono fun en w' hr => ?_
   cases en with
   | returned v =>
    obtain ⟨k,z,e,h⟩ := hr
    exact ⟨k,z,e,h.low hW.size⟩
   | _ => exact hr.elim
  obtain ⟨Q,hQd⟩ : ∃ Q : Nat → World → Prop,Q = fun b W => ∃ z : Wi,Own W b 29 [.slice z.1.1 B.props.length z.1.2,.int .i64 B.states,.slice z.2.1.1 B.init.length z.2.1.2,.slice z.2.2.1.1 B.edges.length z.2.2.1.2,.slice z.2.2.2.1 B.final.length z.2.2.2.2] ∧ Ev w3.heap.size W B z := ⟨_,rfl⟩
  have hOY : ∀ {W W' : World} {z : Wi},Ev w3.heap.size W B z → TyC 29 w3 W W' → Ev w3.heap.size W' B z := fun h k => ⟨k.row h.props (by decide),k.row h.rI (by decide),k.row h.rE (by decide),k.row h.rF (by decide),h.sep⟩
  have hQ : ∀ b W W',Q b W → TyC 29 w3 W W' → W'.heap[b]? = W.heap[b]? → Q b W' := fun b W W' h k hs => by
   rw [hQd] at h ⊢
   obtain ⟨z,h1,h2⟩ := h
   exact ⟨z,hs.trans h1,hOY h2 k⟩
  have hT : ∀ b W,Q b W → ∃ cur fr,W.heap[b]? = some (Obj.cells cur 29 fr) := fun b W h => by
   rw [hQd] at h
   obtain ⟨z,h1,-⟩ := h
   exact ⟨_,_,h1⟩
  obtain ⟨S,hSd⟩ : ∃ S,S = TyQ 29 Q w3 := ⟨_,rfl⟩
  have hpre : Pre S := by rw [hSd]; exact Ab1 hQ hT
  have hchg : ∀ {W},S w3 W → Kp w3 W := fun {W} h => by rw [hSd] at h; exact (Chg.refl (fun _ => False) w3).newS h.ty.chg fun j hj => hj
  have hty : ∀ {W W'},S W W' → TyC 29 w3 W W' := fun h => by rw [hSd] at h; exact h.ty
  refine Z4 Aa mixed 17 [4,5,6,7,8,0,1,2,3,9,10,11,12,13,14,15,16] (by kernel_rfl) S hpre ?_
  conv => whnf
  refine Gy hpre Aa rfl rfl (fun W h _ => Own.at_ (xs := [.int .i64 g.states]) (o := 1) ((hchg h).own m1 id) rfl) (by rfl) fun _ => ?_
  conv => whnf
  refine Gy hpre Aa rfl rfl (fun W h _ => Own.at_ (xs := [.slice ea g.edges.length ec]) (o := 3) ((hchg h).own m1 id) rfl) (by rfl) fun _ => ?_
  conv => whnf
  refine Gp (fun y : Nat × Nat => .func (.func 77) #[] #[pt y.1 0]) (fun y W => w3.heap.size ≤ y.1 ∧ ∃ hi,hi ≤ W.heap.size ∧ FromV W w3.heap.size hi y.1 y.2 n g.edges) rfl rfl rfl (fun y W W' hF hS => ?_) Pc (fun W hS _ => (hby W (hchg hS)).mono fun en W' hr => ?_) fun y D hD => ?_
  · obtain ⟨h1,hi,h2,h3⟩ := hF
    have k := hty hS
    refine ⟨h1,hi,Nat.le_trans h2 k.chg.size,h3.same ((k.oth _ _ h3.box fun cur fr hh => by injection hh with _ h2; exact absurd h2 (by decide)).trans h3.box.symm) fun b cur t _ _ hb ht => ?_⟩
    exact (k.oth _ _ hb fun cur fr hh => by
     injection hh with _ h2
     rcases ht with rfl | rfl
     · exact absurd h2 (by decide)
     · exact absurd h2 (by decide)).trans hb.symm
  · cases en with
    | returned v =>
     obtain ⟨k,h⟩ := hr
     exact ⟨hpre.kp k,h⟩
    | _ => exact hr.elim
  conv => whnf
  refine Gy hpre Aa rfl rfl (fun W h _ => Own.at_ (xs := [.slice pa g.props.length pc]) (o := 0) ((hchg h).own m1 id) rfl) (by rfl) fun _ => ?_
  conv => whnf
  refine Gy hpre Aa rfl rfl (fun W h _ => Own.at_ (xs := [.slice ia g.init.length ic]) (o := 2) ((hchg h).own m1 id) rfl) (by rfl) fun _ => ?_
  conv => whnf
  refine Gp (fun z : Wi => .tuple #[Fg B z,.int .i64 0]) (fun z W => Ev w3.heap.size W B z) rfl rfl rfl (fun z W W' hF hS => hOY hF (hty hS)) Pa (fun W hS hDn => (hdeg W (hchg hS) y (hD W (hDn 8 (by kernel_rfl))).2).mono fun en W' hr => ?_) fun z D2 hD2 => ?_
  · cases en with
    | returned v =>
     obtain ⟨k,h⟩ := hr
     exact ⟨hpre.kp k,h⟩
    | _ => exact hr.elim
  conv => whnf
  refine als hpre (fun b W => w3.heap.size ≤ b ∧ ∃ cs,cs.length = 5 ∧ Own W b 29 cs) rfl rfl (fun b W W' hb hS => ?_) (fun b W W' h1 h2 h3 => ⟨Nat.le_trans (hchg h1).size h2,_,rfl,h3⟩) fun b5 D3 hD3 => ?_
  · obtain ⟨h1,cs,h2,h3⟩ := hb
    rw [hSd] at hS
    rcases hS.row _ _ _ h3 with h4 | h4
    · exact ⟨h1,cs,h2,h4.trans h3⟩
    · rw [hQd] at h4
      obtain ⟨z,h4,-⟩ := h4
      exact ⟨h1,_,rfl,h4⟩
  conv => whnf
  refine stm (Q b5) rfl (fun W W' h hS => ?_) (fun W h hDn => ?_) fun D4 hD4 => ?_
  · rw [hSd] at hS; exact hS.keeps hQ hT h
  · have hz := hD2 W (hDn 10 (by kernel_rfl))
    have hb := hD3 W (hDn 14 (by kernel_rfl))
    obtain ⟨hb0,cs,hcs,hb⟩ := hb
    match cs,hcs,hb with
    | [c1,c2,c3,c4,c5],_,hb =>
    refine st Aa hb rfl (Nat.le_refl 5) rfl fun W' z' k' o' => ?_
    have hTy : TyC 29 w3 W W' := ⟨k'.mono fun j hj => by omega,fun j o ho hne => (k'.block j (Am ho) fun hj => by
     subst hj
     exact hne _ _ (Option.some.inj (ho.symm.trans hb))).trans ho⟩
    have hq : Q b5 W' := by
     rw [hQd]
     exact ⟨z,o',hOY hz hTy⟩
    refine ⟨?_,hq⟩
    rw [hSd]
    refine ⟨hTy,fun j cur fr hj => ?_⟩
    by_cases hjb : j = b5
    · exact .inr (hjb ▸ hq)
    · exact .inl (k'.block j (Am hj) hjb)
  conv => whnf
  intro W hS hd
  have hq := hD4 W (hd 15)
  rw [hQd] at hq
  obtain ⟨z',hO,hY⟩ := hq
  have K4 := hchg hS
  have hb5 := (hD3 W (hd 14)).1
  clear hd hD hD2 hD3 hD4 D D2 D3 D4 hby hdeg hQ hT hQd
  refine Bs (by decide) ?_
  refine st Aa hO rfl (show 5 ≤ 5 by decide) rfl ?_
  intro wA zA kA oA
  have hrne : ∀ {el size v m xs},W.ownsRow w3.heap.size el size v m xs → el ≠ 29 → ∀ j,v.ownBlock = some j → ¬ j = b5 := fun {el size v m xs} hr ht j hj he => Ai hr hO (fun cs fr hh => by injection hh with _ h2; exact ht h2.symm) (he ▸ hj)
  have pA := Ab hY.props kA (hrne hY.props (by decide))
  have iA := Ab hY.rI kA (hrne hY.rI (by decide))
  have eA := Ab hY.rE kA (hrne hY.rE (by decide))
  obtain ⟨vP,hvP⟩ : ∃ vP,vP = Value.slice z'.1.1 B.props.length z'.1.2 := ⟨_,rfl⟩
  obtain ⟨vI,hvI⟩ : ∃ vI,vI = Value.slice z'.2.1.1 B.init.length z'.2.1.2 := ⟨_,rfl⟩
  obtain ⟨vE,hvE⟩ : ∃ vE,vE = Value.slice z'.2.2.1.1 B.edges.length z'.2.2.1.2 := ⟨_,rfl⟩
  have oA : Own wA b5 29 [.slice z'.1.1 B.props.length z'.1.2,.int .i64 B.states,.slice z'.2.1.1 B.init.length z'.2.1.2,.slice z'.2.2.1.1 B.edges.length z'.2.2.1.2,Ad] := oA
  rewrite [← hvP,← hvI,← hvE] at oA
  rewrite [← hvP] at pA
  rewrite [← hvI] at iA
  rewrite [← hvE] at eA
  have K3A : Kp w3 wA := K4.newS kA fun j hj => by omega
  have K5 : Kp w wA := K3.trans K3A
  refine ld Aa (v := .agg #[.slice pa g.props.length pc,.int .i64 g.states,.slice ia g.init.length ic,.slice ea g.edges.length ec,.slice fa g.final.length fc]) (Own.at_ (xs := [.slice pa g.props.length pc,.int .i64 g.states,.slice ia g.init.length ic,.slice ea g.edges.length ec,.slice fa g.final.length fc]) (o := 0) (K3A.own m1 id) rfl) (by rfl) ?_
  have hbre := Yp (hv.chg K5 (Nat.le_refl _) K5.size) hn hn6 hel hini hnd hed
  obtain ⟨L,hL⟩ : ∃ L,L = Jf n g := ⟨_,rfl⟩
  have hLn := (Ui hini hnd fun e he => (hed e he).2.2).1
  rewrite [← hL] at hbre htg hLn
  refine cl Ue hbre ?_
  rintro r w5 ⟨k5,hrow⟩
  obtain ⟨ra,rc,hr0,hrc,hre⟩ := hrow
  rewrite [List.length_map] at hr0 hrc
  subst hr0
  have K6 : Kp w w5 := K5.trans k5
  have o5 := k5.own oA id
  have hsz5 : w.heap.size ≤ w3.heap.size := K3.size
  have hszA : wA.heap.size ≤ w5.heap.size := k5.size
  have hb5A : b5 < wA.heap.size := oA.lt
  refine loop Aa (σ := Nat × Value) (fun t => [(1,pt b1 0),(2,pt b2 0),(5,pt b5 0),(39,.slice ra L.length rc),(40,.int .i64 L.length),(41,.int .i64 t.1)])
   (fun t V => t.1 ≤ L.length ∧ Chg (fun j => j = b5) w5 V ∧ Own V b5 29 [vP,.int .i64 B.states,vI,vE,t.2] ∧ V.ownsRow w5.heap.size 3 1 t.2 (Ea g.final L t.1).length ((Ea g.final L t.1).flatMap Ia)) (fun t => L.length - t.1) (0,Ad)
   ⟨rfl,rfl,rfl,rfl,rfl,rfl,trivial⟩ ⟨Nat.zero_le _,Chg.refl _ _,o5,World.ownsRow_nil _ _ _ _⟩ ?_
  rintro ⟨i,vF⟩ ed0 wC ⟨hi,cC,oC,rC⟩
  simp only at hi oC rC
  have kC : Kp w wC := K6.newS cC fun j hj => by omega
  have k3C : Kp w3 wC := (K3A.trans k5).newS cC fun j hj => by omega
  have hfl := L2 g.final L i
  refine sp (fun hlt => ?_) (fun hge => ?_)
  · have hi' : i < L.length := by simp only at hlt; omega
    obtain ⟨p,hp⟩ : ∃ p,L[i]? = some p := ⟨_,List.getElem?_eq_getElem hi'⟩
    obtain ⟨qb,qo,hra,hq1,hq2,cs,-,hrd,hcs⟩ := hre i p.1 (by rw [List.getElem?_map,hp]; rfl)
    subst hra hcs
    have hsnoc := Or (F := g.final) hp
    refine ne ⟨by simp only; omega,by simp only; omega⟩ ?_
    refine ld Aa (v := .int .i64 p.1) (by rw [Int.toNat_natCast]; exact cC.range hrd (by omega)) (by rfl) ?_
    refine ld Aa (Own.at_ (xs := [.slice fa g.final.length fc]) (o := 4) (k3C.own m1 id) rfl) (by rfl) ?_
    have hbin := Hm (hv.chg kC (Nat.le_refl _) kC.size).final hv.lf (Et hc _ (by simp [Buchi.general])) p.1
    have hexb : ∃ bb,decide (p.1 ∈ g.final) = bb := ⟨_,rfl⟩
    obtain ⟨bb,hbb⟩ := hexb
    rewrite [hbb] at hbin hsnoc
    refine cl E6 hbin ?_
    rintro _ w7 ⟨⟨q,rfl⟩,k7⟩
    have o7 := k7.own oC id
    have r7 := Ab rC k7 fun _ _ => id
    have c7 := cC.newT k7 fun _ hf => hf.elim
    cases bb with
    | true =>
     rewrite [if_pos rfl] at hsnoc
     refine ld Aa (Own.at_ (xs := [vF]) (o := 4) o7 rfl) (by rfl) ?_
     refine ne (by decide) ?_
     refine nd fun bq w8 e8 z8 k8 mq => ?_
     have mq : Own w8 bq 3 [.int .i64 (i : Nat)] := mq
     have o8 := k8.own o7 id
     have r8 := Ab r7 k8 fun _ _ => id
     have c8 := c7.newT k8 fun _ hf => hf.elim
     refine ap (m := 1) (news := [.int .i64 (i : Nat)]) Aa rfl rfl rfl rfl rfl rfl rfl (by decide) r8 rfl (Own.at_ (xs := [.int .i64 (i : Nat)]) (o := 0) mq rfl) rfl (by simp only [maxLen]; omega) (by show (_ + 1) * 8 ≤ _; omega) c8.size fun vF' w9 r9 k9 => ?_
     have hff := Ae r9
     obtain ⟨ga,gc,hvF⟩ := hff
     have hb : ∀ j,some j = vF.ownBlock → w5.heap.size ≤ j := fun j hj => Ah r8 hj.symm
     have o9 := k9.own o8 fun he => by have := hb _ he; omega
     have c9 := c8.newT k9 fun j hj => .inr (hb j hj)
     subst hvF
     refine st Aa o9 rfl (show 5 ≤ 5 by decide) rfl ?_
     intro wD zD kD oD
     have oD : Own wD b5 29 [vP,.int .i64 B.states,vI,vE,.slice ga ((Ea g.final L i).length + 1) gc] := oD
     have rD := Ab r9 kD fun j hj he => by have := Ah r9 hj; omega
     have cD := c9.newT kD fun j hj => .inl hj
     refine aw (by simp only; omega) (by simp only; omega) ?_
     refine again (i + 1,.slice ga ((Ea g.final L i).length + 1) gc) ⟨rfl,rfl,rfl,rfl,rfl,rfl,trivial⟩ ⟨by simp only; omega,cD,oD,?_⟩ (by simp only; omega)
     simp only
     rw [hsnoc,List.length_append,List.flatMap_append]
     exact rD
    | false =>
     rewrite [if_neg (by decide),List.append_nil] at hsnoc
     refine aw (by simp only; omega) (by simp only; omega) ?_
     refine again (i + 1,vF) ⟨rfl,rfl,rfl,rfl,rfl,rfl,trivial⟩ ⟨by simp only; omega,c7,o7,?_⟩ (by simp only; omega)
     simp only
     rw [hsnoc]
     exact r7
  · have hiL : i = L.length := by simp only at hge; omega
    subst hiL
    have hrn2 : ∀ {el size v m xs},wA.ownsRow w3.heap.size el size v m xs → el ≠ 29 → ∀ j,v.ownBlock = some j → ¬ j = b5 := fun {el size v m xs} hr ht j hj he => Ai hr oA (fun cs fr hh => by injection hh with _ h2; exact ht h2.symm) (he ▸ hj)
    have cAC : Chg (fun j => j = b5) wA wC := (k5.mono fun _ hf => hf.elim).trans cC
    have pC := Ab pA cAC (hrn2 pA (by decide))
    have iC := Ab iA cAC (hrn2 iA (by decide))
    have eC := Ab eA cAC (hrn2 eA (by decide))
    have hf := Ae rC
    obtain ⟨ga,gc,hvF⟩ := hf
    have hsepI : ∀ j,vI.ownBlock = some j → vF.ownBlock ≠ some j := fun j hj he => by
     have h1 := (iA.lt j hj).2
     have h2 := Ah rC he
     omega
    refine ld Aa (v := .agg #[vP,.int .i64 B.states,vI,vE,vF]) (Own.at_ (xs := [vP,.int .i64 B.states,vI,vE,vF]) (o := 0) oC rfl) (by rfl) ?_
    have m2C := k3C.own m2 id
    subst hvF hvP hvI hvE
    refine st Aa m2C rfl (Nat.le_refl 5) rfl ?_
    intro wE zE kE oE
    have oE : Own wE b2 29 [.slice z'.1.1 B.props.length z'.1.2,.int .i64 B.states,.slice z'.2.1.1 B.init.length z'.2.1.2,.slice z'.2.2.1.1 B.edges.length z'.2.2.1.2,.slice ga (Ea g.final L L.length).length gc] := oE
    refine ld Aa (v := .agg #[.slice z'.1.1 B.props.length z'.1.2,.int .i64 B.states,.slice z'.2.1.1 B.init.length z'.2.1.2,.slice z'.2.2.1.1 B.edges.length z'.2.2.1.2,.slice ga (Ea g.final L L.length).length gc]) (Own.at_ (xs := [.slice z'.1.1 B.props.length z'.1.2,.int .i64 B.states,.slice z'.2.1.1 B.init.length z'.2.1.2,.slice z'.2.2.1.1 B.edges.length z'.2.2.1.2,.slice ga (Ea g.final L L.length).length gc]) (o := 0) oE rfl) (by rfl) ?_
    refine ⟨kC.newS kE fun j hj => by omega,.inr ⟨hc,(z'.1,z'.2.1,z'.2.2.1,(ga,gc)),?_,?_⟩⟩
    · rw [htg]; rfl
    · rw [htg]
      have hlow : ∀ {base el size v m xs},wC.ownsRow base el size v m xs → w3.heap.size ≤ base → wE.ownsRow w.heap.size el size v m xs := fun {base el size v m xs} h hb => Ab (Ap h (by omega)) kE fun j hj he => by
       have := Ah h hj
       have := m2.lt
       omega
      exact ⟨hlow pC (Nat.le_refl _),hlow iC (Nat.le_refl _),hlow eC (Nat.le_refl _),hlow rC (by have := K3A.size; omega),hsepI⟩
def H7 (m bn : Nat) (A B : List Int) : List (List Int) := [((List.range m).filter fun s => decide (((s / bn : Nat) : Int) ∈ A)).map fun (s : Nat) => (s : Int),((List.range m).filter fun s => decide (((s % bn : Nat) : Int) ∈ B)).map fun (s : Nat) => (s : Int)]
theorem Ze {m bn : Nat} {A B : List Int} {s : Nat} (hs : s < m) : Fd (H7 m bn A B) ((s : Nat),((0 : Nat) : Int)) = decide (((s / bn : Nat) : Int) ∈ A) := by
 refine decide_eq_decide.2 ?_
 show (s : Int) ∈ ((List.range m).filter fun s => decide (((s / bn : Nat) : Int) ∈ A)).map (fun (s : Nat) => (s : Int)) ↔ _
 simp only [List.mem_map,List.mem_filter,List.mem_range,decide_eq_true_eq]
 constructor
 · rintro ⟨t,⟨h1,h2⟩,h3⟩
   obtain rfl : t = s := by omega
   exact h2
 · exact fun h => ⟨s,⟨hs,h⟩,rfl⟩
theorem Zd {m bn : Nat} {A B : List Int} {s : Nat} (hs : s < m) : Fd (H7 m bn A B) ((s : Nat),((1 : Nat) : Int)) = decide (((s % bn : Nat) : Int) ∈ B) := by
 refine decide_eq_decide.2 ?_
 show (s : Int) ∈ ((List.range m).filter fun s => decide (((s % bn : Nat) : Int) ∈ B)).map (fun (s : Nat) => (s : Int)) ↔ _
 simp only [List.mem_map,List.mem_filter,List.mem_range,decide_eq_true_eq]
 constructor
 · rintro ⟨t,⟨h1,h2⟩,h3⟩
   obtain rfl : t = s := by omega
   exact h2
 · exact fun h => ⟨s,⟨hs,h⟩,rfl⟩
theorem Af2 {s bn : Nat} (h : s < 4611686018427387904) : IntKind.i64.wrap ((s : Int).tdiv (bn : Int)) = ((s / bn : Nat) : Int) := by
 have h1 : (s : Int).tdiv (bn : Int) = ((s / bn : Nat) : Int) := Int.ofNat_tdiv _ _
 have h2 := Nat.div_le_self s bn
 rw [h1]
 obtain ⟨q,hq⟩ : ∃ q,q = s / bn := ⟨_,rfl⟩
 rw [← hq] at h2 ⊢
 exact As (by omega) (by omega)
theorem Af1 {s bn : Nat} : ((s : Int)).tmod (bn : Int) = ((s % bn : Nat) : Int) := Int.ofNat_tmod _ _
theorem Jc : Af prog 90 = true := by kernel_rfl
theorem Nm {w : World} {ba bb lo hi lo' hi' m bn s c : Nat} {pa ia ea fa pb ib eb fb na : Value} {A B : List Int}
 (hA : Own w ba 29 [pa,na,ia,ea,fa]) (hB : Own w bb 29 [pb,.int .i64 (bn : Nat),ib,eb,fb]) (hfa : Ef lo hi w fa A) (hfb : Ef lo' hi' w fb B)
 (hla : A.length < 4611686018427387904) (hlb : B.length < 4611686018427387904) (hsa : A.Pairwise (· ≤ ·)) (hsb : B.Pairwise (· ≤ ·)) (hs : s < m) (hm : m < 4611686018427387904) (hbn : bn ≠ 0) (hc : c < 2) :
 Calls prog 90 [Bp ((s : Nat),(c : Nat)),pt ba 0,pt bb 0].toArray w (Bg fun r w' => r = .bool (Fd (H7 m bn A B) ((s : Nat),(c : Nat))) ∧ Kp w w') := by
 refine call Aa func90 rfl ntmps90 (by kernel_rfl) ?_
 obtain ⟨ua,uc,rfl,-⟩ := id hfa
 obtain ⟨va,vc,rfl,-⟩ := id hfb
 refine nd fun bp w1 e1 z1 k1 mp => ?_
 have mp : Own w1 bp 136 [.int .i64 (s : Nat),.int .i64 (c : Nat)] := mp
 have hA := k1.own hA id
 have hB := k1.own hB id
 have hfa := hfa.chg k1 (fun _ _ _ h => h) (fun _ _ h => h)
 have hfb := hfb.chg k1 (fun _ _ _ h => h) (fun _ _ h => h)
 refine Ax Aa mixed 9 (by kernel_rfl) (fun _ => False) ?_
 conv => whnf
 refine A7 (v := .slice ua A.length uc) Aa rfl rfl (fun W h _ => Own.at_ (xs := [.slice ua A.length uc]) (o := 4) (h.own hA id) rfl) (by rfl) fun _ => ?_
 conv => whnf
 refine A7 (v := .int .i64 (s : Nat)) Aa rfl rfl (fun W h _ => Own.at_ (xs := [.int .i64 (s : Nat)]) (o := 0) (h.own mp id) rfl) (by rfl) fun _ => ?_
 conv => whnf
 refine A7 (v := .int .i64 (bn : Nat)) Aa rfl rfl (fun W h _ => Own.at_ (xs := [.int .i64 (bn : Nat)]) (o := 1) (h.own hB id) rfl) (by rfl) fun _ => ?_
 conv => whnf
 refine ne (by omega) ?_
 conv => whnf
 refine C3 (Af2 (by omega)) ?_
 conv => whnf
 intro W hW _
 have mpW := hW.own mp id
 refine ld Aa (Own.at_ (xs := [.int .i64 (c : Nat)]) (o := 1) mpW rfl) (by rfl) ?_
 have hc01 : c = 0 ∨ c = 1 := by omega
 rcases hc01 with rfl | rfl
 · refine Bs (by omega) ?_
   have hb := Hm (hfa.chg hW (fun _ _ _ h => h) (fun _ _ h => h)) hla hsa ((s / bn : Nat) : Int)
   refine cl E6 hb ?_
   rintro _ w2 ⟨⟨k,rfl⟩,k2⟩
   exact ⟨congrArg Value.bool (Ze hs).symm,(k1.trans hW).trans k2⟩
 · refine Dj (by omega) ?_
   have hA := hW.own hA id
   have hB := hW.own hB id
   have hfb := hfb.chg hW (fun _ _ _ h => h) (fun _ _ h => h)
   refine Ax Aa mixed 9 (by kernel_rfl) (fun _ => False) ?_
   conv => whnf
   refine A7 (v := .slice va B.length vc) Aa rfl rfl (fun W h _ => Own.at_ (xs := [.slice va B.length vc]) (o := 4) (h.own hB id) rfl) (by rfl) fun _ => ?_
   conv => whnf
   refine A7 (v := .int .i64 (s : Nat)) Aa rfl rfl (fun W h _ => Own.at_ (xs := [.int .i64 (s : Nat)]) (o := 0) (h.own mpW id) rfl) (by rfl) fun _ => ?_
   conv => whnf
   refine A7 (v := .int .i64 (bn : Nat)) Aa rfl rfl (fun W h _ => Own.at_ (xs := [.int .i64 (bn : Nat)]) (o := 1) (h.own hB id) rfl) (by rfl) fun _ => ?_
   conv => whnf
   refine ne (by omega) ?_
   conv => whnf
   refine C3 (show _ = ((s % bn : Nat) : Int) from Af1) ?_
   conv => whnf
   intro W2 hW2 _
   have hb := Hm (hfb.chg hW2 (fun _ _ _ h => h) (fun _ _ h => h)) hlb hsb ((s % bn : Nat) : Int)
   refine cl E6 hb ?_
   rintro _ w2 ⟨⟨k,rfl⟩,k2⟩
   exact ⟨congrArg Value.bool (Zd hs).symm,((k1.trans hW).trans hW2).trans k2⟩
def Gw (d e : Edge) : Bool := decide (bits .and .u16 d.must e.no = 0) && decide (bits .and .u16 e.must d.no = 0)
def Lf (s bn : Nat) (d e : Edge) : Edge := ⟨s,d.to * bn + e.to,bits .or .u16 d.must e.must,bits .or .u16 d.no e.no⟩
def Fj (s bn : Nat) (y : List Edge) (d : Edge) : List Edge := (y.filter (Gw d)).map (Lf s bn d)
def Hd (s bn : Nat) (x y : List Edge) : List Edge := x.flatMap (Fj s bn y)
theorem U6 {s bn : Nat} {y : List Edge} {d e : Edge} : Fj s bn (y ++ [e]) d = Fj s bn y d ++ if Gw d e = true then [Lf s bn d e] else [] := by
 unfold Fj
 rw [List.filter_append,List.map_append]
 congr 1
 rw [List.filter_cons]
 split <;> simp
theorem U5 {s bn : Nat} {x y : List Edge} {d : Edge} : Hd s bn (x ++ [d]) y = Hd s bn x y ++ Fj s bn y d := by
 unfold Hd; simp
theorem Qe (s bn : Nat) (y : List Edge) (d : Edge) : (Fj s bn y d).length ≤ y.length := by
 unfold Fj; rw [List.length_map]; exact List.length_filter_le _ _
theorem Lw (s bn : Nat) (y : List Edge) : ∀ x : List Edge,(Hd s bn x y).length ≤ x.length * y.length
 | [] => by simp [Hd]
 | d :: x => by
  have h1 := Lw s bn y x
  have h2 := Qe s bn y d
  show (Fj s bn y d ++ Hd s bn x y).length ≤ _
  rw [List.length_append,List.length_cons,Nat.add_mul]
  omega
theorem Iw (op : BinOp) (hop : op = .and ∨ op = .or) (a b : Int) : 0 ≤ bits op .u16 a b ∧ bits op .u16 a b < 65536 := by
 have h : ∀ z : Int,0 ≤ IntKind.u16.wrap z ∧ IntKind.u16.wrap z < 65536 := fun z => by
  show 0 ≤ (if (false && decide (z % 65536 ≥ 32768)) = true then z % 65536 - 65536 else z % 65536) ∧ (if (false && decide (z % 65536 ≥ 32768)) = true then z % 65536 - 65536 else z % 65536) < 65536
  rw [if_neg (by simp)]; omega
 rcases hop with rfl | rfl <;> exact h _
theorem Tp (s bn : Nat) (d e : Edge) : (Lf s bn d e).wf := ⟨(Iw .or (.inr rfl) _ _).1,(Iw .or (.inr rfl) _ _).2,(Iw .or (.inr rfl) _ _).1,(Iw .or (.inr rfl) _ _).2⟩
theorem Qd {s bn : Nat} {x y : List Edge} {p : Edge} : p ∈ Hd s bn x y ↔ ∃ d ∈ x,∃ e ∈ y,Gw d e = true ∧ p = Lf s bn d e := by
 unfold Hd Fj
 simp only [List.mem_flatMap,List.mem_map,List.mem_filter]
 constructor
 · rintro ⟨d,h1,e,⟨h2,h3⟩,rfl⟩; exact ⟨d,h1,e,h2,h3,rfl⟩
 · rintro ⟨d,h1,e,h2,h3,rfl⟩; exact ⟨d,h1,e,⟨h2,h3⟩,rfl⟩
theorem compP_mem {xs : List Edge} {e : Edge} : ∀ {p : Nat},e ∈ Cc xs p ↔ ∃ j,j < p ∧ xs[j]? = some e
 | 0 => by simp [Cc]
 | p + 1 => by
  have ih := compP_mem (xs := xs) (e := e) (p := p)
  unfold Cc
  constructor
  · intro h
    split at h
    · obtain ⟨j,h1,h2⟩ := ih.1 h; exact ⟨j,by omega,h2⟩
    · rename_i x hx
      split at h
      · obtain ⟨j,h1,h2⟩ := ih.1 h; exact ⟨j,by omega,h2⟩
      · rcases List.mem_append.1 h with h | h
        · obtain ⟨j,h1,h2⟩ := ih.1 h; exact ⟨j,by omega,h2⟩
        · simp at h; subst h; exact ⟨p,by omega,hx⟩
  · rintro ⟨j,h1,h2⟩
    split
    · rename_i hx
      refine ih.2 ⟨j,?_,h2⟩
      rcases Nat.lt_or_eq_of_le (Nat.lt_succ_iff.1 h1) with h3 | h3
      · exact h3
      · subst h3; rw [hx] at h2; cases h2
    · rename_i x hx
      rcases Nat.lt_or_eq_of_le (Nat.lt_succ_iff.1 h1) with h3 | h3
      · split
        · exact ih.2 ⟨j,h3,h2⟩
        · exact List.mem_append.2 (.inl (ih.2 ⟨j,h3,h2⟩))
      · subst h3
        obtain rfl : x = e := by rw [hx] at h2; exact Option.some.inj h2
        split
        · rename_i hc
          exact ih.2 ⟨j - 1,by omega,hc.2⟩
        · simp
theorem Fz {xs : List Edge} {e : Edge} : e ∈ Br xs ↔ e ∈ xs := by
 unfold Br
 rw [compP_mem,List.mem_iff_getElem?]
 exact ⟨fun ⟨j,_,h⟩ => ⟨j,h⟩,fun ⟨j,h⟩ => ⟨j,(List.getElem?_eq_some_iff.1 h).1,h⟩⟩
theorem Fu {xs : List Edge} {e : Edge} : e ∈ Bj xs ↔ e ∈ xs := List.mem_mergeSort
def Tv (bn : Nat) (ea eb : List Edge) (s : Int) : List Edge := Br (Bj (Hd s.toNat bn (Aj ea ((s.toNat / bn : Nat) : Int)) (Aj eb ((s.toNat % bn : Nat) : Int))))
theorem frP_mem {bn : Nat} {ea eb : List Edge} {s : Int} {e : Edge} : e ∈ Tv bn ea eb s ↔ ∃ x ∈ ea,∃ y ∈ eb,x.frm = ((s.toNat / bn : Nat) : Int) ∧ y.frm = ((s.toNat % bn : Nat) : Int) ∧ Gw x y = true ∧ e = Lf s.toNat bn x y := by
 unfold Tv
 rw [Fz,Fu,Qd]
 simp only [Aj,List.mem_filter,decide_eq_true_eq]
 constructor
 · rintro ⟨d,⟨h1,h2⟩,e,⟨h3,h4⟩,h5,rfl⟩; exact ⟨d,h1,e,h3,h2,h4,h5,rfl⟩
 · rintro ⟨d,h1,e,h3,h2,h4,h5,rfl⟩; exact ⟨d,⟨h1,h2⟩,e,⟨h3,h4⟩,h5,rfl⟩
theorem R1 (bn : Nat) (ea eb : List Edge) (s : Int) : (Tv bn ea eb s).length ≤ ea.length * eb.length := by
 unfold Tv
 refine Nat.le_trans (I7 _ _) ?_
 unfold Bj
 rw [List.length_mergeSort]
 refine Nat.le_trans (Lw _ _ _ _) (Nat.mul_le_mul ?_ ?_) <;> exact List.length_filter_le _ _
theorem Yo : Af prog 34 = true := by kernel_rfl
set_option maxHeartbeats 1000000 in
theorem AbH {w : World} {bx bb by_ lo hi lx kx lo2 hi2 ly ky an bn s : Nat} {ea eb : List Edge} {pb ib eb' fb' : Value}
 (hX : Own w bx 76 [.func (.func 77) #[] #[pt lx 0]]) (FX : FromV w lo hi lx kx an ea) (hY : Own w by_ 76 [.func (.func 77) #[] #[pt ly 0]]) (FY : FromV w lo2 hi2 ly ky bn eb)
 (hB : Own w bb 29 [pb,.int .i64 (bn : Nat),ib,eb',fb']) (hs : s < an * bn) (hm : an * bn < 65536) (hla : ea.length < 1000000) (hlb : eb.length < 1000000)
 (hta : ∀ e ∈ ea,0 ≤ e.to ∧ e.to < an) (htb : ∀ e ∈ eb,0 ≤ e.to ∧ e.to < bn) (hhi2 : hi2 ≤ w.heap.size) :
 Calls prog 34 [.int .i64 (s : Nat),pt bx 0,pt bb 0,pt by_ 0].toArray w (Bg fun r w' => Kp w w' ∧ C9 w.heap.size w'.heap.size w' r (Tv bn ea eb (s : Nat))) := by
 have hbn : bn ≠ 0 := by rintro rfl; omega
 have hs1 : s / bn < an := by rw [Nat.div_lt_iff_lt_mul (by omega)]; exact hs
 have hs2 : s % bn < bn := Nat.mod_lt _ (by omega)
 refine call Aa func34 rfl ntmps34 (by kernel_rfl) ?_
 obtain ⟨x,hx⟩ : ∃ x,x = Aj ea ((s / bn : Nat) : Int) := ⟨_,rfl⟩
 obtain ⟨y,hy⟩ : ∃ y,y = Aj eb ((s % bn : Nat) : Int) := ⟨_,rfl⟩
 have hxl : x.length < 1000000 := by rw [hx]; exact Nat.lt_of_le_of_lt (List.length_filter_le _ _) hla
 have hyl : y.length < 1000000 := by rw [hy]; exact Nat.lt_of_le_of_lt (List.length_filter_le _ _) hlb
 have hxm : ∀ e ∈ x,0 ≤ e.to ∧ e.to < an := fun e he => hta e (by rw [hx] at he; exact (List.mem_filter.1 he).1)
 have hym : ∀ e ∈ y,0 ≤ e.to ∧ e.to < bn := fun e he => htb e (by rw [hy] at he; exact (List.mem_filter.1 he).1)
 refine Gn Aa mixed 8 [0,1,2,3,4,5,6,7] (by kernel_rfl) ?_
 conv => whnf
 refine A7 Aa rfl rfl (fun W h _ => Own.at_ (xs := [.func (.func 77) #[] #[pt lx 0]]) (o := 0) (h.own hX id) rfl) (by rfl) fun _ => ?_
 conv => whnf
 refine A7 Aa rfl rfl (fun W h _ => Own.at_ (xs := [.int .i64 (bn : Nat)]) (o := 1) (h.own hB id) rfl) (by rfl) fun _ => ?_
 conv => whnf
 refine ne (by omega) ?_
 conv => whnf
 refine C3 (Af2 (by omega)) ?_
 conv => whnf
 refine Gp (fun z : AC1 => .slice z.1 x.length z.2) (fun z W => C9 lo hi W (.slice z.1 x.length z.2) x) rfl rfl rfl (fun z W W' hF hS => Cy hF hS (Nat.le_refl _) (Nat.le_refl _)) Nk (fun W hS _ => (Xi (FX.kp hS) hs1).mono fun en W' hr => ?_) fun z D hD => ?_
 · cases en with
   | returned v =>
    obtain ⟨k,h⟩ := hr
    rw [← hx] at h
    obtain ⟨a,c,rfl,h2⟩ := id h
    exact ⟨k,(a,c),rfl,Cy h k (Nat.le_refl _) (Nat.le_refl _)⟩
   | _ => exact hr.elim
 conv => whnf
 intro w1 k1 hd1
 have hEX := hD w1 (hd1 5)
 obtain ⟨xa,xc⟩ := z
 simp only at hEX
 clear hd1 hD D
 obtain ⟨_,_,e1',hxc,hrX⟩ := id hEX
 injection e1' with e1' _ e2'
 subst e1' e2'
 have hX := k1.own hX id
 have hY := k1.own hY id
 have hB := k1.own hB id
 refine loop Aa (σ := Nat × Value) (fun t => [(0,.int .i64 (s : Nat)),(1,pt bx 0),(2,pt bb 0),(3,pt by_ 0),(6,t.2),(16,.slice xa x.length xc),(17,.int .i64 x.length),(18,.int .i64 t.1)])
  (fun t V => t.1 ≤ x.length ∧ Kp w1 V ∧ V.ownsRow w1.heap.size 67 4 t.2 (Hd s bn (x.take t.1) y).length ((Hd s bn (x.take t.1) y).flatMap Edge.cells)) (fun t => x.length - t.1) (0,Ad)
  ⟨rfl,rfl,rfl,rfl,rfl,rfl,rfl,rfl,trivial⟩ ⟨Nat.zero_le _,Chg.refl _ _,World.ownsRow_nil _ _ _ _⟩ ?_
 rintro ⟨i,vL⟩ ed0 w2 ⟨hi,k2,rL⟩
 simp only at hi rL
 obtain ⟨P0,hP0⟩ : ∃ P0,P0 = Hd s bn (x.take i) y := ⟨_,rfl⟩
 rewrite [← hP0] at rL
 have hP0l : P0.length ≤ x.length * 1000000 := by
  rw [hP0]
  refine Nat.le_trans (Lw _ _ _ _) (Nat.mul_le_mul ?_ (by omega))
  rw [List.length_take]; omega
 refine sp (fun hlt => ?_) (fun hge => ?_)
 · have hi' : i < x.length := by simp only at hlt; omega
   obtain ⟨d,hdd⟩ : ∃ d,d = x[i] := ⟨_,rfl⟩
   have hxi : x[i]? = some d := by rw [hdd]; simp
   have hdm := hxm d (List.mem_of_getElem? hxi)
   have hsnocX : Hd s bn (x.take (i + 1)) y = P0 ++ Fj s bn y d := by rw [List.take_succ_eq_append_getElem hi',U5,← hP0,← hdd]
   obtain ⟨q,o,rfl,-,-,cs,-,hrd,rfl,-⟩ := hrX i d hxi
   refine ne ⟨by simp only; omega,by simp only; omega⟩ ?_
   refine ld Aa (v := d.val) (by rw [Int.toNat_natCast]; exact k2.range hrd id) (by rfl) ?_
   refine nd fun b8 w3 e3 z3 k3 m8 => ?_
   refine st Aa (cs := [.int .i64 0,.int .i64 0,.int .u16 0,.int .u16 0]) m8 rfl (Nat.le_refl 4) rfl ?_
   intro w4 z4 k4 m8
   have m8 : Own w4 b8 67 d.cells := m8
   have k24 : Kp w2 w4 := k3.new e3 k4
   have rLo := rL
   have rL := Ab rL k24 fun _ _ => id
   have k14 := k2.trans k24
   have hY4 := k14.own hY id
   have hB4 := k14.own hB id
   have FY4 := FY.kp (k1.trans k14)
   refine Gn Aa mixed 8 [0,1,2,3,4,5,6,7] (by kernel_rfl) ?_
   conv => whnf
   refine A7 Aa rfl rfl (fun W h _ => Own.at_ (xs := [.func (.func 77) #[] #[pt ly 0]]) (o := 0) (h.own hY4 id) rfl) (by rfl) fun _ => ?_
   conv => whnf
   refine A7 Aa rfl rfl (fun W h _ => Own.at_ (xs := [.int .i64 (bn : Nat)]) (o := 1) (h.own hB4 id) rfl) (by rfl) fun _ => ?_
   conv => whnf
   refine ne (by omega) ?_
   conv => whnf
   refine C3 (show _ = ((s % bn : Nat) : Int) from Af1) ?_
   conv => whnf
   refine Gp (fun z : AC1 => .slice z.1 y.length z.2) (fun z W => C9 lo2 hi2 W (.slice z.1 y.length z.2) y) rfl rfl rfl (fun z W W' hF hS => Cy hF hS (Nat.le_refl _) (Nat.le_refl _)) Nk (fun W hS _ => (Xi (FY4.kp hS) hs2).mono fun en W' hr => ?_) fun z D hD => ?_
   · cases en with
     | returned v =>
      obtain ⟨k,h⟩ := hr
      rw [← hy] at h
      obtain ⟨a,c,rfl,h2⟩ := id h
      exact ⟨k,(a,c),rfl,Cy h k (Nat.le_refl _) (Nat.le_refl _)⟩
     | _ => exact hr.elim
   conv => whnf
   intro w5 k5 hd5
   have hEY := hD w5 (hd5 5)
   obtain ⟨ya,yc⟩ := z
   simp only at hEY
   clear hd5 hD D
   obtain ⟨_,_,e1',hyc,hrY⟩ := id hEY
   injection e1' with e1' _ e2'
   subst e1' e2'
   have rL2 := rLo
   have rL := Ab rL k5 fun _ _ => id
   have m8 := k5.own m8 id
   have k15 := k14.trans k5
   have hb8 : b8 < w5.heap.size := m8.lt
   have hnb0 : ∀ g,vL.ownBlock = some g → g ≠ b8 := fun g hg he => by
    have := (rL2.lt g hg).2; omega
   have hY6 : ∀ {V : World},Kp w1 V → ∀ {b : Nat},b < hi2 → V.heap[b]? = w5.heap[b]? := fun {V} k {b} hb => by
    have := k1.size
    rw [k.block b (by omega) id,k15.block b (by omega) id]
   refine loop Aa (σ := Nat × Value) (fun t => [(0,.int .i64 (s : Nat)),(1,pt bx 0),(2,pt bb 0),(3,pt by_ 0),(6,t.2),(8,pt b8 0),(16,.slice (some ⟨q,o,none⟩) x.length xc),(17,.int .i64 x.length),(18,.int .i64 i),(27,.slice ya y.length yc),(28,.int .i64 y.length),(29,.int .i64 t.1)])
    (fun t V => t.1 ≤ y.length ∧ w5.heap.size ≤ V.heap.size ∧ Kp w1 V ∧ (∀ g,t.2.ownBlock = some g → g ≠ b8) ∧ Own V b8 67 d.cells ∧ V.ownsRow w1.heap.size 67 4 t.2 (P0 ++ Fj s bn (y.take t.1) d).length ((P0 ++ Fj s bn (y.take t.1) d).flatMap Edge.cells)) (fun t => y.length - t.1) (0,vL)
    ⟨rfl,rfl,rfl,rfl,rfl,rfl,rfl,rfl,rfl,rfl,rfl,rfl,trivial⟩ ⟨Nat.zero_le _,Nat.le_refl _,k15,hnb0,m8,by simpa [Fj] using rL⟩ ?_
   rintro ⟨j,vM⟩ ed1 w6 ⟨hj,z6,k6,hnb,m86,rM⟩
   simp only at hj rM hnb
   obtain ⟨P1,hP1⟩ : ∃ P1,P1 = P0 ++ Fj s bn (y.take j) d := ⟨_,rfl⟩
   rewrite [← hP1] at rM
   have hP1l : P1.length ≤ x.length * 1000000 + 1000000 := by
    have h1 := Qe s bn (y.take j) d
    rw [List.length_take] at h1
    rw [hP1,List.length_append]; omega
   refine sp (fun hlt2 => ?_) (fun hge2 => ?_)
   · have hj' : j < y.length := by simp only at hlt2; omega
     obtain ⟨e,hee⟩ : ∃ e,e = y[j] := ⟨_,rfl⟩
     have hxj : y[j]? = some e := by rw [hee]; simp
     have hem := hym e (List.mem_of_getElem? hxj)
     have hsnocY : P0 ++ Fj s bn (y.take (j + 1)) d = P1 ++ if Gw d e = true then [Lf s bn d e] else [] := by rw [List.take_succ_eq_append_getElem hj',U6,← hee,hP1,List.append_assoc]
     obtain ⟨q2,o2,hya,-,hq2,cs,-,hrd2,hcs,-⟩ := hrY j e hxj
     subst hya hcs
     refine ne ⟨by simp only; omega,by simp only; omega⟩ ?_
     refine ld Aa (v := e.val) (by rw [Int.toNat_natCast]; exact Ku hrd2 (hY6 k6 hq2)) (by rfl) ?_
     refine nd fun b10 w7 e7 z7 k7 m10 => ?_
     refine st Aa (cs := [.int .i64 0,.int .i64 0,.int .u16 0,.int .u16 0]) m10 rfl (Nat.le_refl 4) rfl ?_
     intro w8 z8 k8 m10
     have m10 : Own w8 b10 67 e.cells := m10
     have k68 : Kp w6 w8 := k7.new e7 k8
     have rM := Ab rM k68 fun _ _ => id
     have m8 := k68.own m86 id
     have hB8 := (k6.trans k68).own hB id
     have hm8 : Gw d e = (decide (bits .and .u16 d.must e.no = 0) && decide (bits .and .u16 e.must d.no = 0)) := rfl
     refine ld Aa (Own.at_ (xs := [.int .u16 d.must]) (o := 2) m8 rfl) (by rfl) ?_
     refine ld Aa (Own.at_ (xs := [.int .u16 e.no]) (o := 3) m10 rfl) (by rfl) ?_
     refine ar ?_
     have hskip : Gw d e = false → Unit → P0 ++ Fj s bn (y.take (j + 1)) d = P1 := fun h _ => by rw [hsnocY,h]; simp
     refine sp (fun h1 => ?_) (fun h1 => ?_)
     · refine ld Aa (Own.at_ (xs := [.int .u16 e.must]) (o := 2) m10 rfl) (by rfl) ?_
       refine ld Aa (Own.at_ (xs := [.int .u16 d.no]) (o := 3) m8 rfl) (by rfl) ?_
       refine ar ?_
       refine sp (fun h2 => ?_) (fun h2 => ?_)
       · have hmeet : Gw d e = true := by rw [hm8]; simp [h1,h2]
         rewrite [if_pos hmeet] at hsnocY
         refine ld Aa (Own.at_ (xs := [.int .i64 d.to]) (o := 1) m8 rfl) (by rfl) ?_
         refine ld Aa (Own.at_ (xs := [.int .i64 (bn : Nat)]) (o := 1) hB8 rfl) (by rfl) ?_
         obtain ⟨dt,hdt⟩ : ∃ dt : Nat,d.to = dt := ⟨d.to.toNat,by omega⟩
         obtain ⟨et,het⟩ : ∃ et : Nat,e.to = et := ⟨e.to.toNat,by omega⟩
         have hmul : (dt + 1) * bn ≤ an * bn := Nat.mul_le_mul_right bn (by omega)
         rewrite [Nat.add_mul,Nat.one_mul] at hmul
         have hdb : d.to * (bn : Int) = ((dt * bn : Nat) : Int) := by rw [hdt]; simp
         obtain ⟨mm,hmm⟩ : ∃ mm,mm = dt * bn := ⟨_,rfl⟩
         rewrite [← hmm] at hdb hmul
         refine aw (by rw [hdb]; omega) (by rw [hdb]; omega) ?_
         refine ld Aa (Own.at_ (xs := [.int .i64 e.to]) (o := 1) m10 rfl) (by rfl) ?_
         refine aw (by rw [hdb]; omega) (by rw [hdb]; omega) ?_
         refine ld Aa (Own.at_ (xs := [.int .u16 d.must]) (o := 2) m8 rfl) (by rfl) ?_
         refine ld Aa (Own.at_ (xs := [.int .u16 e.must]) (o := 2) m10 rfl) (by rfl) ?_
         refine ar ?_
         refine ld Aa (Own.at_ (xs := [.int .u16 d.no]) (o := 3) m8 rfl) (by rfl) ?_
         refine ld Aa (Own.at_ (xs := [.int .u16 e.no]) (o := 3) m10 rfl) (by rfl) ?_
         refine ar ?_
         refine ne (by decide) ?_
         refine nd fun bq w9 e9 z9 k9 mq => ?_
         have mq : Own w9 bq 67 (Lf s bn d e).cells := mq
         have rM := Ab rM k9 fun _ _ => id
         have m8 := k9.own m8 id
         refine Yu (m := 1) (news := (Lf s bn d e).cells) Aa rfl rfl rfl rfl rfl rfl rfl (by decide) rM rfl (Own.at_ (xs := (Lf s bn d e).cells) (o := 0) mq rfl) rfl (by simp only [maxLen]; omega) (by show (_ + 1) * 24 ≤ _; omega) (by have := k6.size; have := k68.size; omega) fun vM' wA rA cA hnA => ?_
         have hb : ∀ g,some g = vM.ownBlock → w1.heap.size ≤ g := fun g hg => Ah rM hg.symm
         have m8A := cA.own m8 fun he => hnb b8 he.symm rfl
         have kA : Kp w1 wA := ((k6.trans k68).trans k9).newS cA hb
         refine aw (by simp only; omega) (by simp only; omega) ?_
         refine again (j + 1,vM') ⟨rfl,rfl,rfl,rfl,rfl,rfl,rfl,rfl,rfl,rfl,rfl,rfl,trivial⟩ ⟨by simp only; omega,?_,kA,?_,m8A,?_⟩ (by simp only; omega)
         · have := k68.size; have := cA.size; omega
         · intro g hg
           rcases hnA g hg with h3 | h3
           · exact hnb g h3
           · have := k68.size; omega
         · simp only
           rw [hsnocY,List.length_append,List.flatMap_append]
           exact rA
       · have hmeet : Gw d e = false := by rw [hm8]; simp [h2]
         refine aw (by simp only; omega) (by simp only; omega) ?_
         refine again (j + 1,vM) ⟨rfl,rfl,rfl,rfl,rfl,rfl,rfl,rfl,rfl,rfl,rfl,rfl,trivial⟩ ⟨by simp only; omega,by have := k68.size; omega,k6.trans k68,hnb,m8,?_⟩ (by simp only; omega)
         simp only
         rw [hskip hmeet ()]
         exact rM
     · have hmeet : Gw d e = false := by rw [hm8]; simp [h1]
       refine aw (by simp only; omega) (by simp only; omega) ?_
       refine again (j + 1,vM) ⟨rfl,rfl,rfl,rfl,rfl,rfl,rfl,rfl,rfl,rfl,rfl,rfl,trivial⟩ ⟨by simp only; omega,by have := k68.size; omega,k6.trans k68,hnb,m8,?_⟩ (by simp only; omega)
       simp only
       rw [hskip hmeet ()]
       exact rM
   · have hje : j = y.length := by simp only at hge2; omega
     subst hje
     rewrite [List.take_length] at hP1
     refine aw (by omega) (by omega) ?_
     refine again (i + 1,vM) ⟨rfl,rfl,rfl,rfl,rfl,rfl,rfl,rfl,trivial⟩ ⟨by simp only; omega,k6,?_⟩ (by simp only; omega)
     simp only
     rw [hsnocX,← hP1]
     exact rM
 · have hie : i = x.length := by simp only at hge; omega
   subst hie
   rewrite [List.take_length] at hP0
   have hf := Ae rL
   obtain ⟨va,vc,rfl⟩ := hf
   have hse := Ie rL (by omega)
   refine cl G6 hse ?_
   rintro _ w3 ⟨c3,r3⟩
   have hb : ∀ g,some g = (Value.slice va P0.length vc).ownBlock → w1.heap.size ≤ g := fun g hg => Ah rL hg.symm
   have hsel : (Bj P0).length = P0.length := List.length_mergeSort _
   have hco : Calls prog 37 [.slice va P0.length vc].toArray w3 _ := Ke (v := .slice va P0.length vc) (xs := Bj P0) (by rw [hsel]; exact r3) (by omega)
   refine cl H3 hco ?_
   rintro r w4 ⟨c4,r4,hown⟩
   have kall : Kp w w4 := ((k1.trans k2).newS c3 fun g hg => by have := hb g hg; have := k1.size; omega).newS c4 fun g hg => by have := hb g hg; have := k1.size; omega
   refine ⟨kall,?_⟩
   have hfr : Tv bn ea eb (s : Nat) = Br (Bj P0) := by rw [hP0,hx,hy]; rfl
   rw [hfr]
   have hrow := Av (f := Edge.cells) (fun _ => rfl) r4 (by decide)
   have hwf : ∀ e ∈ Br (Bj P0),e.wf := fun e he => by
    rw [Fz,Fu,hP0,Qd] at he
    obtain ⟨d,-,f,-,-,rfl⟩ := he
    exact Tp _ _ _ _
   exact RowE.mono (hrow.and hwf) (fun _ _ h => h) (by have := k1.size; omega) (Nat.le_refl _)
theorem Fm {sets : List (List Int)} (hs : sets.length = 2) {p : Ag} (h : 0 ≤ p.2 ∧ p.2 < (2 : Nat)) : 0 ≤ Be sets p ∧ Be sets p < (2 : Nat) := by
 have h2 : max sets.length 1 = 2 := by rw [hs]; rfl
 have := Cq (sets := sets) (p := p) (by rw [h2]; exact h)
 rwa [h2] at this
theorem O3 {n : Nat} {sets : List (List Int)} (hs : sets.length = 2) {fr : Int → List Edge} (hfr : ∀ s,∀ e ∈ fr s,0 ≤ e.to ∧ e.to < n) {st0 : DSt} (h : DOk n 2 st0) (i : Nat) : DOk n 2 (A5 sets fr st0 i) := by
 have h2 : max sets.length 1 = 2 := by rw [hs]; rfl
 have := Fq (sets := sets) hfr (st0 := st0) (by rw [h2]; exact h) i
 rwa [h2] at this
theorem Yn : Af prog 38 = true := by kernel_rfl
set_option maxHeartbeats 4000000 in
theorem AbI {w : World} {bx bq by_ n bn M : Nat} {pv iv sv : Value} {props : List ByteArray} {init : List Int} {fr : Int → List Edge} {na pva iva eva fva pvb ivb evb fvb : Value} {A B : List Int}
 (hp : Ib 0 w.heap.size w pv props) (hi : Ef 0 w.heap.size w iv init) (hfa : Ef 0 w.heap.size w fva A) (hfb : Ef 0 w.heap.size w fvb B) (hla : A.length < 4611686018427387904) (hlb : B.length < 4611686018427387904) (hsa : A.Pairwise (· ≤ ·)) (hsb : B.Pairwise (· ≤ ·)) (hbn : 0 < n → bn ≠ 0)
 (hfr : ∀ W,Kp w W → ∀ s,s < n → Calls prog 34 [.int .i64 (s : Nat),pt bx 0,pt bq 0,pt by_ 0].toArray W (Bg fun r w' => Kp W w' ∧ C9 W.heap.size w'.heap.size w' r (fr (s : Nat))))
 (hpl : props.length < 1000000000000) (hM : ∀ s,(fr s).length ≤ M) (hMM : (n * 2 + 1) * M < 4000000000000) (hbox : n * 2 < 65536) (hini : ∀ s ∈ init,0 ≤ s ∧ s < n) (hnd : init.Nodup) (hto' : ∀ s,∀ e ∈ fr s,0 ≤ e.to ∧ e.to < n) :
 Calls prog 38 [.agg #[pv,iv,.func (.func 34) #[] #[pt bx 0,pt bq 0,pt by_ 0],sv],.agg #[pva,na,iva,eva,fva],.agg #[pvb,.int .i64 (bn : Nat),ivb,evb,fvb]].toArray w (Bg fun r w' => Kp w w' ∧ ∃ vP vI vE vF,r = .tuple #[.agg #[vP,.int .i64 (Cf props init (H7 n bn A B) fr (n * 2)).states,vI,vE,vF],.int .i64 0] ∧ OutV w.heap.size w' vP vI vE vF (Cf props init (H7 n bn A B) fr (n * 2))) := by
 have hobt_ : ∃ sets,sets = H7 n bn A B := ⟨_,rfl⟩
 obtain ⟨sets,hsets⟩ := hobt_
 have hs2 : sets.length = 2 := by rw [hsets]; rfl
 rw [← hsets]
 have hobt_ := id hp
 obtain ⟨pa,pc,rfl,-⟩ := hobt_
 have hobt_ := id hi
 obtain ⟨ia,ic,rfl,hic,hir⟩ := hobt_
 refine call Aa func38 rfl ntmps38 (by kernel_rfl) ?_
 refine nd fun b1 w1 e1 z1 k1 mb => ?_
 have mb : Own w1 b1 79 [.slice pa props.length pc,.slice ia init.length ic,.func (.func 34) #[] #[pt bx 0,pt bq 0,pt by_ 0],sv] := mb
 refine nd fun ba wa ea' za ka ma => ?_
 have ma : Own wa ba 29 [pva,na,iva,eva,fva] := ma
 refine nd fun bb wb eb' zb kb mbb => ?_
 have mbb : Own wb bb 29 [pvb,.int .i64 (bn : Nat),ivb,evb,fvb] := mbb
 refine nd fun b2 w2 e2 z2 k2 m2 => ?_
 have m2 : Own w2 b2 29 [Ad,.int .i64 0,Ad,Ad,Ad] := m2
 refine nd fun m5 w3 e3 z3 k3 mm5 => ?_
 refine nd fun b5 w4 e4 z4 k4 mb5 => ?_
 have mb5 : Own w4 b5 132 [.map (some m5),Ad,.bool false] := mb5
 have k24 : Kp w2 w4 := k3.trans k4
 have k14 : Kp w1 w4 := ka.trans (kb.trans (k2.trans k24))
 have ma4 : Own w4 ba 29 [pva,na,iva,eva,fva] := (kb.trans (k2.trans k24)).own ma id
 have mb4 : Own w4 bb 29 [pvb,.int .i64 (bn : Nat),ivb,evb,fvb] := (k2.trans k24).own mbb id
 refine ld Aa (Own.at_ (xs := [.slice pa props.length pc]) (o := 0) (k14.own mb id) rfl) (by rfl) ?_
 have hcl := Ua (hp.chg (k1.trans k14) (fun _ _ _ h => h) (fun _ _ h => h)) hpl
 refine cl Pb hcl ?_
 rintro _ w5 ⟨k5,⟨ca,cc,rfl⟩,hpS⟩
 refine nd fun b6 w6' e6 z6 k6 mb6 => ?_
 refine st Aa mb6 rfl (Nat.le_refl 5) rfl ?_
 intro w6 z6' k6' ob0
 have hobt_ : ∃ pv',pv' = Value.slice ca props.length cc := ⟨_,rfl⟩
 obtain ⟨pv',hpv'⟩ := hobt_
 have ob0 : Own w6 b6 29 [.slice ca props.length cc,.int .i64 0,Ad,Ad,Ad] := ob0
 rewrite [← hpv'] at hpS ob0
 have k56 : Kp w5 w6 := k6.new e6 k6'
 have k46 : Kp w4 w6 := k5.trans k56
 have k16 : Kp w1 w6 := k14.trans k46
 have k06 : Kp w w6 := k1.trans k16
 have s5 := k5.size
 have hws6 : w.heap.size ≤ b1 := by omega
 have hb5w : b1 < b5 ∧ b1 < m5 ∧ m5 < b5 ∧ b5 < b6 ∧ b6 < w6.heap.size ∧ w4.heap.size = b5 + 1 ∧ w5.heap.size = b6 ∧ ba < m5 ∧ bb < m5 := by omega
 have hb6lt : b6 < w6.heap.size := by omega
 have pS6 : w6.ownsRow w4.heap.size 9 1 pv' props.length (props.flatMap Y4) := Ab hpS k56 fun _ _ => id
 have pS6l : ∀ g,pv'.ownBlock = some g → g < w5.heap.size := fun g hg => (hpS.lt g hg).2
 have hobt_ : ∃ T6 : Nat → Prop,T6 = fun g => g = b5 ∨ g = m5 ∨ g = b6 := ⟨_,rfl⟩
 obtain ⟨T6,hT6⟩ := hobt_
 have T6i : ∀ g,T6 g ↔ (g = b5 ∨ g = m5 ∨ g = b6) := fun g => by rw [hT6]
 have nums0 : NumV w6 w6.heap.size b5 m5 Ad [] := ⟨k46.own mb5 id,(MapE.made (by
  have : w3.heap[m5]? = some (.map #[] 0) := mm5
  exact (k4.trans k46).heap this id) Ej),World.ownsRow_nil _ _ _ _,Nat.le_refl _,List.nodup_nil⟩
 have hK : ∀ {V},Chg T6 w6 V → Kp w1 V := fun {V} hc => k16.newS hc fun g hg => by rewrite [T6i] at hg; omega
 have ma6 := k46.own ma4 id
 have mb6' := k46.own mb4 id
 have hKF : ∀ {V},Chg T6 w6 V → Own V ba 29 [pva,na,iva,eva,fva] ∧ Own V bb 29 [pvb,.int .i64 (bn : Nat),ivb,evb,fvb] := fun {V} hc => ⟨hc.own ma6 fun hg => by rewrite [T6i] at hg; omega,hc.own mb6' fun hg => by rewrite [T6i] at hg; omega⟩
 have hK1 : 0 < 2 := by omega
 refine ld Aa (Own.at_ (xs := [.slice ia init.length ic]) (o := 1) (k16.own mb id) rfl) (by rfl) ?_
 have hn65 : n < 65536 := by omega
 have hI0len : ∀ m,m ≤ init.length → (A9 (init.take m)) = ((init.take m).map fun s => (s,(0 : Int)),(List.range m).map fun (i : Nat) => (i : Int)) := fun m hm => by
  have := Bf (l := init.take m) (hnd.sublist (List.take_sublist _ _))
  rewrite [List.length_take,Nat.min_eq_left hm] at this
  exact this
 have hinl : init.length ≤ n := by
  have h1 := A8 (l := init) (r := (List.range n).map fun (i : Nat) => (i : Int)) hnd fun s hs' => by
   have := hini s hs'
   exact List.mem_map.2 ⟨s.toNat,by rw [List.mem_range]; omega,by omega⟩
  simpa using h1
 refine loop Aa (σ := Nat × Value × Value) (fun t => [(3,pt b1 0),(4,pt ba 0),(5,pt bb 0),(6,pt b2 0),(8,pt b5 0),(9,pt b6 0),(10,.func (.func 90) #[] #[pt ba 0,pt bb 0]),(27,.slice ia init.length ic),(28,.int .i64 init.length),(29,.int .i64 t.1)])
  (fun t V => t.1 ≤ init.length ∧ Chg T6 w6 V ∧ NumV V w6.heap.size b5 m5 t.2.1 (A9 (init.take t.1)).1 ∧ Own V b6 29 [pv',.int .i64 0,t.2.2,Ad,Ad] ∧ V.ownsRow w6.heap.size 3 1 t.2.2 t.1 ((A9 (init.take t.1)).2.flatMap Ia)) (fun t => init.length - t.1) (0,Ad,Ad)
  ⟨rfl,rfl,rfl,rfl,rfl,rfl,rfl,rfl,rfl,rfl,trivial⟩ ⟨Nat.zero_le _,Chg.refl _ _,nums0,ob0,World.ownsRow_nil _ _ _ _⟩ ?_
 rintro ⟨j,xN,xI⟩ ea w7 ⟨hj,c7,nums7,ob7,rI7⟩
 simp only at hj nums7 ob7 rI7
 refine sp (fun hlt => ?_) (fun hge => ?_)
 · have hj' : j < init.length := by simp only at hlt; omega
   have hobt_ : ∃ s,s = init[j] := ⟨_,rfl⟩
   obtain ⟨s,hsd⟩ := hobt_
   have hxs : init[j]? = some s := by rw [hsd]; simp
   have hsr := hini s (List.mem_of_getElem? hxs)
   have hobt_ := hir j s hxs
   obtain ⟨q,o,hia,-,-,cs,-,hrd,hcs⟩ := hobt_
   subst hia hcs
   have hT1 : (A9 (init.take j)).1.length = j := by rw [hI0len j (by omega)]; simp; omega
   have hT2 : (A9 (init.take j)).2.length = j := by rw [hI0len j (by omega)]; simp
   have hsnoc : A9 (init.take (j + 1)) = Ry (A9 (init.take j)) s := by
    rw [List.take_succ_eq_append_getElem hj',E4,← hsd]
   have hobt_ : ∃ A0,A0 = A9 (init.take j) := ⟨_,rfl⟩
   obtain ⟨A0,hA0⟩ := hobt_
   rewrite [← hA0] at nums7 rI7 hT1 hT2 hsnoc
   refine ne ⟨by simp only; omega,by simp only; omega⟩ ?_
   refine ld Aa (v := .int .i64 s) (by rw [Int.toNat_natCast]; exact (k1.trans (hK c7)).range hrd id) (by rfl) ?_
   have hsep := Aq nums7.row rI7 (by decide)
   have hm5 := nums7.map.h
   obtain ⟨es5,clk5,hm5,-⟩ := hm5
   have hbI : ∀ {b t cs},Own w7 b t cs → t ≠ 3 → some b ≠ xI.ownBlock := fun {b t cs} ho ht he => Ai rI7 ho (fun cs fr hh => by injection hh with _ h2; exact ht h2) he.symm
   have hmI : some m5 ≠ xI.ownBlock := fun he => Ai rI7 hm5 (fun cs fr hh => by cases hh) he.symm
   have hbN : ∀ {b t cs},Own w7 b t cs → t ≠ 136 → some b ≠ xN.ownBlock := fun {b t cs} ho ht he => Ai nums7.row ho (fun cs fr hh => by injection hh with _ h2; exact ht h2) he.symm
   have hobt_ : ∃ TT : Nat → Prop,TT = fun g => g = b5 ∨ g = m5 ∨ some g = xN.ownBlock := ⟨_,rfl⟩
   obtain ⟨TT,hTT⟩ := hobt_
   have h5lt := nums7.hdr.lt
   have hm5lt := nums7.map.lt
   have h5m : b5 ≠ m5 := nums7.map.ne nums7.hdr
   have h6m : b6 ≠ m5 := nums7.map.ne ob7
   have h56 : b5 ≠ b6 := A2 nums7.hdr ob7 (by decide)
   have hbears := CAppR.bears (T := TT) (w0 := w7) (v := xI) (k := j * 1) (news := [.int .i64 (Aw A0.1 (s,0) : Nat)]) (fun g hg => (rI7.lt g hg).2) (fun g hg => by
    rewrite [hTT] at hg
    rcases hg with rfl | rfl | hg
    · exact h5lt
    · exact hm5lt
    · exact (nums7.row.lt g hg.symm).2) (fun g hg => by
    rewrite [hTT] at hg
    rcases hg with rfl | rfl | hg
    · exact fun he => hbI nums7.hdr (by decide) he.symm
    · exact fun he => hmI he.symm
    · exact fun he => hsep g hg.symm he)
   have hst6 : ∀ {W},CAppR TT w7 xI (j * 1) [.int .i64 (Aw A0.1 (s,0) : Nat)] w7 W → Own W b6 29 [pv',.int .i64 0,xI,Ad,Ad] := fun {W} hS => hS.chg.own ob7 fun hT => by
    rewrite [hTT] at hT
    rcases hT with (hT | hT | hT) | hT
    · exact h56 hT.symm
    · exact h6m hT
    · exact hbN ob7 (by decide) hT
    · exact hbI ob7 (by decide) hT
   refine Gm Aa mixed 9 [2,3,4,5,0,1,6,7,8] (by kernel_rfl) (CAppR TT w7 xI (j * 1) [.int .i64 (Aw A0.1 (s,0) : Nat)]) (Bh _ _ _ _ _) (fun W => W.heap.size = w7.heap.size ∧ Kp w7 W) 5 ⟨rfl,(Chg.refl _ _).drew⟩ ?_
   conv => whnf
   refine Jp (τ := Value) (hne := ⟨undef⟩) (.int .i64 (Aw A0.1 (s,0) : Nat)) (fun v' W => NumV W w6.heap.size b5 m5 v' (B7 A0.1 (s,0)) ∧ (∀ g,v'.ownBlock = some g → xN.ownBlock = some g ∨ w7.heap.size ≤ g) ∧ w7.heap.size < W.heap.size) rfl rfl rfl (fun v' W W' hFv hS => ?_) Ja (fun W hS _ hU => ?_) fun v' D hD => ?_
   · obtain ⟨f1,f2,f3⟩ := hFv
     have honce := hS.once.resolve_right (by omega)
     refine ⟨⟨?_,?_,?_,Nat.le_trans f1.base hS.chg.size,f1.nd⟩,f2,by have := hS.chg.size; omega⟩
     · exact (honce b5 (by rw [hTT]; exact .inl rfl) f1.hdr.lt).trans f1.hdr
     · exact Hh f1.map (honce m5 (by rw [hTT]; exact .inr (.inl rfl)) f1.map.lt)
     · refine El f1.row fun g hg => ?_
       rcases f2 g hg with h1 | h1
       · exact honce g (by rw [hTT]; exact .inr (.inr h1.symm)) (f1.row.lt g hg).2
       · exact hS.chg.block g (f1.row.lt g hg).2 fun hT => by
          rewrite [hTT] at hT
          rcases hT with (rfl | rfl | hT) | hT
          · omega
          · omega
          · have := (nums7.row.lt g hT.symm).2; omega
          · have := (rI7.lt g hT.symm).2; omega
   · obtain ⟨hU1,hU2⟩ := hU
     refine (Qh (nums7.chg hU2 id id fun _ _ => id) (p := (s,0)) (show G7 s from ⟨by omega,by omega⟩) (show G7 (0 : Int) from ⟨by decide,by decide⟩) (by omega)).mono fun en W' hr => ?_
     cases en with
     | returned v =>
      obtain ⟨rfl,v',hn',hc',hg',hs'⟩ := hr
      refine ⟨rfl,⟨hc'.mono fun g hg => .inl (by rw [hTT]; exact hg),fun g hg hl => .inl (hc'.block g hl fun hT => ?_),.inr (by omega)⟩,v',hn',fun g hg => (hg' g hg).imp id fun h => by omega,by omega⟩
      rcases hT with rfl | rfl | hT
      · exact hbI nums7.hdr (by decide) hg.symm
      · exact hmI hg.symm
      · exact hsep g hT.symm hg
     | _ => exact hr.elim
   conv => whnf
   refine Fc (Bh _ _ _ _ _) Aa rfl rfl (fun W h _ _ => Own.at_ (xs := [xI]) (o := 2) (hst6 h) rfl) (by rfl) fun _ => ?_
   conv => whnf
   refine ⟨fun W hS hDn hU => ?_,?_⟩
   · have := (hD W (hDn 5 (by kernel_rfl))).2.2
     omega
   refine Uh (Bh _ _ _ _ _) rfl rfl rfl rfl rfl (by decide) (fun b o W W' hb ho hS => hbears.new W W' b o hS hb ho) (fun W hS => hbears.size _ _ hS) fun q2 D2 hD2 => ?_
   conv => whnf
   refine ⟨fun W hS hDn hU => ?_,?_⟩
   · have := (hD W (hDn 5 (by kernel_rfl))).2.2
     omega
   refine Un (m := 1) (news := [.int .i64 (Aw A0.1 (s,0) : Nat)]) Aa hbears rfl rfl rfl rfl rfl rfl rfl (by decide) rI7 rfl (fun W hS hDn => Own.at_ (xs := [.int .i64 (Aw A0.1 (s,0) : Nat)]) (o := 0) (hD2 W (hDn 6 (by kernel_rfl))).1 rfl) rfl (by simp only [maxLen]; omega) (by show (_ + 1) * 8 ≤ _; omega) c7.size fun xI' D3 hD3 => ?_
   conv => whnf
   intro w11 hS11 hd11
   have hN11 := hD w11 (hd11 5)
   have hI11 := hD3 w11 (hd11 7)
   obtain ⟨nums11,hnew11,hsz11⟩ := hN11
   obtain ⟨rI11,hnewI⟩ := hI11
   have hfI := Ae rI11
   obtain ⟨ia',ic',hxi'⟩ := hfI
   subst hxi'
   have ob11 := hst6 hS11
   refine st Aa ob11 rfl (show 3 ≤ 5 by decide) rfl ?_
   intro w12 z12 c12 ob12
   have ob12 : Own w12 b6 29 [pv',.int .i64 0,.slice ia' (j + 1) ic',Ad,Ad] := ob12
   have n6 : ∀ {el size v n xs},w11.ownsRow w6.heap.size el size v n xs → ∀ g,v.ownBlock = some g → ¬ g = b6 := fun h g hg he => by
    have := Ah h hg
    omega
   have nums12 := nums11.chg c12 h56 (Ne.symm h6m) (n6 nums11.row)
   have rI12 := Ab rI11 c12 (n6 rI11)
   refine aw (by simp only; omega) (by simp only; omega) ?_
   refine again (j + 1,v',.slice ia' (j + 1) ic') ⟨rfl,rfl,rfl,rfl,rfl,rfl,rfl,rfl,rfl,rfl,trivial⟩ ⟨by simp only; omega,?_,?_,ob12,?_⟩ (by simp only; omega)
   · refine (c7.newT hS11.chg fun g hg => ?_).newT c12 fun g hg => .inl ((T6i _).2 (.inr (.inr hg)))
     rewrite [hTT] at hg
     rcases hg with (rfl | rfl | hg) | hg
     · exact .inl ((T6i _).2 (.inl rfl))
     · exact .inl ((T6i _).2 (.inr (.inl rfl)))
     · exact .inr (Ah nums7.row hg.symm)
     · exact .inr (Ah rI7 hg.symm)
   · simp only
     rw [hsnoc]
     exact nums12
   · simp only
     rw [hsnoc]
     show w12.ownsRow w6.heap.size 3 1 _ (j + 1) ((A0.2 ++ [_]).flatMap Ia)
     rw [List.flatMap_append]
     exact rI12
 · have hje : j = init.length := by simp only at hge; omega
   subst hje
   rewrite [List.take_length] at nums7 rI7
   have hobt_ : ∃ L0,L0 = (A9 init).1 := ⟨_,rfl⟩
   obtain ⟨L0,hL0⟩ := hobt_
   have hobt_ : ∃ I,I = (A9 init).2 := ⟨_,rfl⟩
   obtain ⟨I,hIe⟩ := hobt_
   have hIr : I = (List.range init.length).map fun (i : Nat) => (i : Int) := by rw [hIe,Bf hnd]
   have hIl : I.length = init.length := by rw [hIr]; simp
   rewrite [← hL0] at nums7
   rewrite [← hIe,← hIl] at rI7
   have hobt_ : ∃ vI,vI = xI := ⟨_,rfl⟩
   obtain ⟨vI,hvI⟩ := hobt_
   rewrite [← hvI] at ob7 rI7
   have hok0 : DOk n (2) (L0,[],[]) := ⟨nums7.nd,fun q hq => by
    have hq : q ∈ L0 := hq
    rewrite [hL0,Bf hnd] at hq
    have hobt_ := List.mem_map.1 hq
    obtain ⟨s,hs',rfl⟩ := hobt_
    have := hini s hs'
    exact ⟨this.1,this.2,Int.le_refl _,by show (0 : Int) < _; omega⟩⟩
   refine loop Aa (σ := Nat × Value × Value × Value) (fun t => [(3,pt b1 0),(4,pt ba 0),(5,pt bb 0),(6,pt b2 0),(8,pt b5 0),(9,pt b6 0),(10,.func (.func 90) #[] #[pt ba 0,pt bb 0]),(13,.int .i64 t.1)])
    (fun t V => t.1 ≤ (A5 sets (fr) (L0,[],[]) t.1).1.length ∧ Chg T6 w6 V ∧ NumV V w6.heap.size b5 m5 t.2.1 (A5 sets (fr) (L0,[],[]) t.1).1 ∧ Own V b6 29 [pv',.int .i64 0,vI,t.2.2.1,t.2.2.2] ∧ V.ownsRow w6.heap.size 3 1 vI I.length (I.flatMap Ia) ∧
      V.ownsRow w6.heap.size 67 4 t.2.2.1 (A5 sets (fr) (L0,[],[]) t.1).2.1.length ((A5 sets (fr) (L0,[],[]) t.1).2.1.flatMap Edge.cells) ∧ V.ownsRow w6.heap.size 3 1 t.2.2.2 (A5 sets (fr) (L0,[],[]) t.1).2.2.length ((A5 sets (fr) (L0,[],[]) t.1).2.2.flatMap Ia) ∧ ∀ g,vI.ownBlock = some g → t.2.2.2.ownBlock ≠ some g) (fun t => n * 2 - t.1) (0,xN,Ad,Ad)
    ⟨rfl,rfl,rfl,rfl,rfl,rfl,rfl,rfl,trivial⟩ ⟨Nat.zero_le _,c7,nums7,ob7,rI7,World.ownsRow_nil _ _ _ _,World.ownsRow_nil _ _ _ _,fun g _ h => by cases h⟩ ?_
   rintro ⟨i,vN,vE,vF⟩ eb wA ⟨hi1,cA,numsA,obA,rIA,rEA,rFA,hsepF⟩
   simp only at hi1 numsA obA rEA rFA hsepF
   have hDok := O3 hs2 hto' hok0 i
   have hDl := Ff (sets := sets) (fr := fr) (L0 := L0) (m := M) hM i
   have hLb := A6 hDok.nd hDok.box
   have hobt_ : ∃ D,D = A5 sets (fr) (L0,[],[]) i := ⟨_,rfl⟩
   obtain ⟨D,hDi⟩ := hobt_
   rewrite [← hDi] at hi1 numsA rEA rFA hDok hLb hDl
   obtain ⟨L,E,F⟩ := D
   simp only at hi1 numsA rEA rFA hLb hDl
   have hEb : E.length ≤ (n * 2) * M := Nat.le_trans hDl.1 (Nat.mul_le_mul_right _ (by omega))
   rewrite [Nat.add_mul,Nat.one_mul] at hMM
   have hfN := Ae numsA.row
   obtain ⟨na,nc,rfl⟩ := hfN
   refine ld Aa (Own.at_ (xs := [.slice na L.length nc]) (o := 1) numsA.hdr rfl) (by rfl) ?_
   refine sp (fun hlt => ?_) (fun hge => ?_)
   · refine ld Aa (Own.at_ (xs := [.bool false]) (o := 2) numsA.hdr rfl) (by rfl) ?_
     have hiL : i < L.length := by simp only at hlt; omega
     have hxi : L[i]? = some L[i] := by simp
     have hbxi := hDok.box L[i] (List.getElem_mem hiL)
     have hobt_ : ∃ pp,pp = L[i] := ⟨_,rfl⟩
     obtain ⟨pp,hpp⟩ := hobt_
     rewrite [← hpp] at hxi hbxi
     obtain ⟨pS,pW⟩ := pp
     obtain ⟨q1,q2,q3,q4⟩ := hbxi
     simp only at q1 q2 q3 q4
     have hobt_ : ∃ ps : Nat,pS = ps := ⟨pS.toNat,by omega⟩
     obtain ⟨ps,rfl⟩ := hobt_
     have hobt_ : ∃ pw : Nat,pW = pw := ⟨pW.toNat,by omega⟩
     obtain ⟨pw,rfl⟩ := hobt_
     have hpsn : ps < n := by omega
     have hpi := hxi
     have hrowN := Av (f := Ao) (fun _ => rfl) numsA.row (by decide)
     obtain ⟨_,_,e1',-,hrN⟩ := hrowN
     injection e1' with e1' _ e2'
     subst e1' e2'
     have hobt_ := hrN i _ hxi
     obtain ⟨qb,qo,rfl,-,-,cs0,-,hrd0,rfl⟩ := hobt_
     refine ld Aa (Own.at_ (xs := [.slice (some ⟨qb,qo,none⟩) L.length nc]) (o := 1) numsA.hdr rfl) (by rfl) ?_
     refine ne ⟨Int.natCast_nonneg _,Int.ofNat_lt.2 hiL⟩ ?_
     refine ld Aa (v := Bp ((ps : Nat),(pw : Nat))) (by rw [Int.toNat_natCast]; exact hrd0) (by rfl) ?_
     refine nd fun b11 wB eB zB kB mp => ?_
     refine st Aa (cs := [.int .i64 0,.int .i64 0]) mp rfl (Nat.le_refl 2) rfl ?_
     intro wC zC kC mp
     have mp : Own wC b11 136 [.int .i64 (ps : Nat),.int .i64 (pw : Nat)] := mp
     have kAC : Kp wA wC := kB.new eB kC
     have cC := cA.newT kAC fun _ hf => hf.elim
     have numsC := numsA.chg kAC id id fun _ _ => id
     have obC := kAC.own obA id
     have rIC := Ab rIA kAC fun _ _ => id
     have rEC := Ab rEA kAC fun _ _ => id
     have rFC := Ab rFA kAC fun _ _ => id
     have hobt_ : ∃ vN,vN = Value.slice (some ⟨qb,qo,none⟩) L.length nc := ⟨_,rfl⟩
     obtain ⟨vN,hvN⟩ := hobt_
     rewrite [← hvN] at numsC
     clear numsA obA rIA rEA rFA hrN hrd0
     refine ld Aa (Own.at_ (xs := [.int .i64 (pw : Nat)]) (o := 1) mp rfl) (by rfl) ?_
     refine ld Aa (v := Bp ((ps : Nat),(pw : Nat))) (Own.at_ (xs := [.int .i64 (ps : Nat),.int .i64 (pw : Nat)]) (o := 0) mp rfl) (by rfl) ?_
     have hexh : ∃ hb,Fd sets (((ps : Nat) : Int),((pw : Nat) : Int)) = hb := ⟨_,rfl⟩
     obtain ⟨hb,hhas⟩ := hexh
     cases hb
     focus
      have hh := Nm (hKF cC).1 (hKF cC).2 (hfa.chg (k1.trans (hK cC)) (fun _ _ _ h => h) (fun _ _ h => h)) (hfb.chg (k1.trans (hK cC)) (fun _ _ _ h => h) (fun _ _ h => h)) hla hlb hsa hsb hpsn (by omega) (hbn (by omega)) (c := pw) (by omega)
      rewrite [← hsets,hhas] at hh
      refine cl Jc hh ?_
      rintro _ wh ⟨rfl,kh⟩
      have cC := cC.newT kh fun _ hf => hf.elim
      have numsC := numsC.chg kh id id fun _ _ => id
      have obC := kh.own obC id
      have rIC := Ab rIC kh fun _ _ => id
      have rEC := Ab rEC kh fun _ _ => id
      have rFC := Ab rFC kh fun _ _ => id
      have mp := kh.own mp id
      refine ld Aa (Own.at_ (xs := [.int .i64 (pw : Nat)]) (o := 1) mp rfl) (by rfl) ?_
      by_cases hlast : pw = 1
      focus
       refine Dj (by omega) ?_
       refine ld Aa (v := Bp ((ps : Nat),(pw : Nat))) (Own.at_ (xs := [.int .i64 (ps : Nat),.int .i64 (pw : Nat)]) (o := 0) mp rfl) (by rfl) ?_
       have hh := Nm (hKF cC).1 (hKF cC).2 (hfa.chg (k1.trans (hK cC)) (fun _ _ _ h => h) (fun _ _ h => h)) (hfb.chg (k1.trans (hK cC)) (fun _ _ _ h => h) (fun _ _ h => h)) hla hlb hsa hsb hpsn (by omega) (hbn (by omega)) (c := pw) (by omega)
       rewrite [← hsets,hhas] at hh
       refine cl Jc hh ?_
       rintro _ wh ⟨rfl,kh⟩
       have cC := cC.newT kh fun _ hf => hf.elim
       have numsC := numsC.chg kh id id fun _ _ => id
       have obC := kh.own obC id
       have rIC := Ab rIC kh fun _ _ => id
       have rEC := Ab rEC kh fun _ _ => id
       have rFC := Ab rFC kh fun _ _ => id
       have mp := kh.own mp id
       have ob := obC
       have nums := numsC
       have rI := rIC
       have rE := rEC
       have rF := rFC
       have c5 := cC
       have K5 := hK c5
       have hdd : Be sets (((ps : Nat) : Int),((pw : Nat) : Int)) = (pw : Nat) := by unfold Be; rw [hhas,if_neg (by simp)]
       have hddr := Fm hs2 (p := (((ps : Nat) : Int),((pw : Nat) : Int))) ⟨q3,q4⟩
       rewrite [hdd] at hddr
       have hfl : F ++ (if B9 sets (((ps : Nat) : Int),((pw : Nat) : Int)) = true then [(i : Int)] else []) = F := by
        rw [show B9 sets (((ps : Nat) : Int),((pw : Nat) : Int)) = false from decide_eq_false (by rw [hhas]; simp [hs2])]
        simp
       have hjoin : ∃ (dd : Int) (vFx : Value) (Fx : List Int) (lo5 : Nat),((pw : Nat) : Int) = dd ∧ vF = vFx ∧ F = Fx ∧ lo5 = wh.heap.size := ⟨_,_,_,_,rfl,rfl,rfl,rfl⟩
       obtain ⟨dd,vFx,Fx,lo5,hDD,hVF,hFL,hlo5⟩ := hjoin
       have hdd := hdd.trans hDD
       have hfl := hfl.trans hFL
       rewrite [hDD] at hddr
       rewrite [hVF] at ob hsepF
       rewrite [hVF,hFL] at rF
      rotate_right
      focus
       refine Bs (by omega) ?_
       have ob := obC
       have nums := numsC
       have rI := rIC
       have rE := rEC
       have rF := rFC
       have c5 := cC
       have K5 := hK c5
       have hdd : Be sets (((ps : Nat) : Int),((pw : Nat) : Int)) = (pw : Nat) := by unfold Be; rw [hhas,if_neg (by simp)]
       have hddr := Fm hs2 (p := (((ps : Nat) : Int),((pw : Nat) : Int))) ⟨q3,q4⟩
       rewrite [hdd] at hddr
       have hfl : F ++ (if B9 sets (((ps : Nat) : Int),((pw : Nat) : Int)) = true then [(i : Int)] else []) = F := by
        rw [show B9 sets (((ps : Nat) : Int),((pw : Nat) : Int)) = false from decide_eq_false (by rw [hhas]; simp [hs2])]
        simp
       have hjoin : ∃ (dd : Int) (vFx : Value) (Fx : List Int) (lo5 : Nat),((pw : Nat) : Int) = dd ∧ vF = vFx ∧ F = Fx ∧ lo5 = wh.heap.size := ⟨_,_,_,_,rfl,rfl,rfl,rfl⟩
       obtain ⟨dd,vFx,Fx,lo5,hDD,hVF,hFL,hlo5⟩ := hjoin
       have hdd := hdd.trans hDD
       have hfl := hfl.trans hFL
       rewrite [hDD] at hddr
       rewrite [hVF] at ob hsepF
       rewrite [hVF,hFL] at rF
     rotate_right
     focus
      have hh := Nm (hKF cC).1 (hKF cC).2 (hfa.chg (k1.trans (hK cC)) (fun _ _ _ h => h) (fun _ _ h => h)) (hfb.chg (k1.trans (hK cC)) (fun _ _ _ h => h) (fun _ _ h => h)) hla hlb hsa hsb hpsn (by omega) (hbn (by omega)) (c := pw) (by omega)
      rewrite [← hsets,hhas] at hh
      refine cl Jc hh ?_
      rintro _ wh ⟨rfl,kh⟩
      have cC := cC.newT kh fun _ hf => hf.elim
      have numsC := numsC.chg kh id id fun _ _ => id
      have obC := kh.own obC id
      have rIC := Ab rIC kh fun _ _ => id
      have rEC := Ab rEC kh fun _ _ => id
      have rFC := Ab rFC kh fun _ _ => id
      have mp := kh.own mp id
      refine C3 (show _ = (((pw + 1) % 2 : Nat) : Int) by rw [As (by omega) (by omega)]; omega) ?_
      refine ld Aa (Own.at_ (xs := [.int .i64 (pw : Nat)]) (o := 1) mp rfl) (by rfl) ?_
      by_cases hlast : pw = 1
      focus
       refine Dj (by omega) ?_
       refine ld Aa (v := Bp ((ps : Nat),(pw : Nat))) (Own.at_ (xs := [.int .i64 (ps : Nat),.int .i64 (pw : Nat)]) (o := 0) mp rfl) (by rfl) ?_
       have hh := Nm (hKF cC).1 (hKF cC).2 (hfa.chg (k1.trans (hK cC)) (fun _ _ _ h => h) (fun _ _ h => h)) (hfb.chg (k1.trans (hK cC)) (fun _ _ _ h => h) (fun _ _ h => h)) hla hlb hsa hsb hpsn (by omega) (hbn (by omega)) (c := pw) (by omega)
       rewrite [← hsets,hhas] at hh
       refine cl Jc hh ?_
       rintro _ wh ⟨rfl,kh⟩
       have cC := cC.newT kh fun _ hf => hf.elim
       have numsC := numsC.chg kh id id fun _ _ => id
       have obC := kh.own obC id
       have rIC := Ab rIC kh fun _ _ => id
       have rEC := Ab rEC kh fun _ _ => id
       have rFC := Ab rFC kh fun _ _ => id
       have mp := kh.own mp id
       refine ld Aa (Own.at_ (xs := [vF]) (o := 4) obC rfl) (by rfl) ?_
       refine ne (by decide) ?_
       refine nd fun bz wE eE zE kE mq => ?_
       have mq : Own wE bz 3 [.int .i64 (i : Nat)] := mq
       have cC := cC.newT kE fun _ hf => hf.elim
       have numsC := numsC.chg kE id id fun _ _ => id
       have obC := kE.own obC id
       have rIC := Ab rIC kE fun _ _ => id
       have rEC := Ab rEC kE fun _ _ => id
       have rFC := Ab rFC kE fun _ _ => id
       have mp := kE.own mp id
       refine Yu (m := 1) (news := [.int .i64 (i : Nat)]) Aa rfl rfl rfl rfl rfl rfl rfl (by decide) rFC rfl (Own.at_ (xs := [.int .i64 (i : Nat)]) (o := 0) mq rfl) rfl (by simp only [maxLen]; omega) (by show (_ + 1) * 8 ≤ _; omega) cC.size fun vF' wG rFG cG hnewF => ?_
       have hff := Ae rFG
       obtain ⟨fa,fc,rfl⟩ := hff
       have hGF : ∀ {b t cs},Own wE b t cs → t ≠ 3 → ¬ some b = vF.ownBlock := fun {b t cs} ho ht he => Ai rFC ho (fun cs fr hh => by injection hh with _ h2; exact ht h2) he.symm
       have hobt_ := id numsC.map.h
       obtain ⟨esG,clkG,hmG,-⟩ := hobt_
       have obG := cG.own obC (hGF obC (by decide))
       have mpG := cG.own mp (hGF mp (by decide))
       have numsG := numsC.chg cG (hGF numsC.hdr (by decide)) (fun he => Ai rFC hmG (fun cs fr hh => by cases hh) he.symm) (fun g hg he => Aq numsC.row rFC (by decide) g hg he.symm)
       have rIG := Ab rIC cG fun g hg he => hsepF g hg he.symm
       have rEG := Ab rEC cG fun g hg he => Aq rEC rFC (by decide) g hg he.symm
       refine st Aa obG rfl (show 5 ≤ 5 by decide) rfl ?_
       intro wH zH cH obH
       have hobt_ : ∃ vF2,vF2 = Value.slice fa (F.length + 1) fc := ⟨_,rfl⟩
       obtain ⟨vF2,hvF2⟩ := hobt_
       rewrite [← hvF2] at rFG hnewF
       have obH : Own wH b6 29 [pv',.int .i64 0,vI,vE,.slice fa (F.length + 1) fc] := obH
       rewrite [← hvF2] at obH
       have ob := obH
       have n6 : ∀ {el size v n xs},wG.ownsRow w6.heap.size el size v n xs → ∀ g,v.ownBlock = some g → ¬ g = b6 := fun h g hg he => by
        have := Ah h hg
        omega
       have h6m : b6 ≠ m5 := numsG.map.ne obG
       have h56 : b5 ≠ b6 := A2 numsG.hdr obG (by decide)
       have nums := numsG.chg cH h56 (Ne.symm h6m) (n6 numsG.row)
       have rI := Ab rIG cH (n6 rIG)
       have rE := Ab rEG cH (n6 rEG)
       have rF0 := Ab rFG cH (n6 rFG)
       have rF : wH.ownsRow w6.heap.size 3 1 vF2 (F ++ [(i : Int)]).length ((F ++ [(i : Int)]).flatMap Ia) := by
        rw [List.length_append,List.flatMap_append]
        exact rF0
       have mp := cH.own mpG (fun he => by subst he; exact A2 mpG obG (by decide) rfl)
       have c5 := (cC.newT cG fun g hg => .inr (Ah rFC hg.symm)).newT cH fun g hg => .inl (by rw [T6i]; exact .inr (.inr hg))
       have K5 := hK c5
       have hsepF : ∀ g,vI.ownBlock = some g → vF2.ownBlock ≠ some g := fun g hg he => by
        rcases hnewF g he with h1 | h1
        · exact hsepF g hg h1
        · have := (rIC.lt g hg).2; omega
       have hdd : Be sets (((ps : Nat) : Int),((pw : Nat) : Int)) = (((pw + 1) % 2 : Nat) : Int) := by unfold Be; rw [if_pos ⟨by omega,hhas⟩,hs2]; rfl
       have hddr := Fm hs2 (p := (((ps : Nat) : Int),((pw : Nat) : Int))) ⟨q3,q4⟩
       rewrite [hdd] at hddr
       have hfl : F ++ (if B9 sets (((ps : Nat) : Int),((pw : Nat) : Int)) = true then [(i : Int)] else []) = F ++ [(i : Int)] := by
        rw [show B9 sets (((ps : Nat) : Int),((pw : Nat) : Int)) = true from decide_eq_true (.inr ⟨by show ((pw : Nat) : Int) + 1 = _; omega,hhas⟩)]
        simp
       have hjoin : ∃ (dd : Int) (vFx : Value) (Fx : List Int) (lo5 : Nat),((((pw + 1) % 2 : Nat) : Int) : Int) = dd ∧ vF2 = vFx ∧ F ++ [(i : Int)] = Fx ∧ lo5 = wH.heap.size := ⟨_,_,_,_,rfl,rfl,rfl,rfl⟩
       obtain ⟨dd,vFx,Fx,lo5,hDD,hVF,hFL,hlo5⟩ := hjoin
       have hdd := hdd.trans hDD
       have hfl := hfl.trans hFL
       rewrite [hDD] at hddr
       rewrite [hVF] at ob hsepF
       rewrite [hVF,hFL] at rF
      rotate_right
      focus
       refine Bs (by omega) ?_
       have ob := obC
       have nums := numsC
       have rI := rIC
       have rE := rEC
       have rF := rFC
       have c5 := cC
       have K5 := hK c5
       have hdd : Be sets (((ps : Nat) : Int),((pw : Nat) : Int)) = (((pw + 1) % 2 : Nat) : Int) := by unfold Be; rw [if_pos ⟨by omega,hhas⟩,hs2]; rfl
       have hddr := Fm hs2 (p := (((ps : Nat) : Int),((pw : Nat) : Int))) ⟨q3,q4⟩
       rewrite [hdd] at hddr
       have hfl : F ++ (if B9 sets (((ps : Nat) : Int),((pw : Nat) : Int)) = true then [(i : Int)] else []) = F := by
        rw [show B9 sets (((ps : Nat) : Int),((pw : Nat) : Int)) = false from decide_eq_false (by rintro (h | ⟨h,-⟩); exact absurd h (by omega); exact hlast (by have h : ((pw : Nat) : Int) + 1 = _ := h; omega))]
        simp
       have hjoin : ∃ (dd : Int) (vFx : Value) (Fx : List Int) (lo5 : Nat),((((pw + 1) % 2 : Nat) : Int) : Int) = dd ∧ vF = vFx ∧ F = Fx ∧ lo5 = wh.heap.size := ⟨_,_,_,_,rfl,rfl,rfl,rfl⟩
       obtain ⟨dd,vFx,Fx,lo5,hDD,hVF,hFL,hlo5⟩ := hjoin
       have hdd := hdd.trans hDD
       have hfl := hfl.trans hFL
       rewrite [hDD] at hddr
       rewrite [hVF] at ob hsepF
       rewrite [hVF,hFL] at rF
     all_goals
      refine ld Aa (Own.at_ (xs := [.func (.func 34) #[] #[pt bx 0,pt bq 0,pt by_ 0]]) (o := 2) (K5.own mb id) rfl) (by rfl) ?_
      refine ld Aa (Own.at_ (xs := [.int .i64 (ps : Nat)]) (o := 0) mp rfl) (by rfl) ?_
      have hby := hfr _ (k1.trans K5) ps hpsn
      have hobt_ : ∃ l,l = fr (ps : Int) := ⟨_,rfl⟩
      obtain ⟨l,hl⟩ := hobt_
      rewrite [← hl] at hby
      refine cl Yo hby ?_
      rintro r0 w7 ⟨k7,hER⟩
      obtain ⟨ra,rc,hr0,hrc,hre⟩ := hER
      subst hr0
      have hll : l.length ≤ M := by rw [hl]; exact hM _
      have hlm : ∀ e ∈ l,0 ≤ e.to ∧ e.to < n := fun e he => hto' _ e (by rewrite [hl] at he; exact he)
      rewrite [← hlo5] at hre
      have hoN0 : ∀ g,vN.ownBlock = some g → g < lo5 ∨ w7.heap.size ≤ g := fun g hg => .inl (by rw [hlo5]; exact (nums.row.lt g hg).2)
      have hoE0 : ∀ g,vE.ownBlock = some g → g < lo5 ∨ w7.heap.size ≤ g := fun g hg => .inl (by rw [hlo5]; exact (rE.lt g hg).2)
      have hlow5 : b5 < lo5 ∧ m5 < lo5 ∧ b6 < lo5 := by rw [hlo5]; exact ⟨nums.hdr.lt,nums.map.lt,ob.lt⟩
      have c7 := c5.newT k7 fun _ hf => hf.elim
      have nums7 := nums.chg k7 id id fun _ _ => id
      have ob7 := k7.own ob id
      have rI7 := Ab rI k7 fun _ _ => id
      have rE7 := Ab rE k7 fun _ _ => id
      have rF7 := Ab rF k7 fun _ _ => id
      refine loop Aa (σ := Nat × Value × Value) (fun t => [(3,pt b1 0),(4,pt ba 0),(5,pt bb 0),(6,pt b2 0),(8,pt b5 0),(9,pt b6 0),(10,.func (.func 90) #[] #[pt ba 0,pt bb 0]),(13,.int .i64 i),(15,.int .i64 dd),(91,.slice ra l.length rc),(92,.int .i64 l.length),(93,.int .i64 t.1)])
       (fun t V => t.1 ≤ l.length ∧ Chg T6 w6 V ∧ w7.heap.size ≤ V.heap.size ∧ (∀ g,lo5 ≤ g → g < w7.heap.size → V.heap[g]? = w7.heap[g]?) ∧ (∀ g,t.2.1.ownBlock = some g → g < lo5 ∨ w7.heap.size ≤ g) ∧ (∀ g,t.2.2.ownBlock = some g → g < lo5 ∨ w7.heap.size ≤ g) ∧ NumV V w6.heap.size b5 m5 t.2.1 (Ba i dd (L,E) (l.take t.1)).1 ∧ Own V b6 29 [pv',.int .i64 0,vI,t.2.2,vFx] ∧ V.ownsRow w6.heap.size 3 1 vI I.length (I.flatMap Ia) ∧ V.ownsRow w6.heap.size 67 4 t.2.2 (Ba i dd (L,E) (l.take t.1)).2.length ((Ba i dd (L,E) (l.take t.1)).2.flatMap Edge.cells) ∧ V.ownsRow w6.heap.size 3 1 vFx Fx.length (Fx.flatMap Ia)) (fun t => l.length - t.1) (0,vN,vE)
       ⟨rfl,rfl,rfl,rfl,rfl,rfl,rfl,rfl,congrArg (Value.int .i64) hDD,rfl,rfl,rfl,trivial⟩ ⟨by simp only; omega,c7,Nat.le_refl _,(fun _ _ _ => rfl),hoN0,hoE0,nums7,ob7,rI7,rE7,rF7⟩ ?_
      rintro ⟨j,xN,xE⟩ e2 w8 ⟨hj,c8,z8,kp8,oN8,oE8,nums8,ob8,rI8,rE8,rF8⟩
      simp only at hj nums8 ob8 rE8 oN8 oE8
      have hobt_ : ∃ R,R = Ba i dd (L,E) (l.take j) := ⟨_,rfl⟩
      obtain ⟨R,hR⟩ := hobt_
      rewrite [← hR] at nums8 rE8
      refine sp (fun hlt => ?_) (fun hge => ?_)
      · have hj' : j < l.length := by simp only at hlt; omega
        have hxj : l[j]? = some l[j] := by simp
        have hobt_ : ∃ e,e = l[j] := ⟨_,rfl⟩
        obtain ⟨e,he⟩ := hobt_
        rewrite [← he] at hxj
        have heto := hlm e (List.mem_of_getElem? hxj)
        have hobt_ := hre j e hxj
        obtain ⟨q,o,rfl,hq1,hq2,cs,-,hrd,rfl,-⟩ := hobt_
        have hsnoc : Ba i dd (L,E) (l.take (j + 1)) = G4 i dd R e := by
         rw [List.take_succ_eq_append_getElem hj',Ey,← hR,he]
        have hok := Cm (n := n) (k := 2) (i := i) hddr (l.take j) (L,E) (fun x hx => hlm x (List.mem_of_mem_take hx)) hDok.nd hDok.box
        rewrite [← hR] at hok
        have hRl := A6 hok.1 hok.2.1
        have hRE : R.2.length ≤ (n * 2) * M + M := by
         have h3 := hok.2.2
         simp only [List.length_take] at h3
         omega
        have hpI : G7 e.to ∧ G7 (e.to,(dd : Int)).2 := ⟨⟨by omega,by omega⟩,⟨by show _ ≤ (dd : Int); omega,by show (dd : Int) ≤ _; omega⟩⟩
        refine ne ⟨by simp only; omega,by simp only; omega⟩ ?_
        refine ld Aa (v := e.val) (by rw [Int.toNat_natCast]; exact Ku hrd (kp8 q hq1 hq2)) (by rfl) ?_
        refine nd fun b14 w9 e9 z9 k9 m14 => ?_
        refine st Aa (cs := [.int .i64 0,.int .i64 0,.int .u16 0,.int .u16 0]) m14 rfl (Nat.le_refl 4) rfl ?_
        intro w10 z10 k10 m14
        have m14 : Own w10 b14 67 e.cells := m14
        have k810 : Kp w8 w10 := k9.new e9 k10
        have nums10 := nums8.chg k810 id id fun _ _ => id
        have ob10 := k810.own ob8 id
        have rI10 := Ab rI8 k810 fun _ _ => id
        have rE10 := Ab rE8 k810 fun _ _ => id
        have rF10 := Ab rF8 k810 fun _ _ => id
        have hsep := Aq nums10.row rE10 (by decide)
        have hm5 := nums10.map.h
        obtain ⟨es5,clk5,hm5,-⟩ := hm5
        have hbE : ∀ {b t cs},Own w10 b t cs → t ≠ 67 → some b ≠ xE.ownBlock := fun {b t cs} ho ht he => Ai rE10 ho (fun cs fr hh => by injection hh with _ h2; exact ht h2) he.symm
        have hmE : some m5 ≠ xE.ownBlock := fun he => Ai rE10 hm5 (fun cs fr hh => by cases hh) he.symm
        have hltE8 : ∀ g,xE.ownBlock = some g → g < w8.heap.size := fun g hg => (rE8.lt g hg).2
        have hltN8 : ∀ g,xN.ownBlock = some g → g < w8.heap.size := fun g hg => (nums8.row.lt g hg).2
        have hlt14 : w8.heap.size = b14 := e9
        have hbN : ∀ {b t cs},Own w10 b t cs → t ≠ 136 → some b ≠ xN.ownBlock := fun {b t cs} ho ht he => Ai nums10.row ho (fun cs fr hh => by injection hh with _ h2; exact ht h2) he.symm
        have hobt_ : ∃ TT : Nat → Prop,TT = fun g => g = b5 ∨ g = m5 ∨ some g = xN.ownBlock := ⟨_,rfl⟩
        obtain ⟨TT,hTT⟩ := hobt_
        have h5lt := nums10.hdr.lt
        have hm5lt := nums10.map.lt
        have h5m : b5 ≠ m5 := nums10.map.ne nums10.hdr
        have h6m : b6 ≠ m5 := nums10.map.ne ob10
        have h56 : b5 ≠ b6 := A2 nums10.hdr ob10 (by decide)
        have hbears := CAppR.bears (T := TT) (w0 := w10) (v := xE) (k := R.2.length * 4) (news := Edge.cells ⟨i,(Aw R.1 (e.to,(dd : Int)) : Nat),e.must,e.no⟩) (fun g hg => (rE10.lt g hg).2) (fun g hg => by
         rewrite [hTT] at hg
         rcases hg with rfl | rfl | hg
         · exact h5lt
         · exact hm5lt
         · exact (nums10.row.lt g hg.symm).2) (fun g hg => by
         rewrite [hTT] at hg
         rcases hg with rfl | rfl | hg
         · exact fun he => hbE nums10.hdr (by decide) he.symm
         · exact fun he => hmE he.symm
         · exact fun he => hsep g hg.symm he)
        have hst6 : ∀ {W},CAppR TT w10 xE (R.2.length * 4) (Edge.cells ⟨i,(Aw R.1 (e.to,(dd : Int)) : Nat),e.must,e.no⟩) w10 W → ∀ {b t cs},Own w10 b t cs → t ≠ 67 → t ≠ 136 → b ≠ b5 → b ≠ m5 → Own W b t cs := fun {W} hS {b t cs} ho h1 h2 h3 h4 => hS.chg.own ho fun hT => by
         rewrite [hTT] at hT
         rcases hT with (rfl | rfl | hT) | hT
         · exact h3 rfl
         · exact h4 rfl
         · exact hbN ho h2 hT
         · exact hbE ho h1 hT
        have hst14 : ∀ {W},CAppR TT w10 xE (R.2.length * 4) (Edge.cells ⟨i,(Aw R.1 (e.to,(dd : Int)) : Nat),e.must,e.no⟩) w10 W → Own W b14 67 e.cells := fun {W} hS => hS.chg.own m14 fun hT => by
         rewrite [hTT] at hT
         rcases hT with (rfl | rfl | hT) | hT
         · have := nums8.hdr.lt; omega
         · have := nums8.map.lt; omega
         · have := hltN8 _ hT.symm; omega
         · have := hltE8 _ hT.symm; omega
        refine Gm Aa mixed 17 [3,4,5,6,7,8,0,1,2,9,10,11,12,13,14,15,16] (by kernel_rfl) (CAppR TT w10 xE (R.2.length * 4) (Edge.cells ⟨i,(Aw R.1 (e.to,(dd : Int)) : Nat),e.must,e.no⟩)) (Bh _ _ _ _ _) (fun W => W.heap.size = w10.heap.size ∧ Kp w10 W) 8 ⟨rfl,(Chg.refl _ _).drew⟩ ?_
        conv => whnf
        refine Fc (Bh _ _ _ _ _) Aa rfl rfl (fun W h _ _ => Own.at_ (xs := [.int .i64 e.to]) (o := 1) (hst14 h) rfl) (by rfl) fun _ => ?_
        conv => whnf
        refine Jp (τ := Value) (hne := ⟨undef⟩) (.int .i64 (Aw R.1 (e.to,(dd : Int)) : Nat)) (fun v' W => NumV W w6.heap.size b5 m5 v' (B7 R.1 (e.to,(dd : Int))) ∧ (∀ g,v'.ownBlock = some g → xN.ownBlock = some g ∨ w10.heap.size ≤ g) ∧ w10.heap.size < W.heap.size) rfl rfl rfl (fun v' W W' hFv hS => ?_) Ja (fun W hS _ hU => ?_) fun v' D hD => ?_
        · obtain ⟨f1,f2,f3⟩ := hFv
          have honce := hS.once.resolve_right (by omega)
          have hnE : ∀ g,v'.ownBlock = some g → xE.ownBlock ≠ some g := fun g hg he => by
           rcases f2 g hg with h1 | h1
           · exact hsep g h1 he
           · have := (rE10.lt g he).2; omega
          refine ⟨⟨?_,?_,?_,Nat.le_trans f1.base hS.chg.size,f1.nd⟩,f2,by have := hS.chg.size; omega⟩
          · exact (honce b5 (by rw [hTT]; exact .inl rfl) f1.hdr.lt).trans f1.hdr
          · exact Hh f1.map (honce m5 (by rw [hTT]; exact .inr (.inl rfl)) f1.map.lt)
          · refine El f1.row fun g hg => ?_
            rcases f2 g hg with h1 | h1
            · exact honce g (by rw [hTT]; exact .inr (.inr h1.symm)) (f1.row.lt g hg).2
            · exact hS.chg.block g (f1.row.lt g hg).2 fun hT => by
               rewrite [hTT] at hT
               rcases hT with (rfl | rfl | hT) | hT
               · omega
               · omega
               · have := (nums10.row.lt g hT.symm).2; omega
               · have := (rE10.lt g hT.symm).2; omega
        · obtain ⟨hU1,hU2⟩ := hU
          refine (Qh (nums10.chg hU2 id id fun _ _ => id) (p := (e.to,(dd : Int))) hpI.1 hpI.2 (by omega)).mono fun en W' hr => ?_
          cases en with
          | returned v =>
           obtain ⟨rfl,v',hn',hc',hg',hs'⟩ := hr
           refine ⟨rfl,⟨hc'.mono fun g hg => .inl (by rw [hTT]; exact hg),fun g hg hl => .inl (hc'.block g hl fun hT => ?_),.inr (by omega)⟩,v',hn',fun g hg => (hg' g hg).imp id fun h => by omega,by omega⟩
           rcases hT with rfl | rfl | hT
           · exact hbE nums10.hdr (by decide) hg.symm
           · exact hmE hg.symm
           · exact hsep g hT.symm hg
          | _ => exact hr.elim
        conv => whnf
        refine Fc (Bh _ _ _ _ _) Aa rfl rfl (fun W h _ _ => Own.at_ (xs := [xE]) (o := 3) (hst6 h ob10 (by decide) (by decide) (Ne.symm h56) h6m) rfl) (by rfl) fun _ => ?_
        conv => whnf
        refine Fc (Bh _ _ _ _ _) Aa rfl rfl (fun W h _ _ => Own.at_ (xs := [.int .u16 e.must]) (o := 2) (hst14 h) rfl) (by rfl) fun _ => ?_
        conv => whnf
        refine Fc (Bh _ _ _ _ _) Aa rfl rfl (fun W h _ _ => Own.at_ (xs := [.int .u16 e.no]) (o := 3) (hst14 h) rfl) (by rfl) fun _ => ?_
        conv => whnf
        refine ⟨fun W hS hDn hU => ?_,?_⟩
        · have := (hD W (hDn 8 (by kernel_rfl))).2.2
          omega
        refine Uh (Bh _ _ _ _ _) rfl rfl rfl rfl rfl (by decide) (fun b o W W' hb ho hS => hbears.new W W' b o hS hb ho) (fun W hS => hbears.size _ _ hS) fun q2 D2 hD2 => ?_
        conv => whnf
        refine ⟨fun W hS hDn hU => ?_,?_⟩
        · have := (hD W (hDn 8 (by kernel_rfl))).2.2
          omega
        refine Un (m := 1) (news := Edge.cells ⟨i,(Aw R.1 (e.to,(dd : Int)) : Nat),e.must,e.no⟩) Aa hbears rfl rfl rfl rfl rfl rfl rfl (by decide) rE10 rfl (fun W hS hDn => Own.at_ (xs := Edge.cells ⟨i,(Aw R.1 (e.to,(dd : Int)) : Nat),e.must,e.no⟩) (o := 0) (hD2 W (hDn 14 (by kernel_rfl))).1 rfl) rfl (by simp only [maxLen]; omega) (by show (_ + 1) * 24 ≤ _; omega) (by have := c8.size; have := k810.size; omega) fun xE' D3 hD3 => ?_
        conv => whnf
        intro w11 hS11 hd11
        have hN11 := hD w11 (hd11 8)
        have hE11 := hD3 w11 (hd11 15)
        obtain ⟨nums11,hnew11,hsz11⟩ := hN11
        obtain ⟨rE11,hnewE⟩ := hE11
        have hfE := Ae rE11
        obtain ⟨ea',ec',rfl⟩ := hfE
        have ob11 := hst6 hS11 ob10 (by decide) (by decide) (Ne.symm h56) h6m
        have hI11 : ∀ g,vI.ownBlock = some g → ¬ (TT g ∨ some g = xE.ownBlock) := fun g hg hT => by
         rewrite [hTT] at hT
         rcases hT with (rfl | rfl | hT) | hT
         · exact Ai rI10 nums10.hdr (fun cs fr hh => by injection hh with _ h2; exact absurd h2 (by decide)) hg
         · exact Ai rI10 hm5 (fun cs fr hh => by cases hh) hg
         · exact Aq nums10.row rI10 (by decide) g hT.symm hg
         · exact Aq rE10 rI10 (by decide) g hT.symm hg
        have hF11 : ∀ g,(vFx).ownBlock = some g → ¬ (TT g ∨ some g = xE.ownBlock) := fun g hg hT => by
         rewrite [hTT] at hT
         rcases hT with (rfl | rfl | hT) | hT
         · exact Ai rF10 nums10.hdr (fun cs fr hh => by injection hh with _ h2; exact absurd h2 (by decide)) hg
         · exact Ai rF10 hm5 (fun cs fr hh => by cases hh) hg
         · exact Aq nums10.row rF10 (by decide) g hT.symm hg
         · exact Aq rE10 rF10 (by decide) g hT.symm hg
        have rI11 := Ab rI10 hS11.chg hI11
        have rF11 := Ab rF10 hS11.chg hF11
        refine st Aa ob11 rfl (show 4 ≤ 5 by decide) rfl ?_
        intro w12 z12 c12 ob12
        have ob12 : Own w12 b6 29 [pv',.int .i64 0,vI,.slice ea' (R.2.length + 1) ec',vFx] := ob12
        have hb6N : b6 ≠ b5 := Ne.symm h56
        have n6 : ∀ {el size v n xs},w11.ownsRow w6.heap.size el size v n xs → ∀ g,v.ownBlock = some g → ¬ g = b6 := fun h g hg he => by
         have := Ah h hg
         have := hb6lt
         omega
        have nums12 := nums11.chg c12 h56 (Ne.symm h6m) (n6 nums11.row)
        have rI12 := Ab rI11 c12 (n6 rI11)
        have rE12 := Ab rE11 c12 (n6 rE11)
        have rF12 := Ab rF11 c12 (n6 rF11)
        refine aw (by simp only; omega) (by simp only; omega) ?_
        refine again (j + 1,v',.slice ea' (R.2.length + 1) ec') ⟨rfl,rfl,rfl,rfl,rfl,rfl,rfl,rfl,rfl,rfl,rfl,rfl,trivial⟩ ⟨by simp only; omega,?_,?_,?_,?_,?_,?_,ob12,rI12,?_,rF12⟩ (by simp only; omega)
        · refine ((c8.newT k810 fun _ hf => hf.elim).newT hS11.chg fun g hg => ?_).newT c12 fun g hg => .inl ((T6i _).2 (.inr (.inr hg)))
          rewrite [hTT] at hg
          rcases hg with (rfl | rfl | hg) | hg
          · exact .inl ((T6i _).2 (.inl rfl))
          · exact .inl ((T6i _).2 (.inr (.inl rfl)))
          · exact .inr (Ah nums10.row hg.symm)
          · exact .inr (Ah rE10 hg.symm)
        · have := k810.size; have := hS11.chg.size; have := c12.size; omega
        · intro g hg1 hg2
          have hg8 : g < w8.heap.size := by omega
          have hg10 : g < w10.heap.size := by have := k810.size; omega
          have hg11 : g < w11.heap.size := by have := hS11.chg.size; omega
          rw [c12.block g hg11 (by omega),hS11.chg.block g hg10 (fun hT => by
           rewrite [hTT] at hT
           rcases hT with (hT | hT | hT) | hT
           · omega
           · omega
           · rcases oN8 g hT.symm with h | h <;> omega
           · rcases oE8 g hT.symm with h | h <;> omega),k810.block g hg8 id,kp8 g hg1 hg2]
        · intro g hg
          rcases hnew11 g hg with h | h
          · exact oN8 g h
          · have := k810.size; exact .inr (by omega)
        · intro g hg
          rcases hnewE g hg with h | h
          · exact oE8 g h
          · have := k810.size; exact .inr (by omega)
        · simp only
          rw [hsnoc]
          exact nums12
        · simp only
          rw [hsnoc]
          show w12.ownsRow w6.heap.size 67 4 _ (R.2 ++ [_]).length ((R.2 ++ [_]).flatMap Edge.cells)
          rw [List.length_append,List.flatMap_append]
          exact rE12
      · have hje : j = l.length := by simp only at hge; omega
        subst hje
        rewrite [List.take_length] at hR
        have hDn : A5 sets (fr) (L0,[],[]) (i + 1) = (R.1,R.2,Fx) := by
         show Gh sets (fr) i (A5 sets (fr) (L0,[],[]) i) = _
         rw [← hDi]
         unfold Gh
         rw [hpi]
         simp only
         rw [hdd,← hl,← hR,hfl]
        have hle := Oj
        have hRlen : i + 1 ≤ R.1.length := by
         have h1 := Dy i dd l (L,E)
         rewrite [← hR] at h1
         have h2 := (List.getElem?_eq_some_iff.1 hpi).1
         simp only at h1
         omega
        have hRb : R.1.length ≤ n * 2 := by
         have h1 := O3 hs2 hto' hok0 (i + 1)
         rewrite [hDn] at h1
         exact A6 h1.nd h1.box
        refine aw (by omega) (by omega) ?_
        refine again (i + 1,xN,xE,vFx) ⟨rfl,rfl,rfl,rfl,rfl,rfl,rfl,rfl,trivial⟩ ⟨?_,c8,?_,?_,?_,?_,?_,?_⟩ (by simp only; omega)
        all_goals (try simp only)
        all_goals (try rw [hDn])
        all_goals first
         | exact hRlen
         | exact nums8
         | exact ob8
         | exact rI8
         | exact rE8
         | exact rF8
         | exact hsepF
   · have hiL : L.length ≤ i := by simp only at hge; omega
     have hstop := E5 (sets := sets) (fr := fr) (st0 := (L0,[],[])) (i := i) (by rw [← hDi]; exact hiL) (n * 2) (by omega)
     rewrite [← hDi] at hstop
     have hobt_ : ∃ g0,g0 = Cf props init sets (fr) (n * 2) := ⟨_,rfl⟩
     obtain ⟨g0,hg0⟩ := hobt_
     have hgd : g0 = { props := props,states := (L.length : Nat),init := I,edges := Br (Bj E),final := F } := by
      rw [hg0]
      unfold Cf
      rw [← hL0,← hIe,hstop]
     have hfI := Ae rIA
     obtain ⟨jva,jvc,hfI⟩ := hfI
     have hfF := Ae rFA
     obtain ⟨lva,lvc,hfF⟩ := hfF
     have hfE := Ae rEA
     obtain ⟨kva,kvc,hfE⟩ := hfE
     subst hfI hfF hfE
     refine ld Aa (Own.at_ (xs := [.bool false]) (o := 2) numsA.hdr rfl) (by rfl) ?_
     refine ld Aa (Own.at_ (xs := [.slice na L.length nc]) (o := 1) numsA.hdr rfl) (by rfl) ?_
     refine st Aa obA rfl (show 2 ≤ 5 by decide) rfl ?_
     intro wB zB cB obB
     have obB : Own wB b6 29 [pv',.int .i64 (L.length : Nat),.slice jva I.length jvc,.slice kva E.length kvc,.slice lva F.length lvc] := obB
     have n6 : ∀ {el size v n xs},wA.ownsRow w6.heap.size el size v n xs → ∀ g,v.ownBlock = some g → ¬ g = b6 := fun h g hg he => by
      have := Ah h hg
      omega
     have rIB := Ab rIA cB (n6 rIA)
     have rEB := Ab rEA cB (n6 rEA)
     have rFB := Ab rFA cB (n6 rFA)
     have hb6 : T6 b6 := (T6i _).2 (.inr (.inr rfl))
     have cB6 := cA.newT cB fun g hg => .inl (by rw [hg]; exact hb6)
     refine ld Aa (Own.at_ (xs := [.slice jva I.length jvc]) (o := 2) obB rfl) (by rfl) ?_
     have hso := Ny rIB (by omega)
     refine cl Ll hso ?_
     rintro _ wC ⟨cC,rIC⟩
     have hIs : (I.mergeSort fun x y => decide (x ≤ y)) = I := List.mergeSort_of_pairwise (by
      rw [hIr,List.pairwise_map]
      exact List.pairwise_lt_range.imp fun h => by simpa using Nat.le_of_lt h)
     rewrite [hIs] at rIC
     have d1 : ∀ {g},some g = (Value.slice jva I.length jvc).ownBlock → w6.heap.size ≤ g := fun {g} hg => Ah rIB hg.symm
     have cC6 := cB6.newT cC fun g hg => .inr (d1 hg)
     have obC := cC.own obB fun he => by have := d1 he; omega
     have rEC := Ab rEB cC fun g hg he => Aq rEB rIB (by decide) g hg he.symm
     have rFC := Ab rFB cC fun g hg he => hsepF g he.symm hg
     have n6' : ∀ {W : World} {el size v n xs},W.ownsRow w6.heap.size el size v n xs → ∀ g,v.ownBlock = some g → ¬ g = b6 := fun h g hg he => by
      have := Ah h hg
      omega
     have cE6 := cC6
     have obE := obC
     have rIE := rIC
     have rEE := rEC
     have rFE := rFC
     refine ld Aa (Own.at_ (xs := [.slice kva E.length kvc]) (o := 3) obE rfl) (by rfl) ?_
     have hse := Ie rEE (by omega)
     refine cl G6 hse ?_
     rintro _ wF ⟨cF,rEF⟩
     have d2 : ∀ {g},some g = (Value.slice kva E.length kvc).ownBlock → w6.heap.size ≤ g := fun {g} hg => Ah rEE hg.symm
     have cF6 := cE6.newT cF fun g hg => .inr (d2 hg)
     have obF := cF.own obE fun he => by have := d2 he; omega
     have rIF := Ab rIE cF fun g hg he => Aq rEE rIE (by decide) g he.symm hg
     have rFF := Ab rFE cF fun g hg he => Aq rEE rFE (by decide) g he.symm hg
     refine ld Aa (Own.at_ (xs := [.slice kva E.length kvc]) (o := 3) obF rfl) (by rfl) ?_
     have hsel : (Bj E).length = E.length := List.length_mergeSort _
     have hco : Calls prog 37 [.slice kva E.length kvc].toArray wF _ := Ke (v := .slice kva E.length kvc) (xs := Bj E) (by rw [hsel]; exact rEF) (by omega)
     refine cl H3 hco ?_
     rintro rE' wG ⟨cG,rEG,hown⟩
     have hfG := Ae rEG
     obtain ⟨gva,gvc,hfG⟩ := hfG
     subst hfG
     have cG6 := cF6.newT cG fun g hg => .inr (d2 hg)
     have obG := cG.own obF fun he => by have := d2 he; omega
     have rIG := Ab rIF cG fun g hg he => Aq rEE rIE (by decide) g he.symm hg
     have rFG := Ab rFF cG fun g hg he => Aq rEE rFE (by decide) g he.symm hg
     refine st Aa obG rfl (show 4 ≤ 5 by decide) rfl ?_
     intro wH zH cH obH
     have obH : Own wH b6 29 [pv',.int .i64 (L.length : Nat),.slice jva I.length jvc,.slice gva (Br (Bj E)).length gvc,.slice lva F.length lvc] := obH
     have cH6 := cG6.newT cH fun g hg => .inl (by rw [hg]; exact hb6)
     have rIH := Ab rIG cH (n6' rIG)
     have rEH := Ab rEG cH (n6' rEG)
     have rFH := Ab rFG cH (n6' rFG)
     subst hpv'
     refine ld Aa (v := .agg #[.slice ca props.length cc,.int .i64 (L.length : Nat),.slice jva I.length jvc,.slice gva (Br (Bj E)).length gvc,.slice lva F.length lvc]) (Own.at_ (xs := [.slice ca props.length cc,.int .i64 (L.length : Nat),.slice jva I.length jvc,.slice gva (Br (Bj E)).length gvc,.slice lva F.length lvc]) (o := 0) obH rfl) (by rfl) ?_
     have k26 : Kp w2 w6 := (k3.trans k4).trans k46
     have hb2lt := Own.lt m2
     have m2H : Own wH b2 29 [Ad,.int .i64 0,Ad,Ad,Ad] := cH6.own (k26.own m2 id) fun hT => by rewrite [T6i] at hT; omega
     refine st Aa m2H rfl (Nat.le_refl 5) rfl ?_
     intro wI zI cI m2I
     have m2I : Own wI b2 29 [.slice ca props.length cc,.int .i64 (L.length : Nat),.slice jva I.length jvc,.slice gva (Br (Bj E)).length gvc,.slice lva F.length lvc] := m2I
     refine ld Aa (v := .agg #[.slice ca props.length cc,.int .i64 (L.length : Nat),.slice jva I.length jvc,.slice gva (Br (Bj E)).length gvc,.slice lva F.length lvc]) (Own.at_ (xs := [.slice ca props.length cc,.int .i64 (L.length : Nat),.slice jva I.length jvc,.slice gva (Br (Bj E)).length gvc,.slice lva F.length lvc]) (o := 0) m2I rfl) (by rfl) ?_
     have kall : Kp w wI := (k1.trans (hK cH6)).newS cI fun g hg => by omega
     have hlow : ∀ {el size v n xs},wH.ownsRow w6.heap.size el size v n xs → wI.ownsRow w.heap.size el size v n xs := fun {el size v n xs} h => by
      have h2 := Ab h cI fun g hg he => by have := Ah h hg; omega
      exact ⟨h2.1,h2.2.imp id fun ⟨g,cap,cur,a1,a2,a3⟩ => ⟨g,cap,cur,a1,by have := k06.size; omega,a3⟩⟩
     have pSI : wI.ownsRow w.heap.size 9 1 (.slice ca props.length cc) props.length (props.flatMap Y4) := by
      have h1 := Ab pS6 cH6 fun g hg hT => by
       have h3 := Ah pS6 hg
       have h4 := pS6l g hg
       rewrite [T6i] at hT; omega
      have h2 := Ab h1 cI fun g hg hT => by
       have h3 := Ah pS6 hg
       omega
      exact ⟨h2.1,h2.2.imp id fun ⟨g,cap,cur,a1,a2,a3⟩ => ⟨g,cap,cur,a1,by omega,a3⟩⟩
     have hst0 : (((L.length : Nat) : Int)) = (Cf props init sets (fr) (n * 2)).states := by rw [← hg0,hgd]
     have hout : OutV w.heap.size wI (.slice ca props.length cc) (.slice jva I.length jvc) (.slice gva (Br (Bj E)).length gvc) (.slice lva F.length lvc) (Cf props init sets (fr) (n * 2)) := by
      rw [← hg0,hgd]
      exact ⟨pSI,hlow rIH,hlow rEH,hlow rFH,hsepF⟩
     exact ⟨kall,.slice ca props.length cc,.slice jva I.length jvc,.slice gva (Br (Bj E)).length gvc,.slice lva F.length lvc,congrArg (fun z : Int => Value.tuple #[.agg #[.slice ca props.length cc,.int .i64 z,.slice jva I.length jvc,.slice gva (Br (Bj E)).length gvc,.slice lva F.length lvc],.int .i64 0]) hst0,hout⟩
theorem AbF : Af prog 33 = true := by kernel_rfl
theorem AgF {w : World} {lo hi lo' hi' c c' : Nat} {a a' : Option Addr} {xs ys : List ByteArray} (h : Ib lo hi w (.slice a xs.length c) xs) (h' : Ib lo' hi' w (.slice a' ys.length c') ys) (hl : xs.length < 4611686018427387904) (hl' : ys.length < 4611686018427387904) :
 Calls prog 33 [.slice a xs.length c,.slice a' ys.length c'].toArray w (Bg fun r w' => r = .bool (decide (xs = ys)) ∧ Kp w w') := by
 obtain ⟨_,_,e1,-,hr⟩ := h
 injection e1 with h1 _ h3
 subst h1 h3
 obtain ⟨_,_,e1,-,hr'⟩ := h'
 injection e1 with h1 _ h3
 subst h1 h3
 refine call Aa func33 rfl ntmps33 (by kernel_rfl) ?_
 by_cases hlen : xs.length = ys.length
 · refine Bs (by omega) ?_
   refine loop Aa (σ := Nat) (fun i => [(0,.slice a xs.length c),(1,.slice a' ys.length c'),(12,.int .i64 xs.length),(13,.int .i64 i)]) (fun i w' => Kp w w' ∧ i ≤ xs.length ∧ xs.take i = ys.take i) (fun i => xs.length - i) 0
    ⟨rfl,rfl,rfl,rfl,trivial⟩ ⟨Chg.refl _ _,by omega,rfl⟩ ?_
   rintro i e0 w1 ⟨k,hi,htk⟩
   refine sp (fun hlt => ?_) (fun hge => ?_)
   · have hi' : i < xs.length := by omega
     obtain ⟨b,o,rfl,-,-,cs,-,hrd,rfl⟩ := hr i xs[i] (by simp [hi'])
     obtain ⟨b',o',rfl,-,-,cs',-,hrd',rfl⟩ := hr' i (ys[i]'(by omega)) (by simp [show i < ys.length by omega])
     refine Ax Aa mixed 9 (by kernel_rfl) (fun _ => False) ?_
     conv => whnf
     refine ne ⟨by omega,by omega⟩ ?_
     conv => whnf
     refine A7 (v := .string xs[i]) Aa rfl rfl (fun V hV _ => by rw [Int.toNat_natCast]; exact (k.trans hV).range hrd id) (by rfl) fun _ => ?_
     conv => whnf
     refine ne ⟨by omega,by omega⟩ ?_
     conv => whnf
     refine A7 (v := .string (ys[i]'(by omega))) Aa rfl rfl (fun V hV _ => by rw [Int.toNat_natCast]; exact (k.trans hV).range hrd' id) (by rfl) fun _ => ?_
     conv => whnf
     by_cases he : xs[i] = ys[i]'(by omega)
     · refine Bs (fun h => h he) ?_
       conv => whnf
       intro V hV _
       refine aw (by omega) (by omega) ?_
       refine again (i + 1) ⟨rfl,rfl,rfl,rfl,trivial⟩ ⟨k.trans hV,by omega,?_⟩ (by omega)
       rw [List.take_succ_eq_append_getElem hi',List.take_succ_eq_append_getElem (show i < ys.length by omega),htk,he]
     · refine Dj he ?_
       conv => whnf
       intro V hV _
       refine ⟨congrArg Value.bool ?_,k.trans hV⟩
       rw [decide_eq_false]
       rintro rfl
       exact he rfl
   · refine ⟨congrArg Value.bool ?_,k⟩
     have : i = xs.length := by omega
     subst this
     rw [List.take_length,hlen,List.take_length] at htk
     rw [decide_eq_true htk]
 · refine Dj (by omega) ?_
   refine ⟨congrArg Value.bool ?_,Chg.refl _ _⟩
   rw [decide_eq_false]
   rintro rfl
   exact hlen rfl
def Bq (bn : Nat) (A B : List Int) : List Int := A.flatMap fun p => B.map fun q => p * bn + q
theorem J9 {bn : Nat} {A B : List Int} {p : Int} : Bq bn (A ++ [p]) B = Bq bn A B ++ B.map fun q => p * bn + q := by unfold Bq; simp
theorem Ql (bn : Nat) (B : List Int) : ∀ A : List Int,(Bq bn A B).length = A.length * B.length
 | [] => by simp [Bq]
 | p :: A => by
  have := Ql bn B A
  show (B.map _ ++ Bq bn A B).length = _
  rw [List.length_append,List.length_map,this,List.length_cons,Nat.add_mul]; omega
theorem Fy {an bn : Nat} {A B : List Int} (hA : ∀ s ∈ A,0 ≤ s ∧ s < an) (hB : ∀ s ∈ B,0 ≤ s ∧ s < bn) : ∀ s ∈ Bq bn A B,0 ≤ s ∧ s < (an * bn : Nat) := fun s hs => by
 simp only [Bq,List.mem_flatMap,List.mem_map] at hs
 obtain ⟨p,hp,q,hq,rfl⟩ := hs
 obtain ⟨p1,p2⟩ := hA p hp
 obtain ⟨q1,q2⟩ := hB q hq
 obtain ⟨p,rfl⟩ : ∃ x : Nat,p = x := ⟨p.toNat,by omega⟩
 obtain ⟨q,rfl⟩ : ∃ x : Nat,q = x := ⟨q.toNat,by omega⟩
 have h1 : (p + 1) * bn ≤ an * bn := Nat.mul_le_mul_right bn (by omega)
 rw [Nat.add_mul,Nat.one_mul] at h1
 have h2 : (p : Int) * (bn : Int) = ((p * bn : Nat) : Int) := by simp
 rw [h2]
 omega
theorem Gz {bn : Nat} {A B : List Int} (hA : A.Pairwise (· < ·)) (hB : B.Pairwise (· < ·)) (hr : ∀ s ∈ B,0 ≤ s ∧ s < bn) : (Bq bn A B).Nodup := by
 have : (Bq bn A B).Pairwise (· < ·) := by
  unfold Bq
  rw [List.pairwise_flatMap]
  refine ⟨fun p _ => ?_,hA.imp fun {p p'} hp x hx y hy => ?_⟩
  · rw [List.pairwise_map]; exact hB.imp fun h => by omega
  · obtain ⟨q,hq,rfl⟩ := List.mem_map.1 hx
    obtain ⟨q',hq',rfl⟩ := List.mem_map.1 hy
    have h1 := hr q hq
    have h2 := hr q' hq'
    have h3 : (p + 1) * (bn : Int) ≤ p' * bn := Int.mul_le_mul_of_nonneg_right (by omega) (by omega)
    rw [Int.add_mul,Int.one_mul] at h3
    omega
 exact this.imp fun h => by omega
def Dq (a b : Buchi) : Buchi := Cf a.props (Bq b.states.toNat a.init b.init) (H7 (a.states.toNat * b.states.toNat) b.states.toNat a.final b.final) (Tv b.states.toNat a.edges b.edges) (a.states.toNat * b.states.toNat * 2)
theorem Vt {an bn : Nat} {ea eb : List Edge} (hA : ∀ e ∈ ea,0 ≤ e.to ∧ e.to < an) (hB : ∀ e ∈ eb,0 ≤ e.to ∧ e.to < bn) (s : Int) : ∀ e ∈ Tv bn ea eb s,0 ≤ e.to ∧ e.to < (an * bn : Nat) := fun e he => by
 obtain ⟨x,hx,y,hy,-,-,-,rfl⟩ := frP_mem.1 he
 exact Fy (A := ea.map (·.to)) (B := eb.map (·.to)) (fun s hs => by obtain ⟨x,hx,rfl⟩ := List.mem_map.1 hs; exact hA x hx) (fun s hs => by obtain ⟨x,hx,rfl⟩ := List.mem_map.1 hs; exact hB x hx) _ (by
  unfold Bq
  exact List.mem_flatMap.2 ⟨x.to,List.mem_map.2 ⟨x,hx,rfl⟩,List.mem_map.2 ⟨y.to,List.mem_map.2 ⟨y,hy,rfl⟩,rfl⟩⟩)
def Bx (a b : Buchi) : Bool := Al a.general && Al b.general && decide (a.props = b.props)
theorem L9 : Af prog 11 = true := by kernel_rfl
set_option maxHeartbeats 1000000 in
theorem AbG {w : World} {pva iva eva fva pvb ivb evb fvb : Value} {a b : Buchi} (hv : BuchiV 0 w.heap.size w pva iva eva fva a) (hu : BuchiV 0 w.heap.size w pvb ivb evb fvb b) (hel : a.edges.length < 1000000) (hel2 : b.edges.length < 1000000)
 (hbox : a.states.toNat * b.states.toNat * 2 < 65536) (hMM : (a.states.toNat * b.states.toNat * 2 + 1) * (a.edges.length * b.edges.length) < 4000000000000) :
 Calls prog 11 [.agg #[pva,.int .i64 a.states,iva,eva,fva],.agg #[pvb,.int .i64 b.states,ivb,evb,fvb]].toArray w (Bg fun r w' => Kp w w' ∧ ((Bx a b = false ∧ r = .tuple #[.agg #[Ad,.int .i64 0,Ad,Ad,Ad],.int .i64 100]) ∨ (Bx a b = true ∧ ∃ y,r = .tuple #[Fg (Dq a b) y,.int .i64 0] ∧ Ev w.heap.size w' (Dq a b) y))) := by
 obtain ⟨pa,pc,rfl,-⟩ := id hv.props
 obtain ⟨ia,ic,rfl,hiac,hiar⟩ := id hv.init
 obtain ⟨ea,ec,rfl,-⟩ := id hv.edges
 obtain ⟨fa,fc,rfl,-⟩ := id hv.final
 obtain ⟨pa',pc',rfl,-⟩ := id hu.props
 obtain ⟨ia',ic',rfl,hibc,hibr⟩ := id hu.init
 obtain ⟨ea',ec',rfl,-⟩ := id hu.edges
 obtain ⟨fa',fc',rfl,-⟩ := id hu.final
 refine call Aa func11 rfl ntmps11 (by kernel_rfl) ?_
 refine nd fun ba w1 e1 z1 k1 ma => ?_
 have ma : Own w1 ba 29 [.slice pa a.props.length pc,.int .i64 a.states,.slice ia a.init.length ic,.slice ea a.edges.length ec,.slice fa a.final.length fc] := ma
 refine nd fun bb w2 e2 z2 k2 mb => ?_
 have mb : Own w2 bb 29 [.slice pa' b.props.length pc',.int .i64 b.states,.slice ia' b.init.length ic',.slice ea' b.edges.length ec',.slice fa' b.final.length fc'] := mb
 refine nd fun b4 w3 e3 z3 k3 m4 => ?_
 have m4 : Own w3 b4 29 [Ad,.int .i64 0,Ad,Ad,Ad] := m4
 have ma := (k2.trans k3).own ma id
 have mb := k3.own mb id
 have k03 : Kp w w3 := k1.trans (k2.trans k3)
 have hbad : ∀ {W : World},Kp w3 W → Bx a b = false → ∀ W',Chg (fun k => k = b4) W W' → Kp w W' := fun {W} h _ W' hc => (k03.trans h).newS hc fun j hj => by omega
 refine ld Aa (v := .agg #[.slice pa a.props.length pc,.int .i64 a.states,.slice ia a.init.length ic,.slice ea a.edges.length ec,.slice fa a.final.length fc]) (Own.at_ (xs := [.slice pa a.props.length pc,.int .i64 a.states,.slice ia a.init.length ic,.slice ea a.edges.length ec,.slice fa a.final.length fc]) (o := 0) ma rfl) (by rfl) ?_
 have hchk := Lk (hv.chg k03 (Nat.le_refl _) k03.size)
 have hexc : ∃ cc,Al a.general = cc := ⟨_,rfl⟩
 obtain ⟨c1,hc1⟩ := hexc
 rw [hc1] at hchk
 refine cl Jb hchk ?_
 rintro _ w4 ⟨rfl,k4⟩
 cases c1 with
 | false =>
  refine Dj (by decide) ?_
  have m4 := k4.own m4 id
  refine st Aa m4 rfl (Nat.le_refl 5) rfl ?_
  intro w5 z5 k5 m5
  have m5 : Own w5 b4 29 [Ad,.int .i64 0,Ad,Ad,Ad] := m5
  refine ld Aa (v := .agg #[Ad,.int .i64 0,Ad,Ad,Ad]) (Own.at_ (xs := [Ad,.int .i64 0,Ad,Ad,Ad]) (o := 0) m5 rfl) (by rfl) ?_
  have hno : Bx a b = false := by unfold Bx; rw [hc1]; rfl
  exact ⟨hbad k4 hno _ k5,.inl ⟨hno,rfl⟩⟩
 | true =>
  refine Bs (by decide) ?_
  have mb4 := k4.own mb id
  refine ld Aa (v := .agg #[.slice pa' b.props.length pc',.int .i64 b.states,.slice ia' b.init.length ic',.slice ea' b.edges.length ec',.slice fa' b.final.length fc']) (Own.at_ (xs := [.slice pa' b.props.length pc',.int .i64 b.states,.slice ia' b.init.length ic',.slice ea' b.edges.length ec',.slice fa' b.final.length fc']) (o := 0) mb4 rfl) (by rfl) ?_
  have k04 := k03.trans k4
  have hchk := Lk (hu.chg k04 (Nat.le_refl _) k04.size)
  have hexc : ∃ cc,Al b.general = cc := ⟨_,rfl⟩
  obtain ⟨c2,hc2⟩ := hexc
  rw [hc2] at hchk
  refine cl Jb hchk ?_
  rintro _ w5 ⟨rfl,k5⟩
  have k35 := k4.trans k5
  cases c2 with
  | false =>
   refine Dj (by decide) ?_
   have m4 := k35.own m4 id
   refine st Aa m4 rfl (Nat.le_refl 5) rfl ?_
   intro w6 z6 k6 m5
   have m5 : Own w6 b4 29 [Ad,.int .i64 0,Ad,Ad,Ad] := m5
   refine ld Aa (v := .agg #[Ad,.int .i64 0,Ad,Ad,Ad]) (Own.at_ (xs := [Ad,.int .i64 0,Ad,Ad,Ad]) (o := 0) m5 rfl) (by rfl) ?_
   have hno : Bx a b = false := by unfold Bx; rw [hc1,hc2]; rfl
   exact ⟨hbad k35 hno _ k6,.inl ⟨hno,rfl⟩⟩
  | true =>
   refine Bs (by decide) ?_
   have k05 := k03.trans k35
   refine ld Aa (Own.at_ (xs := [.slice pa a.props.length pc]) (o := 0) (k35.own ma id) rfl) (by rfl) ?_
   refine ld Aa (Own.at_ (xs := [.slice pa' b.props.length pc']) (o := 0) (k35.own mb id) rfl) (by rfl) ?_
   have heq := AgF (hv.props.chg k05 (fun _ _ _ h => h) (fun _ _ h => h)) (hu.props.chg k05 (fun _ _ _ h => h) (fun _ _ h => h)) hv.lp hu.lp
   have hexc : ∃ cc,decide (a.props = b.props) = cc := ⟨_,rfl⟩
   obtain ⟨c3,hc3⟩ := hexc
   rw [hc3] at heq
   refine cl AbF heq ?_
   rintro _ w6 ⟨rfl,k6⟩
   have k36 := k35.trans k6
   have k06 := k05.trans k6
   have m4 := k36.own m4 id
   have ma := k36.own ma id
   have mb := k36.own mb id
   have hok : Bx a b = c3 := by unfold Bx; rw [hc1,hc2,hc3]; rfl
   cases c3 with
   | false =>
    refine st Aa m4 rfl (Nat.le_refl 5) rfl ?_
    intro w7 z7 k7 m5
    have m5 : Own w7 b4 29 [Ad,.int .i64 0,Ad,Ad,Ad] := m5
    refine ld Aa (v := .agg #[Ad,.int .i64 0,Ad,Ad,Ad]) (Own.at_ (xs := [Ad,.int .i64 0,Ad,Ad,Ad]) (o := 0) m5 rfl) (by rfl) ?_
    exact ⟨hbad k36 hok _ k7,.inl ⟨hok,rfl⟩⟩
   | true =>
    refine ld Aa (Own.at_ (xs := [.slice pa a.props.length pc]) (o := 0) ma rfl) (by rfl) ?_
    refine ne (by decide) ?_
    refine nd fun bs w7 e7 z7 k7 ms => ?_
    refine nd fun b6 w8' e8 z8 k8 m6 => ?_
    refine st Aa m6 rfl (Nat.le_refl 4) rfl ?_
    intro w8 z8' k8' m6
    have m6 : Own w8 b6 79 [.slice pa a.props.length pc,Ad,.nilFunc,.slice (some ⟨bs,0,none⟩) 2 2] := m6
    have k68 : Kp w6 w8 := k7.trans (k8.new e8 k8')
    have k07 := k7
    have hb6lt : b6 < w8.heap.size := Own.lt m6
    have k08 : Kp w w8 := k06.trans k68
    have m4 := k68.own m4 id
    have ma := k68.own ma id
    have mb8 := k68.own mb id
    have ma8 := ma
    have m48 := m4
    have h46 : b4 < b6 ∧ ba < b6 ∧ bb < b6 := by
     have := k36.size; have := k7.size; omega
    have hG1 := Good.of hc1
    have hG2 := Good.of hc2
    have hn : ∃ an : Nat,a.states = an := ⟨a.states.toNat,by have := hG1.s0; exact (Int.toNat_of_nonneg this).symm⟩
    obtain ⟨an,han⟩ := hn
    have hn : ∃ bn : Nat,b.states = bn := ⟨b.states.toNat,by have := hG2.s0; exact (Int.toNat_of_nonneg this).symm⟩
    obtain ⟨bn,hbn⟩ := hn
    have hst1 : a.states ≤ 65536 := hG1.s1
    have hst2 : b.states ≤ 65536 := hG2.s1
    have hbg : Dq a b = Cf a.props (Bq bn a.init b.init) (H7 (an * bn) bn a.final b.final) (Tv bn a.edges b.edges) (an * bn * 2) := by unfold Dq; rw [han,hbn,Int.toNat_natCast,Int.toNat_natCast]
    rw [han,hbn,Int.toNat_natCast,Int.toNat_natCast] at hbox hMM
    have hiA : ∀ s ∈ a.init,0 ≤ s ∧ s < an := fun s hs => by have := hG1.init s hs; rw [← han]; exact this
    have hiB : ∀ s ∈ b.init,0 ≤ s ∧ s < bn := fun s hs => by have := hG2.init s hs; rw [← hbn]; exact this
    have heA : ∀ e ∈ a.edges,0 ≤ e.frm ∧ e.frm < an ∧ 0 ≤ e.to ∧ e.to < an := fun e he => by have := hG1.edges e he; rw [← han]; exact this
    have heB : ∀ e ∈ b.edges,0 ≤ e.frm ∧ e.frm < bn ∧ 0 ≤ e.to ∧ e.to < bn := fun e he => by have := hG2.edges e he; rw [← hbn]; exact this
    have hpA := (Bu hc1).2
    have hpB := (Bu hc2).2
    have hnl : ∀ {l : List Int} {m : Nat},l.Pairwise (· < ·) → (∀ s ∈ l,0 ≤ s ∧ s < m) → l.length ≤ m := fun {l m} hp hr => by
     have h1 := A8 (l := l) (r := (List.range m).map fun (i : Nat) => (i : Int)) (hp.imp fun h => by omega) fun s hs' => by
      have := hr s hs'
      exact List.mem_map.2 ⟨s.toNat,by rw [List.mem_range]; omega,by omega⟩
     simpa using h1
    have hlA : a.init.length ≤ an := hnl hpA hiA
    have hlB : b.init.length ≤ bn := hnl hpB hiB
    have hAB : a.init.length * b.init.length ≤ an * bn := Nat.mul_le_mul hlA hlB
    have hn65 : an * bn < 65536 := by omega
    have hPl : ∀ i,(Bq bn (a.init.take i) b.init).length + b.init.length ≤ 65536 * 2 := fun i => by
     rw [Ql,List.length_take]
     have h1 : min i a.init.length * b.init.length ≤ a.init.length * b.init.length := Nat.mul_le_mul_right _ (Nat.min_le_right _ _)
     have h2 : b.states ≤ 65536 := hG2.s1
     omega
    refine ld Aa (Own.at_ (xs := [.slice ia a.init.length ic]) (o := 2) ma rfl) (by rfl) ?_
    refine loop Aa (σ := Nat × Value) (fun t => [(2,pt ba 0),(3,pt bb 0),(4,pt b4 0),(6,pt b6 0),(35,.slice ia a.init.length ic),(36,.int .i64 a.init.length),(37,.int .i64 t.1)])
     (fun t V => t.1 ≤ a.init.length ∧ Chg (fun j => j = b6) w8 V ∧ Own V b6 79 [.slice pa a.props.length pc,t.2,.nilFunc,.slice (some ⟨bs,0,none⟩) 2 2] ∧ V.ownsRow w8.heap.size 3 1 t.2 (Bq bn (a.init.take t.1) b.init).length ((Bq bn (a.init.take t.1) b.init).flatMap Ia)) (fun t => a.init.length - t.1) (0,Ad)
     ⟨rfl,rfl,rfl,rfl,rfl,rfl,rfl,trivial⟩ ⟨Nat.zero_le _,Chg.refl _ _,m6,World.ownsRow_nil _ _ _ _⟩ ?_
    rintro ⟨i,vI⟩ ed0 wA ⟨hi,cA,oA,rA⟩
    simp only at hi oA rA
    have kA : Kp w wA := k08.newS cA fun j hj => by have := k06.size; have := k7.size; omega
    have maA := cA.own ma8 (by omega)
    have mbA := cA.own mb8 (by omega)
    have hPli := hPl i
    obtain ⟨P0,hP0⟩ : ∃ P0,P0 = Bq bn (a.init.take i) b.init := ⟨_,rfl⟩
    rewrite [← hP0] at rA hPli
    refine sp (fun hlt => ?_) (fun hge => ?_)
    · have hi' : i < a.init.length := by simp only at hlt; omega
      obtain ⟨p,hp⟩ : ∃ p,a.init[i]? = some p := ⟨_,List.getElem?_eq_getElem hi'⟩
      have hpr := hiA p (List.mem_of_getElem? hp)
      obtain ⟨qb,qo,hia,hq1,hq2,cs,-,hrd,hcs⟩ := hiar i p hp
      subst hia hcs
      have hsnocA : Bq bn (a.init.take (i + 1)) b.init = P0 ++ b.init.map fun q => p * bn + q := by
       rw [List.take_succ_eq_append_getElem hi',J9,← hP0,(List.getElem?_eq_some_iff.1 hp).2]
      refine ne ⟨by simp only; omega,by simp only; omega⟩ ?_
      refine ld Aa (v := .int .i64 p) (by rw [Int.toNat_natCast]; exact kA.range hrd id) (by rfl) ?_
      refine ld Aa (Own.at_ (xs := [.slice ia' b.init.length ic']) (o := 2) mbA rfl) (by rfl) ?_
      refine loop Aa (σ := Nat × Value) (fun t => [(2,pt ba 0),(3,pt bb 0),(4,pt b4 0),(6,pt b6 0),(35,.slice (some ⟨qb,qo,none⟩) a.init.length ic),(36,.int .i64 a.init.length),(37,.int .i64 i),(8,.int .i64 p),(42,.slice ia' b.init.length ic'),(43,.int .i64 b.init.length),(44,.int .i64 t.1)])
       (fun t V => t.1 ≤ b.init.length ∧ Chg (fun j => j = b6) w8 V ∧ Own V b6 79 [.slice pa a.props.length pc,t.2,.nilFunc,.slice (some ⟨bs,0,none⟩) 2 2] ∧ V.ownsRow w8.heap.size 3 1 t.2 (P0 ++ (b.init.take t.1).map fun q => p * bn + q).length ((P0 ++ (b.init.take t.1).map fun q => p * bn + q).flatMap Ia)) (fun t => b.init.length - t.1) (0,vI)
       ⟨rfl,rfl,rfl,rfl,rfl,rfl,rfl,rfl,rfl,rfl,rfl,trivial⟩ ⟨Nat.zero_le _,cA,oA,by simpa using rA⟩ ?_
      rintro ⟨j,vJ⟩ ed1 wB ⟨hj,cB,oB,rB⟩
      simp only at hj oB rB
      have kB : Kp w wB := k08.newS cB fun j hj => by have := k06.size; have := k7.size; omega
      have mbB := cB.own mb8 (by omega)
      obtain ⟨P1,hP1⟩ : ∃ P1,P1 = P0 ++ (b.init.take j).map fun q => p * bn + q := ⟨_,rfl⟩
      rewrite [← hP1] at rB
      have hP1l : P1.length ≤ 65536 * 2 := by
       rw [hP1,List.length_append,List.length_map,List.length_take]; omega
      refine sp (fun hlt2 => ?_) (fun hge2 => ?_)
      · have hj' : j < b.init.length := by simp only at hlt2; omega
        obtain ⟨q,hq⟩ : ∃ q,b.init[j]? = some q := ⟨_,List.getElem?_eq_getElem hj'⟩
        have hqr := hiB q (List.mem_of_getElem? hq)
        obtain ⟨rb,ro,hia2,-,-,cs2,-,hrd2,hcs2⟩ := hibr j q hq
        subst hia2 hcs2
        have hsnocB : (P0 ++ (b.init.take (j + 1)).map fun q => p * bn + q) = P1 ++ [p * bn + q] := by
         rw [List.take_succ_eq_append_getElem hj',List.map_append,hP1,(List.getElem?_eq_some_iff.1 hq).2,List.append_assoc]; rfl
        have hpb : ∃ m : Nat,p * (bn : Int) = m ∧ m + bn ≤ an * bn := by
         obtain ⟨pp,rfl⟩ : ∃ x : Nat,p = x := ⟨p.toNat,by omega⟩
         have h1 : (pp + 1) * bn ≤ an * bn := Nat.mul_le_mul_right bn (by omega)
         rw [Nat.add_mul,Nat.one_mul] at h1
         exact ⟨pp * bn,by simp,h1⟩
        obtain ⟨pm,hpm,hpm2⟩ := hpb
        refine ne ⟨by simp only; omega,by simp only; omega⟩ ?_
        refine ld Aa (v := .int .i64 q) (by rw [Int.toNat_natCast]; exact kB.range hrd2 id) (by rfl) ?_
        refine ld Aa (Own.at_ (xs := [vJ]) (o := 1) oB rfl) (by rfl) ?_
        refine ld Aa (Own.at_ (xs := [.int .i64 b.states]) (o := 1) mbB rfl) (by rfl) ?_
        refine C3 (show _ = (pm : Int) by rw [hbn,hpm]; exact As (by omega) (by omega)) ?_
        refine aw (by omega) (by omega) ?_
        refine ne (by decide) ?_
        refine nd fun bq wC eC zC kC mq => ?_
        have mq : Own wC bq 3 [.int .i64 ((pm : Int) + q)] := mq
        have oC := kC.own oB id
        have rC := Ab rB kC fun _ _ => id
        have cC := cB.newT kC fun _ hf => hf.elim
        refine ap (m := 1) (news := [.int .i64 ((pm : Int) + q)]) Aa rfl rfl rfl rfl rfl rfl rfl (by decide) rC rfl (Own.at_ (xs := [.int .i64 ((pm : Int) + q)]) (o := 0) mq rfl) rfl (by simp only [maxLen]; omega) (by show (_ + 1) * 8 ≤ _; omega) cC.size fun vK wD rD kD => ?_
        have hff := Ae rD
        obtain ⟨ga,gc,hvK⟩ := hff
        have hb : ∀ j,some j = vJ.ownBlock → w8.heap.size ≤ j := fun j hj => Ah rC hj.symm
        have oD := kD.own oC fun he => by have := hb _ he; omega
        have cD := cC.newT kD fun j hj => .inr (hb j hj)
        subst hvK
        refine st Aa oD rfl (show 2 ≤ 4 by decide) rfl ?_
        intro wE zE kE oE
        have oE : Own wE b6 79 [.slice pa a.props.length pc,.slice ga (P1.length + 1) gc,.nilFunc,.slice (some ⟨bs,0,none⟩) 2 2] := oE
        have rE := Ab rD kE fun j hj he => by have := Ah rD hj; omega
        have cE := cD.newT kE fun j hj => .inl hj
        refine aw (by simp only; omega) (by simp only; omega) ?_
        refine again (j + 1,.slice ga (P1.length + 1) gc) ⟨rfl,rfl,rfl,rfl,rfl,rfl,rfl,rfl,rfl,rfl,rfl,trivial⟩ ⟨by simp only; omega,cE,oE,?_⟩ (by simp only; omega)
        simp only
        rw [hsnocB,List.length_append,List.flatMap_append,hpm]
        exact rE
      · have hje : j = b.init.length := by simp only at hge2; omega
        subst hje
        rewrite [List.take_length] at hP1
        refine aw (by omega) (by omega) ?_
        refine again (i + 1,vJ) ⟨rfl,rfl,rfl,rfl,rfl,rfl,rfl,trivial⟩ ⟨by simp only; omega,cB,oB,?_⟩ (by simp only; omega)
        simp only
        rw [hsnocA,← hP1]
        exact rB
    · have hie : i = a.init.length := by simp only at hge; omega
      subst hie
      rewrite [List.take_length] at hP0
      have hby : ∀ {st : Int} {m : Nat} {sa : Option Addr} {sc : Nat} {es : List Edge},st = m → m ≤ 65536 → es.length < 1000000 → C9 0 wA.heap.size wA (.slice sa es.length sc) es → (∀ e ∈ es,0 ≤ e.frm ∧ e.frm < m) → ∀ W,Kp wA W → Calls prog 29 [.int .i64 st,.slice sa es.length sc].toArray W (Bg fun r w' => Kp W w' ∧ ∃ y : Nat × Nat,r = .func (.func 77) #[] #[pt y.1 0] ∧ ∃ hi,hi ≤ w'.heap.size ∧ FromV w' wA.heap.size hi y.1 y.2 m es) := fun {st m sa sc es} h1 h2 h3 hE hr W hW => by
       refine (AaB h1 (Cy hE hW (Nat.le_refl _) hW.size) h2 (by omega) hr).mono fun en w' hr => ?_
       cases en with
       | returned v =>
        obtain ⟨k,lb,bb,rfl,hlb,hF⟩ := hr
        have hsz := hW.size
        exact ⟨k,(lb,bb),rfl,_,Nat.le_refl _,hF.mono hsz (Nat.le_refl _)⟩
       | _ => exact hr.elim
      have hEa : C9 0 wA.heap.size wA (.slice ea a.edges.length ec) a.edges := Cy hv.edges kA (Nat.le_refl _) kA.size
      have hEb : C9 0 wA.heap.size wA (.slice ea' b.edges.length ec') b.edges := Cy hu.edges kA (Nat.le_refl _) kA.size
      have hfrA : ∀ e ∈ a.edges,0 ≤ e.frm ∧ e.frm < an := fun e he => ⟨(heA e he).1,(heA e he).2.1⟩
      have hfrB : ∀ e ∈ b.edges,0 ≤ e.frm ∧ e.frm < bn := fun e he => ⟨(heB e he).1,(heB e he).2.1⟩
      refine AbA Aa mixed 12 [0,1,2,3,4,5,6,7,8,9,10,11] (by kernel_rfl) ?_
      conv => whnf
      refine A7 Aa rfl rfl (fun W h _ => Own.at_ (xs := [.int .i64 a.states]) (o := 1) (h.own maA id) rfl) (by rfl) fun _ => ?_
      conv => whnf
      refine A7 Aa rfl rfl (fun W h _ => Own.at_ (xs := [.slice ea a.edges.length ec]) (o := 3) (h.own maA id) rfl) (by rfl) fun _ => ?_
      conv => whnf
      refine Gp (fun y : Nat × Nat => .func (.func 77) #[] #[pt y.1 0]) (fun y W => ∃ hi,hi ≤ W.heap.size ∧ FromV W wA.heap.size hi y.1 y.2 an a.edges) rfl rfl rfl (fun y W W' hF hS => ?_) Pc (fun W hS _ => (hby han (by omega) hel hEa hfrA W hS).mono fun en W' hr => ?_) fun y D hD => ?_
      · obtain ⟨hi,h2,h3⟩ := hF
        exact ⟨hi,Nat.le_trans h2 hS.size,h3.kp hS⟩
      · cases en with
        | returned v => exact hr
        | _ => exact hr.elim
      conv => whnf
      refine A7 Aa rfl rfl (fun W h _ => Own.at_ (xs := [.int .i64 b.states]) (o := 1) (h.own mbA id) rfl) (by rfl) fun _ => ?_
      conv => whnf
      refine A7 Aa rfl rfl (fun W h _ => Own.at_ (xs := [.slice ea' b.edges.length ec']) (o := 3) (h.own mbA id) rfl) (by rfl) fun _ => ?_
      conv => whnf
      refine Gp (fun y : Nat × Nat => .func (.func 77) #[] #[pt y.1 0]) (fun y W => ∃ hi,hi ≤ W.heap.size ∧ FromV W wA.heap.size hi y.1 y.2 bn b.edges) rfl rfl rfl (fun y W W' hF hS => ?_) Pc (fun W hS _ => (hby hbn (by omega) hel2 hEb hfrB W hS).mono fun en W' hr => ?_) fun y2 D2 hD2 => ?_
      · obtain ⟨hi,h2,h3⟩ := hF
        exact ⟨hi,Nat.le_trans h2 hS.size,h3.kp hS⟩
      · cases en with
        | returned v => exact hr
        | _ => exact hr.elim
      conv => whnf
      refine alk rfl rfl fun bx D3 hD3 => ?_
      conv => whnf
      refine alk rfl rfl fun by_ D4 hD4 => ?_
      conv => whnf
      intro wB kB hd hdist
      have hsl := hdist.slots
      have hne : bx ≠ by_ := fun he => by
       subst he
       have h2 := (List.pairwise_cons.1 hsl).1 12 (by exact List.mem_cons_self)
       exact h2 rfl
      clear hsl hdist
      obtain ⟨hix,hhix,FX⟩ := hD wB (hd 4)
      obtain ⟨hiy,hhiy,FY⟩ := hD2 wB (hd 9)
      obtain ⟨mx,hbx⟩ := hD3 wB (hd 10)
      obtain ⟨my,hby_⟩ := hD4 wB (hd 11)
      clear hd hD hD2 hD3 hD4 D D2 D3 D4
      have mx0 := mx
      have my0 := my
      refine st Aa mx rfl (Nat.le_refl 1) rfl ?_
      intro wC zC kC mx
      have mx : Own wC bx 76 [.func (.func 77) #[] #[pt y.1 0]] := mx
      refine st Aa (kC.own my (Ne.symm hne)) rfl (Nat.le_refl 1) rfl ?_
      intro wD zD kD my
      have my : Own wD by_ 76 [.func (.func 77) #[] #[pt y2.1 0]] := my
      have mxD := kD.own mx hne
      have myD := my
      have kBD : Chg (fun j => j = bx ∨ j = by_) wB wD := (kC.mono fun j h => .inl h).trans (kD.mono fun j h => .inr h)
      have hsame : ∀ {lo hi lb kb m : Nat} {es : List Edge},FromV wB lo hi lb kb m es → FromV wD lo hi lb kb m es := fun {lo hi lb kb m es} hF => by
       refine hF.same (kBD.block lb hF.box.lt fun hj => ?_) fun j cur t _ _ hj ht => kBD.block j (Am hj) fun hh => ?_
       · rcases hj with rfl | rfl
         · exact A2 hF.box mx0 (by decide) rfl
         · exact A2 hF.box my0 (by decide) rfl
       · have hno : ∀ {q : Nat} {cs},Own wB q 76 cs → j ≠ q := fun {q cs} ho he => by
          subst he
          have h3 := Option.some.inj (ho.symm.trans hj)
          injection h3 with _ h4
          rcases ht with rfl | rfl <;> exact absurd h4 (by decide)
         rcases hh with hh | hh
         · exact hno mx0 hh
         · exact hno my0 hh
      have hFX := hsame FX
      have hFY := hsame FY
      have kAD : Kp wA wD := kB.newS kBD fun j hj => by rcases hj with rfl | rfl <;> omega
      have oD := kAD.own oA id
      have rD := Ab rA kAD fun _ _ => id
      have hf := Ae rD
      obtain ⟨ga,gc,hvI⟩ := hf
      subst hvI
      refine st Aa oD rfl (show 3 ≤ 4 by decide) rfl ?_
      intro wE zE kE oE
      have oE : Own wE b6 79 [.slice pa a.props.length pc,.slice ga P0.length gc,.func (.func 34) #[] #[pt bx 0,pt bb 0,pt by_ 0],.slice (some ⟨bs,0,none⟩) 2 2] := oE
      have hmE : ∀ {q : Nat} {t : TypeId} {cs : List Value},Own wD q t cs → q ≠ b6 → Own wE q t cs := fun {q t cs} ho hq => kE.own ho hq
      have hszA : w8.heap.size ≤ wA.heap.size := cA.size
      have mxE := hmE (q := bx) mxD (by omega)
      have myE := hmE (q := by_) myD (by omega)
      have maE := hmE (q := ba) (kAD.own maA id) (by omega)
      have mbE := hmE (q := bb) (kAD.own mbA id) (by omega)
      have hFXE : FromV wE wA.heap.size hix y.1 y.2 an a.edges := hFX.chg kE (fun he => A2 (he ▸ hFX.box) oD (by decide) rfl) fun j h1 h2 he => by omega
      have hFYE : FromV wE wA.heap.size hiy y2.1 y2.2 bn b.edges := hFY.chg kE (fun he => A2 (he ▸ hFY.box) oD (by decide) rfl) fun j h1 h2 he => by omega
      have hb6w : w.heap.size ≤ b6 := by have := k36.size; have := k07.size; omega
      have kE0 : Kp w wE := (kA.trans kAD).newS kE fun j hj => by omega
      have hvE := hv.chg kE0 (Nat.le_refl _) kE0.size
      have huE := hu.chg kE0 (Nat.le_refl _) kE0.size
      have rE := Ab rD kE fun j hj he => by have := Ah rD hj; omega
      have hIE : Ef 0 wE.heap.size wE (.slice ga P0.length gc) P0 := RowE.mono (Av (f := Ia) (fun _ => rfl) rE (by decide)) (fun _ _ h => h) (Nat.zero_le _) (Nat.le_refl _)
      refine ld Aa (v := .agg #[.slice pa a.props.length pc,.slice ga P0.length gc,.func (.func 34) #[] #[pt bx 0,pt bb 0,pt by_ 0],.slice (some ⟨bs,0,none⟩) 2 2]) (Own.at_ (xs := [.slice pa a.props.length pc,.slice ga P0.length gc,.func (.func 34) #[] #[pt bx 0,pt bb 0,pt by_ 0],.slice (some ⟨bs,0,none⟩) 2 2]) (o := 0) oE rfl) (by rfl) ?_
      refine ld Aa (v := .agg #[.slice pa a.props.length pc,.int .i64 a.states,.slice ia a.init.length ic,.slice ea a.edges.length ec,.slice fa a.final.length fc]) (Own.at_ (xs := [.slice pa a.props.length pc,.int .i64 a.states,.slice ia a.init.length ic,.slice ea a.edges.length ec,.slice fa a.final.length fc]) (o := 0) maE rfl) (by rfl) ?_
      refine ld Aa (v := .agg #[.slice pa' b.props.length pc',.int .i64 b.states,.slice ia' b.init.length ic',.slice ea' b.edges.length ec',.slice fa' b.final.length fc']) (Own.at_ (xs := [.slice pa' b.props.length pc',.int .i64 b.states,.slice ia' b.init.length ic',.slice ea' b.edges.length ec',.slice fa' b.final.length fc']) (o := 0) mbE rfl) (by rfl) ?_
      have hfr : ∀ W,Kp wE W → ∀ s,s < an * bn → Calls prog 34 [.int .i64 (s : Nat),pt bx 0,pt bb 0,pt by_ 0].toArray W (Bg fun r w' => Kp W w' ∧ C9 W.heap.size w'.heap.size w' r (Tv bn a.edges b.edges (s : Nat))) := fun W hW s hs => by
       have hmb := hW.own mbE id
       rw [hbn] at hmb
       have := hW.size
       exact AbH (hW.own mxE id) (hFXE.kp hW) (hW.own myE id) (hFYE.kp hW) hmb hs hn65 hel hel2 (fun e he => ⟨(heA e he).2.2.1,(heA e he).2.2.2⟩) (fun e he => ⟨(heB e he).2.2.1,(heB e he).2.2.2⟩) (by have := kE.size; have := kBD.size; omega)
      have hini : ∀ s ∈ P0,0 ≤ s ∧ s < (an * bn : Nat) := by rw [hP0]; exact Fy hiA hiB
      have hnd : P0.Nodup := by rw [hP0]; exact Gz hpA hpB hiB
      have hbn0 : 0 < an * bn → bn ≠ 0 := fun h hb => by rw [hb] at h; simp at h
      have hall := AbI (n := an * bn) (bn := bn) (pva := .slice pa a.props.length pc) (iva := .slice ia a.init.length ic) (eva := .slice ea a.edges.length ec) (pvb := .slice pa' b.props.length pc') (ivb := .slice ia' b.init.length ic') (evb := .slice ea' b.edges.length ec') (na := .int .i64 a.states) (sv := .slice (some ⟨bs,0,none⟩) 2 2) hvE.props hIE hvE.final huE.final hv.lf hu.lf (Et hc1 _ (by simp [Buchi.general])) (Et hc2 _ (by simp [Buchi.general])) hbn0 hfr (show a.props.length < 1000000000000 by have h8 : _ ≤ 8 := C2 hc1; exact Nat.lt_of_le_of_lt h8 (by decide)) (fun s => R1 bn a.edges b.edges s) hMM hbox hini hnd (Vt (fun e he => ⟨(heA e he).2.2.1,(heA e he).2.2.2⟩) (fun e he => ⟨(heB e he).2.2.1,(heB e he).2.2.2⟩))
      have hBG : Cf a.props P0 (H7 (an * bn) bn a.final b.final) (Tv bn a.edges b.edges) (an * bn * 2) = Dq a b := by rw [hbg,hP0]
      rewrite [← hbn,hBG] at hall
      obtain ⟨B,hB⟩ : ∃ B,B = Dq a b := ⟨_,rfl⟩
      rewrite [← hB] at hall
      refine cl Yn hall ?_
      rintro _ wF ⟨kF,vP,vI,vE,vF,rfl,hO⟩
      have hform := hO.form
      obtain ⟨z,rfl,rfl,rfl,rfl⟩ := hform
      have m4F : Own wF b4 29 [Ad,.int .i64 0,Ad,Ad,Ad] := kF.own (hmE (q := b4) (kAD.own (cA.own m48 (by omega)) id) (by omega)) id
      refine st Aa m4F rfl (Nat.le_refl 5) rfl ?_
      intro wG zG kG oG
      have oG : Own wG b4 29 [.slice z.1.1 B.props.length z.1.2,.int .i64 B.states,.slice z.2.1.1 B.init.length z.2.1.2,.slice z.2.2.1.1 B.edges.length z.2.2.1.2,.slice z.2.2.2.1 B.final.length z.2.2.2.2] := oG
      refine ld Aa (v := Fg B z) (Own.at_ (xs := [.slice z.1.1 B.props.length z.1.2,.int .i64 B.states,.slice z.2.1.1 B.init.length z.2.1.2,.slice z.2.2.1.1 B.edges.length z.2.2.1.2,.slice z.2.2.2.1 B.final.length z.2.2.2.2]) (o := 0) oG rfl) (by rfl) ?_
      have hb4w : w.heap.size ≤ b4 := by omega
      refine ⟨(kE0.trans kF).newS kG fun j hj => by omega,.inr ⟨hok,z,?_,?_⟩⟩
      · rw [← hB]; rfl
      · rw [← hB]
        have hsz := kE0.size
        have hb4E : b4 < wE.heap.size := by have := kE.size; have := kAD.size; omega
        exact (hO.chg kG fun j hj => .inl (by omega)).low hsz
end Go.Au
namespace Go.Au
open Go.Proofs.Tryz
open Go
structure RunI (g : General) (σ : Nat → Int) (ρ : Nat → Int) : Prop where
 start : ρ 0 ∈ g.init
 step : ∀ i,∃ e ∈ g.edges,e.frm = ρ i ∧ Hk e (σ i) = true ∧ e.to = ρ (i + 1)
 again : ∀ F ∈ A4 g,∀ i,∃ j,i ≤ j ∧ ρ j ∈ F
def AbY (g : General) (σ : Nat → Int) : Prop := ∃ ρ,RunI g σ ρ
def ToN (g : General) (x : Word) (T : Ag → Prop) : Nat → Ag → Prop
 | 0,p => T p
 | n + 1,p => ∃ q ∈ succ g x p,ToN g x T n q
theorem ToN.imp {g : General} {x : Word} {T T' : Ag → Prop} (h : ∀ p,T p → T' p) : ∀ {n : Nat} {p : Ag},ToN g x T n p → ToN g x T' n p
 | 0,p,hp => h p hp
 | n + 1,p,⟨q,hq,hr⟩ => ⟨q,hq,ToN.imp h hr⟩
theorem Wz {L L' : List Ag} (h : L <+: L') {q : Ag} (hq : q ∈ L) : L'.idxOf q = L.idxOf q := by
 obtain ⟨t,rfl⟩ := h
 rw [List.idxOf_append,if_pos hq]
theorem R0 {L L' : List Ag} (h : L <+: L') {i : Nat} {p : Ag} (hp : L[i]? = some p) : L'[i]? = some p := by
 obtain ⟨t,rfl⟩ := h
 rw [List.getElem?_append_left (List.getElem?_eq_some_iff.1 hp).1]; exact hp
theorem Wt (L : List Ag) (p : Ag) : p ∈ B7 L p := by
 unfold B7; split
 · assumption
 · simp
theorem Iz (i : Nat) (d : Int) : ∀ (l : List Edge) (st : List Ag × List Edge),st.1 <+: (Ba i d st l).1
 | [],_ => List.prefix_refl _
 | e :: l,st => (Zr st.1 (e.to,d)).trans (Iz i d l (G4 i d st e))
theorem S7 (i : Nat) (d : Int) : ∀ (l : List Edge) (st : List Ag × List Edge),∀ e ∈ l,(e.to,d) ∈ (Ba i d st l).1
 | [],_,_,h => by simp at h
 | x :: l,st,e,h => by
  rcases List.mem_cons.1 h with rfl | h
  · exact (Iz i d l (G4 i d st e)).subset (Wt _ _)
  · exact S7 i d l (G4 i d st x) e h
theorem Mj (i : Nat) (d : Int) {L : List Ag} : ∀ (l : List Edge) (st : List Ag × List Edge),(Ba i d st l).1 <+: L → (Ba i d st l).2 = st.2 ++ l.map fun e => ⟨i,(L.idxOf (e.to,d) : Nat),e.must,e.no⟩
 | [],st,_ => by simp [Ba]
 | e :: l,st,h => by
  have h1 : Ba i d st (e :: l) = Ba i d (G4 i d st e) l := rfl
  rw [h1] at h ⊢
  rw [Mj i d l _ h]
  have h2 : B7 st.1 (e.to,d) <+: L := (Iz i d l (G4 i d st e)).trans h
  simp only [G4,List.map_cons,List.append_assoc,List.cons_append,List.nil_append]
  rw [Wz h2 (Wt _ _)]
  rfl
def S6 (sets : List (List Int)) (fr : Int → List Edge) (L : List Ag) (i : Nat) : List Edge := match L[i]? with
 | none => []
 | some p => (fr p.1).map fun e => ⟨i,(L.idxOf (e.to,Be sets p) : Nat),e.must,e.no⟩
def M4 (sets : List (List Int)) (L : List Ag) (i : Nat) : List Int := match L[i]? with
 | none => []
 | some p => if B9 sets p = true then [(i : Int)] else []
theorem Zq (sets : List (List Int)) (fr : Int → List Edge) (i : Nat) (st : DSt) : st.1 <+: (Gh sets fr i st).1 := by
 unfold Gh
 split
 · exact List.prefix_refl _
 · rename_i p _
   exact Iz i (Be sets p) (fr p.1) (st.1,st.2.1)
theorem O2 (sets : List (List Int)) (fr : Int → List Edge) (st0 : DSt) : ∀ {i j : Nat},i ≤ j → (A5 sets fr st0 i).1 <+: (A5 sets fr st0 j).1
 | i,0,h => by obtain rfl : i = 0 := by omega
               exact List.prefix_refl _
 | i,j + 1,h => by
  rcases Nat.lt_or_eq_of_le h with h1 | h1
  · exact (O2 sets fr st0 (show i ≤ j by omega)).trans (Zq sets fr j _)
  · subst h1; exact List.prefix_refl _
structure Deg (sets : List (List Int)) (fr : Int → List Edge) (L0 : List Ag) (N : Nat) (L : List Ag) : Prop where
 list : (A5 sets fr (L0,[],[]) N).1 = L
 start : L0 <+: L
 edges : (A5 sets fr (L0,[],[]) N).2.1 = (List.range L.length).flatMap (S6 sets fr L)
 fin : (A5 sets fr (L0,[],[]) N).2.2 = (List.range L.length).flatMap (M4 sets L)
 closed : ∀ p ∈ L,∀ e ∈ fr p.1,(e.to,Be sets p) ∈ L
theorem Oe {α : Type} {f : Nat → List α} {m N : Nat} (h : m ≤ N) (hf : ∀ i,m ≤ i → f i = []) : (List.range N).flatMap f = (List.range m).flatMap f := by
 induction N with
 | zero => obtain rfl : m = 0 := by omega
           rfl
 | succ N ih =>
  rcases Nat.lt_or_eq_of_le h with h1 | h1
  · rw [List.range_succ,List.flatMap_append,ih (by omega)]
    simp [hf N (by omega)]
  · rw [h1]
theorem AcC {sets : List (List Int)} {fr : Int → List Edge} {L0 : List Ag} {N : Nat} (hN : (A5 sets fr (L0,[],[]) N).1.length ≤ N) : Deg sets fr L0 N (A5 sets fr (L0,[],[]) N).1 := by
 obtain ⟨L,hL⟩ : ∃ L,L = (A5 sets fr (L0,[],[]) N).1 := ⟨_,rfl⟩
 rw [← hL] at hN ⊢
 have hpre : ∀ i,i ≤ N → (A5 sets fr (L0,[],[]) i).1 <+: L := fun i hi => by rw [hL]; exact O2 _ _ _ hi
 have hstop : ∀ i,i ≤ N → (A5 sets fr (L0,[],[]) i).1[i]? = none → L.length ≤ i := fun i hi h => by
  have h1 := E5 (sets := sets) (fr := fr) (st0 := (L0,[],[])) (i := i) (List.getElem?_eq_none_iff.1 h) N hi
  rw [hL,h1]
  exact List.getElem?_eq_none_iff.1 h
 have key : ∀ i,i ≤ N → (A5 sets fr (L0,[],[]) i).2.1 = (List.range i).flatMap (S6 sets fr L) ∧ (A5 sets fr (L0,[],[]) i).2.2 = (List.range i).flatMap (M4 sets L) ∧ ∀ j,j < i → ∀ p,L[j]? = some p → ∀ e ∈ fr p.1,(e.to,Be sets p) ∈ L := by
  intro i
  induction i with
  | zero => intro _; exact ⟨rfl,rfl,fun j h => absurd h (by omega)⟩
  | succ i ih =>
   intro hi
   obtain ⟨h1,h2,h3⟩ := ih (by omega)
   have hp := hpre (i + 1) hi
   have hs : A5 sets fr (L0,[],[]) (i + 1) = Gh sets fr i (A5 sets fr (L0,[],[]) i) := rfl
   rw [hs] at hp ⊢
   have hp0 := hpre i (by omega)
   have hst := hstop i (by omega)
   obtain ⟨D,hD⟩ : ∃ D,D = A5 sets fr (L0,[],[]) i := ⟨_,rfl⟩
   rw [← hD] at h1 h2 hp hp0 hst ⊢
   rw [List.range_succ,List.flatMap_append,List.flatMap_append]
   unfold Gh at hp ⊢
   split at hp
   · rename_i hn
     have hl := hst hn
     have hno : L[i]? = none := List.getElem?_eq_none hl
     refine ⟨by simp [S6,hno,h1],by simp [M4,hno,h2],fun j hj p hpj => ?_⟩
     have := (List.getElem?_eq_some_iff.1 hpj).1
     exact h3 j (by omega) p hpj
   · rename_i p hsome
     have hLp := R0 hp0 hsome
     dsimp only at hp ⊢
     refine ⟨?_,?_,fun j hj q hq e he => ?_⟩
     · rw [Mj i _ _ _ hp,h1]
       simp [S6,hLp]
     · rw [h2]; simp [M4,hLp]
     · rcases Nat.lt_or_eq_of_le (Nat.lt_succ_iff.1 hj) with h4 | h4
       · exact h3 j h4 q hq e he
       · subst h4
         rw [hLp] at hq
         obtain rfl := Option.some.inj hq
         exact hp.subset (S7 _ _ _ _ e he)
 obtain ⟨h1,h2,h3⟩ := key N (Nat.le_refl _)
 refine ⟨hL.symm,hpre 0 (Nat.zero_le _),?_,?_,fun p hp e he => ?_⟩
 · rw [h1]; exact Oe hN fun i hi => by simp [S6,List.getElem?_eq_none hi]
 · rw [h2]; exact Oe hN fun i hi => by simp [M4,List.getElem?_eq_none hi]
 · obtain ⟨j,hj⟩ := List.mem_iff_getElem?.1 hp
   exact h3 j (by have := (List.getElem?_eq_some_iff.1 hj).1; omega) p hj e he
def AgQ (fr : Int → List Edge) (init : List Int) (sets : List (List Int)) (σ : Nat → Int) : Prop := ∃ ρ : Nat → Int,ρ 0 ∈ init ∧ (∀ i,∃ e ∈ fr (ρ i),Hk e (σ i) = true ∧ e.to = ρ (i + 1)) ∧ ∀ F ∈ sets,∀ i,∃ j,i ≤ j ∧ ρ j ∈ F
theorem Xa {sets : List (List Int)} {q : Nat → Ag} (h0 : ∀ i,0 ≤ (q i).2 ∧ (q i).2 < (max sets.length 1 : Nat)) (hq : ∀ i,(q (i + 1)).2 = Be sets (q i)) : (∀ i,∃ j,i ≤ j ∧ B9 sets (q j) = true) ↔ ∀ F ∈ sets,∀ i,∃ j,i ≤ j ∧ (q j).1 ∈ F := by
 rcases Nat.eq_zero_or_pos sets.length with hk | hk
 · have hnil := List.eq_nil_of_length_eq_zero hk
   subst hnil
   exact ⟨fun _ F hF => by simp at hF,fun _ i => ⟨i,Nat.le_refl _,by simp [B9]⟩⟩
 obtain ⟨k,hkd⟩ : ∃ k,k = sets.length := ⟨_,rfl⟩
 have hmax : max sets.length 1 = k := by omega
 rw [hmax] at h0
 have hget : ∀ a,a < k → ∃ F,sets[a]? = some F ∧ F ∈ sets := fun a ha => ⟨sets[a]'(by omega),by simp,List.getElem_mem _⟩
 have hhas : ∀ {p : Ag} {a : Nat} {F : List Int},p.2 = (a : Nat) → sets[a]? = some F → (Fd sets p = true ↔ p.1 ∈ F) := fun {p a F} hp hF => by
  unfold Fd
  rw [decide_eq_true_eq,hp,Int.toNat_natCast,List.getD_eq_getElem?_getD,hF]
  exact Iff.rfl
 have hnx : ∀ i a,(q i).2 = (a : Nat) → Fd sets (q i) = true → (q (i + 1)).2 = (((a + 1) % k : Nat) : Int) := fun i a ha hh => by
  rw [hq i]; unfold Be
  rw [if_pos ⟨by omega,hh⟩,ha,Int.toNat_natCast,hkd]
 have hst : ∀ i,Fd sets (q i) = false → (q (i + 1)).2 = (q i).2 := fun i hh => by
  rw [hq i]; unfold Be
  rw [if_neg (by rw [hh]; simp)]
 have hfin : ∀ i,(q i).2 = ((k - 1 : Nat) : Int) → Fd sets (q i) = true → B9 sets (q i) = true := fun i h1 h2 => decide_eq_true (.inr ⟨by omega,h2⟩)
 constructor
 · intro hf F hF i
   obtain ⟨a,ha⟩ := List.mem_iff_getElem?.1 hF
   have hak : a < k := by have := (List.getElem?_eq_some_iff.1 ha).1; omega
   have hf2 : ∀ i,∃ j,i ≤ j ∧ (q j).2 = ((k - 1 : Nat) : Int) ∧ Fd sets (q j) = true := fun i => by
    obtain ⟨j,hj,h⟩ := hf i
    have h := of_decide_eq_true h
    rcases h with h | ⟨h1,h2⟩
    · omega
    · exact ⟨j,hj,by omega,h2⟩
   obtain ⟨j0,hj0,h1,h2⟩ := hf2 i
   have hz : (q (j0 + 1)).2 = 0 := by rw [hnx j0 (k - 1) h1 h2,show k - 1 + 1 = k by omega,Nat.mod_self]; rfl
   obtain ⟨j1,hj1,h3,h4⟩ := hf2 (j0 + 1)
   rcases Nat.lt_or_ge a (k - 1) with hlt | hge
   · have climb : ∀ m,(q (j0 + 1 + m)).2 > a → ∃ j,j0 + 1 ≤ j ∧ (q j).2 = (a : Nat) ∧ Fd sets (q j) = true := by
      intro m
      induction m with
      | zero => intro h; rw [Nat.add_zero,hz] at h; omega
      | succ m ih =>
       intro h
       by_cases hm : (q (j0 + 1 + m)).2 > a
       · exact ih hm
       · obtain ⟨c,hc⟩ : ∃ c : Nat,(q (j0 + 1 + m)).2 = c := ⟨(q (j0 + 1 + m)).2.toNat,by have := h0 (j0 + 1 + m); omega⟩
         cases hb : Fd sets (q (j0 + 1 + m)) with
         | false =>
          have := hst _ hb
          rw [show j0 + 1 + (m + 1) = j0 + 1 + m + 1 by omega,this] at h
          exact absurd h hm
         | true =>
          have := hnx _ c hc hb
          rw [show j0 + 1 + (m + 1) = j0 + 1 + m + 1 by omega,this] at h
          have hca : c = a := by
           have : (c + 1) % k ≤ c + 1 := Nat.mod_le _ _
           omega
          exact ⟨j0 + 1 + m,by omega,by rw [hc,hca],hb⟩
     obtain ⟨j,hj,h5,h6⟩ := climb (j1 - (j0 + 1)) (by rw [show j0 + 1 + (j1 - (j0 + 1)) = j1 by omega,h3]; omega)
     exact ⟨j,by omega,(hhas h5 ha).1 h6⟩
   · have : a = k - 1 := by omega
     subst this
     exact ⟨j0,hj0,(hhas h1 ha).1 h2⟩
 · intro hall
   have wait : ∀ i (a : Nat),(q i).2 = (a : Nat) → a < k → ∃ j,i ≤ j ∧ (q j).2 = (a : Nat) ∧ Fd sets (q j) = true := fun i a ha hak => by
    obtain ⟨F,hF,hFm⟩ := hget a hak
    obtain ⟨j,hj,hjF⟩ := hall F hFm i
    have go : ∀ m,(∃ t,i ≤ t ∧ t ≤ i + m ∧ (q t).2 = (a : Nat) ∧ Fd sets (q t) = true) ∨ (q (i + m)).2 = (a : Nat) := by
     intro m
     induction m with
     | zero => exact .inr ha
     | succ m ih =>
      rcases ih with ⟨t,h1,h2,h3⟩ | h
      · exact .inl ⟨t,h1,by omega,h3⟩
      · cases hb : Fd sets (q (i + m)) with
        | true => exact .inl ⟨i + m,by omega,by omega,h,hb⟩
        | false => exact .inr (by rw [show i + (m + 1) = i + m + 1 by omega,hst _ hb]; exact h)
    rcases go (j - i) with ⟨t,h1,-,h3⟩ | h
    · exact ⟨t,h1,h3⟩
    · rw [show i + (j - i) = j by omega] at h
      exact ⟨j,hj,h,(hhas h hF).2 hjF⟩
   have reach : ∀ m i (a : Nat),(q i).2 = (a : Nat) → a + m = k - 1 → ∃ j,i ≤ j ∧ B9 sets (q j) = true := by
    intro m
    induction m with
    | zero =>
     intro i a ha hm
     obtain ⟨j,hj,h1,h2⟩ := wait i a ha (by omega)
     exact ⟨j,hj,hfin j (by rw [h1]; congr 1) h2⟩
    | succ m ih =>
     intro i a ha hm
     obtain ⟨j,hj,h1,h2⟩ := wait i a ha (by omega)
     have h3 := hnx j a h1 h2
     rw [Nat.mod_eq_of_lt (by omega)] at h3
     obtain ⟨j2,hj2,h4⟩ := ih (j + 1) (a + 1) h3 (by omega)
     exact ⟨j2,by omega,h4⟩
   intro i
   obtain ⟨c,hc⟩ : ∃ c : Nat,(q i).2 = c := ⟨(q i).2.toNat,by have := h0 i; omega⟩
   have hck : c < k := by have := h0 i; omega
   exact reach (k - 1 - c) i c hc (by omega)
theorem Ni {L : List Ag} {q : Ag} (h : q ∈ L) : L[L.idxOf q]? = some q := by
 have h1 := List.idxOf_lt_length_of_mem h
 rw [List.getElem?_eq_getElem h1,List.getElem_idxOf h1]
theorem Od {sets : List (List Int)} {fr : Int → List Edge} {L : List Ag} {e : Edge} : e ∈ (List.range L.length).flatMap (S6 sets fr L) ↔ ∃ (i : Nat) (p : Ag),L[i]? = some p ∧ ∃ d ∈ fr p.1,e = ⟨i,(L.idxOf (d.to,Be sets p) : Nat),d.must,d.no⟩ := by
 simp only [List.mem_flatMap,List.mem_range]
 constructor
 · rintro ⟨i,hi,he⟩
   unfold S6 at he
   rw [List.getElem?_eq_getElem hi] at he
   obtain ⟨d,hd,rfl⟩ := List.mem_map.1 he
   exact ⟨i,L[i],List.getElem?_eq_getElem hi,d,hd,rfl⟩
 · rintro ⟨i,p,hp,d,hd,rfl⟩
   refine ⟨i,(List.getElem?_eq_some_iff.1 hp).1,?_⟩
   unfold S6
   rw [hp]
   exact List.mem_map.2 ⟨d,hd,rfl⟩
theorem finR_mem {sets : List (List Int)} {L : List Ag} {z : Int} : z ∈ (List.range L.length).flatMap (M4 sets L) ↔ ∃ (i : Nat) (p : Ag),L[i]? = some p ∧ B9 sets p = true ∧ z = i := by
 simp only [List.mem_flatMap,List.mem_range]
 constructor
 · rintro ⟨i,hi,he⟩
   unfold M4 at he
   rw [List.getElem?_eq_getElem hi] at he
   simp only at he
   split at he
   · rename_i hf
     simp at he
     exact ⟨i,L[i],List.getElem?_eq_getElem hi,hf,he⟩
   · simp at he
 · rintro ⟨i,p,hp,hf,rfl⟩
   refine ⟨i,(List.getElem?_eq_some_iff.1 hp).1,?_⟩
   unfold M4
   rw [hp]
   simp [hf]
theorem Ts {init : List Int} (hnd : init.Nodup) {L : List Ag} (hL : (A9 init).1 <+: L) {z : Int} : z ∈ (A9 init).2 ↔ ∃ (i : Nat) (s : Int),s ∈ init ∧ (i : Int) = z ∧ L[i]? = some (s,0) ∧ i < init.length := by
 rw [Bf hnd] at hL ⊢
 simp only [List.mem_map,List.mem_range]
 constructor
 · rintro ⟨i,hi,rfl⟩
   exact ⟨i,init[i],List.getElem_mem hi,rfl,R0 hL (by simp [hi]),hi⟩
 · rintro ⟨i,s,-,rfl,-,hi⟩
   exact ⟨i,hi,rfl⟩
theorem Tu {e d : Edge} (h1 : e.must = d.must) (h2 : e.no = d.no) (l : Int) : Hk e l = Hk d l := by unfold Hk; rw [h1,h2]
theorem AbB {props : List ByteArray} {init : List Int} {sets : List (List Int)} {fr : Int → List Edge} {N : Nat} {L : List Ag} {σ : Nat → Int} (hnd : init.Nodup) (hD : Deg sets fr (A9 init).1 N L) (hbox : ∀ p ∈ L,0 ≤ p.2 ∧ p.2 < (max sets.length 1 : Nat)) (hLn : L.Nodup) :
 AbY (Cf props init sets fr N).general σ ↔ AgQ fr init sets σ := by
 have hE : ∀ {e : Edge},e ∈ (Cf props init sets fr N).general.edges ↔ ∃ (i : Nat) (p : Ag),L[i]? = some p ∧ ∃ d ∈ fr p.1,e = ⟨i,(L.idxOf (d.to,Be sets p) : Nat),d.must,d.no⟩ := fun {e} => by
  show e ∈ Br (Bj (A5 sets fr ((A9 init).1,[],[]) N).2.1) ↔ _
  rw [Fz,Fu,hD.edges,Od]
 have hF : ∀ {z : Int},z ∈ (A5 sets fr ((A9 init).1,[],[]) N).2.2 ↔ ∃ (i : Nat) (p : Ag),L[i]? = some p ∧ B9 sets p = true ∧ z = i := fun {z} => by
  rw [hD.fin,finR_mem]
 have hsets : A4 (Cf props init sets fr N).general = [(A5 sets fr ((A9 init).1,[],[]) N).2.2] := rfl
 constructor
 · rintro ⟨ρ,h0,hs,ha⟩
   obtain ⟨q,hq⟩ : ∃ q : Nat → Ag,q = fun i => L.getD (ρ i).toNat (0,0) := ⟨_,rfl⟩
   have hst : ∀ i,∃ d ∈ fr (q i).1,Hk d (σ i) = true ∧ q (i + 1) = (d.to,Be sets (q i)) ∧ q i ∈ L := fun i => by
    obtain ⟨e,he,h1,h2,h3⟩ := hs i
    obtain ⟨n,p,hp,d,hd,rfl⟩ := hE.1 he
    have hqi : q i = p := by rw [hq]; simp only; rw [← h1]; simp [List.getD_eq_getElem?_getD,hp]
    have hpL := List.mem_of_getElem? hp
    have hcl := hD.closed p hpL d hd
    refine ⟨d,by rw [hqi]; exact hd,(Tu rfl rfl _).symm.trans h2,?_,by rw [hqi]; exact hpL⟩
    rw [hqi,hq]
    simp only
    rw [← h3]
    simp [List.getD_eq_getElem?_getD,Ni hcl]
   refine ⟨fun i => (q i).1,?_,fun i => ?_,?_⟩
   · obtain ⟨n,s,hs1,hn,hL,-⟩ := (Ts hnd hD.start).1 h0
     have : q 0 = (s,0) := by rw [hq]; simp only; rw [← hn]; simp [List.getD_eq_getElem?_getD,hL]
     show (q 0).1 ∈ init
     rw [this]; exact hs1
   · obtain ⟨d,hd,h1,h2,-⟩ := hst i
     exact ⟨d,hd,h1,by show d.to = (q (i + 1)).1; rw [h2]⟩
   · refine (Xa (q := q) (fun i => ?_) fun i => ?_).1 fun i => ?_
     · obtain ⟨d,-,-,-,h⟩ := hst i
       exact hbox _ h
     · obtain ⟨d,-,-,h,-⟩ := hst i
       rw [h]
     · obtain ⟨j,hj,h⟩ := ha _ (by rw [hsets]; exact List.mem_singleton.2 rfl) i
       obtain ⟨n,p,hp,hf,hz⟩ := hF.1 h
       have hqj : q j = p := by rw [hq]; simp only; rw [hz]; simp [List.getD_eq_getElem?_getD,hp]
       exact ⟨j,hj,by rw [hqj]; exact hf⟩
 · rintro ⟨ρ,h0,hs,ha⟩
   obtain ⟨q,hq0,hq1⟩ : ∃ q : Nat → Ag,q 0 = (ρ 0,0) ∧ ∀ i,q (i + 1) = (ρ (i + 1),Be sets (q i)) :=
    ⟨fun i => Nat.rec (ρ 0,0) (fun i p => (ρ (i + 1),Be sets p)) i,rfl,fun _ => rfl⟩
   have hq2 : ∀ i,(q i).1 = ρ i := fun i => by
    cases i with
    | zero => rw [hq0]
    | succ i => rw [hq1]
   have hL0 : q 0 ∈ L := hD.start.subset (by rw [Bf hnd,hq0]; exact List.mem_map.2 ⟨ρ 0,h0,rfl⟩)
   have hqL : ∀ i,q i ∈ L := fun i => by
    induction i with
    | zero => exact hL0
    | succ i ih =>
     obtain ⟨d,hd,-,h2⟩ := hs i
     rw [hq1,← h2]
     exact hD.closed _ ih d (by rw [hq2]; exact hd)
   refine ⟨fun i => (L.idxOf (q i) : Nat),?_,fun i => ?_,fun F hF' i => ?_⟩
   · refine (Ts hnd hD.start).2 ⟨L.idxOf (q 0),ρ 0,h0,rfl,by rw [Ni hL0,hq0],?_⟩
     rw [Wz hD.start (by rw [Bf hnd,hq0]; exact List.mem_map.2 ⟨ρ 0,h0,rfl⟩),Bf hnd,hq0]
     have : (ρ 0,(0 : Int)) ∈ init.map fun s => (s,(0 : Int)) := List.mem_map.2 ⟨ρ 0,h0,rfl⟩
     simpa using List.idxOf_lt_length_of_mem this
   · obtain ⟨d,hd,h1,h2⟩ := hs i
     refine ⟨_,hE.2 ⟨L.idxOf (q i),q i,Ni (hqL i),d,by rw [hq2]; exact hd,rfl⟩,rfl,(Tu rfl rfl _).trans h1,?_⟩
     show ((L.idxOf (d.to,Be sets (q i)) : Nat) : Int) = (L.idxOf (q (i + 1)) : Nat)
     rw [hq1,h2]
   · rw [hsets,List.mem_singleton] at hF'
     subst hF'
     obtain ⟨j,hj,h⟩ := (Xa (q := q) (fun i => hbox _ (hqL i)) (fun i => by rw [hq1])).2 (fun F hF i => by
      obtain ⟨j,hj,h⟩ := ha F hF i
      exact ⟨j,hj,by rw [hq2]; exact h⟩) i
     exact ⟨j,hj,hF.2 ⟨_,_,Ni (hqL j),h,rfl⟩⟩
abbrev bv (z : Int) : BitVec 16 := BitVec.ofInt 16 z
theorem AgL (a b : Int) : bits .and .u16 a b = ((bv a &&& bv b).toNat : Nat) := by
 have h : bits .and .u16 a b = IntKind.u16.wrap (((BitVec.ofInt (IntKind.bits .u16) a &&& BitVec.ofInt (IntKind.bits .u16) b).toNat : Nat) : Int) := rfl
 rw [h]
 have h1 := (bv a &&& bv b).isLt
 have hw : ∀ z : Nat,z < 65536 → IntKind.u16.wrap (z : Int) = z := fun z hz => by
  show (if (false && decide ((z : Int) % 65536 ≥ 32768)) = true then (z : Int) % 65536 - 65536 else (z : Int) % 65536) = z
  rw [if_neg (by simp)]; omega
 exact hw _ h1
theorem Af3 (a b : Int) : bits .or .u16 a b = ((bv a ||| bv b).toNat : Nat) := by
 have h : bits .or .u16 a b = IntKind.u16.wrap (((BitVec.ofInt (IntKind.bits .u16) a ||| BitVec.ofInt (IntKind.bits .u16) b).toNat : Nat) : Int) := rfl
 rw [h]
 have h1 := (bv a ||| bv b).isLt
 have hw : ∀ z : Nat,z < 65536 → IntKind.u16.wrap (z : Int) = z := fun z hz => by
  show (if (false && decide ((z : Int) % 65536 ≥ 32768)) = true then (z : Int) % 65536 - 65536 else (z : Int) % 65536) = z
  rw [if_neg (by simp)]; omega
 exact hw _ h1
theorem AaC (x : BitVec 16) : bv (x.toNat : Int) = x := by simp [bv]
theorem Kj (l m : Int) : bits .and .u16 l m = 0 ↔ bv l &&& bv m = 0#16 := by
 rw [AgL]
 constructor
 · intro h
   have h2 : (bv l &&& bv m).toNat = 0 := by omega
   exact BitVec.eq_of_toNat_eq (by rw [h2]; rfl)
 · intro h
   rw [h]; rfl
theorem Zs (d e : Edge) : Gw d e = true ↔ bv d.must &&& bv e.no = 0#16 ∧ bv e.must &&& bv d.no = 0#16 := by
 unfold Gw
 rw [Bool.and_eq_true,decide_eq_true_eq,decide_eq_true_eq,Kj,Kj]
theorem Sd {x y : BitVec 16} (h : ∀ i (hi : i < 16),x[i] = y[i]) : x = y := BitVec.eq_of_getElem_eq h
end Go.Au