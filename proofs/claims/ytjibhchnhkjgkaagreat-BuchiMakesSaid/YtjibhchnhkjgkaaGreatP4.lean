/- Own text of this workplace: a part of the proofs of this place's statements. -/
import Derived.Shelf.SortM.Plain
import Derived.Shelf.SortM.SortNone
import Derived.Shelf.SlSortCmp.NoneTotal
import Derived.Shelf.SlGeneric
import Derived.Ground.SlsfProg
import Derived.Ground.SlgmProg
import Derived.Test.YtjibhchnhkjgkaaGreatChecked
import Derived.Test.YtjibhchnhkjgkaaGreatP0
import Derived.Test.YtjibhchnhkjgkaaGreatG
import Derived.Test.YtjibhchnhkjgkaaGreatP2
import Derived.Test.YtjibhchnhkjgkaaGreatP3
set_option maxRecDepth 40000
set_option linter.unusedVariables false
set_option linter.unusedSimpArgs false
set_option linter.unusedSectionVars false
namespace Go.Au
open Go.Proofs.Tryz
open Go Go.RowKit
theorem Q2 : Af prog 119 = true := by kernel_rfl
theorem Wu (w : World) (s : ByteArray) : Calls prog 119 [.string s].toArray w (Bg fun r w' => r = .bool (En s) ∧ Kp w w') := by
 refine call Aa func119 rfl ntmps119 (by kernel_rfl) ?_
 refine loop Aa (σ := Nat) (fun i => [(0,.string s),(3,.int .i64 i)]) (fun i w' => Kp w w' ∧ i ≤ s.size ∧ i ≤ 33 ∧ (s.data.toList.take i).all (fun c => !Cu c) = true) (fun i => s.size - i) 0
  ⟨rfl,rfl,trivial⟩ ⟨Chg.refl _ _,by omega,by omega,by simp⟩ ?_
 rintro i e0 w1 ⟨k1,hi,hi33,hall⟩
 have fin : ∀ W,Kp w W → (i = s.size ∨ i = 33) → (∀ b : Bool,b = (decide (0 < (s.size : Int)) && decide ((s.size : Int) ≤ 32)) → (Value.bool b = .bool (En s) ∧ Kp w W)) := fun W k h b hb => by
  refine ⟨?_,k⟩
  subst hb
  congr 1
  unfold En
  rcases h with h | h
  · have ht : s.data.toList.take i = s.data.toList := List.take_of_length_le (by have : s.data.toList.length = s.size := Array.length_toList; omega)
    rw [ht] at hall
    rw [hall,Bool.and_true]
    congr 1 <;> exact decide_eq_decide.2 (by omega)
  · rw [decide_eq_false (p := (s.size : Int) ≤ 32) (by omega),decide_eq_false (p := s.size ≤ 32) (by omega)]
    simp
 refine sp (fun h1 => ?_) (fun h1 => ?_)
 · refine sp (fun h2 => ?_) (fun h2 => ?_)
   · have hj' : i < s.size := by omega
     have hjt : s.data.toList.take (i + 1) = s.data.toList.take i ++ [s[i]] := by
      rw [List.take_succ_eq_append_getElem (by simpa using hj')]
      rfl
     have badb : Cu s[i] = true → En s = false := fun hb => by
      simp only [En,Bool.and_eq_false_iff]
      refine .inr ?_
      rw [List.all_eq_false]
      exact ⟨s[i],by
       have : s[i] ∈ s.data.toList.take (i + 1) := by rw [hjt]; simp
       exact List.mem_of_mem_take this,by simp [hb]⟩
     refine ixS Aa rfl rfl rfl rfl hj' ?_
     refine sp (fun h5 => ?_) (fun h5 => ?_)
     · exact ⟨congrArg Value.bool (badb (by simp [Cu,h5])).symm,k1⟩
     refine ixS Aa rfl rfl rfl rfl hj' ?_
     refine sp (fun h6 => ?_) (fun h6 => ?_)
     · exact ⟨congrArg Value.bool (badb (by simp [Cu,h6])).symm,k1⟩
     refine ixS Aa rfl rfl rfl rfl hj' ?_
     refine sp (fun h7 => ?_) (fun h7 => ?_)
     · exact ⟨congrArg Value.bool (badb (by simp [Cu,h7])).symm,k1⟩
     refine ixS Aa rfl rfl rfl rfl hj' ?_
     refine sp (fun h8 => ?_) (fun h8 => ?_)
     · exact ⟨congrArg Value.bool (badb (by simp [Cu,h8])).symm,k1⟩
     refine aw (by omega) (by omega) ?_
     refine again (i + 1) ⟨rfl,rfl,trivial⟩ ⟨k1,by omega,by omega,?_⟩ (by omega)
     rw [hjt,List.all_append,hall]
     simp [Cu,h5,h6,h7,h8]
   · refine sp (fun h3 => ?_) (fun h3 => ?_)
     · refine sp (fun h4 => ?_) (fun h4 => ?_)
       · exact fin _ k1 (by omega) _ (by rw [decide_eq_true h3,decide_eq_true h4]; rfl)
       · exact fin _ k1 (by omega) _ (by rw [decide_eq_true h3,decide_eq_false h4]; rfl)
     · exact fin _ k1 (by omega) _ (by rw [decide_eq_false h3]; rfl)
 · refine sp (fun h3 => ?_) (fun h3 => ?_)
   · refine sp (fun h4 => ?_) (fun h4 => ?_)
     · exact fin _ k1 (by omega) _ (by rw [decide_eq_true h3,decide_eq_true h4]; rfl)
     · exact fin _ k1 (by omega) _ (by rw [decide_eq_true h3,decide_eq_false h4]; rfl)
   · exact fin _ k1 (by omega) _ (by rw [decide_eq_false h3]; rfl)
theorem H1 : Af prog 95 = true := by kernel_rfl
theorem Zk {w : World} {lo hi : Nat} {v : Value} {xs : List Int} {n : Int} (h : Ef lo hi w v xs) (hl : xs.length < 4611686018427387904) :
 Calls prog 95 [v,.int .i64 n].toArray w (Bg fun r w' => r = .bool (Ak n none xs) ∧ Kp w w') := by
 obtain ⟨a,cap,rfl,hcap,hx⟩ := h
 refine call Aa func95 rfl ntmps95 (by kernel_rfl) ?_
 refine loop Aa (σ := Nat) (fun i => [(0,.slice a xs.length cap),(1,.int .i64 n),(5,.int .i64 i)])
  (fun i w' => Kp w w' ∧ i ≤ xs.length ∧ Ak n none xs = Ak n (if i = 0 then none else xs[i-1]?) (xs.drop i)) (fun i => xs.length - i) 0
  ⟨rfl,rfl,rfl,trivial⟩ ⟨Chg.refl _ _,by omega,by simp⟩ ?_
 rintro i e0 w1 ⟨hk,hi,hr⟩
 refine sp (fun h1 => ?_) (fun h1 => ?_)
 · obtain ⟨b,o,rfl,hlo,hhi,cs,hcs,hrd,rfl⟩ := hx i xs[i] (by simp)
   have hi' : i < xs.length := by omega
   rw [List.drop_eq_getElem_cons hi'] at hr
   refine Ax Aa mixed 29 (by kernel_rfl) (fun _ => False) ?_
   conv => whnf
   refine ne ⟨by omega,h1⟩ ?_
   conv => whnf
   refine A7 Aa rfl rfl (fun W h _ => (hk.trans h).range hrd id) rfl fun _ => ?_
   conv => whnf
   refine sp (fun h2 => ?_) (fun h2 => ?_)
   · conv => whnf
     intro W h _
     exact ⟨congrArg Value.bool (by rw [hr]; simp [Ak,h2]),hk.trans h⟩
   conv => whnf
   refine ne ⟨by omega,h1⟩ ?_
   conv => whnf
   refine A7 Aa rfl rfl (fun W h _ => (hk.trans h).range hrd id) rfl fun _ => ?_
   conv => whnf
   refine sp (fun h3 => ?_) (fun h3 => ?_)
   · conv => whnf
     intro W h _
     exact ⟨congrArg Value.bool (by rw [hr]; simp [Ak,h3]),hk.trans h⟩
   conv => whnf
   refine sp (fun h4 => ?_) (fun h4 => ?_)
   · conv => whnf
     refine ne ⟨by omega,h1⟩ ?_
     conv => whnf
     refine A7 Aa rfl rfl (fun W h _ => (hk.trans h).range hrd id) rfl fun _ => ?_
     conv => whnf
     refine aw (by omega) (by omega) ?_
     conv => whnf
     obtain ⟨b',o',hb',-,-,cs',hcs',hrd',rfl⟩ := hx (i - 1) xs[i-1] (by simp)
     cases hb'
     refine ne ⟨by omega,by omega⟩ ?_
     conv => whnf
     refine A7 Aa (o := o + ((i : Int) - 1).toNat * 1) rfl rfl (fun W h _ => (hk.trans h).range (by rw [show ((i : Int) - 1).toNat = i - 1 by omega]; exact hrd') id) rfl fun _ => ?_
     conv => whnf
     have h0 : i ≠ 0 := by omega
     rw [if_neg h0,List.getElem?_eq_getElem (by omega)] at hr
     refine sp (fun h5 => ?_) (fun h5 => ?_)
     · conv => whnf
       intro W h _
       exact ⟨congrArg Value.bool (by rw [hr]; simp [Ak,h5]),hk.trans h⟩
     · conv => whnf
       intro W h _
       refine aw (by omega) (by omega) ?_
       refine again (i + 1) ⟨rfl,rfl,rfl,trivial⟩ ⟨hk.trans h,by omega,?_⟩ (by omega)
       rw [hr]; simp [Ak,h2,h3,h5,List.getElem?_eq_getElem hi']
   · conv => whnf
     intro W h _
     refine aw (by omega) (by omega) ?_
     refine again (i + 1) ⟨rfl,rfl,rfl,trivial⟩ ⟨hk.trans h,by omega,?_⟩ (by omega)
     have h0 : i = 0 := by omega
     subst h0
     rw [hr]; simp [Ak,h2,h3,List.getElem?_eq_getElem hi']
 · refine ⟨congrArg Value.bool (by rw [hr,List.drop_eq_nil_of_le (by omega)]; rfl),hk⟩
theorem cmp3_eq0 {a b : Int} : Er a b = 0 ↔ a = b := by
 unfold Er; split
 · simp; omega
 · split
   · simp; omega
   · simp; omega
theorem cmp3_lt0 {a b : Int} : Er a b < 0 ↔ a < b := by
 unfold Er; split
 · simp; omega
 · split
   · simp; omega
   · simp; omega
theorem Bb (x : Int) (r : List Int) : Dx (x :: r) = if x = 0 then Dx r else x := rfl
theorem Jd : Af prog 96 = true := by kernel_rfl
def Dr (a b : Edge) : Bool := decide (Ci a b < 0)
theorem Nn (w : World) (a b : Edge) : Calls prog 96 [a.val,b.val].toArray w (Bg fun r w' => r = .bool (Dr a b) ∧ Kp w w') := by
 refine call Aa func96 rfl ntmps96 (by kernel_rfl) ?_
 refine nd fun p w1 e1 s1 k1 m1 => ?_
 refine nd fun q w2 e2 s2 k2 m2 => ?_
 have A : Own w2 p 67 a.cells := k2.own m1 id
 have B : Own w2 q 67 b.cells := m2
 have K := k1.trans k2
 have fin : ∀ c : Bool,c = Dr a b → (Value.bool c = .bool (Dr a b) ∧ Kp w w2) := fun c hc => ⟨by rw [hc],K⟩
 refine ld Aa (Own.at_ (xs := [.int .i64 a.frm]) (o := 0) A rfl) rfl ?_
 refine ld Aa (Own.at_ (xs := [.int .i64 b.frm]) (o := 0) B rfl) rfl ?_
 refine sp (fun h1 => ?_) (fun h1 => ?_)
 · refine ld Aa (Own.at_ (xs := [.int .i64 a.frm]) (o := 0) A rfl) rfl ?_
   refine ld Aa (Own.at_ (xs := [.int .i64 b.frm]) (o := 0) B rfl) rfl ?_
   refine Zc ?_
   refine fin _ ?_
   unfold Dr Ci
   rw [Bb,if_neg (fun h => h1 (cmp3_eq0.1 h))]
   exact decide_eq_decide.2 cmp3_lt0.symm
 refine ld Aa (Own.at_ (xs := [.int .i64 a.to]) (o := 1) A rfl) rfl ?_
 refine ld Aa (Own.at_ (xs := [.int .i64 b.to]) (o := 1) B rfl) rfl ?_
 have h1 : a.frm = b.frm := Decidable.not_not.1 h1
 refine sp (fun h2 => ?_) (fun h2 => ?_)
 · refine ld Aa (Own.at_ (xs := [.int .i64 a.to]) (o := 1) A rfl) rfl ?_
   refine ld Aa (Own.at_ (xs := [.int .i64 b.to]) (o := 1) B rfl) rfl ?_
   refine Zc ?_
   refine fin _ ?_
   unfold Dr Ci
   rw [Bb,if_pos (cmp3_eq0.2 h1),Bb,if_neg (fun h => h2 (cmp3_eq0.1 h))]
   exact decide_eq_decide.2 cmp3_lt0.symm
 refine ld Aa (Own.at_ (xs := [.int .u16 a.must]) (o := 2) A rfl) rfl ?_
 refine ld Aa (Own.at_ (xs := [.int .u16 b.must]) (o := 2) B rfl) rfl ?_
 have h2 : a.to = b.to := Decidable.not_not.1 h2
 refine sp (fun h3 => ?_) (fun h3 => ?_)
 · refine ld Aa (Own.at_ (xs := [.int .u16 a.must]) (o := 2) A rfl) rfl ?_
   refine ld Aa (Own.at_ (xs := [.int .u16 b.must]) (o := 2) B rfl) rfl ?_
   refine Zc ?_
   refine fin _ ?_
   unfold Dr Ci
   rw [Bb,if_pos (cmp3_eq0.2 h1),Bb,if_pos (cmp3_eq0.2 h2),Bb,if_neg (fun h => h3 (cmp3_eq0.1 h))]
   exact decide_eq_decide.2 cmp3_lt0.symm
 have h3 : a.must = b.must := Decidable.not_not.1 h3
 refine ld Aa (Own.at_ (xs := [.int .u16 a.no]) (o := 3) A rfl) rfl ?_
 refine ld Aa (Own.at_ (xs := [.int .u16 b.no]) (o := 3) B rfl) rfl ?_
 refine Zc ?_
 refine fin _ ?_
 unfold Dr Ci
 rw [Bb,if_pos (cmp3_eq0.2 h1),Bb,if_pos (cmp3_eq0.2 h2),Bb,if_pos (cmp3_eq0.2 h3),Bb]
 by_cases h4 : Er a.no b.no = 0
 · rw [if_pos h4]
   have := cmp3_eq0.1 h4
   exact decide_eq_decide.2 (by simp [Dx]; omega)
 · rw [if_neg h4]
   exact decide_eq_decide.2 cmp3_lt0.symm
theorem O6 : Af prog 94 = true := by kernel_rfl
theorem S8 {w : World} {lo hi : Nat} {v : Value} {l : List ByteArray} (h : Ib lo hi w v l) (hl : l.length < 4611686018427387904) :
 Calls prog 94 [v].toArray w (Bg fun r w' => r = .bool (Bz l) ∧ Kp w w') := by
 obtain ⟨a,cap,rfl,hcap,hx⟩ := h
 refine call Aa func94 rfl ntmps94 (by kernel_rfl) ?_
 refine sp (fun h8 => ?_) (fun h8 => ?_)
 · exact ⟨congrArg Value.bool (by unfold Bz; rw [decide_eq_false (p := l.length ≤ 8) (by omega),Bool.and_false]),Chg.refl _ _⟩
 refine loop Aa (σ := Nat) (fun i => [(0,.slice a l.length cap),(3,.int .i64 i)])
  (fun i w' => Kp w w' ∧ i ≤ l.length ∧ (l.take i).Nodup ∧ (l.take i).all En = true) (fun i => l.length - i) 0
  ⟨rfl,rfl,trivial⟩ ⟨Chg.refl _ _,by omega,by simp,by simp⟩ ?_
 rintro i e0 w1 ⟨k1,hi,hnd,hall⟩
 refine sp (fun h1 => ?_) (fun h1 => ?_)
 · have hi' : i < l.length := by omega
   obtain ⟨b,o,rfl,-,-,cs,hcs,hrd,rfl⟩ := hx i l[i] (by simp)
   have htk : l.take (i + 1) = l.take i ++ [l[i]] := by simp
   refine ne ⟨by omega,h1⟩ ?_
   refine ld Aa (k1.range hrd id) rfl ?_
   cases hnm : En l[i] with
   | false =>
    have hc := Wu w1 l[i]
    rw [hnm] at hc
    refine cl Q2 hc ?_
    rintro _ w2 ⟨rfl,k2⟩
    refine ⟨congrArg Value.bool ?_,k1.trans k2⟩
    unfold Bz
    rw [List.all_eq_false.2 ⟨l[i],by simp,by simp [hnm]⟩]
    simp
   | true =>
    have hc := Wu w1 l[i]
    rw [hnm] at hc
    refine cl Q2 hc ?_
    rintro _ w2 ⟨rfl,k2⟩
    refine loop Aa (σ := Nat) (fun j => [(0,.slice (some ⟨b,o,none⟩) l.length cap),(3,.int .i64 i),(4,.int .i64 j)])
     (fun j w' => Kp w w' ∧ j ≤ i ∧ l[i] ∉ l.take j) (fun j => i - j) 0 ⟨rfl,rfl,rfl,trivial⟩ ⟨k1.trans k2,by omega,by simp⟩ ?_
    rintro j e1 w3 ⟨k3,hj,hno⟩
    refine sp (fun h2 => ?_) (fun h2 => ?_)
    · have hj' : j < l.length := by omega
      obtain ⟨b',o',hb',-,-,cs',hcs',hrd',rfl⟩ := hx j l[j] (by simp)
      cases hb'
      refine Ax Aa mixed 9 (by kernel_rfl) (fun _ => False) ?_
      conv => whnf
      refine ne ⟨by omega,by omega⟩ ?_
      conv => whnf
      refine A7 Aa rfl rfl (fun W h _ => (k3.trans h).range hrd' id) rfl fun _ => ?_
      conv => whnf
      refine ne ⟨by omega,by omega⟩ ?_
      conv => whnf
      refine A7 Aa rfl rfl (fun W h _ => (k3.trans h).range hrd id) rfl fun _ => ?_
      conv => whnf
      refine sp (fun h3 => ?_) (fun h3 => ?_)
      · conv => whnf
        intro W h _
        refine ⟨congrArg Value.bool ?_,k3.trans h⟩
        unfold Bz
        rw [decide_eq_false]
        · rfl
        · intro hn
          exact absurd ((List.getElem_inj hn).1 h3) (by omega)
      · conv => whnf
        intro W h _
        refine aw (by omega) (by omega) ?_
        refine again (j + 1) ⟨rfl,rfl,rfl,trivial⟩ ⟨k3.trans h,by omega,?_⟩ (by omega)
        rw [List.take_succ_eq_append_getElem hj',List.mem_append]
        rintro (hm | hm)
        · exact hno hm
        · simp at hm; exact h3 hm.symm
    · have : j = i := by omega
      subst this
      refine aw (by omega) (by omega) ?_
      refine again (j + 1) ⟨rfl,rfl,trivial⟩ ⟨k3,by omega,?_,?_⟩ (by omega)
      · rw [htk,List.nodup_append]
        refine ⟨hnd,by simp,fun x hx y hy he => ?_⟩
        simp at hy
        exact hno (hy ▸ he ▸ hx)
      · rw [htk,List.all_append,hall]
        simp [hnm]
 · have : l.take i = l := List.take_of_length_le (by omega)
   rw [this] at hnd hall
   exact ⟨congrArg Value.bool (by unfold Bz; rw [hall,decide_eq_true hnd,decide_eq_true (by omega)]; rfl),k1⟩
theorem arE {z z' : Int} {K : Int → Prop} (hz : z = z') (h : K z') : Ar z K := by subst hz; exact ar h
theorem Wj {z : Int} (h1 : 0 ≤ z) (h2 : z < 65536) : IntKind.u16.wrap z = z := by
 show (if (false && decide (z % 65536 ≥ 32768)) = true then z % 65536 - 65536 else z % 65536) = z
 rw [if_neg (by simp)]; omega
theorem Mu : Af prog 48 = true := by kernel_rfl
set_option maxHeartbeats 4000000 in
theorem S9 {w : World} {lo hi : Nat} {pv iv ev sv : Value} {g : General} (hv : GenV lo hi w pv iv ev sv g) :
 Calls prog 48 [.agg #[pv,.int .i64 g.states,iv,ev,sv]].toArray w (Bg fun r w' => r = .int .i64 (Kb (Al g)) ∧ Kp w w') := by
 refine call Aa func48 rfl ntmps48 (by kernel_rfl) ?_
 refine nd fun p w1 e1 s1 k1 m1 => ?_
 have m1 : Own w1 p 27 [pv,.int .i64 g.states,iv,ev,sv] := m1
 have ret0 : ∀ W,Kp w1 W → Al g = false → (Value.int .i64 100 = .int .i64 (Kb (Al g)) ∧ Kp w W) := fun W h hf => ⟨by rw [hf]; rfl,k1.trans h⟩
 have rowc : ∀ W u xs,Kp w1 W → Ef lo hi w u xs → xs.length < 4611686018427387904 → ∀ b,Ak g.states none xs = b → Calls prog 95 [u,.int .i64 g.states].toArray W (Bg fun r w' => r = .bool b ∧ Kp W w') := fun W u xs h hu hl b hb => by
  subst hb
  exact Zk (hu.chg (k1.trans h) (fun _ _ _ h => h) (fun _ _ h => h)) hl
 refine ld Aa (Own.at_ (xs := [pv]) m1 rfl) (by rfl) ?_
 cases hnm : Bz g.props with
 | false =>
  refine cl (R := fun r w' => r = .bool false ∧ Kp w1 w') O6 (by have := S8 (hv.props.chg k1 (fun _ _ _ h => h) (fun _ _ h => h)) hv.lp; rw [hnm] at this; exact this) ?_
  rintro _ w2 ⟨rfl,k2⟩
  exact ret0 _ k2 (by simp [Al,hnm])
 | true =>
 refine cl (R := fun r w' => r = .bool true ∧ Kp w1 w') O6 (by have := S8 (hv.props.chg k1 (fun _ _ _ h => h) (fun _ _ h => h)) hv.lp; rw [hnm] at this; exact this) ?_
 rintro _ w2 ⟨rfl,k2⟩
 have hlp : g.props.length ≤ 8 := by
  unfold Bz at hnm
  rw [Bool.and_eq_true] at hnm
  exact of_decide_eq_true hnm.2
 refine ld Aa (Own.at_ (xs := [.int .i64 g.states]) (k2.own m1 id) rfl) (by rfl) ?_
 refine sp (fun h1 => ?_) (fun h1 => ?_)
 · exact ret0 _ k2 (by simp [Al,h1])
 refine ld Aa (Own.at_ (xs := [.int .i64 g.states]) (k2.own m1 id) rfl) (by rfl) ?_
 refine sp (fun h2 => ?_) (fun h2 => ?_)
 · exact ret0 _ k2 (by simp [Al,h2])
 refine ld Aa (Own.at_ (xs := [iv]) (k2.own m1 id) rfl) (by rfl) ?_
 refine ld Aa (Own.at_ (xs := [.int .i64 g.states]) (k2.own m1 id) rfl) (by rfl) ?_
 cases hin : Ak g.states none g.init with
 | false =>
  refine cl H1 (rowc w2 iv g.init k2 hv.init hv.li _ hin) ?_
  rintro _ w3 ⟨rfl,k3⟩
  exact ret0 _ (k2.trans k3) (by simp [Al,hin])
 | true =>
 refine cl H1 (rowc w2 iv g.init k2 hv.init hv.li _ hin) ?_
 rintro _ w3 ⟨rfl,k3⟩
 replace k3 := k2.trans k3
 obtain ⟨pa,pc,rfl,hpc,hprops⟩ := hv.props
 refine ld Aa (Own.at_ (xs := [.slice pa g.props.length pc]) (k3.own m1 id) rfl) (by rfl) ?_
 refine ne (by omega) ?_
 have hp2 : (1 : Int) * 2 ^ (min ((g.props.length : Int)).toNat (IntKind.bits .u16)) = 2 ^ g.props.length := by
  rw [Int.toNat_natCast,Nat.min_eq_left (by simp only [IntKind.bits]; omega),Int.one_mul]
 have hb2 : (2 : Int) ^ g.props.length ≤ 256 := by
  have h : (2 : Nat) ^ g.props.length ≤ 2 ^ 8 := Nat.pow_le_pow_right (by decide) hlp
  have := Int.ofNat_le.2 h
  rw [Int.natCast_pow] at this
  exact this
 have hb1 : (1 : Int) ≤ 2 ^ g.props.length := by
  have h : 1 ≤ (2 : Nat) ^ g.props.length := Nat.one_le_two_pow
  have := Int.ofNat_le.2 h
  rw [Int.natCast_pow] at this
  exact this
 refine arE (z' := 2 ^ g.props.length) (by rw [hp2]; exact Wj (by omega) (by omega)) ?_
 refine arE (z' := 2 ^ g.props.length - 1) (Wj (by omega) (by omega)) ?_
 generalize hL : (2 : Int) ^ g.props.length = L at *
 have hck : Al g = (Ay g.states L none g.edges && g.sets.all (Ak g.states none)) := by
  simp [Al,hnm,h1,h2,hin,hL]
 clear hL
 have hle := hv.le
 have hls := hv.ls
 obtain ⟨ea,ec,rfl,hec,hedges⟩ := hv.edges
 obtain ⟨sa,sc,rfl,hsc,hsets⟩ := hv.sets
 refine loop Aa (σ := Nat) (fun i => [(1,pt p 0),(4,.int .u16 (L - 1)),(5,.int .i64 i)])
  (fun i w' => Kp w1 w' ∧ i ≤ g.edges.length ∧ Ay g.states L none g.edges = Ay g.states L (if i = 0 then none else g.edges[i-1]?) (g.edges.drop i)) (fun i => g.edges.length - i) 0
  ⟨rfl,rfl,rfl,trivial⟩ ⟨k3,by omega,by simp⟩ ?_
 rintro i e0 w4 ⟨k4,hi,hr⟩
 have B4 : Own w4 p 27 [.slice pa g.props.length pc,.int .i64 g.states,iv,.slice ea g.edges.length ec,.slice sa g.sets.length sc] := k4.own m1 id
 refine ld Aa (Own.at_ (xs := [.slice ea g.edges.length ec]) (o := 3) B4 rfl) (by rfl) ?_
 refine sp (fun h3 => ?_) (fun h3 => ?_)
 · have hi' : i < g.edges.length := by omega
   rw [List.drop_eq_getElem_cons hi'] at hr
   obtain ⟨b,o,rfl,hlo,hhi,cs,hcs,hrd,rfl,hwf⟩ := hedges i g.edges[i] (by simp)
   refine ld Aa (Own.at_ (xs := [.slice (some ⟨b,o,none⟩) g.edges.length ec]) (o := 3) B4 rfl) (by rfl) ?_
   refine ne ⟨by omega,h3⟩ ?_
   refine ld Aa (v := g.edges[i].val) ((k1.trans k4).range hrd id) rfl ?_
   refine nd fun q w5 e5 s5 k5 m5 => ?_
   refine st Aa (cs := [.int .i64 0,.int .i64 0,.int .u16 0,.int .u16 0]) m5 rfl (Nat.le_refl 4) rfl ?_
   intro w6 s6 k6 m6
   have m6 : Own w6 q 67 g.edges[i].cells := m6
   have k46 : Kp w4 w6 := k5.new e5 k6
   have A : ∀ W,Kp w6 W → Own W q 67 g.edges[i].cells := fun W h => h.heap m6 id
   have B : ∀ W,Kp w6 W → Own W p 27 [.slice pa g.props.length pc,.int .i64 g.states,iv,.slice (some ⟨b,o,none⟩) g.edges.length ec,.slice sa g.sets.length sc] := fun W h => h.heap (k46.heap (k4.heap m1 id) id) id
   have bad : ∀ W,Kp w6 W → Ay g.states L none g.edges = false → (Value.int .i64 100 = .int .i64 (Kb (Al g)) ∧ Kp w W) := fun W h hf => ret0 W (k4.trans (k46.trans h)) (by rw [hck,hf]; rfl)
   have A0 := A _ (Chg.refl _ _)
   have B0 := B _ (Chg.refl _ _)
   refine ld Aa (Own.at_ (xs := [.int .i64 g.edges[i].frm]) (o := 0) A0 rfl) (by rfl) ?_
   refine sp (fun ha => ?_) (fun ha => ?_)
   · exact bad _ (Chg.refl _ _) (by rw [hr]; simp [Ay,Ak,ha])
   refine ld Aa (Own.at_ (xs := [.int .i64 g.edges[i].frm]) (o := 0) A0 rfl) (by rfl) ?_
   refine ld Aa (Own.at_ (xs := [.int .i64 g.states]) (o := 1) B0 rfl) (by rfl) ?_
   refine sp (fun hb => ?_) (fun hb => ?_)
   · exact bad _ (Chg.refl _ _) (by rw [hr]; simp [Ay,Ak,hb])
   refine ld Aa (Own.at_ (xs := [.int .i64 g.edges[i].to]) (o := 1) A0 rfl) (by rfl) ?_
   refine sp (fun hc => ?_) (fun hc => ?_)
   · exact bad _ (Chg.refl _ _) (by rw [hr]; simp [Ay,Ak,hc])
   refine ld Aa (Own.at_ (xs := [.int .i64 g.edges[i].to]) (o := 1) A0 rfl) (by rfl) ?_
   refine ld Aa (Own.at_ (xs := [.int .i64 g.states]) (o := 1) B0 rfl) (by rfl) ?_
   refine sp (fun hd => ?_) (fun hd => ?_)
   · exact bad _ (Chg.refl _ _) (by rw [hr]; simp [Ay,Ak,hd])
   have hb1 : Ak g.states none [g.edges[i].frm] = true := by simp [Ak,ha,hb]
   have hb2 : Ak g.states none [g.edges[i].to] = true := by simp [Ak,hc,hd]
   refine Ax Aa mixed 33 (by kernel_rfl) (fun _ => False) ?_
   conv => whnf
   refine A7 Aa rfl rfl (fun W h _ => Own.at_ (xs := [.int .u16 g.edges[i].must]) (o := 2) (A W h) rfl) (by rfl) fun _ => ?_
   conv => whnf
   refine sp (fun h5 => ?_) (fun h5 => ?_)
   · conv => whnf
     intro W h _
     exact bad W h (by rw [hr]; simp [Ay,show L ≤ g.edges[i].must by omega])
   conv => whnf
   refine A7 Aa rfl rfl (fun W h _ => Own.at_ (xs := [.int .u16 g.edges[i].no]) (o := 3) (A W h) rfl) (by rfl) fun _ => ?_
   conv => whnf
   refine sp (fun h6 => ?_) (fun h6 => ?_)
   · conv => whnf
     intro W h _
     exact bad W h (by rw [hr]; simp [Ay,show L ≤ g.edges[i].no by omega])
   conv => whnf
   refine A7 Aa rfl rfl (fun W h _ => Own.at_ (xs := [.int .u16 g.edges[i].must]) (o := 2) (A W h) rfl) (by rfl) fun _ => ?_
   conv => whnf
   refine A7 Aa rfl rfl (fun W h _ => Own.at_ (xs := [.int .u16 g.edges[i].no]) (o := 3) (A W h) rfl) (by rfl) fun _ => ?_
   conv => whnf
   refine ar ?_
   conv => whnf
   refine sp (fun h7 => ?_) (fun h7 => ?_)
   · conv => whnf
     intro W h _
     exact bad W h (by rw [hr]; simp [Ay,h7])
   conv => whnf
   have step : ∀ W,Kp w6 W → (match (if i = 0 then none else g.edges[i-1]?) with | some y => decide (0 ≤ Ci y g.edges[i]) | none => false) = false → ∀ e',
    Has e' [(1,pt p 0),(4,.int .u16 (L - 1)),(5,.int .i64 (i + 1 : Nat))] → e' mark = undef →
    Again (σ := Nat) (fun i => [(1,pt p 0),(4,.int .u16 (L - 1)),(5,.int .i64 i)])
     (fun i w' => Kp w1 w' ∧ i ≤ g.edges.length ∧ Ay g.states L none g.edges = Ay g.states L (if i = 0 then none else g.edges[i-1]?) (g.edges.drop i)) (fun i => g.edges.length - i) i e' W := fun W h hlast e' he hmk =>
    again (hm := hmk) (i + 1) he ⟨k4.trans (k46.trans h),by omega,by
     rw [hr]
     simp only [Ay,hb1,hb2,hlast,Bool.true_and,Bool.not_false]
     rw [decide_eq_false (p := L ≤ g.edges[i].must) (by omega),decide_eq_false (p := L ≤ g.edges[i].no) (by omega),decide_eq_false h7]
     simp [List.getElem?_eq_getElem hi']
     exact fun _ => hlast⟩ (by omega)
   refine sp (fun h8 => ?_) (fun h8 => ?_)
   · conv => whnf
     refine A7 Aa rfl rfl (fun W h _ => Own.at_ (xs := [.slice (some ⟨b,o,none⟩) g.edges.length ec]) (o := 3) (B W h) rfl) (by rfl) fun _ => ?_
     conv => whnf
     refine aw (by omega) (by omega) ?_
     conv => whnf
     refine ne ⟨by omega,by omega⟩ ?_
     conv => whnf
     obtain ⟨b',o',hb',-,-,cs',hcs',hrd',rfl,hwf'⟩ := hedges (i - 1) g.edges[i-1] (by simp)
     cases hb'
     refine A7 Aa (v := g.edges[i-1].val) rfl rfl (fun W h _ => (k1.trans (k4.trans (k46.trans h))).range (by have := hrd'; rw [show (i - 1) * 4 = ((i : Int) - 1).toNat * ti67.size by show _ = ((i : Int) - 1).toNat * 4; omega] at this; exact this) id) (by rfl) fun _ => ?_
     conv => whnf
     refine A7 Aa (v := g.edges[i].val) rfl rfl (fun W h _ => Own.at_ (xs := g.edges[i].cells) (o := 0) (A W h) rfl) (by rfl) fun _ => ?_
     conv => whnf
     have h0 : i ≠ 0 := by omega
     cases hah : Dr g.edges[i-1] g.edges[i] with
     | false =>
      refine Co (v := .bool false) rfl rfl rfl Jd (fun W _ _ => by have := Nn W g.edges[i-1] g.edges[i]; rw [hah] at this; exact this) fun _ => ?_
      conv => whnf
      have h9 := of_decide_eq_false hah
      intro W h _
      have h9 : 0 ≤ Ci g.edges[i-1] g.edges[i] := by omega
      exact bad W h (by rw [hr,if_neg h0,List.getElem?_eq_getElem (by omega)]; simp only [Ay]; rw [decide_eq_true h9]; simp)
     | true =>
      refine Co (v := .bool true) rfl rfl rfl Jd (fun W _ _ => by have := Nn W g.edges[i-1] g.edges[i]; rw [hah] at this; exact this) fun _ => ?_
      conv => whnf
      have h9 := of_decide_eq_true hah
      intro W h _
      refine aw (by omega) (by omega) ?_
      exact step W h (by rw [if_neg h0,List.getElem?_eq_getElem (by omega)]; exact decide_eq_false (by omega)) _ ⟨rfl,rfl,rfl,trivial⟩ rfl
   · conv => whnf
     intro W h _
     refine aw (by omega) (by omega) ?_
     exact step W h (by rw [if_pos (by omega)]) _ ⟨rfl,rfl,rfl,trivial⟩ rfl
 · rw [List.drop_eq_nil_of_le (by omega)] at hr
   have hr : Ay g.states L none g.edges = true := hr
   refine loop Aa (σ := Nat) (fun i => [(1,pt p 0),(7,.int .i64 i)])
    (fun i w' => Kp w1 w' ∧ i ≤ g.sets.length ∧ (g.sets.take i).all (Ak g.states none) = true) (fun i => g.sets.length - i) 0
    ⟨rfl,rfl,trivial⟩ ⟨k4,by omega,by simp⟩ ?_
   rintro j e0 w5 ⟨k5,hj,hall⟩
   have B5 : ∀ W,Kp w5 W → Own W p 27 [.slice pa g.props.length pc,.int .i64 g.states,iv,.slice ea g.edges.length ec,.slice sa g.sets.length sc] := fun W h => h.own (k5.own m1 id) id
   refine ld Aa (Own.at_ (xs := [.slice sa g.sets.length sc]) (o := 4) (B5 _ (Chg.refl _ _)) rfl) (by rfl) ?_
   refine sp (fun h4 => ?_) (fun h4 => ?_)
   · have hj' : j < g.sets.length := by omega
     obtain ⟨b,o,rfl,hlo,hhi,cs,hcs,hrd,u,rfl,hu,hul⟩ := hsets j g.sets[j] (by simp)
     refine Ax Aa mixed 9 (by kernel_rfl) (fun _ => False) ?_
     conv => whnf
     refine A7 Aa rfl rfl (fun W h _ => Own.at_ (xs := [.slice (some ⟨b,o,none⟩) g.sets.length sc]) (o := 4) (B5 W h) rfl) (by rfl) fun _ => ?_
     conv => whnf
     refine ne ⟨by omega,h4⟩ ?_
     conv => whnf
     refine A7 Aa rfl rfl (fun W h _ => (k1.trans (k5.trans h)).range hrd id) (by rfl) fun _ => ?_
     conv => whnf
     refine A7 Aa rfl rfl (fun W h _ => Own.at_ (xs := [.int .i64 g.states]) (o := 1) (B5 W h) rfl) (by rfl) fun _ => ?_
     conv => whnf
     cases hb : Ak g.states none g.sets[j] with
     | false =>
      refine Co (v := .bool false) rfl rfl rfl H1 (fun W h _ => rowc W u g.sets[j] (k5.trans h) hu hul _ hb) fun _ => ?_
      conv => whnf
      intro W h _
      refine ret0 _ (k5.trans h) ?_
      rw [hck,hr,Bool.true_and,List.all_eq_false]
      exact ⟨g.sets[j],by simp,by simp [hb]⟩
     | true =>
      refine Co (v := .bool true) rfl rfl rfl H1 (fun W h _ => rowc W u g.sets[j] (k5.trans h) hu hul _ hb) fun _ => ?_
      conv => whnf
      intro W h _
      refine aw (by omega) (by omega) ?_
      refine again (j + 1) ⟨rfl,rfl,trivial⟩ ⟨k5.trans h,by omega,?_⟩ (by omega)
      rw [show g.sets.take (j + 1) = g.sets.take j ++ [g.sets[j]] by simp,List.all_append,hall]
      simp [hb]
   · have ht : g.sets.take j = g.sets := List.take_of_length_le (by omega)
     rw [ht] at hall
     exact ⟨by rw [hck,hr,hall]; rfl,k1.trans k5⟩
theorem Eu : Af prog 5 = true := by kernel_rfl
theorem Gf (w : World) (a1 a2 a3 a4 : Option Addr) (l1 c1 l2 c2 l3 c3 l4 c4 : Nat) (n : Int) :
 Calls prog 5 [.agg #[.slice a1 l1 c1,.int .i64 n,.slice a2 l2 c2,.slice a3 l3 c3,.slice a4 l4 c4]].toArray w
  (Bg fun r w' => Kp w w' ∧ ∃ q,w.heap.size ≤ q ∧ q < w'.heap.size ∧ w'.heap[q]? = some (.cells [.slice a4 l4 c4].toArray 23 (0,0)) ∧ r = .agg #[.slice a1 l1 c1,.int .i64 n,.slice a2 l2 c2,.slice a3 l3 c3,.slice (some ⟨q,0,none⟩) 1 1]) := by
 refine call Aa func5 rfl ntmps5 (by kernel_rfl) ?_
 refine nd fun p w1 e1 s1 k1 m1 => ?_
 have m1 : Own w1 p 29 [.slice a1 l1 c1,.int .i64 n,.slice a2 l2 c2,.slice a3 l3 c3,.slice a4 l4 c4] := m1
 refine nd fun q w2 e2 s2 k2 m2 => ?_
 have m1 := k2.own m1 id
 refine ld Aa (Own.at_ (xs := [.slice a1 l1 c1]) (o := 0) m1 rfl) (by rfl) ?_
 refine ld Aa (Own.at_ (xs := [.int .i64 n]) (o := 1) m1 rfl) (by rfl) ?_
 refine ld Aa (Own.at_ (xs := [.slice a2 l2 c2]) (o := 2) m1 rfl) (by rfl) ?_
 refine ld Aa (Own.at_ (xs := [.slice a3 l3 c3]) (o := 3) m1 rfl) (by rfl) ?_
 refine ld Aa (Own.at_ (xs := [.slice a4 l4 c4]) (o := 4) m1 rfl) (by rfl) ?_
 refine ne (by decide) ?_
 refine nd fun r w3 e3 s3 k3 m3 => ?_
 refine st Aa (k3.own m2 id) rfl (Nat.le_refl 5) rfl ?_
 intro w4 s4 k4 m4
 refine ld (v := .agg #[.slice a1 l1 c1,.int .i64 n,.slice a2 l2 c2,.slice a3 l3 c3,.slice (some ⟨r,0,none⟩) 1 1]) Aa (Own.at_ (xs := [.slice a1 l1 c1,.int .i64 n,.slice a2 l2 c2,.slice a3 l3 c3,.slice (some ⟨r,0,none⟩) 1 1]) (o := 0) m4 rfl) (by rfl) ?_
 exact ⟨(k1.trans (k2.trans k3)).newS k4 fun j hj => by omega,r,by omega,by omega,k4.heap m3 (by omega),rfl⟩
theorem Kh : Af prog 56 = true := by kernel_rfl
theorem Lu {w : World} {lo hi : Nat} {pv iv ev fv : Value} {g : Buchi} (hv : BuchiV lo hi w pv iv ev fv g) :
 Calls prog 56 [.agg #[pv,.int .i64 g.states,iv,ev,fv]].toArray w (Bg fun r w' => r = .int .i64 (Kb (Al g.general)) ∧ Kp w w') := by
 obtain ⟨a1,c1,hh1,-⟩ := id hv.props
 obtain ⟨a2,c2,hh2,-⟩ := id hv.init
 obtain ⟨a3,c3,hh3,-⟩ := id hv.edges
 obtain ⟨a4,c4,hh4,-⟩ := id hv.final
 subst hh1 hh2 hh3 hh4
 refine call Aa func56 rfl ntmps56 (by kernel_rfl) ?_
 refine nd fun p w1 e1 s1 k1 m1 => ?_
 refine ld Aa (v := .agg #[.slice a1 g.props.length c1,.int .i64 g.states,.slice a2 g.init.length c2,.slice a3 g.edges.length c3,.slice a4 g.final.length c4]) (Own.at_ (xs := [.slice a1 g.props.length c1,.int .i64 g.states,.slice a2 g.init.length c2,.slice a3 g.edges.length c3,.slice a4 g.final.length c4]) (o := 0) m1 rfl) (by rfl) ?_
 refine cl Eu (Gf w1 a1 a2 a3 a4 _ c1 _ c2 _ c3 _ c4 g.states) ?_
 rintro _ w2 ⟨k2,q,hq1,hq2,mq,rfl⟩
 have hg := (hv.chg (k1.trans k2) (Nat.le_refl _) (Nat.le_refl _)).general mq
 have hc := S9 hg
 refine cl Mu hc ?_
 rintro _ w3 ⟨rfl,k3⟩
 exact ⟨rfl,k1.trans (k2.trans k3)⟩
def AbQ (a b : Nat) : List Int := [((97 + a % 26 : Nat) : Int),((97 + a / 26 % 26 : Nat) : Int),((97 + a / 676 % 26 : Nat) : Int),((97 + b % 26 : Nat) : Int),((97 + b / 26 % 26 : Nat) : Int)]
def Lb (a b : Nat) : ByteArray := (AbQ a b).foldl (fun r n => r.push (UInt8.ofNat n.toNat)) ByteArray.empty
def Wx (a b : Nat) : ByteArray := ⟨#[45]⟩ ++ Lb a b
theorem Vk (a b : Nat) : (Lb a b).size = 5 := rfl
theorem AbZ {z : Int} (h1 : 0 ≤ z) (h2 : z < 256) : IntKind.u8.wrap z = z := by
 show (if (false && decide (z % 256 ≥ 128)) = true then z % 256 - 256 else z % 256) = z
 rw [if_neg (by simp)]; omega
theorem Hl : Af prog 101 = true := by kernel_rfl
theorem Rv (w : World) (a b : Nat) (ha : a < 1000000000000) (hb : b < 1000000000000) : Calls prog 101 [.int .i64 (a : Nat),.int .i64 (b : Nat)].toArray w (Bg fun r w' => r = .string (Lb a b) ∧ Kp w w') := by
 refine call Aa func101 rfl ntmps101 (by kernel_rfl) ?_
 have e1 : ∀ {x : Nat},x < 1000000000000 → IntKind.i64.wrap (((x : Nat) : Int).tdiv 26) = ((x / 26 : Nat) : Int) := fun {x} hx => by
  rw [show ((x : Nat) : Int).tdiv 26 = ((x / 26 : Nat) : Int) from Int.ofNat_tdiv x 26]
  exact As (by omega) (by omega)
 have e2 : ∀ {x : Nat},((x : Nat) : Int).tmod 26 = ((x % 26 : Nat) : Int) := fun {x} => Int.ofNat_tmod x 26
 have e3 : ∀ {x : Nat},x < 26 → IntKind.i64.wrap (97 + ((x : Nat) : Int)) = ((97 + x : Nat) : Int) := fun {x} hx => by
  rw [show (97 : Int) + ((x : Nat) : Int) = ((97 + x : Nat) : Int) by omega]
  exact As (by omega) (by omega)
 have e4 : ∀ {x : Nat},x < 26 → IntKind.u8.wrap ((97 + x : Nat) : Int) = ((97 + x : Nat) : Int) := fun {x} hx => AbZ (by omega) (by omega)
 have e5 : IntKind.i64.wrap (((a : Nat) : Int).tdiv 676) = ((a / 676 : Nat) : Int) := by
  rw [show ((a : Nat) : Int).tdiv 676 = ((a / 676 : Nat) : Int) from Int.ofNat_tdiv a 676]
  exact As (by omega) (by omega)
 have m26 : ∀ x : Nat,x % 26 < 26 := fun x => Nat.mod_lt _ (by decide)
 refine Bs (by omega) ?_
 refine ne (by decide) ?_
 refine C3 e2 ?_
 refine C3 (e3 (m26 a)) ?_
 refine C3 (e4 (m26 a)) ?_
 refine ne (by decide) ?_
 refine C3 (e1 ha) ?_
 refine ne (by decide) ?_
 refine C3 e2 ?_
 refine C3 (e3 (m26 _)) ?_
 refine C3 (e4 (m26 _)) ?_
 refine ne (by decide) ?_
 refine C3 e5 ?_
 refine ne (by decide) ?_
 refine C3 e2 ?_
 refine C3 (e3 (m26 _)) ?_
 refine C3 (e4 (m26 _)) ?_
 refine ne (by decide) ?_
 refine C3 e2 ?_
 refine C3 (e3 (m26 b)) ?_
 refine C3 (e4 (m26 b)) ?_
 refine ne (by decide) ?_
 refine C3 (e1 hb) ?_
 refine ne (by decide) ?_
 refine C3 e2 ?_
 refine C3 (e3 (m26 _)) ?_
 refine C3 (e4 (m26 _)) ?_
 refine ne (by decide) ?_
 refine nd fun q w1 q1 z1 k1 m1 => ?_
 refine Ai8 (ns := AbQ a b) Aa rfl rfl rfl rfl rfl rfl rfl rfl (Own.all m1) rfl ?_
 exact ⟨rfl,k1⟩
theorem Ww (w : World) (a b : Nat) (h0 : 0 < a) (ha : a < 1000000000000) (hb : b < 1000000000000) : Calls prog 101 [.int .i64 (-(a : Int)),.int .i64 (b : Nat)].toArray w (Bg fun r w' => r = .string (Wx a b) ∧ Kp w w') := by
 refine call Aa func101 rfl ntmps101 (by kernel_rfl) ?_
 refine Dj (by omega) ?_
 refine C3 (show _ = ((a : Nat) : Int) by rw [Int.neg_neg]; exact As (by omega) (by omega)) ?_
 refine cl Hl (Rv w a b ha hb) ?_
 rintro _ w1 ⟨rfl,k1⟩
 refine ne (by rw [Vk]; decide) ?_
 exact ⟨rfl,k1⟩
theorem Ht {vs : List Value} (h : vs.Pairwise fun a b => ∀ g,a.ownBlock = some g → b.ownBlock ≠ some g) {i j : Nat} {u v : Value} (hi : vs[i]? = some u) (hj : vs[j]? = some v) (hne : i ≠ j) : ∀ g,u.ownBlock = some g → v.ownBlock ≠ some g := fun g hg hg' => by
 obtain ⟨hil,rfl⟩ := List.getElem?_eq_some_iff.1 hi
 obtain ⟨hjl,rfl⟩ := List.getElem?_eq_some_iff.1 hj
 rcases Nat.lt_or_gt_of_ne hne with h1 | h1
 · exact List.pairwise_iff_getElem.1 h i j hil hjl h1 g hg hg'
 · exact List.pairwise_iff_getElem.1 h j i hjl hil h1 g hg' hg
abbrev Qs (x : ByteArray) : List Value := [.string x]
abbrev Qt (x : Int) : List Value := [.int .i64 x]
def Dt (i k : Nat) : ByteArray := Lb i k
def Il (i k : Nat) : ByteArray := Wx (i + 1) k
def Pj (base : Nat) (vs : List Value) (i k : Nat) (W : World) : Prop := ∀ (j : Nat) (v : Value),vs[j]? = some v → ∃ xs : List ByteArray,W.ownsRow base 9 1 v xs.length (xs.flatMap Qs) ∧ xs.length < 1000000000000 ∧ ∀ (k' : Nat) (x : ByteArray),(j < i ∨ j = i ∧ k' < k) → xs[k']? = some x → x = Dt j k'
theorem R6 : Af prog 61 = true := by kernel_rfl
set_option maxHeartbeats 4000000 in
theorem U8 {w : World} {base b0 : Nat} {lv : Value} {vs : List Value} (hL : w.ownsRow b0 22 1 lv vs.length vs) (hsep : vs.Pairwise fun a b => ∀ g,a.ownBlock = some g → b.ownBlock ≠ some g)
 (hrows : ∀ v ∈ vs,∃ xs : List ByteArray,w.ownsRow base 9 1 v xs.length (xs.flatMap Qs) ∧ xs.length < 1000000000000) (hn : vs.length < 1000000) (hbase : base ≤ w.heap.size) :
 Calls prog 61 [lv].toArray w (Bg fun r w' => r = .bool true ∧ Chg (fun g => ∃ v ∈ vs,v.ownBlock = some g) w w') := by
 have hfk : ∀ x : ByteArray,(Qs x).length = 1 := fun _ => rfl
 have hSx : ∃ S : Nat → Prop,S = fun g => ∃ v ∈ vs,v.ownBlock = some g := ⟨_,rfl⟩
 obtain ⟨S,hS⟩ := hSx
 have hmem : ∀ {i : Nat} {v : Value},vs[i]? = some v → v ∈ vs := fun h => List.mem_of_getElem? h
 have hSi : ∀ {i : Nat} {v : Value} {g : Nat},vs[i]? = some v → v.ownBlock = some g → S g := fun h hg => by rw [hS]; exact ⟨_,hmem h,hg⟩
 have hSl : ∀ g,S g → g < w.heap.size := fun g hg => by
  rw [hS] at hg
  obtain ⟨v,hv,hg⟩ := hg
  obtain ⟨xs,hr,-⟩ := hrows v hv
  exact (hr.lt g hg).2
 have hfL := Ae hL
 obtain ⟨la,lc,rfl⟩ := hfL
 have hRdL : ∀ (i : Nat) (v : Value),vs[i]? = some v → ∃ gl,la = some ⟨gl,0,none⟩ ∧ ∀ W,Chg S w W → W.rangeAt gl (0 + i * 1) [v] := fun i v hv => by
  rcases Dl hL with ⟨h0,hn0,-⟩ | ⟨gl,cap,h0,hr⟩
  · have := (List.getElem?_eq_some_iff.1 hv).1
    omega
  · injection h0 with h0 _ _
    subst h0
    refine ⟨gl,rfl,fun W hW => Ez (hW.range (Dz hr (j := i) hv) fun hh => ?_) (by rw [Nat.mul_one])⟩
    rw [hS] at hh
    obtain ⟨u,hu,hg⟩ := hh
    obtain ⟨xs,hrow,-⟩ := hrows u hu
    exact Dk hrow hL (by decide) gl hg rfl
 have hM0 : Pj base vs 0 0 w := fun j v hv => by
  obtain ⟨xs,h1,h2⟩ := hrows v (hmem hv)
  exact ⟨xs,h1,h2,fun k' x hh => by omega⟩
 clear hrows
 refine call Aa func61 rfl ntmps61 (by kernel_rfl) ?_
 refine loop Aa (σ := Nat) (fun i => [(0,.slice la vs.length lc),(3,.int .i64 i)]) (fun i W => i ≤ vs.length ∧ Chg S w W ∧ Pj base vs i 0 W) (fun i => vs.length - i) 0
  ⟨rfl,rfl,trivial⟩ ⟨Nat.zero_le _,Chg.refl _ _,hM0⟩ ?_
 rintro i e0 w1 ⟨hi,c1,hM⟩
 refine sp (fun hlt => ?_) (fun hge => ?_)
 · have hi' : i < vs.length := by omega
   have hvx : ∃ v,v = vs[i] := ⟨_,rfl⟩
   obtain ⟨v,hvd⟩ := hvx
   have hv : vs[i]? = some v := by rw [hvd]; simp
   have hRi := hRdL i v hv
   obtain ⟨gl,hgl,hRl⟩ := hRi
   subst hgl
   have hfv : ∃ va n vc,v = .slice va n vc ∧ n < 1000000000000 ∧ ∀ W,Chg S w W → ∀ xs : List ByteArray,W.ownsRow base 9 1 v xs.length (xs.flatMap Qs) → n = xs.length := by
    obtain ⟨xs,h1,h2,-⟩ := hM0 i v hv
    obtain ⟨va,vc,rfl⟩ := Ae h1
    refine ⟨va,_,vc,rfl,h2,fun W _ ys hy => ?_⟩
    obtain ⟨_,_,h3⟩ := Ae hy
    injection h3
   obtain ⟨va,n,vc,rfl,hnl,hnx⟩ := hfv
   refine loop Aa (σ := Nat) (fun k => [(0,.slice (some ⟨gl,0,none⟩) vs.length lc),(3,.int .i64 i),(4,.int .i64 k)]) (fun k W => k ≤ n ∧ Chg S w W ∧ Pj base vs i k W) (fun k => n - k) 0
    ⟨rfl,rfl,rfl,trivial⟩ ⟨Nat.zero_le _,c1,hM⟩ ?_
   rintro k e1 w2 ⟨hk,c2,hM2⟩
   refine ne ⟨by omega,by omega⟩ ?_
   refine ld Aa (v := .slice va n vc) (by rw [Int.toNat_natCast]; exact hRl w2 c2) (by rfl) ?_
   refine sp (fun hlt2 => ?_) (fun hge2 => ?_)
   · have hk' : k < n := by omega
     have hrow := hM2 i _ hv
     obtain ⟨xs,hrx,hxl,hmk⟩ := hrow
     have hnn := hnx w2 c2 xs hrx
     have hsp := Cl hfk hrx (k := k) (by omega)
     obtain ⟨g,cap,rest,hvg,-,hO,hnew⟩ := hsp
     injection hvg with hvg _ hvc
     subst hvg hvc
     have hgb : (Value.slice (some ⟨g,0,none⟩) n vc).ownBlock = some g := rfl
     refine Gn Aa mixed 9 [5,6,7,0,1,2,3,4,8] (by kernel_rfl) ?_
     conv => whnf
     refine Co (v := .string (Lb i k)) rfl rfl rfl Hl (fun W hW _ => Rv W i k (by omega) (by omega)) fun _ => ?_
     conv => whnf
     refine ne ⟨by omega,by omega⟩ ?_
     conv => whnf
     refine A7 Aa (v := .slice (some ⟨g,0,none⟩) n vc) rfl rfl (fun W hW _ => by rw [Int.toNat_natCast]; exact hRl W (c2.newT hW fun _ hf => hf.elim)) (by rfl) fun _ => ?_
     conv => whnf
     refine ne ⟨by omega,by omega⟩ ?_
     conv => whnf
     intro w3 kW _
     refine st Aa (o := 0 + k * 1) (kW.own hO id) (by rfl) (by rw [List.length_append,An hfk]; show 0 + k * 1 + 1 ≤ _; omega) rfl ?_
     intro w4 z4 c4 m4r
     have hlay := Cn hfk rest (Dt i k) xs k (by omega)
     have m4 : Own w4 g 9 (Gk (xs.flatMap Qs ++ rest) (0 + k * 1) (Qs (Dt i k))) := m4r
     clear m4r
     rw [Nat.zero_add,hlay] at m4
     have hrow4 := hnew w4 (xs.set k (Dt i k)) (by simp) m4
     have c34 : Chg (fun j => j = g) w2 w4 := (kW.mono fun _ hf => hf.elim).trans c4
     refine aw (by omega) (by omega) ?_
     refine again (k + 1) ⟨rfl,rfl,rfl,trivial⟩ ⟨by omega,c2.trans (c34.mono fun j hj => by rw [hj]; exact hSi hv hgb),fun j u hu => ?_⟩ (by omega)
     by_cases hji : j = i
     · subst hji
       rw [hv] at hu
       injection hu with hu
       subst hu
       refine ⟨xs.set k (Dt j k),by rw [List.length_set]; exact hrow4,by rw [List.length_set]; exact hxl,fun k' x hh hx => ?_⟩
       rw [List.getElem?_set] at hx
       by_cases hkk : k = k'
       · subst hkk
         rw [if_pos rfl,if_pos (by omega)] at hx
         injection hx with hx
         exact hx.symm
       · rw [if_neg hkk] at hx
         exact hmk k' x (by omega) hx
     · obtain ⟨ys,hy1,hy2,hy3⟩ := hM2 j u hu
       exact ⟨ys,Ab hy1 c34 fun b hb hbg => Ht hsep hv hu (Ne.symm hji) g hgb (by rw [← show b = g from hbg]; exact hb),hy2,fun k' x hh hx => hy3 k' x (by omega) hx⟩
   · refine aw (by omega) (by omega) ?_
     refine again (i + 1) ⟨rfl,rfl,trivial⟩ ⟨by omega,c2,fun j u hu => ?_⟩ (by omega)
     obtain ⟨ys,hy1,hy2,hy3⟩ := hM2 j u hu
     refine ⟨ys,hy1,hy2,fun k' x hh hx => hy3 k' x ?_ hx⟩
     by_cases hji : j = i
     · subst hji
       rw [hv] at hu
       injection hu with hu
       subst hu
       have h9 := hnx w2 c2 ys hy1
       have h8 := (List.getElem?_eq_some_iff.1 hx).1
       exact .inr ⟨rfl,by omega⟩
     · exact .inl (by omega)
 · have hie : i = vs.length := by omega
   have hAll : ∀ (j : Nat) (v : Value),vs[j]? = some v → ∃ xs : List ByteArray,w1.ownsRow base 9 1 v xs.length (xs.flatMap Qs) ∧ xs.length < 1000000000000 ∧ ∀ (k' : Nat) (x : ByteArray),xs[k']? = some x → x = Dt j k' := fun j v hv => by
    obtain ⟨xs,h1,h2,h3⟩ := hM j v hv
    have := (List.getElem?_eq_some_iff.1 hv).1
    exact ⟨xs,h1,h2,fun k' x hx => h3 k' x (.inl (by omega)) hx⟩
   clear hM hM0
   have hAx : ∃ A,A = w1.heap.size := ⟨_,rfl⟩
   obtain ⟨A,hA⟩ := hAx
   have hwA : w.heap.size ≤ A := by have := c1.size; omega
   have hySx : ∃ ys : Nat → List ByteArray,ys = fun j => (List.range 16).map (Il j) := ⟨_,rfl⟩
   obtain ⟨ys,hys⟩ := hySx
   refine loop Aa (σ := Nat × Value × List Value) (fun t => [(0,.slice la vs.length lc),(5,t.2.1),(6,.int .i64 t.1)])
    (fun t W => t.1 ≤ vs.length ∧ Chg S w W ∧ t.2.2.length = t.1 ∧ W.ownsRow A 22 1 t.2.1 t.1 t.2.2 ∧ A ≤ W.heap.size ∧
      (∀ (j : Nat) (v : Value),t.1 ≤ j → vs[j]? = some v → ∃ xs : List ByteArray,W.ownsRow base 9 1 v xs.length (xs.flatMap Qs) ∧ xs.length < 1000000000000 ∧ ∀ (k' : Nat) (x : ByteArray),xs[k']? = some x → x = Dt j k') ∧
      (∀ (j : Nat) (v : Value),j < t.1 → vs[j]? = some v → ∃ (xs : List ByteArray) (u : Value),t.2.2[j]? = some u ∧ xs.length < 1000000000000 ∧ Rd Qs 1 9 (fun g => v.ownBlock = some g ∨ A ≤ g) W v xs ∧ Rd Qs 1 9 (fun g => v.ownBlock = some g ∨ A ≤ g) W u (xs ++ ys j) ∧ ∀ (k' : Nat) (x : ByteArray),xs[k']? = some x → x = Dt j k')) (fun t => vs.length - t.1) (0,Ad,[])
    ⟨rfl,rfl,rfl,trivial⟩ ⟨Nat.zero_le _,c1,rfl,World.ownsRow_nil _ _ _ _,Nat.le_of_eq hA,fun j v _ hv => hAll j v hv,fun j v hj => absurd hj (Nat.not_lt_zero _)⟩ ?_
   clear hi hge hie c1 hAll
   rintro ⟨i,lg,ws⟩ e2 w2 ⟨hi,c2,hwl,oL,hA2,hlo,hdone⟩
   simp only at hi hwl oL hlo hdone
   refine sp (fun hlt => ?_) (fun hge => ?_)
   · have hi' : i < vs.length := by simp only at hlt; omega
     have hvx : ∃ v,v = vs[i] := ⟨_,rfl⟩
     obtain ⟨v,hvd⟩ := hvx
     have hv : vs[i]? = some v := by rw [hvd]; simp
     have hRi := hRdL i v hv
     obtain ⟨gl,hgl,hRl⟩ := hRi
     subst hgl
     obtain ⟨xs,hrx,hxl,hmk⟩ := hlo i v (Nat.le_refl _) hv
     have hvS : ∀ g,v.ownBlock = some g → g < A := fun g hg => by have := hSl g (hSi hv hg); omega
     refine ne ⟨by omega,by omega⟩ ?_
     have hfv := Ae hrx
     obtain ⟨va,vc,hvf⟩ := hfv
     refine ld Aa (v := v) (by rw [Int.toNat_natCast]; exact hRl w2 c2) (by rw [hvf]; rfl) ?_
     have hbw : base ≤ w2.heap.size := by omega
     refine loop Aa (σ := Nat × Value) (fun t => [(0,.slice (some ⟨gl,0,none⟩) vs.length lc),(5,lg),(6,.int .i64 i),(7,t.2),(8,.int .i64 t.1)])
      (fun t V => t.1 ≤ 16 ∧ Chg (fun g => v.ownBlock = some g) w2 V ∧ V.ownsRow base 9 1 t.2 (xs.length + t.1) ((xs ++ (List.range t.1).map (Il i)).flatMap Qs) ∧ Rd Qs 1 9 (fun g => v.ownBlock = some g) V v xs ∧ (∀ g,t.2.ownBlock = some g → v.ownBlock = some g ∨ w2.heap.size ≤ g)) (fun t => 16 - t.1) (0,v)
      ⟨rfl,rfl,rfl,rfl,rfl,trivial⟩ ⟨Nat.zero_le _,Chg.refl _ _,by simpa using hrx,Rd.of hfk hrx fun g hg => hg,fun g hg => .inl hg⟩ ?_
     rintro ⟨k,x⟩ e3 w3 ⟨hk,c3,hx3,hv3,hxo⟩
     simp only at hk hx3 hxo
     refine sp (fun hlt2 => ?_) (fun hge2 => ?_)
     · have hk' : k < 16 := by simp only at hlt2; omega
       refine C3 (show _ = (-((i + 1 : Nat) : Int)) by rw [show ((-1 : Int) - (i : Int)) = (-((i + 1 : Nat) : Int)) by omega]; exact As (by omega) (by omega)) ?_
       refine cl Hl (Ww w3 (i + 1) k (by omega) (by omega) (by omega)) ?_
       rintro _ w3a ⟨rfl,k3a⟩
       refine ne (by decide) ?_
       refine nd fun q w4 e4 z4 k4 m4 => ?_
       have kN : Kp w3 w4 := k3a.trans k4
       have oX := Ab hx3 kN fun _ _ => id
       refine apP (m := 1) (news := Qs (Il i k)) Aa rfl rfl rfl rfl rfl rfl rfl (by decide) oX rfl (Own.all m4) rfl (by simp only [maxLen]; omega) (by show (_ + 1) * 16 ≤ _; omega) (by have := c3.size; have := kN.size; omega) fun x' w5 oP cP hnewP hpre => ?_
       refine aw (by simp only; omega) (by simp only; omega) ?_
       refine again (k + 1,x') ⟨rfl,rfl,rfl,rfl,rfl,trivial⟩ ⟨by simp only; omega,?_,?_,?_,fun g hg => ?_⟩ (by simp only; omega)
       · exact (c3.newT kN fun _ hf => hf.elim).newT cP fun g hg => hxo g hg.symm
       · simp only
         rw [List.range_succ,List.map_append,← List.append_assoc,List.flatMap_append]
         exact oP
       · obtain ⟨aa,cc,hva,hel⟩ := hv3.chg kN (fun _ _ _ h => h)
         refine ⟨aa,cc,hva,fun k' z hz => ?_⟩
         obtain ⟨g,h1,h2,h3,h4⟩ := hel k' z hz
         by_cases hxg : x.ownBlock = some g
         · refine ⟨g,h1,h2,?_,?_⟩
           · obtain ⟨cur,h5⟩ := h3
             exact (hpre g hxg).2
           · have h6 := (hpre g hxg).1
             rw [← List.append_nil ((xs ++ (List.range k).map (Il i)).flatMap Qs)] at h6
             exact Cb hfk (by rw [List.getElem?_append_left (List.getElem?_eq_some_iff.1 hz).1]; exact hz) h6
         · obtain ⟨cur,h5⟩ := h3
           exact ⟨g,h1,h2,⟨cur,cP.heap h5 fun hh => hxg hh.symm⟩,cP.range h4 fun hh => hxg hh.symm⟩
       · rcases hnewP g hg with h1 | h1
         · exact hxo g h1
         · exact .inr (by have := c3.size; have := kN.size; omega)
     · have hke : k = 16 := by simp only at hge2; omega
       subst hke
       have c23 : Chg S w w3 := c2.trans (c3.mono fun g hg => hSi hv hg)
       have hfx := Ae hx3
       obtain ⟨xa,xc,rfl⟩ := hfx
       refine ne (by decide) ?_
       refine nd fun q w4 e4 z4 k4 m4 => ?_
       have oL3 : w3.ownsRow A 22 1 lg i ws := Ab oL c3 fun g hg hh => by have := (oL.lt g hg).1; have := hvS g hh; omega
       have oL4 := Ab oL3 k4 fun _ _ => id
       refine ap (m := 1) (news := [.slice xa (xs.length + 16) xc]) Aa rfl rfl rfl rfl rfl rfl rfl (by decide) oL4 rfl (Own.all m4) rfl (by simp only [maxLen]; omega) (by show (_ + 1) * 24 ≤ _; omega) (by have := c3.size; have := k4.size; omega) ?_
       intro lg' w5 oL5 c5
       have c45 : Chg (fun g => some g = lg.ownBlock) w3 w5 := (k4.mono fun _ hf => hf.elim).trans c5
       have hoff : ∀ g,(∃ cur,w3.heap[g]? = some (.cells cur 9 (0,0))) → ¬ some g = lg.ownBlock := fun g ⟨cur,h1⟩ hh => by
        obtain ⟨c9,h9⟩ := Az oL3 hh.symm
        rw [h1] at h9
        injection h9 with h9
        injection h9 with _ h9
        exact absurd h9 (by decide)
       have oL5 : w5.ownsRow A 22 1 lg' (i + 1) (ws ++ [.slice xa (xs.length + 16) xc]) := oL5
       refine aw (by omega) (by omega) ?_
       refine again (i + 1,lg',ws ++ [.slice xa (xs.length + 16) xc]) ⟨rfl,rfl,rfl,trivial⟩ ⟨by simp only; omega,?_,by simp [hwl],oL5,by have := c3.size; have := c45.size; omega,fun j u hj hu => ?_,fun j u hj hu => ?_⟩ (by simp only; omega)
       · exact c23.newT c45 fun g hg => .inr (by have := (oL3.lt g hg.symm).1; omega)
       · obtain ⟨zs,h1,h2,h3⟩ := hlo j u (by simp only at hj; omega) hu
         have hji : i ≠ j := by simp only at hj; omega
         have h4 := Ab h1 c3 fun g hg hh => Ht hsep hv hu hji g hh hg
         exact ⟨zs,Ab h4 c45 fun g hg => hoff g (Az h4 hg),h2,h3⟩
       · rcases Nat.lt_or_ge j i with hji | hji
         · obtain ⟨zs,u2,h1,h2,h3,h4,h5⟩ := hdone j u hji hu
           have keep : ∀ {y : Value} {l : List ByteArray},Rd Qs 1 9 (fun g => u.ownBlock = some g ∨ A ≤ g) w2 y l → Rd Qs 1 9 (fun g => u.ownBlock = some g ∨ A ≤ g) w5 y l := fun h => (h.chg c3 fun g hg _ hh => by
            rcases hg with hg | hg
            · exact Ht hsep hu hv (by omega) g hg hh
            · have := hvS g hh; omega).chg c45 fun g _ hk => hoff g hk
           exact ⟨zs,u2,by rw [List.getElem?_append_left (by omega)]; exact h1,h2,keep h3,keep h4,h5⟩
         · have hjj : j = i := by simp only at hj; omega
           subst hjj
           rw [hv] at hu
           injection hu with hu
           subst hu
           have hRv : Rd Qs 1 9 (fun g => v.ownBlock = some g ∨ A ≤ g) w3 v xs := by
            obtain ⟨aa,cc,hva,hel⟩ := hv3
            exact ⟨aa,cc,hva,fun k' z hz => by obtain ⟨g,h1,h2,h3,h4⟩ := hel k' z hz; exact ⟨g,h1,.inl h2,h3,h4⟩⟩
           have hll : (xs ++ ys j).length = xs.length + 16 := by rw [hys]; simp
           have hRx : Rd Qs 1 9 (fun g => v.ownBlock = some g ∨ A ≤ g) w3 (.slice xa (xs.length + 16) xc) (xs ++ ys j) := by
            refine Rd.of (base := base) hfk (by rw [hll,hys]; exact hx3) fun g hg => ?_
            rcases hxo g hg with h1 | h1
            · exact .inl h1
            · exact .inr (by omega)
           exact ⟨xs,_,by rw [List.getElem?_append_right (by omega),hwl,Nat.sub_self]; rfl,hxl,hRv.chg c45 fun g _ hk => hoff g hk,hRx.chg c45 fun g _ hk => hoff g hk,hmk⟩
   · have hie : i = vs.length := by simp only at hge; omega
     subst hie
     have hfl := Ae oL
     obtain ⟨ga,gc,rfl⟩ := hfl
     have hgd : ∀ (j : Nat) (u : Value),ws[j]? = some u → ∃ gg,ga = some ⟨gg,0,none⟩ ∧ ∀ W,Kp w2 W → W.rangeAt gg (0 + j * 1) [u] := fun j u hu => by
      have hjl := (List.getElem?_eq_some_iff.1 hu).1
      rcases Dl oL with ⟨h0,hn0,-⟩ | ⟨gg,cap,h0,hr⟩
      · omega
      · injection h0 with h0 _ _
        subst h0
        exact ⟨gg,rfl,fun W hW => Ez (hW.range (Dz hr (j := j) hu) id) (by rw [Nat.mul_one])⟩
     refine loop Aa (σ := Nat) (fun j => [(0,.slice la vs.length lc),(5,.slice ga vs.length gc),(9,.int .i64 j)]) (fun j W => j ≤ vs.length ∧ Kp w2 W) (fun j => vs.length - j) 0
      ⟨rfl,rfl,rfl,trivial⟩ ⟨Nat.zero_le _,Chg.refl _ _⟩ ?_
     rintro j e5 w5 ⟨hj,k5⟩
     refine sp (fun hlt => ?_) (fun hge3 => ?_)
     · have hj' : j < vs.length := by omega
       have hvx : ∃ v,v = vs[j] := ⟨_,rfl⟩
       obtain ⟨v,hvd⟩ := hvx
       have hv : vs[j]? = some v := by rw [hvd]; simp
       have hRi := hRdL j v hv
       obtain ⟨gl,hgl,hRl⟩ := hRi
       subst hgl
       obtain ⟨xs,u,hu,hxl,⟨va,vc,hvf,hvr⟩,⟨ua,uc,huf,hur⟩,hmk⟩ := hdone j v hj' hv
       obtain ⟨gg,hgg,hRg⟩ := hgd j u hu
       subst hgg hvf huf
       have hyl : (xs ++ ys j).length = xs.length + 16 := by rw [hys]; simp
       have hRl' : ∀ W,Kp w2 W → W.rangeAt gl (0 + j * 1) [.slice va xs.length vc] := fun W hW => hRl W (c2.newT hW fun _ hf => hf.elim)
       refine ne ⟨by omega,by omega⟩ ?_
       refine ld Aa (v := .slice va xs.length vc) (by rw [Int.toNat_natCast]; exact hRl' w5 k5) (by rfl) ?_
       refine loop Aa (σ := Nat) (fun k => [(0,.slice (some ⟨gl,0,none⟩) vs.length lc),(5,.slice (some ⟨gg,0,none⟩) vs.length gc),(9,.int .i64 j),(10,.int .i64 xs.length),(11,.int .i64 k)]) (fun k W => k ≤ xs.length ∧ Kp w2 W) (fun k => xs.length - k) 0
        ⟨rfl,rfl,rfl,rfl,rfl,trivial⟩ ⟨Nat.zero_le _,k5⟩ ?_
       rintro k e6 w6 ⟨hk,k6⟩
       refine sp (fun hlt4 => ?_) (fun hge4 => ?_)
       · have hk' : k < xs.length := by omega
         have hxk : xs[k]? = some (Dt j k) := by
          have h1 : xs[k]? = some xs[k] := List.getElem?_eq_getElem _
          rw [h1,hmk k _ h1]
         have hxk2 : (xs ++ ys j)[k]? = some (Dt j k) := by rw [List.getElem?_append_left hk']; exact hxk
         obtain ⟨g1,rfl,-,-,hr1⟩ := hvr k _ hxk
         obtain ⟨g2,rfl,-,-,hr2⟩ := hur k _ hxk2
         refine Gn Aa mixed 24 [7,8,9,0,1,2,3,4,5,6,10,11,19,20,21,12,13,14,15,16,17,18,22,23] (by kernel_rfl) ?_
         conv => whnf
         refine Co (v := .string (Lb j k)) rfl rfl rfl Hl (fun W hW _ => Rv W j k (by omega) (by omega)) fun _ => ?_
         conv => whnf
         refine ne ⟨by omega,by omega⟩ ?_
         conv => whnf
         refine A7 Aa (v := .slice (some ⟨g1,0,none⟩) xs.length vc) rfl rfl (fun W hW _ => by rw [Int.toNat_natCast]; exact hRl' W (k6.trans hW)) (by rfl) fun _ => ?_
         conv => whnf
         refine ne ⟨by omega,by omega⟩ ?_
         conv => whnf
         refine A7 Aa (v := .string (Lb j k)) rfl rfl (fun W hW _ => by rw [Int.toNat_natCast]; exact (k6.trans hW).range hr1 id) (by rfl) fun _ => ?_
         conv => whnf
         refine Bs (fun h => h rfl) ?_
         conv => whnf
         refine Co (v := .string (Lb j k)) rfl rfl rfl Hl (fun W hW _ => Rv W j k (by omega) (by omega)) fun _ => ?_
         conv => whnf
         refine ne ⟨by omega,by omega⟩ ?_
         conv => whnf
         refine A7 Aa (v := .slice (some ⟨g2,0,none⟩) (xs ++ ys j).length uc) rfl rfl (fun W hW _ => by rw [Int.toNat_natCast]; exact hRg W (k6.trans hW)) (by rfl) fun _ => ?_
         conv => whnf
         refine ne ⟨by omega,by omega⟩ ?_
         conv => whnf
         refine A7 Aa (v := .string (Lb j k)) rfl rfl (fun W hW _ => by rw [Int.toNat_natCast]; exact (k6.trans hW).range hr2 id) (by rfl) fun _ => ?_
         conv => whnf
         refine Bs (fun h => h rfl) ?_
         conv => whnf
         intro w8 k8 _
         refine aw (by omega) (by omega) ?_
         exact again (k + 1) ⟨rfl,rfl,rfl,rfl,rfl,trivial⟩ ⟨by omega,k6.trans k8⟩ (by omega)
       · refine loop Aa (σ := Nat) (fun k => [(0,.slice (some ⟨gl,0,none⟩) vs.length lc),(5,.slice (some ⟨gg,0,none⟩) vs.length gc),(9,.int .i64 j),(10,.int .i64 xs.length),(12,.int .i64 k)]) (fun k W => k ≤ 16 ∧ Kp w2 W) (fun k => 16 - k) 0
          ⟨rfl,rfl,rfl,rfl,rfl,trivial⟩ ⟨Nat.zero_le _,k6⟩ ?_
         rintro k e7 w7 ⟨hk7,k7⟩
         refine sp (fun hlt5 => ?_) (fun hge5 => ?_)
         · have hk' : k < 16 := by omega
           have hxk2 : (xs ++ ys j)[xs.length + k]? = some (Il j k) := by
            rw [List.getElem?_append_right (by omega),Nat.add_sub_cancel_left,hys,List.getElem?_map,List.getElem?_range hk']; rfl
           obtain ⟨g2,rfl,-,-,hr2⟩ := hur _ _ hxk2
           refine Gn Aa mixed 14 [9,10,11,12,0,1,2,3,4,5,6,7,8,13] (by kernel_rfl) ?_
           conv => whnf
           refine C3 (show _ = (-((j + 1 : Nat) : Int)) by rw [show ((-1 : Int) - (j : Int)) = (-((j + 1 : Nat) : Int)) by omega]; exact As (by omega) (by omega)) ?_
           conv => whnf
           refine Co (v := .string (Wx (j + 1) k)) rfl rfl rfl Hl (fun W hW _ => Ww W (j + 1) k (by omega) (by omega) (by omega)) fun _ => ?_
           conv => whnf
           refine ne ⟨by omega,by omega⟩ ?_
           conv => whnf
           refine A7 Aa (v := .slice (some ⟨g2,0,none⟩) (xs ++ ys j).length uc) rfl rfl (fun W hW _ => by rw [Int.toNat_natCast]; exact hRg W (k7.trans hW)) (by rfl) fun _ => ?_
           conv => whnf
           refine C3 (show _ = ((xs.length + k : Nat) : Int) by rw [show ((xs.length : Int) + (k : Int)) = ((xs.length + k : Nat) : Int) by omega]; exact As (by omega) (by omega)) ?_
           conv => whnf
           refine ne ⟨by omega,by omega⟩ ?_
           conv => whnf
           refine A7 Aa (v := .string (Wx (j + 1) k)) rfl rfl (fun W hW _ => by rw [Int.toNat_natCast]; exact (k7.trans hW).range hr2 id) (by rfl) fun _ => ?_
           conv => whnf
           refine Bs (fun h => h rfl) ?_
           conv => whnf
           intro w8 k8 _
           refine aw (by omega) (by omega) ?_
           exact again (k + 1) ⟨rfl,rfl,rfl,rfl,rfl,trivial⟩ ⟨by omega,k7.trans k8⟩ (by omega)
         · refine aw (by omega) (by omega) ?_
           exact again (j + 1) ⟨rfl,rfl,rfl,trivial⟩ ⟨by omega,k7⟩ (by omega)
     · refine ⟨rfl,?_⟩
       rw [← hS]
       exact c2.newT k5 fun _ hf => hf.elim
def E8 (i k : Nat) : Int := ((i * 1000 + k : Nat) : Int)
def La (i k : Nat) : Int := -(((i + 1) * 1000 : Nat) : Int) + (k : Int)
def Sl (base : Nat) (vs : List Value) (i k : Nat) (W : World) : Prop := ∀ (j : Nat) (v : Value),vs[j]? = some v → ∃ xs : List Int,W.ownsRow base 3 1 v xs.length (xs.flatMap Qt) ∧ xs.length < 1000000000000 ∧ ∀ (k' : Nat) (x : Int),(j < i ∨ j = i ∧ k' < k) → xs[k']? = some x → x = E8 j k'
theorem Uc : Af prog 62 = true := by kernel_rfl
set_option maxHeartbeats 4000000 in
theorem Xx {w : World} {base b0 : Nat} {lv : Value} {vs : List Value} (hL : w.ownsRow b0 23 1 lv vs.length vs) (hsep : vs.Pairwise fun a b => ∀ g,a.ownBlock = some g → b.ownBlock ≠ some g)
 (hrows : ∀ v ∈ vs,∃ xs : List Int,w.ownsRow base 3 1 v xs.length (xs.flatMap Qt) ∧ xs.length < 1000000000000) (hn : vs.length < 1000000) (hbase : base ≤ w.heap.size) :
 Calls prog 62 [lv].toArray w (Bg fun r w' => r = .bool true ∧ Chg (fun g => ∃ v ∈ vs,v.ownBlock = some g) w w') := by
 have hfk : ∀ x : Int,(Qt x).length = 1 := fun _ => rfl
 have hSx : ∃ S : Nat → Prop,S = fun g => ∃ v ∈ vs,v.ownBlock = some g := ⟨_,rfl⟩
 obtain ⟨S,hS⟩ := hSx
 have hmem : ∀ {i : Nat} {v : Value},vs[i]? = some v → v ∈ vs := fun h => List.mem_of_getElem? h
 have hSi : ∀ {i : Nat} {v : Value} {g : Nat},vs[i]? = some v → v.ownBlock = some g → S g := fun h hg => by rw [hS]; exact ⟨_,hmem h,hg⟩
 have hSl : ∀ g,S g → g < w.heap.size := fun g hg => by
  rw [hS] at hg
  obtain ⟨v,hv,hg⟩ := hg
  obtain ⟨xs,hr,-⟩ := hrows v hv
  exact (hr.lt g hg).2
 have hfL := Ae hL
 obtain ⟨la,lc,rfl⟩ := hfL
 have hRdL : ∀ (i : Nat) (v : Value),vs[i]? = some v → ∃ gl,la = some ⟨gl,0,none⟩ ∧ ∀ W,Chg S w W → W.rangeAt gl (0 + i * 1) [v] := fun i v hv => by
  rcases Dl hL with ⟨h0,hn0,-⟩ | ⟨gl,cap,h0,hr⟩
  · have := (List.getElem?_eq_some_iff.1 hv).1
    omega
  · injection h0 with h0 _ _
    subst h0
    refine ⟨gl,rfl,fun W hW => Ez (hW.range (Dz hr (j := i) hv) fun hh => ?_) (by rw [Nat.mul_one])⟩
    rw [hS] at hh
    obtain ⟨u,hu,hg⟩ := hh
    obtain ⟨xs,hrow,-⟩ := hrows u hu
    exact Dk hrow hL (by decide) gl hg rfl
 have hM0 : Sl base vs 0 0 w := fun j v hv => by
  obtain ⟨xs,h1,h2⟩ := hrows v (hmem hv)
  exact ⟨xs,h1,h2,fun k' x hh => by omega⟩
 clear hrows
 refine call Aa func62 rfl ntmps62 (by kernel_rfl) ?_
 refine loop Aa (σ := Nat) (fun i => [(0,.slice la vs.length lc),(3,.int .i64 i)]) (fun i W => i ≤ vs.length ∧ Chg S w W ∧ Sl base vs i 0 W) (fun i => vs.length - i) 0
  ⟨rfl,rfl,trivial⟩ ⟨Nat.zero_le _,Chg.refl _ _,hM0⟩ ?_
 rintro i e0 w1 ⟨hi,c1,hM⟩
 refine sp (fun hlt => ?_) (fun hge => ?_)
 · have hi' : i < vs.length := by omega
   have hvx : ∃ v,v = vs[i] := ⟨_,rfl⟩
   obtain ⟨v,hvd⟩ := hvx
   have hv : vs[i]? = some v := by rw [hvd]; simp
   have hRi := hRdL i v hv
   obtain ⟨gl,hgl,hRl⟩ := hRi
   subst hgl
   have hfv : ∃ va n vc,v = .slice va n vc ∧ n < 1000000000000 ∧ ∀ W,Chg S w W → ∀ xs : List Int,W.ownsRow base 3 1 v xs.length (xs.flatMap Qt) → n = xs.length := by
    obtain ⟨xs,h1,h2,-⟩ := hM0 i v hv
    obtain ⟨va,vc,rfl⟩ := Ae h1
    refine ⟨va,_,vc,rfl,h2,fun W _ ys hy => ?_⟩
    obtain ⟨_,_,h3⟩ := Ae hy
    injection h3
   obtain ⟨va,n,vc,rfl,hnl,hnx⟩ := hfv
   refine loop Aa (σ := Nat) (fun k => [(0,.slice (some ⟨gl,0,none⟩) vs.length lc),(3,.int .i64 i),(4,.int .i64 k)]) (fun k W => k ≤ n ∧ Chg S w W ∧ Sl base vs i k W) (fun k => n - k) 0
    ⟨rfl,rfl,rfl,trivial⟩ ⟨Nat.zero_le _,c1,hM⟩ ?_
   rintro k e1 w2 ⟨hk,c2,hM2⟩
   refine ne ⟨by omega,by omega⟩ ?_
   refine ld Aa (v := .slice va n vc) (by rw [Int.toNat_natCast]; exact hRl w2 c2) (by rfl) ?_
   refine sp (fun hlt2 => ?_) (fun hge2 => ?_)
   · have hk' : k < n := by omega
     have hrow := hM2 i _ hv
     obtain ⟨xs,hrx,hxl,hmk⟩ := hrow
     have hnn := hnx w2 c2 xs hrx
     have hsp := Cl hfk hrx (k := k) (by omega)
     obtain ⟨g,cap,rest,hvg,-,hO,hnew⟩ := hsp
     injection hvg with hvg _ hvc
     subst hvg hvc
     have hgb : (Value.slice (some ⟨g,0,none⟩) n vc).ownBlock = some g := rfl
     refine ne ⟨by omega,by omega⟩ ?_
     refine ld Aa (v := .slice (some ⟨g,0,none⟩) n vc) (by rw [Int.toNat_natCast]; exact hRl w2 c2) (by rfl) ?_
     refine C3 (show _ = ((i * 1000 : Nat) : Int) by rw [show ((i : Int) * 1000) = ((i * 1000 : Nat) : Int) by omega]; exact As (by omega) (by omega)) ?_
     refine C3 (show _ = ((i * 1000 + k : Nat) : Int) by rw [show (((i * 1000 : Nat) : Int) + (k : Int)) = ((i * 1000 + k : Nat) : Int) by omega]; exact As (by omega) (by omega)) ?_
     refine ne ⟨by omega,by omega⟩ ?_
     have kW : Kp w2 w2 := Chg.refl _ _
     refine st Aa (o := 0 + k * 1) hO (by rfl) (by rw [List.length_append,An hfk]; show 0 + k * 1 + 1 ≤ _; omega) rfl ?_
     intro w4 z4 c4 m4r
     have hlay := Cn hfk rest (E8 i k) xs k (by omega)
     have m4 : Own w4 g 3 (Gk (xs.flatMap Qt ++ rest) (0 + k * 1) (Qt (E8 i k))) := m4r
     clear m4r
     rw [Nat.zero_add,hlay] at m4
     have hrow4 := hnew w4 (xs.set k (E8 i k)) (by simp) m4
     have c34 : Chg (fun j => j = g) w2 w4 := (kW.mono fun _ hf => hf.elim).trans c4
     refine aw (by omega) (by omega) ?_
     refine again (k + 1) ⟨rfl,rfl,rfl,trivial⟩ ⟨by omega,c2.trans (c34.mono fun j hj => by rw [hj]; exact hSi hv hgb),fun j u hu => ?_⟩ (by omega)
     by_cases hji : j = i
     · subst hji
       rw [hv] at hu
       injection hu with hu
       subst hu
       refine ⟨xs.set k (E8 j k),by rw [List.length_set]; exact hrow4,by rw [List.length_set]; exact hxl,fun k' x hh hx => ?_⟩
       rw [List.getElem?_set] at hx
       by_cases hkk : k = k'
       · subst hkk
         rw [if_pos rfl,if_pos (by omega)] at hx
         injection hx with hx
         exact hx.symm
       · rw [if_neg hkk] at hx
         exact hmk k' x (by omega) hx
     · obtain ⟨ys,hy1,hy2,hy3⟩ := hM2 j u hu
       exact ⟨ys,Ab hy1 c34 fun b hb hbg => Ht hsep hv hu (Ne.symm hji) g hgb (by rw [← show b = g from hbg]; exact hb),hy2,fun k' x hh hx => hy3 k' x (by omega) hx⟩
   · refine aw (by omega) (by omega) ?_
     refine again (i + 1) ⟨rfl,rfl,trivial⟩ ⟨by omega,c2,fun j u hu => ?_⟩ (by omega)
     obtain ⟨ys,hy1,hy2,hy3⟩ := hM2 j u hu
     refine ⟨ys,hy1,hy2,fun k' x hh hx => hy3 k' x ?_ hx⟩
     by_cases hji : j = i
     · subst hji
       rw [hv] at hu
       injection hu with hu
       subst hu
       have h9 := hnx w2 c2 ys hy1
       have h8 := (List.getElem?_eq_some_iff.1 hx).1
       exact .inr ⟨rfl,by omega⟩
     · exact .inl (by omega)
 · have hie : i = vs.length := by omega
   have hAll : ∀ (j : Nat) (v : Value),vs[j]? = some v → ∃ xs : List Int,w1.ownsRow base 3 1 v xs.length (xs.flatMap Qt) ∧ xs.length < 1000000000000 ∧ ∀ (k' : Nat) (x : Int),xs[k']? = some x → x = E8 j k' := fun j v hv => by
    obtain ⟨xs,h1,h2,h3⟩ := hM j v hv
    have := (List.getElem?_eq_some_iff.1 hv).1
    exact ⟨xs,h1,h2,fun k' x hx => h3 k' x (.inl (by omega)) hx⟩
   clear hM hM0
   have hAx : ∃ A,A = w1.heap.size := ⟨_,rfl⟩
   obtain ⟨A,hA⟩ := hAx
   have hwA : w.heap.size ≤ A := by have := c1.size; omega
   have hySx : ∃ ys : Nat → List Int,ys = fun j => (List.range 16).map (La j) := ⟨_,rfl⟩
   obtain ⟨ys,hys⟩ := hySx
   refine loop Aa (σ := Nat × Value × List Value) (fun t => [(0,.slice la vs.length lc),(5,t.2.1),(6,.int .i64 t.1)])
    (fun t W => t.1 ≤ vs.length ∧ Chg S w W ∧ t.2.2.length = t.1 ∧ W.ownsRow A 23 1 t.2.1 t.1 t.2.2 ∧ A ≤ W.heap.size ∧
      (∀ (j : Nat) (v : Value),t.1 ≤ j → vs[j]? = some v → ∃ xs : List Int,W.ownsRow base 3 1 v xs.length (xs.flatMap Qt) ∧ xs.length < 1000000000000 ∧ ∀ (k' : Nat) (x : Int),xs[k']? = some x → x = E8 j k') ∧
      (∀ (j : Nat) (v : Value),j < t.1 → vs[j]? = some v → ∃ (xs : List Int) (u : Value),t.2.2[j]? = some u ∧ xs.length < 1000000000000 ∧ Rd Qt 1 3 (fun g => v.ownBlock = some g ∨ A ≤ g) W v xs ∧ Rd Qt 1 3 (fun g => v.ownBlock = some g ∨ A ≤ g) W u (xs ++ ys j) ∧ ∀ (k' : Nat) (x : Int),xs[k']? = some x → x = E8 j k')) (fun t => vs.length - t.1) (0,Ad,[])
    ⟨rfl,rfl,rfl,trivial⟩ ⟨Nat.zero_le _,c1,rfl,World.ownsRow_nil _ _ _ _,Nat.le_of_eq hA,fun j v _ hv => hAll j v hv,fun j v hj => absurd hj (Nat.not_lt_zero _)⟩ ?_
   clear hi hge hie c1 hAll
   rintro ⟨i,lg,ws⟩ e2 w2 ⟨hi,c2,hwl,oL,hA2,hlo,hdone⟩
   simp only at hi hwl oL hlo hdone
   refine sp (fun hlt => ?_) (fun hge => ?_)
   · have hi' : i < vs.length := by simp only at hlt; omega
     have hvx : ∃ v,v = vs[i] := ⟨_,rfl⟩
     obtain ⟨v,hvd⟩ := hvx
     have hv : vs[i]? = some v := by rw [hvd]; simp
     have hRi := hRdL i v hv
     obtain ⟨gl,hgl,hRl⟩ := hRi
     subst hgl
     obtain ⟨xs,hrx,hxl,hmk⟩ := hlo i v (Nat.le_refl _) hv
     have hvS : ∀ g,v.ownBlock = some g → g < A := fun g hg => by have := hSl g (hSi hv hg); omega
     refine ne ⟨by omega,by omega⟩ ?_
     have hfv := Ae hrx
     obtain ⟨va,vc,hvf⟩ := hfv
     refine ld Aa (v := v) (by rw [Int.toNat_natCast]; exact hRl w2 c2) (by rw [hvf]; rfl) ?_
     have hbw : base ≤ w2.heap.size := by omega
     refine loop Aa (σ := Nat × Value) (fun t => [(0,.slice (some ⟨gl,0,none⟩) vs.length lc),(5,lg),(6,.int .i64 i),(7,t.2),(8,.int .i64 t.1)])
      (fun t V => t.1 ≤ 16 ∧ Chg (fun g => v.ownBlock = some g) w2 V ∧ V.ownsRow base 3 1 t.2 (xs.length + t.1) ((xs ++ (List.range t.1).map (La i)).flatMap Qt) ∧ Rd Qt 1 3 (fun g => v.ownBlock = some g) V v xs ∧ (∀ g,t.2.ownBlock = some g → v.ownBlock = some g ∨ w2.heap.size ≤ g)) (fun t => 16 - t.1) (0,v)
      ⟨rfl,rfl,rfl,rfl,rfl,trivial⟩ ⟨Nat.zero_le _,Chg.refl _ _,by simpa using hrx,Rd.of hfk hrx fun g hg => hg,fun g hg => .inl hg⟩ ?_
     rintro ⟨k,x⟩ e3 w3 ⟨hk,c3,hx3,hv3,hxo⟩
     simp only at hk hx3 hxo
     refine sp (fun hlt2 => ?_) (fun hge2 => ?_)
     · have hk' : k < 16 := by simp only at hlt2; omega
       refine C3 (show _ = (-((i + 1 : Nat) : Int)) by rw [show ((-1 : Int) - (i : Int)) = (-((i + 1 : Nat) : Int)) by omega]; exact As (by omega) (by omega)) ?_
       refine C3 (show _ = (-(((i + 1) * 1000 : Nat) : Int)) by rw [show ((-((i + 1 : Nat) : Int)) * 1000) = (-(((i + 1) * 1000 : Nat) : Int)) by omega]; exact As (by omega) (by omega)) ?_
       refine C3 (show _ = (-(((i + 1) * 1000 : Nat) : Int) + (k : Int)) from As (by omega) (by omega)) ?_
       refine ne (by decide) ?_
       refine nd fun q w4 e4 z4 kN m4 => ?_
       have oX := Ab hx3 kN fun _ _ => id
       refine apP (m := 1) (news := Qt (La i k)) Aa rfl rfl rfl rfl rfl rfl rfl (by decide) oX rfl (Own.all m4) rfl (by simp only [maxLen]; omega) (by show (_ + 1) * 8 ≤ _; omega) (by have := c3.size; have := kN.size; omega) fun x' w5 oP cP hnewP hpre => ?_
       refine aw (by simp only; omega) (by simp only; omega) ?_
       refine again (k + 1,x') ⟨rfl,rfl,rfl,rfl,rfl,trivial⟩ ⟨by simp only; omega,?_,?_,?_,fun g hg => ?_⟩ (by simp only; omega)
       · exact (c3.newT kN fun _ hf => hf.elim).newT cP fun g hg => hxo g hg.symm
       · simp only
         rw [List.range_succ,List.map_append,← List.append_assoc,List.flatMap_append]
         exact oP
       · obtain ⟨aa,cc,hva,hel⟩ := hv3.chg kN (fun _ _ _ h => h)
         refine ⟨aa,cc,hva,fun k' z hz => ?_⟩
         obtain ⟨g,h1,h2,h3,h4⟩ := hel k' z hz
         by_cases hxg : x.ownBlock = some g
         · refine ⟨g,h1,h2,?_,?_⟩
           · obtain ⟨cur,h5⟩ := h3
             exact (hpre g hxg).2
           · have h6 := (hpre g hxg).1
             rw [← List.append_nil ((xs ++ (List.range k).map (La i)).flatMap Qt)] at h6
             exact Cb hfk (by rw [List.getElem?_append_left (List.getElem?_eq_some_iff.1 hz).1]; exact hz) h6
         · obtain ⟨cur,h5⟩ := h3
           exact ⟨g,h1,h2,⟨cur,cP.heap h5 fun hh => hxg hh.symm⟩,cP.range h4 fun hh => hxg hh.symm⟩
       · rcases hnewP g hg with h1 | h1
         · exact hxo g h1
         · exact .inr (by have := c3.size; have := kN.size; omega)
     · have hke : k = 16 := by simp only at hge2; omega
       subst hke
       have c23 : Chg S w w3 := c2.trans (c3.mono fun g hg => hSi hv hg)
       have hfx := Ae hx3
       obtain ⟨xa,xc,rfl⟩ := hfx
       refine ne (by decide) ?_
       refine nd fun q w4 e4 z4 k4 m4 => ?_
       have oL3 : w3.ownsRow A 23 1 lg i ws := Ab oL c3 fun g hg hh => by have := (oL.lt g hg).1; have := hvS g hh; omega
       have oL4 := Ab oL3 k4 fun _ _ => id
       refine ap (m := 1) (news := [.slice xa (xs.length + 16) xc]) Aa rfl rfl rfl rfl rfl rfl rfl (by decide) oL4 rfl (Own.all m4) rfl (by simp only [maxLen]; omega) (by show (_ + 1) * 24 ≤ _; omega) (by have := c3.size; have := k4.size; omega) ?_
       intro lg' w5 oL5 c5
       have c45 : Chg (fun g => some g = lg.ownBlock) w3 w5 := (k4.mono fun _ hf => hf.elim).trans c5
       have hoff : ∀ g,(∃ cur,w3.heap[g]? = some (.cells cur 3 (0,0))) → ¬ some g = lg.ownBlock := fun g ⟨cur,h1⟩ hh => by
        obtain ⟨c9,h9⟩ := Az oL3 hh.symm
        rw [h1] at h9
        injection h9 with h9
        injection h9 with _ h9
        exact absurd h9 (by decide)
       have oL5 : w5.ownsRow A 23 1 lg' (i + 1) (ws ++ [.slice xa (xs.length + 16) xc]) := oL5
       refine aw (by omega) (by omega) ?_
       refine again (i + 1,lg',ws ++ [.slice xa (xs.length + 16) xc]) ⟨rfl,rfl,rfl,trivial⟩ ⟨by simp only; omega,?_,by simp [hwl],oL5,by have := c3.size; have := c45.size; omega,fun j u hj hu => ?_,fun j u hj hu => ?_⟩ (by simp only; omega)
       · exact c23.newT c45 fun g hg => .inr (by have := (oL3.lt g hg.symm).1; omega)
       · obtain ⟨zs,h1,h2,h3⟩ := hlo j u (by simp only at hj; omega) hu
         have hji : i ≠ j := by simp only at hj; omega
         have h4 := Ab h1 c3 fun g hg hh => Ht hsep hv hu hji g hh hg
         exact ⟨zs,Ab h4 c45 fun g hg => hoff g (Az h4 hg),h2,h3⟩
       · rcases Nat.lt_or_ge j i with hji | hji
         · obtain ⟨zs,u2,h1,h2,h3,h4,h5⟩ := hdone j u hji hu
           have keep : ∀ {y : Value} {l : List Int},Rd Qt 1 3 (fun g => u.ownBlock = some g ∨ A ≤ g) w2 y l → Rd Qt 1 3 (fun g => u.ownBlock = some g ∨ A ≤ g) w5 y l := fun h => (h.chg c3 fun g hg _ hh => by
            rcases hg with hg | hg
            · exact Ht hsep hu hv (by omega) g hg hh
            · have := hvS g hh; omega).chg c45 fun g _ hk => hoff g hk
           exact ⟨zs,u2,by rw [List.getElem?_append_left (by omega)]; exact h1,h2,keep h3,keep h4,h5⟩
         · have hjj : j = i := by simp only at hj; omega
           subst hjj
           rw [hv] at hu
           injection hu with hu
           subst hu
           have hRv : Rd Qt 1 3 (fun g => v.ownBlock = some g ∨ A ≤ g) w3 v xs := by
            obtain ⟨aa,cc,hva,hel⟩ := hv3
            exact ⟨aa,cc,hva,fun k' z hz => by obtain ⟨g,h1,h2,h3,h4⟩ := hel k' z hz; exact ⟨g,h1,.inl h2,h3,h4⟩⟩
           have hll : (xs ++ ys j).length = xs.length + 16 := by rw [hys]; simp
           have hRx : Rd Qt 1 3 (fun g => v.ownBlock = some g ∨ A ≤ g) w3 (.slice xa (xs.length + 16) xc) (xs ++ ys j) := by
            refine Rd.of (base := base) hfk (by rw [hll,hys]; exact hx3) fun g hg => ?_
            rcases hxo g hg with h1 | h1
            · exact .inl h1
            · exact .inr (by omega)
           exact ⟨xs,_,by rw [List.getElem?_append_right (by omega),hwl,Nat.sub_self]; rfl,hxl,hRv.chg c45 fun g _ hk => hoff g hk,hRx.chg c45 fun g _ hk => hoff g hk,hmk⟩
   · have hie : i = vs.length := by simp only at hge; omega
     subst hie
     have hfl := Ae oL
     obtain ⟨ga,gc,rfl⟩ := hfl
     have hgd : ∀ (j : Nat) (u : Value),ws[j]? = some u → ∃ gg,ga = some ⟨gg,0,none⟩ ∧ ∀ W,Kp w2 W → W.rangeAt gg (0 + j * 1) [u] := fun j u hu => by
      have hjl := (List.getElem?_eq_some_iff.1 hu).1
      rcases Dl oL with ⟨h0,hn0,-⟩ | ⟨gg,cap,h0,hr⟩
      · omega
      · injection h0 with h0 _ _
        subst h0
        exact ⟨gg,rfl,fun W hW => Ez (hW.range (Dz hr (j := j) hu) id) (by rw [Nat.mul_one])⟩
     refine loop Aa (σ := Nat) (fun j => [(0,.slice la vs.length lc),(5,.slice ga vs.length gc),(9,.int .i64 j)]) (fun j W => j ≤ vs.length ∧ Kp w2 W) (fun j => vs.length - j) 0
      ⟨rfl,rfl,rfl,trivial⟩ ⟨Nat.zero_le _,Chg.refl _ _⟩ ?_
     rintro j e5 w5 ⟨hj,k5⟩
     refine sp (fun hlt => ?_) (fun hge3 => ?_)
     · have hj' : j < vs.length := by omega
       have hvx : ∃ v,v = vs[j] := ⟨_,rfl⟩
       obtain ⟨v,hvd⟩ := hvx
       have hv : vs[j]? = some v := by rw [hvd]; simp
       have hRi := hRdL j v hv
       obtain ⟨gl,hgl,hRl⟩ := hRi
       subst hgl
       obtain ⟨xs,u,hu,hxl,⟨va,vc,hvf,hvr⟩,⟨ua,uc,huf,hur⟩,hmk⟩ := hdone j v hj' hv
       obtain ⟨gg,hgg,hRg⟩ := hgd j u hu
       subst hgg hvf huf
       have hyl : (xs ++ ys j).length = xs.length + 16 := by rw [hys]; simp
       have hRl' : ∀ W,Kp w2 W → W.rangeAt gl (0 + j * 1) [.slice va xs.length vc] := fun W hW => hRl W (c2.newT hW fun _ hf => hf.elim)
       refine ne ⟨by omega,by omega⟩ ?_
       refine ld Aa (v := .slice va xs.length vc) (by rw [Int.toNat_natCast]; exact hRl' w5 k5) (by rfl) ?_
       refine loop Aa (σ := Nat) (fun k => [(0,.slice (some ⟨gl,0,none⟩) vs.length lc),(5,.slice (some ⟨gg,0,none⟩) vs.length gc),(9,.int .i64 j),(10,.int .i64 xs.length),(11,.int .i64 k)]) (fun k W => k ≤ xs.length ∧ Kp w2 W) (fun k => xs.length - k) 0
        ⟨rfl,rfl,rfl,rfl,rfl,trivial⟩ ⟨Nat.zero_le _,k5⟩ ?_
       rintro k e6 w6 ⟨hk,k6⟩
       refine sp (fun hlt4 => ?_) (fun hge4 => ?_)
       · have hk' : k < xs.length := by omega
         have hxk : xs[k]? = some (E8 j k) := by
          have h1 : xs[k]? = some xs[k] := List.getElem?_eq_getElem _
          rw [h1,hmk k _ h1]
         have hxk2 : (xs ++ ys j)[k]? = some (E8 j k) := by rw [List.getElem?_append_left hk']; exact hxk
         obtain ⟨g1,rfl,-,-,hr1⟩ := hvr k _ hxk
         obtain ⟨g2,rfl,-,-,hr2⟩ := hur k _ hxk2
         refine ne ⟨by omega,by omega⟩ ?_
         refine ld Aa (v := .slice (some ⟨g1,0,none⟩) xs.length vc) (by rw [Int.toNat_natCast]; exact hRl' w6 k6) (by rfl) ?_
         refine ne ⟨by omega,by omega⟩ ?_
         refine ld Aa (v := .int .i64 ((j * 1000 + k : Nat) : Int)) (by rw [Int.toNat_natCast]; exact k6.range hr1 id) (by rfl) ?_
         refine C3 (show _ = ((j * 1000 : Nat) : Int) by rw [show ((j : Int) * 1000) = ((j * 1000 : Nat) : Int) by omega]; exact As (by omega) (by omega)) ?_
         refine C3 (show _ = ((j * 1000 + k : Nat) : Int) by rw [show (((j * 1000 : Nat) : Int) + (k : Int)) = ((j * 1000 + k : Nat) : Int) by omega]; exact As (by omega) (by omega)) ?_
         refine Bs (fun h => h rfl) ?_
         refine ne ⟨by omega,by omega⟩ ?_
         refine ld Aa (v := .slice (some ⟨g2,0,none⟩) (xs ++ ys j).length uc) (by rw [Int.toNat_natCast]; exact hRg w6 k6) (by rfl) ?_
         refine ne ⟨by omega,by omega⟩ ?_
         refine ld Aa (v := .int .i64 ((j * 1000 + k : Nat) : Int)) (by rw [Int.toNat_natCast]; exact k6.range hr2 id) (by rfl) ?_
         refine C3 (show _ = ((j * 1000 : Nat) : Int) by rw [show ((j : Int) * 1000) = ((j * 1000 : Nat) : Int) by omega]; exact As (by omega) (by omega)) ?_
         refine C3 (show _ = ((j * 1000 + k : Nat) : Int) by rw [show (((j * 1000 : Nat) : Int) + (k : Int)) = ((j * 1000 + k : Nat) : Int) by omega]; exact As (by omega) (by omega)) ?_
         refine Bs (fun h => h rfl) ?_
         refine aw (by omega) (by omega) ?_
         exact again (k + 1) ⟨rfl,rfl,rfl,rfl,rfl,trivial⟩ ⟨by omega,k6⟩ (by omega)
       · refine loop Aa (σ := Nat) (fun k => [(0,.slice (some ⟨gl,0,none⟩) vs.length lc),(5,.slice (some ⟨gg,0,none⟩) vs.length gc),(9,.int .i64 j),(10,.int .i64 xs.length),(12,.int .i64 k)]) (fun k W => k ≤ 16 ∧ Kp w2 W) (fun k => 16 - k) 0
          ⟨rfl,rfl,rfl,rfl,rfl,trivial⟩ ⟨Nat.zero_le _,k6⟩ ?_
         rintro k e7 w7 ⟨hk7,k7⟩
         refine sp (fun hlt5 => ?_) (fun hge5 => ?_)
         · have hk' : k < 16 := by omega
           have hxk2 : (xs ++ ys j)[xs.length + k]? = some (La j k) := by
            rw [List.getElem?_append_right (by omega),Nat.add_sub_cancel_left,hys,List.getElem?_map,List.getElem?_range hk']; rfl
           obtain ⟨g2,rfl,-,-,hr2⟩ := hur _ _ hxk2
           refine ne ⟨by omega,by omega⟩ ?_
           refine ld Aa (v := .slice (some ⟨g2,0,none⟩) (xs ++ ys j).length uc) (by rw [Int.toNat_natCast]; exact hRg w7 k7) (by rfl) ?_
           refine C3 (show _ = ((xs.length + k : Nat) : Int) by rw [show ((xs.length : Int) + (k : Int)) = ((xs.length + k : Nat) : Int) by omega]; exact As (by omega) (by omega)) ?_
           refine ne ⟨by omega,by omega⟩ ?_
           refine ld Aa (v := .int .i64 (-(((j + 1) * 1000 : Nat) : Int) + (k : Int))) (by rw [Int.toNat_natCast]; exact k7.range hr2 id) (by rfl) ?_
           refine C3 (show _ = (-((j + 1 : Nat) : Int)) by rw [show ((-1 : Int) - (j : Int)) = (-((j + 1 : Nat) : Int)) by omega]; exact As (by omega) (by omega)) ?_
           refine C3 (show _ = (-(((j + 1) * 1000 : Nat) : Int)) by rw [show ((-((j + 1 : Nat) : Int)) * 1000) = (-(((j + 1) * 1000 : Nat) : Int)) by omega]; exact As (by omega) (by omega)) ?_
           refine C3 (show _ = (-(((j + 1) * 1000 : Nat) : Int) + (k : Int)) from As (by omega) (by omega)) ?_
           refine Bs (fun h => h rfl) ?_
           refine aw (by omega) (by omega) ?_
           exact again (k + 1) ⟨rfl,rfl,rfl,rfl,rfl,trivial⟩ ⟨by omega,k7⟩ (by omega)
         · refine aw (by omega) (by omega) ?_
           exact again (j + 1) ⟨rfl,rfl,rfl,trivial⟩ ⟨by omega,k7⟩ (by omega)
     · refine ⟨rfl,?_⟩
       rw [← hS]
       exact c2.newT k5 fun _ hf => hf.elim
def Cx (i k : Nat) : Edge := ⟨i,k,0,0⟩
def Hf (i k : Nat) : Edge := ⟨-((i + 1 : Nat) : Int),k,0,0⟩
def Pk (base : Nat) (vs : List Value) (i k : Nat) (W : World) : Prop := ∀ (j : Nat) (v : Value),vs[j]? = some v → ∃ xs : List Edge,W.ownsRow base 67 4 v xs.length (xs.flatMap Edge.cells) ∧ xs.length < 1000000000000 ∧ ∀ (k' : Nat) (x : Edge),(j < i ∨ j = i ∧ k' < k) → xs[k']? = some x → x = Cx j k'
theorem R7 : Af prog 65 = true := by kernel_rfl
set_option maxHeartbeats 4000000 in
theorem U9 {w : World} {base b0 : Nat} {lv : Value} {vs : List Value} (hL : w.ownsRow b0 24 1 lv vs.length vs) (hsep : vs.Pairwise fun a b => ∀ g,a.ownBlock = some g → b.ownBlock ≠ some g)
 (hrows : ∀ v ∈ vs,∃ xs : List Edge,w.ownsRow base 67 4 v xs.length (xs.flatMap Edge.cells) ∧ xs.length < 1000000000000) (hn : vs.length < 1000000) (hbase : base ≤ w.heap.size) :
 Calls prog 65 [lv].toArray w (Bg fun r w' => r = .bool true ∧ Chg (fun g => ∃ v ∈ vs,v.ownBlock = some g) w w') := by
 have hfk : ∀ x : Edge,(Edge.cells x).length = 4 := fun _ => rfl
 have hSx : ∃ S : Nat → Prop,S = fun g => ∃ v ∈ vs,v.ownBlock = some g := ⟨_,rfl⟩
 obtain ⟨S,hS⟩ := hSx
 have hmem : ∀ {i : Nat} {v : Value},vs[i]? = some v → v ∈ vs := fun h => List.mem_of_getElem? h
 have hSi : ∀ {i : Nat} {v : Value} {g : Nat},vs[i]? = some v → v.ownBlock = some g → S g := fun h hg => by rw [hS]; exact ⟨_,hmem h,hg⟩
 have hSl : ∀ g,S g → g < w.heap.size := fun g hg => by
  rw [hS] at hg
  obtain ⟨v,hv,hg⟩ := hg
  obtain ⟨xs,hr,-⟩ := hrows v hv
  exact (hr.lt g hg).2
 have hfL := Ae hL
 obtain ⟨la,lc,rfl⟩ := hfL
 have hRdL : ∀ (i : Nat) (v : Value),vs[i]? = some v → ∃ gl,la = some ⟨gl,0,none⟩ ∧ ∀ W,Chg S w W → W.rangeAt gl (0 + i * 1) [v] := fun i v hv => by
  rcases Dl hL with ⟨h0,hn0,-⟩ | ⟨gl,cap,h0,hr⟩
  · have := (List.getElem?_eq_some_iff.1 hv).1
    omega
  · injection h0 with h0 _ _
    subst h0
    refine ⟨gl,rfl,fun W hW => Ez (hW.range (Dz hr (j := i) hv) fun hh => ?_) (by rw [Nat.mul_one])⟩
    rw [hS] at hh
    obtain ⟨u,hu,hg⟩ := hh
    obtain ⟨xs,hrow,-⟩ := hrows u hu
    exact Dk hrow hL (by decide) gl hg rfl
 have hM0 : Pk base vs 0 0 w := fun j v hv => by
  obtain ⟨xs,h1,h2⟩ := hrows v (hmem hv)
  exact ⟨xs,h1,h2,fun k' x hh => by omega⟩
 clear hrows
 refine call Aa func65 rfl ntmps65 (by kernel_rfl) ?_
 refine loop Aa (σ := Nat) (fun i => [(0,.slice la vs.length lc),(3,.int .i64 i)]) (fun i W => i ≤ vs.length ∧ Chg S w W ∧ Pk base vs i 0 W) (fun i => vs.length - i) 0
  ⟨rfl,rfl,trivial⟩ ⟨Nat.zero_le _,Chg.refl _ _,hM0⟩ ?_
 rintro i e0 w1 ⟨hi,c1,hM⟩
 refine sp (fun hlt => ?_) (fun hge => ?_)
 · have hi' : i < vs.length := by omega
   have hvx : ∃ v,v = vs[i] := ⟨_,rfl⟩
   obtain ⟨v,hvd⟩ := hvx
   have hv : vs[i]? = some v := by rw [hvd]; simp
   have hRi := hRdL i v hv
   obtain ⟨gl,hgl,hRl⟩ := hRi
   subst hgl
   have hfv : ∃ va n vc,v = .slice va n vc ∧ n < 1000000000000 ∧ ∀ W,Chg S w W → ∀ xs : List Edge,W.ownsRow base 67 4 v xs.length (xs.flatMap Edge.cells) → n = xs.length := by
    obtain ⟨xs,h1,h2,-⟩ := hM0 i v hv
    obtain ⟨va,vc,rfl⟩ := Ae h1
    refine ⟨va,_,vc,rfl,h2,fun W _ ys hy => ?_⟩
    obtain ⟨_,_,h3⟩ := Ae hy
    injection h3
   obtain ⟨va,n,vc,rfl,hnl,hnx⟩ := hfv
   refine loop Aa (σ := Nat) (fun k => [(0,.slice (some ⟨gl,0,none⟩) vs.length lc),(3,.int .i64 i),(4,.int .i64 k)]) (fun k W => k ≤ n ∧ Chg S w W ∧ Pk base vs i k W) (fun k => n - k) 0
    ⟨rfl,rfl,rfl,trivial⟩ ⟨Nat.zero_le _,c1,hM⟩ ?_
   rintro k e1 w2 ⟨hk,c2,hM2⟩
   refine ne ⟨by omega,by omega⟩ ?_
   refine ld Aa (v := .slice va n vc) (by rw [Int.toNat_natCast]; exact hRl w2 c2) (by rfl) ?_
   refine sp (fun hlt2 => ?_) (fun hge2 => ?_)
   · have hk' : k < n := by omega
     have hrow := hM2 i _ hv
     obtain ⟨xs,hrx,hxl,hmk⟩ := hrow
     have hnn := hnx w2 c2 xs hrx
     have hsp := Cl hfk hrx (k := k) (by omega)
     obtain ⟨g,cap,rest,hvg,-,hO,hnew⟩ := hsp
     injection hvg with hvg _ hvc
     subst hvg hvc
     have hgb : (Value.slice (some ⟨g,0,none⟩) n vc).ownBlock = some g := rfl
     refine ne ⟨by omega,by omega⟩ ?_
     refine ld Aa (v := .slice (some ⟨g,0,none⟩) n vc) (by rw [Int.toNat_natCast]; exact hRl w2 c2) (by rfl) ?_
     refine ne ⟨by omega,by omega⟩ ?_
     have kW : Kp w2 w2 := Chg.refl _ _
     refine st Aa (o := 0 + k * 4) hO (by rfl) (by rw [List.length_append,An hfk]; show 0 + k * 4 + 4 ≤ _; omega) rfl ?_
     intro w4 z4 c4 m4r
     have hlay := Cn hfk rest (Cx i k) xs k (by omega)
     have m4 : Own w4 g 67 (Gk (xs.flatMap Edge.cells ++ rest) (0 + k * 4) (Edge.cells (Cx i k))) := m4r
     clear m4r
     rw [Nat.zero_add,hlay] at m4
     have hrow4 := hnew w4 (xs.set k (Cx i k)) (by simp) m4
     have c34 : Chg (fun j => j = g) w2 w4 := (kW.mono fun _ hf => hf.elim).trans c4
     refine aw (by omega) (by omega) ?_
     refine again (k + 1) ⟨rfl,rfl,rfl,trivial⟩ ⟨by omega,c2.trans (c34.mono fun j hj => by rw [hj]; exact hSi hv hgb),fun j u hu => ?_⟩ (by omega)
     by_cases hji : j = i
     · subst hji
       rw [hv] at hu
       injection hu with hu
       subst hu
       refine ⟨xs.set k (Cx j k),by rw [List.length_set]; exact hrow4,by rw [List.length_set]; exact hxl,fun k' x hh hx => ?_⟩
       rw [List.getElem?_set] at hx
       by_cases hkk : k = k'
       · subst hkk
         rw [if_pos rfl,if_pos (by omega)] at hx
         injection hx with hx
         exact hx.symm
       · rw [if_neg hkk] at hx
         exact hmk k' x (by omega) hx
     · obtain ⟨ys,hy1,hy2,hy3⟩ := hM2 j u hu
       exact ⟨ys,Ab hy1 c34 fun b hb hbg => Ht hsep hv hu (Ne.symm hji) g hgb (by rw [← show b = g from hbg]; exact hb),hy2,fun k' x hh hx => hy3 k' x (by omega) hx⟩
   · refine aw (by omega) (by omega) ?_
     refine again (i + 1) ⟨rfl,rfl,trivial⟩ ⟨by omega,c2,fun j u hu => ?_⟩ (by omega)
     obtain ⟨ys,hy1,hy2,hy3⟩ := hM2 j u hu
     refine ⟨ys,hy1,hy2,fun k' x hh hx => hy3 k' x ?_ hx⟩
     by_cases hji : j = i
     · subst hji
       rw [hv] at hu
       injection hu with hu
       subst hu
       have h9 := hnx w2 c2 ys hy1
       have h8 := (List.getElem?_eq_some_iff.1 hx).1
       exact .inr ⟨rfl,by omega⟩
     · exact .inl (by omega)
 · have hie : i = vs.length := by omega
   have hAll : ∀ (j : Nat) (v : Value),vs[j]? = some v → ∃ xs : List Edge,w1.ownsRow base 67 4 v xs.length (xs.flatMap Edge.cells) ∧ xs.length < 1000000000000 ∧ ∀ (k' : Nat) (x : Edge),xs[k']? = some x → x = Cx j k' := fun j v hv => by
    obtain ⟨xs,h1,h2,h3⟩ := hM j v hv
    have := (List.getElem?_eq_some_iff.1 hv).1
    exact ⟨xs,h1,h2,fun k' x hx => h3 k' x (.inl (by omega)) hx⟩
   clear hM hM0
   have hAx : ∃ A,A = w1.heap.size := ⟨_,rfl⟩
   obtain ⟨A,hA⟩ := hAx
   have hwA : w.heap.size ≤ A := by have := c1.size; omega
   have hySx : ∃ ys : Nat → List Edge,ys = fun j => (List.range 16).map (Hf j) := ⟨_,rfl⟩
   obtain ⟨ys,hys⟩ := hySx
   refine loop Aa (σ := Nat × Value × List Value) (fun t => [(0,.slice la vs.length lc),(5,t.2.1),(6,.int .i64 t.1)])
    (fun t W => t.1 ≤ vs.length ∧ Chg S w W ∧ t.2.2.length = t.1 ∧ W.ownsRow A 24 1 t.2.1 t.1 t.2.2 ∧ A ≤ W.heap.size ∧
      (∀ (j : Nat) (v : Value),t.1 ≤ j → vs[j]? = some v → ∃ xs : List Edge,W.ownsRow base 67 4 v xs.length (xs.flatMap Edge.cells) ∧ xs.length < 1000000000000 ∧ ∀ (k' : Nat) (x : Edge),xs[k']? = some x → x = Cx j k') ∧
      (∀ (j : Nat) (v : Value),j < t.1 → vs[j]? = some v → ∃ (xs : List Edge) (u : Value),t.2.2[j]? = some u ∧ xs.length < 1000000000000 ∧ Rd Edge.cells 4 67 (fun g => v.ownBlock = some g ∨ A ≤ g) W v xs ∧ Rd Edge.cells 4 67 (fun g => v.ownBlock = some g ∨ A ≤ g) W u (xs ++ ys j) ∧ ∀ (k' : Nat) (x : Edge),xs[k']? = some x → x = Cx j k')) (fun t => vs.length - t.1) (0,Ad,[])
    ⟨rfl,rfl,rfl,trivial⟩ ⟨Nat.zero_le _,c1,rfl,World.ownsRow_nil _ _ _ _,Nat.le_of_eq hA,fun j v _ hv => hAll j v hv,fun j v hj => absurd hj (Nat.not_lt_zero _)⟩ ?_
   clear hi hge hie c1 hAll
   rintro ⟨i,lg,ws⟩ e2 w2 ⟨hi,c2,hwl,oL,hA2,hlo,hdone⟩
   simp only at hi hwl oL hlo hdone
   refine sp (fun hlt => ?_) (fun hge => ?_)
   · have hi' : i < vs.length := by simp only at hlt; omega
     have hvx : ∃ v,v = vs[i] := ⟨_,rfl⟩
     obtain ⟨v,hvd⟩ := hvx
     have hv : vs[i]? = some v := by rw [hvd]; simp
     have hRi := hRdL i v hv
     obtain ⟨gl,hgl,hRl⟩ := hRi
     subst hgl
     obtain ⟨xs,hrx,hxl,hmk⟩ := hlo i v (Nat.le_refl _) hv
     have hvS : ∀ g,v.ownBlock = some g → g < A := fun g hg => by have := hSl g (hSi hv hg); omega
     refine ne ⟨by omega,by omega⟩ ?_
     have hfv := Ae hrx
     obtain ⟨va,vc,hvf⟩ := hfv
     refine ld Aa (v := v) (by rw [Int.toNat_natCast]; exact hRl w2 c2) (by rw [hvf]; rfl) ?_
     have hbw : base ≤ w2.heap.size := by omega
     refine loop Aa (σ := Nat × Value) (fun t => [(0,.slice (some ⟨gl,0,none⟩) vs.length lc),(5,lg),(6,.int .i64 i),(7,t.2),(8,.int .i64 t.1)])
      (fun t V => t.1 ≤ 16 ∧ Chg (fun g => v.ownBlock = some g) w2 V ∧ V.ownsRow base 67 4 t.2 (xs.length + t.1) ((xs ++ (List.range t.1).map (Hf i)).flatMap Edge.cells) ∧ Rd Edge.cells 4 67 (fun g => v.ownBlock = some g) V v xs ∧ (∀ g,t.2.ownBlock = some g → v.ownBlock = some g ∨ w2.heap.size ≤ g)) (fun t => 16 - t.1) (0,v)
      ⟨rfl,rfl,rfl,rfl,rfl,trivial⟩ ⟨Nat.zero_le _,Chg.refl _ _,by simpa using hrx,Rd.of hfk hrx fun g hg => hg,fun g hg => .inl hg⟩ ?_
     rintro ⟨k,x⟩ e3 w3 ⟨hk,c3,hx3,hv3,hxo⟩
     simp only at hk hx3 hxo
     refine sp (fun hlt2 => ?_) (fun hge2 => ?_)
     · have hk' : k < 16 := by simp only at hlt2; omega
       refine C3 (show _ = (-((i + 1 : Nat) : Int)) by rw [show ((-1 : Int) - (i : Int)) = (-((i + 1 : Nat) : Int)) by omega]; exact As (by omega) (by omega)) ?_
       refine ne (by decide) ?_
       refine nd fun q w4 e4 z4 kN m4 => ?_
       have oX := Ab hx3 kN fun _ _ => id
       refine apP (m := 1) (news := Edge.cells (Hf i k)) Aa rfl rfl rfl rfl rfl rfl rfl (by decide) oX rfl (Own.all m4) rfl (by simp only [maxLen]; omega) (by show (_ + 1) * 24 ≤ _; omega) (by have := c3.size; have := kN.size; omega) fun x' w5 oP cP hnewP hpre => ?_
       refine aw (by simp only; omega) (by simp only; omega) ?_
       refine again (k + 1,x') ⟨rfl,rfl,rfl,rfl,rfl,trivial⟩ ⟨by simp only; omega,?_,?_,?_,fun g hg => ?_⟩ (by simp only; omega)
       · exact (c3.newT kN fun _ hf => hf.elim).newT cP fun g hg => hxo g hg.symm
       · simp only
         rw [List.range_succ,List.map_append,← List.append_assoc,List.flatMap_append]
         exact oP
       · obtain ⟨aa,cc,hva,hel⟩ := hv3.chg kN (fun _ _ _ h => h)
         refine ⟨aa,cc,hva,fun k' z hz => ?_⟩
         obtain ⟨g,h1,h2,h3,h4⟩ := hel k' z hz
         by_cases hxg : x.ownBlock = some g
         · refine ⟨g,h1,h2,?_,?_⟩
           · obtain ⟨cur,h5⟩ := h3
             exact (hpre g hxg).2
           · have h6 := (hpre g hxg).1
             rw [← List.append_nil ((xs ++ (List.range k).map (Hf i)).flatMap Edge.cells)] at h6
             exact Cb hfk (by rw [List.getElem?_append_left (List.getElem?_eq_some_iff.1 hz).1]; exact hz) h6
         · obtain ⟨cur,h5⟩ := h3
           exact ⟨g,h1,h2,⟨cur,cP.heap h5 fun hh => hxg hh.symm⟩,cP.range h4 fun hh => hxg hh.symm⟩
       · rcases hnewP g hg with h1 | h1
         · exact hxo g h1
         · exact .inr (by have := c3.size; have := kN.size; omega)
     · have hke : k = 16 := by simp only at hge2; omega
       subst hke
       have c23 : Chg S w w3 := c2.trans (c3.mono fun g hg => hSi hv hg)
       have hfx := Ae hx3
       obtain ⟨xa,xc,rfl⟩ := hfx
       refine ne (by decide) ?_
       refine nd fun q w4 e4 z4 k4 m4 => ?_
       have oL3 : w3.ownsRow A 24 1 lg i ws := Ab oL c3 fun g hg hh => by have := (oL.lt g hg).1; have := hvS g hh; omega
       have oL4 := Ab oL3 k4 fun _ _ => id
       refine ap (m := 1) (news := [.slice xa (xs.length + 16) xc]) Aa rfl rfl rfl rfl rfl rfl rfl (by decide) oL4 rfl (Own.all m4) rfl (by simp only [maxLen]; omega) (by show (_ + 1) * 24 ≤ _; omega) (by have := c3.size; have := k4.size; omega) ?_
       intro lg' w5 oL5 c5
       have c45 : Chg (fun g => some g = lg.ownBlock) w3 w5 := (k4.mono fun _ hf => hf.elim).trans c5
       have hoff : ∀ g,(∃ cur,w3.heap[g]? = some (.cells cur 67 (0,0))) → ¬ some g = lg.ownBlock := fun g ⟨cur,h1⟩ hh => by
        obtain ⟨c9,h9⟩ := Az oL3 hh.symm
        rw [h1] at h9
        injection h9 with h9
        injection h9 with _ h9
        exact absurd h9 (by decide)
       have oL5 : w5.ownsRow A 24 1 lg' (i + 1) (ws ++ [.slice xa (xs.length + 16) xc]) := oL5
       refine aw (by omega) (by omega) ?_
       refine again (i + 1,lg',ws ++ [.slice xa (xs.length + 16) xc]) ⟨rfl,rfl,rfl,trivial⟩ ⟨by simp only; omega,?_,by simp [hwl],oL5,by have := c3.size; have := c45.size; omega,fun j u hj hu => ?_,fun j u hj hu => ?_⟩ (by simp only; omega)
       · exact c23.newT c45 fun g hg => .inr (by have := (oL3.lt g hg.symm).1; omega)
       · obtain ⟨zs,h1,h2,h3⟩ := hlo j u (by simp only at hj; omega) hu
         have hji : i ≠ j := by simp only at hj; omega
         have h4 := Ab h1 c3 fun g hg hh => Ht hsep hv hu hji g hh hg
         exact ⟨zs,Ab h4 c45 fun g hg => hoff g (Az h4 hg),h2,h3⟩
       · rcases Nat.lt_or_ge j i with hji | hji
         · obtain ⟨zs,u2,h1,h2,h3,h4,h5⟩ := hdone j u hji hu
           have keep : ∀ {y : Value} {l : List Edge},Rd Edge.cells 4 67 (fun g => u.ownBlock = some g ∨ A ≤ g) w2 y l → Rd Edge.cells 4 67 (fun g => u.ownBlock = some g ∨ A ≤ g) w5 y l := fun h => (h.chg c3 fun g hg _ hh => by
            rcases hg with hg | hg
            · exact Ht hsep hu hv (by omega) g hg hh
            · have := hvS g hh; omega).chg c45 fun g _ hk => hoff g hk
           exact ⟨zs,u2,by rw [List.getElem?_append_left (by omega)]; exact h1,h2,keep h3,keep h4,h5⟩
         · have hjj : j = i := by simp only at hj; omega
           subst hjj
           rw [hv] at hu
           injection hu with hu
           subst hu
           have hRv : Rd Edge.cells 4 67 (fun g => v.ownBlock = some g ∨ A ≤ g) w3 v xs := by
            obtain ⟨aa,cc,hva,hel⟩ := hv3
            exact ⟨aa,cc,hva,fun k' z hz => by obtain ⟨g,h1,h2,h3,h4⟩ := hel k' z hz; exact ⟨g,h1,.inl h2,h3,h4⟩⟩
           have hll : (xs ++ ys j).length = xs.length + 16 := by rw [hys]; simp
           have hRx : Rd Edge.cells 4 67 (fun g => v.ownBlock = some g ∨ A ≤ g) w3 (.slice xa (xs.length + 16) xc) (xs ++ ys j) := by
            refine Rd.of (base := base) hfk (by rw [hll,hys]; exact hx3) fun g hg => ?_
            rcases hxo g hg with h1 | h1
            · exact .inl h1
            · exact .inr (by omega)
           exact ⟨xs,_,by rw [List.getElem?_append_right (by omega),hwl,Nat.sub_self]; rfl,hxl,hRv.chg c45 fun g _ hk => hoff g hk,hRx.chg c45 fun g _ hk => hoff g hk,hmk⟩
   · have hie : i = vs.length := by simp only at hge; omega
     subst hie
     have hfl := Ae oL
     obtain ⟨ga,gc,rfl⟩ := hfl
     have hgd : ∀ (j : Nat) (u : Value),ws[j]? = some u → ∃ gg,ga = some ⟨gg,0,none⟩ ∧ ∀ W,Kp w2 W → W.rangeAt gg (0 + j * 1) [u] := fun j u hu => by
      have hjl := (List.getElem?_eq_some_iff.1 hu).1
      rcases Dl oL with ⟨h0,hn0,-⟩ | ⟨gg,cap,h0,hr⟩
      · omega
      · injection h0 with h0 _ _
        subst h0
        exact ⟨gg,rfl,fun W hW => Ez (hW.range (Dz hr (j := j) hu) id) (by rw [Nat.mul_one])⟩
     refine loop Aa (σ := Nat) (fun j => [(0,.slice la vs.length lc),(5,.slice ga vs.length gc),(9,.int .i64 j)]) (fun j W => j ≤ vs.length ∧ Kp w2 W) (fun j => vs.length - j) 0
      ⟨rfl,rfl,rfl,trivial⟩ ⟨Nat.zero_le _,Chg.refl _ _⟩ ?_
     rintro j e5 w5 ⟨hj,k5⟩
     refine sp (fun hlt => ?_) (fun hge3 => ?_)
     · have hj' : j < vs.length := by omega
       have hvx : ∃ v,v = vs[j] := ⟨_,rfl⟩
       obtain ⟨v,hvd⟩ := hvx
       have hv : vs[j]? = some v := by rw [hvd]; simp
       have hRi := hRdL j v hv
       obtain ⟨gl,hgl,hRl⟩ := hRi
       subst hgl
       obtain ⟨xs,u,hu,hxl,⟨va,vc,hvf,hvr⟩,⟨ua,uc,huf,hur⟩,hmk⟩ := hdone j v hj' hv
       obtain ⟨gg,hgg,hRg⟩ := hgd j u hu
       subst hgg hvf huf
       have hyl : (xs ++ ys j).length = xs.length + 16 := by rw [hys]; simp
       have hRl' : ∀ W,Kp w2 W → W.rangeAt gl (0 + j * 1) [.slice va xs.length vc] := fun W hW => hRl W (c2.newT hW fun _ hf => hf.elim)
       refine ne ⟨by omega,by omega⟩ ?_
       refine ld Aa (v := .slice va xs.length vc) (by rw [Int.toNat_natCast]; exact hRl' w5 k5) (by rfl) ?_
       refine loop Aa (σ := Nat) (fun k => [(0,.slice (some ⟨gl,0,none⟩) vs.length lc),(5,.slice (some ⟨gg,0,none⟩) vs.length gc),(9,.int .i64 j),(10,.int .i64 xs.length),(11,.int .i64 k)]) (fun k W => k ≤ xs.length ∧ Kp w2 W) (fun k => xs.length - k) 0
        ⟨rfl,rfl,rfl,rfl,rfl,trivial⟩ ⟨Nat.zero_le _,k5⟩ ?_
       rintro k e6 w6 ⟨hk,k6⟩
       refine sp (fun hlt4 => ?_) (fun hge4 => ?_)
       · have hk' : k < xs.length := by omega
         have hxk : xs[k]? = some (Cx j k) := by
          have h1 : xs[k]? = some xs[k] := List.getElem?_eq_getElem _
          rw [h1,hmk k _ h1]
         have hxk2 : (xs ++ ys j)[k]? = some (Cx j k) := by rw [List.getElem?_append_left hk']; exact hxk
         obtain ⟨g1,rfl,-,-,hr1⟩ := hvr k _ hxk
         obtain ⟨g2,rfl,-,-,hr2⟩ := hur k _ hxk2
         refine ne ⟨by omega,by omega⟩ ?_
         refine ld Aa (v := .slice (some ⟨g1,0,none⟩) xs.length vc) (by rw [Int.toNat_natCast]; exact hRl' w6 k6) (by rfl) ?_
         refine ne ⟨by omega,by omega⟩ ?_
         refine ld Aa (v := (Cx j k).val) (by rw [Int.toNat_natCast]; exact k6.range hr1 id) (by rfl) ?_
         refine ne ⟨by kernel_rfl,by kernel_rfl⟩ ?_
         refine Bs (fun h => h rfl) ?_
         refine ne ⟨by omega,by omega⟩ ?_
         refine ld Aa (v := .slice (some ⟨g2,0,none⟩) (xs ++ ys j).length uc) (by rw [Int.toNat_natCast]; exact hRg w6 k6) (by rfl) ?_
         refine ne ⟨by omega,by omega⟩ ?_
         refine ld Aa (v := (Cx j k).val) (by rw [Int.toNat_natCast]; exact k6.range hr2 id) (by rfl) ?_
         refine ne ⟨by kernel_rfl,by kernel_rfl⟩ ?_
         refine Bs (fun h => h rfl) ?_
         refine aw (by omega) (by omega) ?_
         exact again (k + 1) ⟨rfl,rfl,rfl,rfl,rfl,trivial⟩ ⟨by omega,k6⟩ (by omega)
       · refine loop Aa (σ := Nat) (fun k => [(0,.slice (some ⟨gl,0,none⟩) vs.length lc),(5,.slice (some ⟨gg,0,none⟩) vs.length gc),(9,.int .i64 j),(10,.int .i64 xs.length),(12,.int .i64 k)]) (fun k W => k ≤ 16 ∧ Kp w2 W) (fun k => 16 - k) 0
          ⟨rfl,rfl,rfl,rfl,rfl,trivial⟩ ⟨Nat.zero_le _,k6⟩ ?_
         rintro k e7 w7 ⟨hk7,k7⟩
         refine sp (fun hlt5 => ?_) (fun hge5 => ?_)
         · have hk' : k < 16 := by omega
           have hxk2 : (xs ++ ys j)[xs.length + k]? = some (Hf j k) := by
            rw [List.getElem?_append_right (by omega),Nat.add_sub_cancel_left,hys,List.getElem?_map,List.getElem?_range hk']; rfl
           obtain ⟨g2,rfl,-,-,hr2⟩ := hur _ _ hxk2
           refine ne ⟨by omega,by omega⟩ ?_
           refine ld Aa (v := .slice (some ⟨g2,0,none⟩) (xs ++ ys j).length uc) (by rw [Int.toNat_natCast]; exact hRg w7 k7) (by rfl) ?_
           refine C3 (show _ = ((xs.length + k : Nat) : Int) by rw [show ((xs.length : Int) + (k : Int)) = ((xs.length + k : Nat) : Int) by omega]; exact As (by omega) (by omega)) ?_
           refine ne ⟨by omega,by omega⟩ ?_
           refine ld Aa (v := (Hf j k).val) (by rw [Int.toNat_natCast]; exact k7.range hr2 id) (by rfl) ?_
           refine C3 (show _ = (-((j + 1 : Nat) : Int)) by rw [show ((-1 : Int) - (j : Int)) = (-((j + 1 : Nat) : Int)) by omega]; exact As (by omega) (by omega)) ?_
           refine ne ⟨by kernel_rfl,by kernel_rfl⟩ ?_
           refine Bs (fun h => h rfl) ?_
           refine aw (by omega) (by omega) ?_
           exact again (k + 1) ⟨rfl,rfl,rfl,rfl,rfl,trivial⟩ ⟨by omega,k7⟩ (by omega)
         · refine aw (by omega) (by omega) ?_
           exact again (j + 1) ⟨rfl,rfl,rfl,trivial⟩ ⟨by omega,k7⟩ (by omega)
     · refine ⟨rfl,?_⟩
       rw [← hS]
       exact c2.newT k5 fun _ hf => hf.elim
end Go.Au
namespace Go.Au
open Go.Proofs.Tryz
open Go Go.RowKit Go.MapKept
open Go.Maps (Keyed)
theorem Qf : Keyed prog 136 := Maps.Keyed.of_law (deep_law_laid (P := prog) (by kernel_rfl) (m := 2) (by decide) (of_decide_eq_true (by kernel_rfl)) (by kernel_rfl) (by rw [underlying136]))
theorem Zp : prog.keyType 136 = true := by kernel_rfl
theorem AaV {p : Ag} (h1 : G7 p.1) (h2 : G7 p.2) : ∃ lit,keyOf prog 136 (Bp p) = some lit := by
 obtain ⟨m,hm⟩ := Nt
 have w1 : (Lit.int .i64 p.1).wf = true := Uw h1
 have w2 : (Lit.int .i64 p.2).wf = true := Uw h2
 unfold keyOf Bp
 simp only [underlying136]
 rw [if_pos (by simp [Zp,Value.formed,underlying136]; try kernel_rfl),hm]
 unfold Program.keyLits
 simp only [underlying136,Value.cells]
 rw [if_pos ⟨by kernel_rfl,by kernel_rfl⟩]
 have hc : prog.cellsOf 3 = 1 := by kernel_rfl
 simp [hc,Program.keyLits,underlying3,w1,w2,List.mapM_cons]
def B7 (L : List Ag) (p : Ag) : List Ag := if p ∈ L then L else L ++ [p]
def Aw (L : List Ag) (p : Ag) : Nat := (B7 L p).idxOf p
def Em : Nat → List Ag → List (Ag × Int)
 | _,[] => []
 | i,p :: r => (p,(i : Int)) :: Em (i + 1) r
abbrev Tl (L : List Ag) : List (Ag × Int) := Em 0 L
theorem Kz (p : Ag) : ∀ (L : List Ag) (i : Nat),Em i (L ++ [p]) = Em i L ++ [(p,((i + L.length : Nat) : Int))]
 | [],i => rfl
 | q :: r,i => by
  show (q,(i : Int)) :: Em (i + 1) (r ++ [p]) = (q,(i : Int)) :: (Em (i + 1) r ++ _)
  rw [Kz p r (i + 1),show i + 1 + r.length = i + (q :: r).length by simp; omega]
theorem K1 : ∀ (L : List Ag) (i : Nat),(Em i L).map (·.1) = L
 | [],_ => rfl
 | q :: r,i => by show q :: (Em (i + 1) r).map (·.1) = _; rw [K1 r]
theorem K0 {p : Ag} : ∀ (L : List Ag) (i : Nat),Bn (Em i L) p = if p ∈ L then some (((i + L.idxOf p : Nat)) : Int) else none
 | [],_ => rfl
 | q :: r,i => by
  show (if q = p then some (i : Int) else Bn (Em (i + 1) r) p) = _
  by_cases h : q = p
  · subst h
    rw [if_pos rfl,if_pos List.mem_cons_self,List.idxOf_cons_self]; rfl
  · rw [if_neg h,K0 r (i + 1)]
    by_cases h2 : p ∈ r
    · rw [if_pos h2,if_pos (List.mem_cons_of_mem _ h2),List.idxOf_cons,show (q == p) = false by simpa using h]
      congr 2; simp only [cond_false]; omega
    · rw [if_neg h2,if_neg fun hm => h2 ((List.mem_cons.1 hm).resolve_left (Ne.symm h))]
theorem Tm {L : List Ag} {p : Ag} (h : p ∈ L) : B7 L p = L := if_pos h
theorem Kx {L : List Ag} {p : Ag} (h : p ∉ L) : B7 L p = L ++ [p] := if_neg h
theorem X3 {L : List Ag} {p : Ag} (h : p ∈ L) : Aw L p = L.idxOf p := by unfold Aw; rw [Tm h]
theorem Qg {L : List Ag} {p : Ag} (h : p ∉ L) : Aw L p = L.length := by
 unfold Aw
 rw [Kx h,List.idxOf_append,if_neg h]
 simp
theorem Ca {L : List Ag} {p : Ag} (h : L.Nodup) : (B7 L p).Nodup := by
 unfold B7
 split
 · exact h
 · rename_i hp
   exact List.nodup_append.2 ⟨h,by simp,fun a ha b hb => by
    simp at hb; subst hb; rintro rfl; exact hp ha⟩
abbrev AgO (w : World) (m : Nat) (xs : List (Ag × Int)) := MapE prog 136 Bp (fun n : Int => .int .i64 n) w m xs
structure NumV (w : World) (base b m : Nat) (v : Value) (L : List Ag) : Prop where
 hdr : Own w b 132 [.map (some m),v,.bool false]
 map : AgO w m (Tl L)
 row : w.ownsRow base 136 2 v L.length (L.flatMap Ao)
 base : base ≤ w.heap.size
 nd : L.Nodup
theorem NumV.chg {S : Nat → Prop} {w w' : World} {base b m : Nat} {v : Value} {L : List Ag} (h : NumV w base b m v L) (k : Chg S w w') (hb : ¬ S b) (hm : ¬ S m) (hv : ∀ g,v.ownBlock = some g → ¬ S g) : NumV w' base b m v L :=
 ⟨k.own h.hdr hb,h.map.chg k hm,Ab h.row k hv,Nat.le_trans h.base k.size,h.nd⟩
theorem Ja : Af prog 80 = true := by kernel_rfl
theorem Qh {w : World} {base b m : Nat} {v : Value} {L : List Ag} (h : NumV w base b m v L) {p : Ag} (h1 : G7 p.1) (h2 : G7 p.2) (hl : L.length < 65536) :
 Calls prog 80 [pt b 0,Bp p].toArray w (Bg fun r w' => r = .int .i64 (Aw L p : Nat) ∧ ∃ v',NumV w' base b m v' (B7 L p) ∧
  Chg (fun k => k = b ∨ k = m ∨ some k = v.ownBlock) w w' ∧ (∀ g,v'.ownBlock = some g → v.ownBlock = some g ∨ w.heap.size ≤ g) ∧ w.heap.size < w'.heap.size) := by
 refine call Aa func80 rfl ntmps80 (by kernel_rfl) ?_
 refine nd fun q w1 e1 s1 k1 m1 => ?_
 have mq : Own w1 q 136 (Ao p) := m1
 have hdr := k1.own h.hdr id
 have hmap := h.map.chg k1 id
 have hrow := Ab h.row k1 fun _ _ => id
 have hk := AaV h1 h2
 have hlook : ∀ W,AgO W m (Tl L) → (Instr.lookup 129 (.map (some m)) (Bp p) true).run prog W = .ok (match Bn (Tl L) p with
  | some v => .tuple #[.int .i64 v,.bool true]
  | none => .tuple #[.int .i64 0,.bool false]) W := fun W hW => by
  have := MapE.lookup Aa Qf (t := 129) rfl rfl rfl hW p hk true
  refine this.trans ?_
  cases Bn (Tl L) p <;> rfl
 have hal := K0 (p := p) L 0
 by_cases hp : p ∈ L
 · rw [if_pos hp,Nat.zero_add] at hal
   refine Ax Aa mixed 11 (by kernel_rfl) (fun _ => False) ?_
   conv => whnf
   refine A7 Aa rfl rfl (fun W hW _ => Own.at_ (xs := [.map (some m)]) (o := 0) (hW.own hdr id) rfl) (by rfl) fun _ => ?_
   conv => whnf
   refine A7 (v := Bp p) Aa rfl rfl (fun W hW _ => Own.at_ (xs := Ao p) (o := 0) (hW.own mq id) rfl) (by rfl) fun _ => ?_
   conv => whnf
   refine Zt (v := .tuple #[.int .i64 (L.idxOf p : Nat),.bool true]) (Fh _) rfl (fun W hW _ => by have := hlook W (hmap.chg hW id); rw [hal] at this; exact this) fun _ => ?_
   conv => whnf
   intro W hW _
   have kW := k1.trans hW
   refine ⟨congrArg (fun i : Nat => Value.int .i64 (i : Int)) (X3 hp).symm,v,?_,kW.mono fun _ hf => hf.elim,fun g hg => .inl hg,by have := hW.size; omega⟩
   rw [Tm hp]
   exact h.chg kW id id fun _ _ => id
 rw [if_neg hp] at hal
 refine Ax Aa mixed 11 (by kernel_rfl) (fun _ => False) ?_
 conv => whnf
 refine A7 Aa rfl rfl (fun W hW _ => Own.at_ (xs := [.map (some m)]) (o := 0) (hW.own hdr id) rfl) (by rfl) fun _ => ?_
 conv => whnf
 refine A7 (v := Bp p) Aa rfl rfl (fun W hW _ => Own.at_ (xs := Ao p) (o := 0) (hW.own mq id) rfl) (by rfl) fun _ => ?_
 conv => whnf
 refine Zt (v := .tuple #[.int .i64 0,.bool false]) (Fh _) rfl (fun W hW _ => by have := hlook W (hmap.chg hW id); rw [hal] at this; exact this) fun _ => ?_
 conv => whnf
 intro w2 k2 _
 have k12 := k1.trans k2
 have hdr := k2.own hdr id
 have mq := k2.own mq id
 have hmap := hmap.chg k2 id
 have hrow := Ab hrow k2 fun _ _ => id
 have hf := Ae hrow
 obtain ⟨va,vc,rfl⟩ := hf
 refine ld Aa (Own.at_ (xs := [.slice va L.length vc]) (o := 1) hdr rfl) (by rfl) ?_
 refine Ax Aa mixed 6 (by kernel_rfl) (fun _ => False) ?_
 conv => whnf
 refine A7 Aa rfl rfl (fun W hW _ => Own.at_ (xs := [.map (some m)]) (o := 0) (hW.own hdr id) rfl) (by rfl) fun _ => ?_
 conv => whnf
 refine A7 (v := Bp p) Aa rfl rfl (fun W hW _ => Own.at_ (xs := Ao p) (o := 0) (hW.own mq id) rfl) (by rfl) fun _ => ?_
 conv => whnf
 intro w3 k3 _
 have k13 := k12.trans k3
 have hdr := k3.own hdr id
 have mq := k3.own mq id
 have hmap := hmap.chg k3 id
 have hrow := Ab hrow k3 fun _ _ => id
 have hup := MapE.update Aa Qf (t := 129) rfl rfl hmap p ((L.length : Nat) : Int) hk
 refine mu hup ?_
 rintro w4 ⟨hmap4,z4,c4⟩
 have hput : aput (Tl L) p ((L.length : Nat) : Int) = Tl (L ++ [p]) := by
  rw [Tl,Tl,Kz,Nat.zero_add,Cz fun y hy he => hp (by
   have : y.1 ∈ (Em 0 L).map (·.1) := List.mem_map.2 ⟨y,hy,rfl⟩
   rw [K1,he] at this
   exact this)]
 rw [hput] at hmap4
 obtain ⟨es,clock,hms,-⟩ := hmap.h
 have nb : b ≠ m := hmap.ne hdr
 have nq : q ≠ m := hmap.ne mq
 have nv : ∀ g,(Value.slice va L.length vc).ownBlock = some g → ¬ g = m := fun g hg he => by
  subst he
  exact Ai hrow hms (fun cs fr hh => by cases hh) hg
 have hdr := c4.own hdr nb
 have mq := c4.own mq nq
 have hrow := Ab hrow c4 nv
 obtain ⟨es4,clock4,hms4,-⟩ := id hmap4.h
 have hne_m : some m ≠ (Value.slice va L.length vc).ownBlock := fun he => nv m he.symm rfl
 have hne_b : some b ≠ (Value.slice va L.length vc).ownBlock := fun he => Ai hrow hdr (fun cs fr hh => by injection hh with _ h2; exact absurd h2 (by decide)) he.symm
 have hz := k13.size
 have hlt0 : ∀ g,(Value.slice va L.length vc).ownBlock = some g → g < w.heap.size := fun g hg => (h.row.lt g hg).2
 have hne_q : some q ≠ (Value.slice va L.length vc).ownBlock := fun he => by have := hlt0 q he.symm; omega
 have hlt : ∀ g,(Value.slice va L.length vc).ownBlock = some g → g < w4.heap.size := fun g hg => (hrow.lt g hg).2
 have hpre := Ek w4 (.slice va L.length vc) (L.length * 2) (Ao p)
 refine Dg Aa mixed 10 (by kernel_rfl) _ hpre ?_
 conv => whnf
 refine Gy hpre Aa rfl rfl (fun W hW _ => hW.chg.range (Own.at_ (xs := [.slice va L.length vc]) (o := 1) hdr rfl) hne_b) (by rfl) fun _ => ?_
 conv => whnf
 refine Gy (v := Bp p) hpre Aa rfl rfl (fun W hW _ => hW.chg.range (Own.at_ (xs := Ao p) (o := 0) mq rfl) hne_q) (by rfl) fun _ => ?_
 conv => whnf
 refine Uh hpre rfl rfl rfl rfl rfl (by decide) (fun b o W W' hb ho hS => hS.chg.heap ho fun hc => by have := hlt b hc.symm; omega) (fun W hS => hS.chg.size) fun q2 D hD => ?_
 conv => whnf
 refine apr (m := 1) (news := Ao p) Aa rfl rfl rfl rfl rfl rfl rfl (by decide) hrow rfl (fun W hS hDn => Own.at_ (xs := Ao p) (o := 0) (hD W (hDn 6 (by kernel_rfl))).1 rfl) rfl (by simp only [maxLen]; omega) (by show (L.length + 1) * 16 ≤ _; omega) (by have := h.base; have := c4.size; omega) fun v' D2 hD2 => ?_
 conv => whnf
 intro w5 hS5 hd5
 have hD5 := hD2 w5 (hd5 7)
 obtain ⟨hown,hnew⟩ := hD5
 have hf5 := Ae hown
 obtain ⟨vb,vd,rfl⟩ := hf5
 have hdr5 := hS5.chg.own hdr hne_b
 refine st Aa hdr5 rfl (show 2 ≤ 3 by decide) rfl ?_
 intro w6 z6 c6 hdr6
 have hdr6 : Own w6 b 132 [.map (some m),.slice vb (L.length + 1) vd,.bool false] := hdr6
 refine ld Aa (Own.at_ (xs := [.bool false]) (o := 2) hdr6 rfl) (by rfl) ?_
 refine ld Aa (Own.at_ (xs := [.slice vb (L.length + 1) vd]) (o := 1) hdr6 rfl) (by rfl) ?_
 refine Bs (by omega) ?_
 refine st Aa hdr6 rfl (show 3 ≤ 3 by decide) rfl ?_
 intro w7 z7 c7 hdr7
 have hdr7 : Own w7 b 132 [.map (some m),.slice vb (L.length + 1) vd,.bool false] := hdr7
 have hm5 := hmap4.chg hS5.chg hne_m
 have hm6 := hm5.chg c6 (Ne.symm nb)
 have hm7 := hm6.chg c7 (Ne.symm nb)
 have hnb5 : ∀ g,(Value.slice vb (L.length + 1) vd).ownBlock = some g → ¬ g = b := fun g hg he => by
  subst he
  exact Ai hown hdr5 (fun cs fr hh => by injection hh with _ h2; exact absurd h2 (by decide)) hg
 have hrow7 := Ab (Ab hown c6 hnb5) c7 hnb5
 refine ⟨congrArg (fun i : Nat => Value.int .i64 (i : Int)) (Qg hp).symm,.slice vb (L.length + 1) vd,?_,?_,?_,by have := k13.size; have := k3.size; have := k2.size; have := c4.size; have := hS5.chg.size; have := c6.size; have := c7.size; omega⟩
 · rw [Kx hp]
   refine ⟨hdr7,hm7,?_,by have := h.base; have := c4.size; have := hS5.chg.size; have := c6.size; have := c7.size; omega,Kx hp ▸ Ca h.nd⟩
   rw [List.length_append,List.flatMap_append]
   exact hrow7
 · have d1 : Chg (fun k => k = b ∨ k = m ∨ some k = (Value.slice va L.length vc).ownBlock) w w3 := k13.mono fun _ hf => hf.elim
   have d2 : Chg (fun k => k = b ∨ k = m ∨ some k = (Value.slice va L.length vc).ownBlock) w3 w4 := c4.mono fun _ h => .inr (.inl h)
   have d3 : Chg (fun k => k = b ∨ k = m ∨ some k = (Value.slice va L.length vc).ownBlock) w4 w5 := hS5.chg.mono fun _ h => .inr (.inr h)
   have d4 : Chg (fun k => k = b ∨ k = m ∨ some k = (Value.slice va L.length vc).ownBlock) w5 w6 := c6.mono fun _ h => .inl h
   have d5 : Chg (fun k => k = b ∨ k = m ∨ some k = (Value.slice va L.length vc).ownBlock) w6 w7 := c7.mono fun _ h => .inl h
   exact (((d1.trans d2).trans d3).trans d4).trans d5
 · intro g hg
   exact (hnew g hg).imp id fun h => by have := c4.size; omega
end Go.Au
namespace Go.Au
open Go.Proofs.Tryz
open Go Go.RowKit Go.MapKept
theorem R8 : Af prog 60 = true := by kernel_rfl
theorem Va (w : World) : Calls prog 60 [Ad].toArray w (Bg fun r w' => r = .bool true ∧ Kp w w') := by
 refine call Aa func60 rfl ntmps60 (by kernel_rfl) ?_
 refine loop Aa (σ := Unit) (fun _ => [(0,Ad),(3,.int .i64 0)]) (fun _ W => Kp w W) (fun _ => 0) () ⟨rfl,rfl,trivial⟩ (Chg.refl _ _) ?_
 rintro ⟨⟩ e0 w1 k1
 refine Bs (by decide) ?_
 refine loop Aa (σ := Unit) (fun _ => [(0,Ad),(5,Ad),(6,.int .i64 0)]) (fun _ W => Kp w W) (fun _ => 0) () ⟨rfl,rfl,rfl,trivial⟩ k1 ?_
 rintro ⟨⟩ e1 w2 k2
 refine Bs (by decide) ?_
 refine loop Aa (σ := Unit) (fun _ => [(0,Ad),(5,Ad),(9,.int .i64 0)]) (fun _ W => Kp w W) (fun _ => 0) () ⟨rfl,rfl,rfl,trivial⟩ k2 ?_
 rintro ⟨⟩ e2 w3 k3
 refine Bs (by decide) ?_
 exact ⟨rfl,k3⟩
theorem O8 : Af prog 64 = true := by kernel_rfl
theorem Rr (w : World) : Calls prog 64 [Ad].toArray w (Bg fun r w' => r = .bool true ∧ Kp w w') := by
 refine call Aa func64 rfl ntmps64 (by kernel_rfl) ?_
 refine loop Aa (σ := Unit) (fun _ => [(0,Ad),(3,.int .i64 0)]) (fun _ W => Kp w W) (fun _ => 0) () ⟨rfl,rfl,trivial⟩ (Chg.refl _ _) ?_
 rintro ⟨⟩ e0 w1 k1
 refine Bs (by decide) ?_
 refine loop Aa (σ := Unit) (fun _ => [(0,Ad),(5,Ad),(6,.int .i64 0)]) (fun _ W => Kp w W) (fun _ => 0) () ⟨rfl,rfl,rfl,trivial⟩ k1 ?_
 rintro ⟨⟩ e1 w2 k2
 refine Bs (by decide) ?_
 refine loop Aa (σ := Unit) (fun _ => [(0,Ad),(5,Ad),(9,.int .i64 0)]) (fun _ W => Kp w W) (fun _ => 0) () ⟨rfl,rfl,rfl,trivial⟩ k2 ?_
 rintro ⟨⟩ e2 w3 k3
 refine Bs (by decide) ?_
 exact ⟨rfl,k3⟩
theorem Pt : Af prog 66 = true := by kernel_rfl
theorem Te (w : World) : Calls prog 66 [Ad].toArray w (Bg fun r w' => r = .bool true ∧ Kp w w') := by
 refine call Aa func66 rfl ntmps66 (by kernel_rfl) ?_
 refine loop Aa (σ := Unit) (fun _ => [(0,Ad),(3,.int .i64 0)]) (fun _ W => Kp w W) (fun _ => 0) () ⟨rfl,rfl,trivial⟩ (Chg.refl _ _) ?_
 rintro ⟨⟩ e0 w1 k1
 refine Bs (by decide) ?_
 refine loop Aa (σ := Unit) (fun _ => [(0,Ad),(5,Ad),(6,.int .i64 0)]) (fun _ W => Kp w W) (fun _ => 0) () ⟨rfl,rfl,rfl,trivial⟩ k1 ?_
 rintro ⟨⟩ e1 w2 k2
 refine Bs (by decide) ?_
 refine loop Aa (σ := Unit) (fun _ => [(0,Ad),(5,Ad),(9,.int .i64 0)]) (fun _ W => Kp w W) (fun _ => 0) () ⟨rfl,rfl,rfl,trivial⟩ k2 ?_
 rintro ⟨⟩ e2 w3 k3
 refine Bs (by decide) ?_
 exact ⟨rfl,k3⟩
theorem M6 : Af prog 67 = true := by kernel_rfl
theorem Pn (w : World) : Calls prog 67 [Ad].toArray w (Bg fun r w' => r = .bool true ∧ Kp w w') := by
 refine call Aa func67 rfl ntmps67 (by kernel_rfl) ?_
 refine loop Aa (σ := Unit) (fun _ => [(0,Ad),(3,.int .i64 0)]) (fun _ W => Kp w W) (fun _ => 0) () ⟨rfl,rfl,trivial⟩ (Chg.refl _ _) ?_
 rintro ⟨⟩ e0 w1 k1
 refine Bs (by decide) ?_
 refine loop Aa (σ := Unit) (fun _ => [(0,Ad),(5,Ad),(6,.int .i64 0)]) (fun _ W => Kp w W) (fun _ => 0) () ⟨rfl,rfl,rfl,trivial⟩ k1 ?_
 rintro ⟨⟩ e1 w2 k2
 refine Bs (by decide) ?_
 refine loop Aa (σ := Unit) (fun _ => [(0,Ad),(5,Ad),(9,.int .i64 0)]) (fun _ W => Kp w W) (fun _ => 0) () ⟨rfl,rfl,rfl,trivial⟩ k2 ?_
 rintro ⟨⟩ e2 w3 k3
 refine Bs (by decide) ?_
 exact ⟨rfl,k3⟩
theorem Pv : Af prog 68 = true := by kernel_rfl
theorem Th (w : World) : Calls prog 68 [Ad].toArray w (Bg fun r w' => r = .bool true ∧ Kp w w') := by
 refine call Aa func68 rfl ntmps68 (by kernel_rfl) ?_
 refine loop Aa (σ := Unit) (fun _ => [(0,Ad),(3,.int .i64 0)]) (fun _ W => Kp w W) (fun _ => 0) () ⟨rfl,rfl,trivial⟩ (Chg.refl _ _) ?_
 rintro ⟨⟩ e0 w1 k1
 refine Bs (by decide) ?_
 refine loop Aa (σ := Unit) (fun _ => [(0,Ad),(5,Ad),(6,.int .i64 0)]) (fun _ W => Kp w W) (fun _ => 0) () ⟨rfl,rfl,rfl,trivial⟩ k1 ?_
 rintro ⟨⟩ e1 w2 k2
 refine Bs (by decide) ?_
 refine loop Aa (σ := Unit) (fun _ => [(0,Ad),(5,Ad),(9,.int .i64 0)]) (fun _ W => Kp w W) (fun _ => 0) () ⟨rfl,rfl,rfl,trivial⟩ k2 ?_
 rintro ⟨⟩ e2 w3 k3
 refine Bs (by decide) ?_
 exact ⟨rfl,k3⟩
theorem Pu : Af prog 69 = true := by kernel_rfl
theorem Tf (w : World) : Calls prog 69 [Ad].toArray w (Bg fun r w' => r = .bool true ∧ Kp w w') := by
 refine call Aa func69 rfl ntmps69 (by kernel_rfl) ?_
 refine loop Aa (σ := Unit) (fun _ => [(0,Ad),(3,.int .i64 0)]) (fun _ W => Kp w W) (fun _ => 0) () ⟨rfl,rfl,trivial⟩ (Chg.refl _ _) ?_
 rintro ⟨⟩ e0 w1 k1
 refine Bs (by decide) ?_
 refine loop Aa (σ := Unit) (fun _ => [(0,Ad),(5,Ad),(6,.int .i64 0)]) (fun _ W => Kp w W) (fun _ => 0) () ⟨rfl,rfl,rfl,trivial⟩ k1 ?_
 rintro ⟨⟩ e1 w2 k2
 refine Bs (by decide) ?_
 refine loop Aa (σ := Unit) (fun _ => [(0,Ad),(5,Ad),(9,.int .i64 0)]) (fun _ W => Kp w W) (fun _ => 0) () ⟨rfl,rfl,rfl,trivial⟩ k2 ?_
 rintro ⟨⟩ e2 w3 k3
 refine Bs (by decide) ?_
 exact ⟨rfl,k3⟩
theorem Ub : Af prog 70 = true := by kernel_rfl
theorem Xw (w : World) : Calls prog 70 [Ad].toArray w (Bg fun r w' => r = .bool true ∧ Kp w w') := by
 refine call Aa func70 rfl ntmps70 (by kernel_rfl) ?_
 refine loop Aa (σ := Unit) (fun _ => [(0,Ad),(3,.int .i64 0)]) (fun _ W => Kp w W) (fun _ => 0) () ⟨rfl,rfl,trivial⟩ (Chg.refl _ _) ?_
 rintro ⟨⟩ e0 w1 k1
 refine Bs (by decide) ?_
 refine loop Aa (σ := Unit) (fun _ => [(0,Ad),(5,Ad),(6,.int .i64 0)]) (fun _ W => Kp w W) (fun _ => 0) () ⟨rfl,rfl,rfl,trivial⟩ k1 ?_
 rintro ⟨⟩ e1 w2 k2
 refine Bs (by decide) ?_
 refine loop Aa (σ := Unit) (fun _ => [(0,Ad),(5,Ad),(9,.int .i64 0)]) (fun _ W => Kp w W) (fun _ => 0) () ⟨rfl,rfl,rfl,trivial⟩ k2 ?_
 rintro ⟨⟩ e2 w3 k3
 refine Bs (by decide) ?_
 exact ⟨rfl,k3⟩
theorem R5 : Af prog 71 = true := by kernel_rfl
theorem U7 (w : World) : Calls prog 71 [Ad].toArray w (Bg fun r w' => r = .bool true ∧ Kp w w') := by
 refine call Aa func71 rfl ntmps71 (by kernel_rfl) ?_
 refine loop Aa (σ := Unit) (fun _ => [(0,Ad),(3,.int .i64 0)]) (fun _ W => Kp w W) (fun _ => 0) () ⟨rfl,rfl,trivial⟩ (Chg.refl _ _) ?_
 rintro ⟨⟩ e0 w1 k1
 refine Bs (by decide) ?_
 refine loop Aa (σ := Unit) (fun _ => [(0,Ad),(5,Ad),(6,.int .i64 0)]) (fun _ W => Kp w W) (fun _ => 0) () ⟨rfl,rfl,rfl,trivial⟩ k1 ?_
 rintro ⟨⟩ e1 w2 k2
 refine Bs (by decide) ?_
 refine loop Aa (σ := Unit) (fun _ => [(0,Ad),(5,Ad),(9,.int .i64 0)]) (fun _ W => Kp w W) (fun _ => 0) () ⟨rfl,rfl,rfl,trivial⟩ k2 ?_
 rintro ⟨⟩ e2 w3 k3
 refine Bs (by decide) ?_
 exact ⟨rfl,k3⟩
theorem M7 : Af prog 72 = true := by kernel_rfl
theorem Po (w : World) : Calls prog 72 [Ad].toArray w (Bg fun r w' => r = .bool true ∧ Kp w w') := by
 refine call Aa func72 rfl ntmps72 (by kernel_rfl) ?_
 refine loop Aa (σ := Unit) (fun _ => [(0,Ad),(3,.int .i64 0)]) (fun _ W => Kp w W) (fun _ => 0) () ⟨rfl,rfl,trivial⟩ (Chg.refl _ _) ?_
 rintro ⟨⟩ e0 w1 k1
 refine Bs (by decide) ?_
 refine loop Aa (σ := Unit) (fun _ => [(0,Ad),(5,Ad),(6,.int .i64 0)]) (fun _ W => Kp w W) (fun _ => 0) () ⟨rfl,rfl,rfl,trivial⟩ k1 ?_
 rintro ⟨⟩ e1 w2 k2
 refine Bs (by decide) ?_
 refine loop Aa (σ := Unit) (fun _ => [(0,Ad),(5,Ad),(9,.int .i64 0)]) (fun _ W => Kp w W) (fun _ => 0) () ⟨rfl,rfl,rfl,trivial⟩ k2 ?_
 rintro ⟨⟩ e2 w3 k3
 refine Bs (by decide) ?_
 exact ⟨rfl,k3⟩
theorem R9 : Af prog 63 = true := by kernel_rfl
theorem Vb (w : World) : Calls prog 63 [Ad].toArray w (Bg fun r w' => r = .bool true ∧ Kp w w') := by
 refine call Aa func63 rfl ntmps63 (by kernel_rfl) ?_
 refine loop Aa (σ := Nat) (fun b => [(0,Ad),(3,.int .i64 (b : Nat))]) (fun b W => b ≤ 1 ∧ Kp w W) (fun b => 1 - b) 0 ⟨rfl,rfl,trivial⟩ ⟨by decide,Chg.refl _ _⟩ ?_
 rintro b e0 w0 ⟨hb,k0⟩
 by_cases hb0 : b = 0
 · subst hb0
   refine Dj rfl ?_
   refine loop Aa (σ := Unit) (fun _ => [(0,Ad),(3,.int .i64 ((0 : Nat) : Int)),(4,.int .i64 0)]) (fun _ W => Kp w W) (fun _ => 0) () ⟨rfl,rfl,rfl,trivial⟩ k0 ?_
   rintro ⟨⟩ e0 w1 k1
   refine Bs (by decide) ?_
   refine loop Aa (σ := Unit) (fun _ => [(0,Ad),(3,.int .i64 ((0 : Nat) : Int)),(6,Ad),(7,.int .i64 0)]) (fun _ W => Kp w W) (fun _ => 0) () ⟨rfl,rfl,rfl,rfl,trivial⟩ k1 ?_
   rintro ⟨⟩ e1 w2 k2
   refine Bs (by decide) ?_
   refine loop Aa (σ := Unit) (fun _ => [(0,Ad),(3,.int .i64 ((0 : Nat) : Int)),(6,Ad),(10,.int .i64 0)]) (fun _ W => Kp w W) (fun _ => 0) () ⟨rfl,rfl,rfl,rfl,trivial⟩ k2 ?_
   rintro ⟨⟩ e2 w3 k3
   refine Bs (by decide) ?_
   refine aw (by decide) (by decide) ?_
   exact again 1 ⟨rfl,rfl,trivial⟩ ⟨by decide,k3⟩ (by decide)
 · obtain rfl : b = 1 := by omega
   refine Bs (by decide) ?_
   refine ne (by decide) ?_
   refine C3 (show _ = (2 : Int) by decide) ?_
   refine Bs (by decide) ?_
   exact ⟨rfl,k0⟩
structure BookV (w : World) (base b : Nat) (vT vI vE : Value) (LT LI LE : List Value) : Prop where
 hdr : Own w b 62 [Ad,vT,vI,Ad,Ad,vE,Ad,Ad,Ad,Ad,Ad,Ad,Ad]
 rT : w.ownsRow base 22 1 vT LT.length LT
 rI : w.ownsRow base 23 1 vI LI.length LI
 rE : w.ownsRow base 24 1 vE LE.length LE
 hb : base ≤ w.heap.size
 lb : base ≤ b
 lT : LT.length ≤ 1000
 lI : LI.length ≤ 1000
 lE : LE.length ≤ 1000
def By (b : Nat) (vT vI vE : Value) (g : Nat) : Prop := g = b ∨ vT.ownBlock = some g ∨ vI.ownBlock = some g ∨ vE.ownBlock = some g
section
variable {w w' : World} {base b : Nat} {vT vI vE : Value} {LT LI LE : List Value}
theorem BookV.kp (h : BookV w base b vT vI vE LT LI LE) (k : Kp w w') : BookV w' base b vT vI vE LT LI LE :=
 ⟨k.own h.hdr id,Ab h.rT k fun _ _ => id,Ab h.rI k fun _ _ => id,Ab h.rE k fun _ _ => id,Nat.le_trans h.hb k.size,h.lb,h.lT,h.lI,h.lE⟩
theorem BookV.off (h : BookV w base b vT vI vE LT LI LE) {g : Nat} {t : TypeId} {cur : Array Value} (hg : w.heap[g]? = some (.cells cur t (0,0))) (ht : t = 9 ∨ t = 3 ∨ t = 67 ∨ t = 29) : ¬ By b vT vI vE g := fun hh => by
 have key : ∀ {el : TypeId} {v : Value} {n : Nat} {xs : List Value},w.ownsRow base el 1 v n xs → v.ownBlock = some g → t = el := fun h hv => by
  obtain ⟨c,hc⟩ := Az h hv
  rw [hg] at hc
  injection hc with hc
  injection hc
 rcases hh with rfl | hh | hh | hh
 · have h1 := h.hdr
   have h2 := Option.some.inj ((show w.heap[g]? = _ from h1).symm.trans hg)
   injection h2 with _ h2
   rcases ht with rfl | rfl | rfl | rfl <;> exact absurd h2 (by decide)
 · have := key h.rT hh
   rcases ht with rfl | rfl | rfl | rfl <;> exact absurd this (by decide)
 · have := key h.rI hh
   rcases ht with rfl | rfl | rfl | rfl <;> exact absurd this (by decide)
 · have := key h.rE hh
   rcases ht with rfl | rfl | rfl | rfl <;> exact absurd this (by decide)
theorem BookV.low (h : BookV w base b vT vI vE LT LI LE) {g : Nat} (hg : By b vT vI vE g) : base ≤ g := by
 rcases hg with rfl | hg | hg | hg
 · exact h.lb
 · exact Ah h.rT hg
 · exact Ah h.rI hg
 · exact Ah h.rE hg
end
theorem Pw : Af prog 98 = true := by kernel_rfl
theorem Uj {w : World} {base b : Nat} {vT vI vE : Value} {LT LI LE : List Value} (h : BookV w base b vT vI vE LT LI LE) {a : Option Addr} {n c : Nat} {u : Value} (hu : u = .slice a n c) (hl : LT.length < 1000) :
 Calls prog 98 [pt b 0,u].toArray w (Bg fun _ w' => ∃ vT',BookV w' base b vT' vI vE (LT ++ [u]) LI LE ∧ Chg (By b vT vI vE) w w' ∧ ∀ g,By b vT' vI vE g → By b vT vI vE g ∨ w.heap.size ≤ g) := by
 subst hu
 refine call Aa func98 rfl ntmps98 (by kernel_rfl) ?_
 refine ld Aa (v := vT) (Own.at_ (xs := [vT]) (o := 1) h.hdr rfl) (by obtain ⟨x,y,rfl⟩ := Ae h.rT; rfl) ?_
 refine ne (by decide) ?_
 refine nd fun q w1 e1 z1 k1 m1 => ?_
 have h1 := h.kp k1
 refine Yu (m := 1) (news := [.slice a n c]) Aa rfl rfl rfl rfl rfl rfl rfl (by decide) h1.rT rfl (Own.all m1) rfl (by simp only [maxLen]; omega) (by show (_ + 1) * 24 ≤ _; omega) h1.hb fun v' w2 o2 c2 hnew => ?_
 have hf := Ae o2
 obtain ⟨na,nc,rfl⟩ := hf
 have hbv : ¬ some b = (vT).ownBlock := fun he => Ai h1.rT h1.hdr (fun cs fr hh => by injection hh with _ h2; exact absurd h2 (by decide)) he.symm
 have hdr2 := c2.own h1.hdr hbv
 refine st Aa hdr2 rfl (show 2 ≤ 13 by decide) rfl ?_
 intro w3 z3 c3 hdr3
 have hdr3 : Own w3 b 62 [Ad,.slice na (LT.length + 1) nc,vI,Ad,Ad,vE,Ad,Ad,Ad,Ad,Ad,Ad,Ad] := hdr3
 have nb : ∀ {el v m xs},w2.ownsRow base el 1 v m xs → el ≠ 62 → ∀ g,v.ownBlock = some g → ¬ g = b := fun ho hel g hg he => by
  subst he
  exact Ai ho hdr2 (fun cs fr hh => by injection hh with _ h2; exact hel h2.symm) hg
 have p1 := Ab h1.rI c2 fun g hg hh => Dk h1.rI h1.rT (by decide) g hg hh.symm
 have p2 := Ab h1.rE c2 fun g hg hh => Dk h1.rE h1.rT (by decide) g hg hh.symm
 have hz := k1.size
 have hz2 := c2.size
 have hz3 := c3.size
 have P1 := Ab p1 c3 (nb p1 (by decide))
 have P2 := Ab p2 c3 (nb p2 (by decide))
 have P3 := Ab o2 c3 (nb o2 (by decide))
 refine ⟨_,⟨hdr3,?_,?_,?_,by have := h.hb; omega,h.lb,?_,?_,?_⟩,?_,fun g hg => ?_⟩
 all_goals (try rw [List.length_append])
 all_goals first | exact P1 | exact P2 | exact P3 | exact h.lI | exact h.lE | (show LT.length + 1 ≤ 1000; omega) | skip
 · exact ((k1.mono fun _ hf => hf.elim).trans (c2.mono fun g hg => .inr (.inl hg.symm))).trans (c3.mono fun g hg => .inl hg)
 · unfold By at hg ⊢
   rcases hg with hg | hg | hg | hg
   · exact .inl (.inl hg)
   · rcases hnew g hg with h9 | h9
     · exact .inl (.inr (.inl h9))
     · exact .inr (by omega)
   · exact .inl (.inr (.inr (.inl hg)))
   · exact .inl (.inr (.inr (.inr hg)))
theorem Ln : Af prog 99 = true := by kernel_rfl
theorem Pe {w : World} {base b : Nat} {vT vI vE : Value} {LT LI LE : List Value} (h : BookV w base b vT vI vE LT LI LE) {a : Option Addr} {n c : Nat} {u : Value} (hu : u = .slice a n c) (hl : LI.length < 1000) :
 Calls prog 99 [pt b 0,u].toArray w (Bg fun _ w' => ∃ vI',BookV w' base b vT vI' vE LT (LI ++ [u]) LE ∧ Chg (By b vT vI vE) w w' ∧ ∀ g,By b vT vI' vE g → By b vT vI vE g ∨ w.heap.size ≤ g) := by
 subst hu
 refine call Aa func99 rfl ntmps99 (by kernel_rfl) ?_
 refine ld Aa (v := vI) (Own.at_ (xs := [vI]) (o := 2) h.hdr rfl) (by obtain ⟨x,y,rfl⟩ := Ae h.rI; rfl) ?_
 refine ne (by decide) ?_
 refine nd fun q w1 e1 z1 k1 m1 => ?_
 have h1 := h.kp k1
 refine Yu (m := 1) (news := [.slice a n c]) Aa rfl rfl rfl rfl rfl rfl rfl (by decide) h1.rI rfl (Own.all m1) rfl (by simp only [maxLen]; omega) (by show (_ + 1) * 24 ≤ _; omega) h1.hb fun v' w2 o2 c2 hnew => ?_
 have hf := Ae o2
 obtain ⟨na,nc,rfl⟩ := hf
 have hbv : ¬ some b = (vI).ownBlock := fun he => Ai h1.rI h1.hdr (fun cs fr hh => by injection hh with _ h2; exact absurd h2 (by decide)) he.symm
 have hdr2 := c2.own h1.hdr hbv
 refine st Aa hdr2 rfl (show 3 ≤ 13 by decide) rfl ?_
 intro w3 z3 c3 hdr3
 have hdr3 : Own w3 b 62 [Ad,vT,.slice na (LI.length + 1) nc,Ad,Ad,vE,Ad,Ad,Ad,Ad,Ad,Ad,Ad] := hdr3
 have nb : ∀ {el v m xs},w2.ownsRow base el 1 v m xs → el ≠ 62 → ∀ g,v.ownBlock = some g → ¬ g = b := fun ho hel g hg he => by
  subst he
  exact Ai ho hdr2 (fun cs fr hh => by injection hh with _ h2; exact hel h2.symm) hg
 have p1 := Ab h1.rT c2 fun g hg hh => Dk h1.rT h1.rI (by decide) g hg hh.symm
 have p2 := Ab h1.rE c2 fun g hg hh => Dk h1.rE h1.rI (by decide) g hg hh.symm
 have hz := k1.size
 have hz2 := c2.size
 have hz3 := c3.size
 have P1 := Ab p1 c3 (nb p1 (by decide))
 have P2 := Ab p2 c3 (nb p2 (by decide))
 have P3 := Ab o2 c3 (nb o2 (by decide))
 refine ⟨_,⟨hdr3,?_,?_,?_,by have := h.hb; omega,h.lb,?_,?_,?_⟩,?_,fun g hg => ?_⟩
 all_goals (try rw [List.length_append])
 all_goals first | exact P1 | exact P2 | exact P3 | exact h.lT | exact h.lE | (show LI.length + 1 ≤ 1000; omega) | skip
 · exact ((k1.mono fun _ hf => hf.elim).trans (c2.mono fun g hg => .inr (.inr (.inl hg.symm)))).trans (c3.mono fun g hg => .inl hg)
 · unfold By at hg ⊢
   rcases hg with hg | hg | hg | hg
   · exact .inl (.inl hg)
   · exact .inl (.inr (.inl hg))
   · rcases hnew g hg with h9 | h9
     · exact .inl (.inr (.inr (.inl h9)))
     · exact .inr (by omega)
   · exact .inl (.inr (.inr (.inr hg)))
theorem Px : Af prog 100 = true := by kernel_rfl
theorem Uk {w : World} {base b : Nat} {vT vI vE : Value} {LT LI LE : List Value} (h : BookV w base b vT vI vE LT LI LE) {a : Option Addr} {n c : Nat} {u : Value} (hu : u = .slice a n c) (hl : LE.length < 1000) :
 Calls prog 100 [pt b 0,u].toArray w (Bg fun _ w' => ∃ vE',BookV w' base b vT vI vE' LT LI (LE ++ [u]) ∧ Chg (By b vT vI vE) w w' ∧ ∀ g,By b vT vI vE' g → By b vT vI vE g ∨ w.heap.size ≤ g) := by
 subst hu
 refine call Aa func100 rfl ntmps100 (by kernel_rfl) ?_
 refine ld Aa (v := vE) (Own.at_ (xs := [vE]) (o := 5) h.hdr rfl) (by obtain ⟨x,y,rfl⟩ := Ae h.rE; rfl) ?_
 refine ne (by decide) ?_
 refine nd fun q w1 e1 z1 k1 m1 => ?_
 have h1 := h.kp k1
 refine Yu (m := 1) (news := [.slice a n c]) Aa rfl rfl rfl rfl rfl rfl rfl (by decide) h1.rE rfl (Own.all m1) rfl (by simp only [maxLen]; omega) (by show (_ + 1) * 24 ≤ _; omega) h1.hb fun v' w2 o2 c2 hnew => ?_
 have hf := Ae o2
 obtain ⟨na,nc,rfl⟩ := hf
 have hbv : ¬ some b = (vE).ownBlock := fun he => Ai h1.rE h1.hdr (fun cs fr hh => by injection hh with _ h2; exact absurd h2 (by decide)) he.symm
 have hdr2 := c2.own h1.hdr hbv
 refine st Aa hdr2 rfl (show 6 ≤ 13 by decide) rfl ?_
 intro w3 z3 c3 hdr3
 have hdr3 : Own w3 b 62 [Ad,vT,vI,Ad,Ad,.slice na (LE.length + 1) nc,Ad,Ad,Ad,Ad,Ad,Ad,Ad] := hdr3
 have nb : ∀ {el v m xs},w2.ownsRow base el 1 v m xs → el ≠ 62 → ∀ g,v.ownBlock = some g → ¬ g = b := fun ho hel g hg he => by
  subst he
  exact Ai ho hdr2 (fun cs fr hh => by injection hh with _ h2; exact hel h2.symm) hg
 have p1 := Ab h1.rT c2 fun g hg hh => Dk h1.rT h1.rE (by decide) g hg hh.symm
 have p2 := Ab h1.rI c2 fun g hg hh => Dk h1.rI h1.rE (by decide) g hg hh.symm
 have hz := k1.size
 have hz2 := c2.size
 have hz3 := c3.size
 have P1 := Ab p1 c3 (nb p1 (by decide))
 have P2 := Ab p2 c3 (nb p2 (by decide))
 have P3 := Ab o2 c3 (nb o2 (by decide))
 refine ⟨_,⟨hdr3,?_,?_,?_,by have := h.hb; omega,h.lb,?_,?_,?_⟩,?_,fun g hg => ?_⟩
 all_goals (try rw [List.length_append])
 all_goals first | exact P1 | exact P2 | exact P3 | exact h.lT | exact h.lI | (show LE.length + 1 ≤ 1000; omega) | skip
 · exact ((k1.mono fun _ hf => hf.elim).trans (c2.mono fun g hg => .inr (.inr (.inr hg.symm)))).trans (c3.mono fun g hg => .inl hg)
 · unfold By at hg ⊢
   rcases hg with hg | hg | hg | hg
   · exact .inl (.inl hg)
   · exact .inl (.inr (.inl hg))
   · exact .inl (.inr (.inr (.inl hg)))
   · rcases hnew g hg with h9 | h9
     · exact .inl (.inr (.inr (.inr h9)))
     · exact .inr (by omega)
end Go.Au
namespace Go.Au
open Go.Proofs.Tryz
open Go Go.RowKit Go.MapKept
open Go.Maps (Keyed)
structure FromV (w : World) (lo hi lb bb n : Nat) (es : List Edge) : Prop where
 box : Own w lb 53 [.slice (some ⟨bb,0,none⟩) n n]
 by_ : ∃ vs,ByV w lo bb n vs es ∧ ∀ s,s < n → ∀ g,(vs.getD s Ad).ownBlock = some g → g < hi
 at_ : lo ≤ bb ∧ bb < hi
 wf : ∀ e ∈ es,e.wf
theorem Cy {w w' : World} {lo hi lo' hi' : Nat} {v : Value} {es : List Edge} (h : C9 lo hi w v es) (k : Kp w w') (h1 : lo' ≤ lo) (h2 : hi ≤ hi') : C9 lo' hi' w' v es := (h.chg k (fun _ _ _ h => h) (fun _ _ h => h)).mono (fun _ _ h => h) h1 h2
theorem FromV.same {w w' : World} {lo hi lb bb n : Nat} {es : List Edge} (h : FromV w lo hi lb bb n es) (hlb : w'.heap[lb]? = w.heap[lb]?) (hS : ∀ b cur t,lo ≤ b → b < hi → w.heap[b]? = some (.cells cur t (0,0)) → t = 67 ∨ t = 24 → w'.heap[b]? = w.heap[b]?) : FromV w' lo hi lb bb n es := by
 obtain ⟨vs,hb,hlt⟩ := h.by_
 refine ⟨hlb.trans h.box,⟨vs,⟨hb.len,(hS bb _ _ h.at_.1 h.at_.2 hb.mb (.inr rfl)).trans hb.mb,⟨fun x hx => ?_,hb.bag.sep⟩⟩,hlt⟩,h.at_,h.wf⟩
 obtain ⟨s,hs,rfl⟩ := List.mem_map.1 hx
 obtain ⟨m,ho⟩ := hb.bag.own _ hx
 have hsn : s < n := by simpa using hs
 refine ⟨m,ho.1,ho.2.imp id fun ⟨g,cap,cur,a1,a2,a3,a4⟩ => ⟨g,cap,cur,a1,a2,?_,a4⟩⟩
 have hg : (vs.getD s Ad).ownBlock = some g := by
  have : (vs.getD s Ad) = _ := a1
  rw [this]; rfl
 exact (hS g cur _ a2 (hlt s hsn g hg) a3 (.inl rfl)).trans a3
theorem FromV.kp {w w' : World} {lo hi lb bb n : Nat} {es : List Edge} (h : FromV w lo hi lb bb n es) (k : Kp w w') : FromV w' lo hi lb bb n es := by
 have h1 : w'.heap[lb]? = w.heap[lb]? := k.block lb h.box.lt id
 exact h.same h1 fun b cur t _ _ hb _ => k.block b (Am hb) id
theorem FromV.chg {S : Nat → Prop} {w w' : World} {lo hi lb bb n : Nat} {es : List Edge} (h : FromV w lo hi lb bb n es) (k : Chg S w w') (hl : ¬ S lb) (hS : ∀ b,lo ≤ b → b < hi → ¬ S b) : FromV w' lo hi lb bb n es := by
 have h1 : w'.heap[lb]? = w.heap[lb]? := k.block lb h.box.lt hl
 exact h.same h1 fun b cur t h2 h3 hb _ => k.block b (Am hb) (hS b h2 h3)
theorem FromV.mono {w : World} {lo hi lo' hi' lb bb n : Nat} {es : List Edge} (h : FromV w lo hi lb bb n es) (h1 : lo' ≤ lo) (h2 : hi ≤ hi') : FromV w lo' hi' lb bb n es := by
 obtain ⟨vs,hb,hlt⟩ := h.by_
 refine ⟨h.box,⟨vs,⟨hb.len,hb.mb,⟨fun x hx => ?_,hb.bag.sep⟩⟩,fun s hs g hg => by have := hlt s hs g hg; omega⟩,⟨by have := h.at_; omega,by have := h.at_; omega⟩,h.wf⟩
 obtain ⟨m,ho⟩ := hb.bag.own x hx
 exact ⟨m,ho.1,ho.2.imp id fun ⟨g,cap,cur,a1,a2,a3⟩ => ⟨g,cap,cur,a1,by omega,a3⟩⟩
theorem Nk : Af prog 77 = true := by kernel_rfl
theorem Xi {w : World} {lo hi lb bb n s : Nat} {es : List Edge} (h : FromV w lo hi lb bb n es) (hs : s < n) :
 Calls prog 77 [.int .i64 s,pt lb 0].toArray w (Bg fun r w' => Kp w w' ∧ C9 lo hi w r (Aj es s)) := by
 refine call Aa func77 rfl ntmps77 (by kernel_rfl) ?_
 obtain ⟨vs,hb,hlt⟩ := h.by_
 obtain ⟨m,ho⟩ := hb.bag.own (vs.getD s Ad,(Aj es s).flatMap Edge.cells) (List.mem_map.2 ⟨s,by simpa using hs,rfl⟩)
 have hm : m = (Aj es s).length := by
  have := ho.1
  rw [An (size := 4) (fun e => rfl)] at this
  omega
 subst hm
 have hltb := hlt s hs
 have hvs : vs[s]? = some (vs.getD s Ad) := by simp [List.getD_eq_getElem?_getD,hb.len,hs]
 have hrow := Av (f := Edge.cells) (fun _ => rfl) ho (by decide)
 obtain ⟨ua,uc,hu⟩ := Ae ho
 obtain ⟨v,hv⟩ : ∃ v,v = vs.getD s Ad := ⟨_,rfl⟩
 rw [← hv] at hvs hrow hu hltb
 subst hu
 refine ld Aa (Own.at_ (xs := [.slice (some ⟨bb,0,none⟩) n n]) (o := 0) h.box rfl) (by rfl) ?_
 refine ne ⟨by omega,by omega⟩ ?_
 refine ld (v := .slice ua (Aj es s).length uc) Aa (by rw [Int.toNat_natCast]; exact Own.one hb.mb hvs (by show 0 + s * 1 = s; omega)) (by rfl) ?_
 refine ⟨Chg.refl _ _,?_⟩
 obtain ⟨a,c,e1,hc,hr⟩ := hrow
 injection e1 with e1 _ e2
 subst e1 e2
 refine ⟨ua,uc,rfl,hc,fun i x hx => ?_⟩
 obtain ⟨b,o,hb1,hb2,hb3,cs,hb4,hb5,hb6⟩ := hr i x hx
 subst hb1
 exact ⟨b,o,rfl,hb2,hltb b rfl,cs,hb4,hb5,hb6,h.wf x (List.mem_filter.1 (List.mem_of_getElem? hx)).1⟩
theorem Pc : Af prog 29 = true := by kernel_rfl
set_option maxHeartbeats 1000000 in
theorem AgK {w : World} {ev : Value} {n : Nat} {es : List Edge} (hv : C9 0 w.heap.size w ev es) (hn : n ≤ 65536) (hE : es.length < 1099511627776) (hr : ∀ e ∈ es,0 ≤ e.frm ∧ e.frm < n) :
 Calls prog 29 [.int .i64 n,ev].toArray w (Bg fun r w' => Kp w w' ∧ ∃ lb bb,r = .func (.func 77) #[] #[pt lb 0] ∧ w.heap.size ≤ lb ∧ FromV w' w.heap.size w'.heap.size lb bb n es) := by
 obtain ⟨ea,ec,rfl,hec,hedges⟩ := id hv
 refine call Aa func29 rfl ntmps29 (by kernel_rfl) ?_
 refine ms Aa rfl rfl rfl rfl rfl rfl (by omega) (Int.le_refl _) (by show (24 : Int) * _ ≤ _; omega) (by omega) fun bb w1 e1 s1 k1 m1 => ?_
 have m1 : Own w1 bb 24 (Ic [Ad] n) := m1
 refine nd fun lb w2 e2 s2 k2 m2 => ?_
 refine st Aa m2 rfl (Nat.le_refl 1) rfl ?_
 intro w3 s3 k3 m3
 have m3 : Own w3 lb 53 [.slice (some ⟨bb,0,none⟩) n n] := m3
 have k13 : Kp w1 w3 := k2.new e2 k3
 have k03 : Kp w w3 := k1.trans k13
 have hrep : ∀ n,Ic [Ad] n = List.replicate n Ad := by
  intro n
  induction n with
  | zero => rfl
  | succ n ih => simp [Ic,ih,List.replicate_succ]
 have hby0 : ByV w3 bb bb n (Ic [Ad] n) [] := by
  refine ⟨by simp [hrep],k13.own m1 id,⟨fun y hy => ?_,?_⟩⟩
  · obtain ⟨s,hs,rfl⟩ := List.mem_map.1 hy
    refine ⟨0,?_⟩
    simp only [hrep,Aj,List.filter_nil,List.flatMap_nil]
    have : (List.replicate n Ad).getD s Ad = Ad := by simp [List.getD_eq_getElem?_getD,List.getElem?_replicate]; split <;> rfl
    rw [this]
    exact World.ownsRow_nil _ _ _ _
  · rw [List.pairwise_map]
    refine List.pairwise_of_forall fun a b c hc => ?_
    have : (Ic [Ad] n).getD a Ad = Ad := by simp [hrep,List.getD_eq_getElem?_getD,List.getElem?_replicate]; split <;> rfl
    simp only [this,Value.ownBlock] at hc
    cases hc
 have hbb : bb < lb := by omega
 refine loop Aa (σ := Nat × List Value) (fun t => [(5,pt lb 0),(10,.slice ea es.length ec),(11,.int .i64 es.length),(12,.int .i64 t.1)])
  (fun t w' => t.1 ≤ es.length ∧ Kp w w' ∧ ByV w' bb bb n t.2 (es.take t.1) ∧ Own w' lb 53 [.slice (some ⟨bb,0,none⟩) n n]) (fun t => es.length - t.1) (0,Ic [Ad] n)
  ⟨rfl,rfl,rfl,rfl,trivial⟩ ⟨by omega,k03,by simpa using hby0,m3⟩ ?_
 rintro ⟨i,vs⟩ env w8 ⟨hi,k08,hby,m8⟩
 refine sp (fun hlt => ?_) (fun hge => ?_)
 · have hi' : i < es.length := by simp only at hlt; omega
   obtain ⟨b,o,rfl,hlo,hhi,cs,hcs,hrd,rfl,hwf⟩ := hedges i es[i] (by simp)
   have her := hr es[i] (by simp)
   obtain ⟨f,hf⟩ : ∃ f : Nat,es[i].frm = f := ⟨es[i].frm.toNat,by omega⟩
   have hfn : f < n := by omega
   refine ne ⟨by omega,hlt⟩ ?_
   refine ld Aa (v := es[i].val) (k08.range hrd id) rfl ?_
   refine nd fun q w9 e9 s9 k9 m9 => ?_
   refine st Aa (cs := [.int .i64 0,.int .i64 0,.int .u16 0,.int .u16 0]) m9 rfl (Nat.le_refl 4) rfl ?_
   intro w10 s10 k10 m10
   have m10 : Own w10 q 67 es[i].cells := m10
   have k810 : Kp w8 w10 := k9.new e9 k10
   have hmb := k810.own hby.mb id
   have m8' := k810.own m8 id
   have hbag := hby.bag.kp k810
   obtain ⟨m,hrow⟩ := hbag.own (vs.getD f Ad,(Aj (es.take i) f).flatMap Edge.cells) (List.mem_map.2 ⟨f,by simpa using hfn,rfl⟩)
   have hm : m = (Aj (es.take i) f).length := by
    have := hrow.1
    rw [An (size := 4) (fun e => rfl)] at this
    omega
   subst hm
   have hml : (Aj (es.take i) f).length ≤ i := by
    have h1 := List.length_filter_le (fun e : Edge => decide (e.frm = (f : Int))) (es.take i)
    simp only [List.length_take] at h1
    unfold Aj
    omega
   have hltB : ∀ k,(vs.getD f Ad).ownBlock = some k → k < w10.heap.size := fun k hk => (hrow.lt k hk).2
   have hltB8 : ∀ k,(vs.getD f Ad).ownBlock = some k → k < w8.heap.size := fun k hk => (hby.bag.lt _ (List.mem_map.2 ⟨f,by simpa using hfn,rfl⟩) k hk).2
   have hnq : some q ≠ (vs.getD f Ad).ownBlock := fun he => by have := hltB8 q he.symm; omega
   have hnb : some bb ≠ (vs.getD f Ad).ownBlock := fun he => Ai hrow hmb (fun cs fr hh => by injection hh with _ h2; exact absurd h2 (by decide)) he.symm
   have hnl : some lb ≠ (vs.getD f Ad).ownBlock := fun he => Ai hrow m8' (fun cs fr hh => by injection hh with _ h2; exact absurd h2 (by decide)) he.symm
   have hvf : vs[f]? = some (vs.getD f Ad) := by simp [List.getD_eq_getElem?_getD,hby.len,hfn]
   obtain ⟨va,vc,hvs⟩ := Ae hrow
   have hpre := Ek w10 (vs.getD f Ad) ((Aj (es.take i) f).length * 4) es[i].cells
   refine Dg Aa mixed 12 (by kernel_rfl) _ hpre ?_
   conv => whnf
   refine Gy hpre Aa rfl rfl (fun W h _ => h.chg.range (Own.at_ (xs := [.slice (some ⟨bb,0,none⟩) n n]) (o := 0) m8' rfl) hnl) (by rfl) fun _ => ?_
   conv => whnf
   refine Gy hpre Aa rfl rfl (fun W h _ => h.chg.range (Own.at_ (xs := [.int .i64 es[i].frm]) m10 rfl) hnq) (by rfl) fun _ => ?_
   conv => whnf
   refine Gy hpre Aa rfl rfl (fun W h _ => h.chg.range (Own.at_ (xs := [.slice (some ⟨bb,0,none⟩) n n]) (o := 0) m8' rfl) hnl) (by rfl) fun _ => ?_
   conv => whnf
   refine Gy hpre Aa rfl rfl (fun W h _ => h.chg.range (Own.at_ (xs := [.int .i64 es[i].frm]) m10 rfl) hnq) (by rfl) fun _ => ?_
   conv => whnf
   refine ne ⟨by omega,by omega⟩ ?_
   conv => whnf
   refine Gy (v := vs.getD f Ad) hpre Aa rfl rfl (fun W h _ => h.chg.range (Own.one hmb hvf (by show 0 + es[i].frm.toNat * 1 = f; omega)) hnb) (by rfl) fun _ => ?_
   conv => whnf
   refine Gy (v := es[i].val) hpre Aa rfl rfl (fun W h _ => h.chg.range (Own.at_ (xs := es[i].cells) (o := 0) m10 rfl) hnq) (by rfl) fun _ => ?_
   conv => whnf
   refine Uh hpre rfl rfl rfl rfl rfl (by decide) (fun b o W W' hb ho hS => hS.chg.heap ho fun hc => by have := hltB b hc.symm; omega) (fun W hS => hS.chg.size) fun q2 D hD => ?_
   conv => whnf
   refine apr (m := 1) (news := es[i].cells) Aa rfl rfl rfl rfl rfl rfl rfl (by decide) hrow rfl (fun W hS hDn => Own.at_ (xs := es[i].cells) (o := 0) (hD W (hDn 9 (by kernel_rfl))).1 rfl) rfl (by simp only [maxLen]; omega) (by show (_ + 1) * 24 ≤ _; omega) (by have := k810.size; have := hby.mb.lt; omega) fun v' D2 hD2 => ?_
   conv => whnf
   refine ne ⟨by omega,by omega⟩ ?_
   conv => whnf
   intro W hS hDn
   obtain ⟨hown',hnew⟩ := hD2 W (hDn 10)
   have hmbW := hS.chg.own hmb hnb
   obtain ⟨a',cap',rfl⟩ := Ae hown'
   refine st Aa hmbW (by rfl) ?_ rfl ?_
   · show 0 + es[i].frm.toNat * 1 + 1 ≤ vs.length
     rw [hby.len]; omega
   intro w11 s11 k11 m11
   refine aw (by omega) (by omega) ?_
   have hlay : Gk vs (0 + es[i].frm.toNat * 1) (Bc (.slice a' ((Aj (es.take i) f).length + 1) cap')) = vs.set f (.slice a' ((Aj (es.take i) f).length + 1) cap') := by
    show vs.set (0 + es[i].frm.toNat * 1) _ = _
    rw [show 0 + es[i].frm.toNat * 1 = f by omega]
   have m11 : Own w11 bb 24 (vs.set f (.slice a' ((Aj (es.take i) f).length + 1) cap')) := by rw [← hlay]; exact m11
   have hby10 : ByV w10 bb bb n vs (es.take i) := ⟨hby.len,hmb,hbag⟩
   have hby11 := hby10.set hf hfn (Nat.le_refl _) hS.chg hown' hnew k11 m11
   refine again (i + 1,vs.set f (.slice a' ((Aj (es.take i) f).length + 1) cap')) ⟨rfl,rfl,rfl,rfl,trivial⟩ ⟨by simp only; omega,?_,?_,k11.own (hS.chg.own m8' hnl) (by omega)⟩ (by simp only; omega)
   · refine Chg.newS (T := fun k => k = bb ∨ some k = (vs.getD f Ad).ownBlock) (k08.trans k810) ((hS.chg.mono fun _ => .inr).trans (k11.mono fun _ => .inl)) fun k hk => ?_
     rcases hk with rfl | hk
     · omega
     · have := (hbag.lt _ (List.mem_map.2 ⟨f,by simpa using hfn,rfl⟩) k hk.symm).1
       omega
   · rw [show es.take (i + 1) = es.take i ++ [es[i]] by simp]
     exact hby11
 · have hall : es.take i = es := List.take_of_length_le (by simp only at hge; omega)
   rw [hall] at hby
   have hwf : ∀ e ∈ es,e.wf := fun e he => by
    obtain ⟨j,hj,rfl⟩ := List.getElem_of_mem he
    obtain ⟨b,o,_,_,_,cs,_,_,_,hwf⟩ := hedges j es[j] (by simp)
    exact hwf
   refine ⟨k08,lb,bb,rfl,by omega,m8,⟨vs,⟨hby.len,hby.mb,⟨fun x hx => ?_,hby.bag.sep⟩⟩,fun s hs g hg => (hby.bag.lt _ (List.mem_map.2 ⟨s,by simpa using hs,rfl⟩) g hg).2⟩,⟨by omega,by have := hby.mb.lt; omega⟩,hwf⟩
   obtain ⟨m,ho⟩ := hby.bag.own x hx
   exact ⟨m,ho.1,ho.2.imp id fun ⟨g,cap,cur,a1,a2,a3⟩ => ⟨g,cap,cur,a1,by omega,a3⟩⟩
end Go.Au
namespace Go.Proofs
open Go.Shelf
def Tryz.sortInts_ren : Go.Shelf.Ren := ⟨fun | 5 => 81 | 8 => 86 | 7 => 106 | 19 => 116 | 20 => 117 | 10 => 127 | 11 => 128 | 12 => 129 | 13 => 130 | 14 => 131 | 15 => 132 | 16 => 83 | 17 => 133 | 18 => 134 | 30 => 142 | 31 => 136 | 32 => 137 | 33 => 143 | 34 => 144 | 35 => 107 | 40 => 146 | n => n,fun | 23 => 23 | 25 => 3 | 3 => 3 | 32 => 137 | 22 => 23 | 0 => 0 | 44 => 180 | 46 => 182 | 4 => 4 | 36 => 174 | 35 => 173 | 41 => 82 | 5 => 5 | 9 => 9 | 53 => 203 | 57 => 207 | 63 => 213 | 64 => 214 | n => n,fun | n => n⟩
theorem Tryz.sortInts : Go.Proofs.SlLaysM.n5 Tryz.prog Tryz.sortInts_ren := {
 mixed := by kernel_rfl
 f5 := ⟨Tryz.f81.name,by decide,Tryz.func81.trans (congrArg some (by kernel_rfl))⟩
 f7 := ⟨Tryz.f106.name,by decide,Tryz.func106.trans (congrArg some (by kernel_rfl))⟩
 f8 := Tryz.func86.trans (congrArg some (by kernel_rfl))
 f10 := ⟨Tryz.f127.name,by decide,Tryz.func127.trans (congrArg some (by kernel_rfl))⟩
 f11 := ⟨Tryz.f128.name,by decide,Tryz.func128.trans (congrArg some (by kernel_rfl))⟩
 f12 := ⟨Tryz.f129.name,by decide,Tryz.func129.trans (congrArg some (by kernel_rfl))⟩
 f13 := ⟨Tryz.f130.name,by decide,Tryz.func130.trans (congrArg some (by kernel_rfl))⟩
 f14 := ⟨Tryz.f131.name,by decide,Tryz.func131.trans (congrArg some (by kernel_rfl))⟩
 f15 := ⟨Tryz.f132.name,by decide,Tryz.func132.trans (congrArg some (by kernel_rfl))⟩
 f16 := ⟨Tryz.f83.name,by decide,Tryz.func83.trans (congrArg some (by kernel_rfl))⟩
 f17 := ⟨Tryz.f133.name,by decide,Tryz.func133.trans (congrArg some (by kernel_rfl))⟩
 f18 := ⟨Tryz.f134.name,by decide,Tryz.func134.trans (congrArg some (by kernel_rfl))⟩
 f19 := Tryz.func116.trans (congrArg some (by kernel_rfl))
 f20 := Tryz.func117.trans (congrArg some (by kernel_rfl))
 f30 := ⟨Tryz.f142.name,by decide,Tryz.func142.trans (congrArg some (by kernel_rfl))⟩
 f31 := Tryz.func136.trans (congrArg some (by kernel_rfl))
 f32 := Tryz.func137.trans (congrArg some (by kernel_rfl))
 f33 := ⟨Tryz.f143.name,by decide,Tryz.func143.trans (congrArg some (by kernel_rfl))⟩
 f34 := ⟨Tryz.f144.name,by decide,Tryz.func144.trans (congrArg some (by kernel_rfl))⟩
 f35 := ⟨Tryz.f107.name,by decide,Tryz.func107.trans (congrArg some (by kernel_rfl))⟩
 f40 := ⟨Tryz.f146.name,by decide,Tryz.func146.trans (congrArg some (by kernel_rfl))⟩
 t0 := Tryz.underlying0
 a0 := Tryz.isAgg0
 z0 := Tryz.sizeOf0
 v0 := Tryz.zeroValue0
 t3 := Tryz.underlying3
 a3 := Tryz.isAgg3
 z3 := Tryz.sizeOf3
 v3 := Tryz.zeroValue3
 t4 := Tryz.underlying4
 a4 := Tryz.isAgg4
 z4 := Tryz.sizeOf4
 v4 := Tryz.zeroValue4
 t5 := Tryz.underlying5
 a5 := Tryz.isAgg5
 z5 := Tryz.sizeOf5
 v5 := Tryz.zeroValue5
 t9 := Tryz.underlying9
 a9 := Tryz.isAgg9
 z9 := Tryz.sizeOf9
 v9 := Tryz.zeroValue9
 t22 := Tryz.underlying23
 a22 := Tryz.isAgg23
 z22 := Tryz.sizeOf23
 v22 := Tryz.zeroValue23
 t23 := Tryz.underlying23
 a23 := Tryz.isAgg23
 z23 := Tryz.sizeOf23
 v23 := Tryz.zeroValue23
 t25 := Tryz.underlying3
 a25 := Tryz.isAgg3
 z25 := Tryz.sizeOf3
 v25 := Tryz.zeroValue3
 t32 := Tryz.underlying137
 a32 := Tryz.isAgg137
 z32 := Tryz.sizeOf137
 v32 := Tryz.zeroValue137
 t35 := Tryz.underlying173
 a35 := Tryz.isAgg173
 z35 := Tryz.sizeOf173
 v35 := Tryz.zeroValue173
 t36 := Tryz.underlying174
 a36 := Tryz.isAgg174
 z36 := Tryz.sizeOf174
 v36 := Tryz.zeroValue174
 t41 := Tryz.underlying82
 a41 := Tryz.isAgg82
 z41 := Tryz.sizeOf82
 v41 := Tryz.zeroValue82
 t44 := Tryz.underlying180
 a44 := Tryz.isAgg180
 z44 := Tryz.sizeOf180
 v44 := Tryz.zeroValue180
 t46 := Tryz.underlying182
 a46 := Tryz.isAgg182
 z46 := Tryz.sizeOf182
 v46 := Tryz.zeroValue182
 t53 := Tryz.underlying203
 a53 := Tryz.isAgg203
 z53 := Tryz.sizeOf203
 v53 := Tryz.zeroValue203
 t57 := Tryz.underlying207
 a57 := Tryz.isAgg207
 z57 := Tryz.sizeOf207
 v57 := Tryz.zeroValue207
 t63 := Tryz.underlying213
 a63 := Tryz.isAgg213
 z63 := Tryz.sizeOf213
 v63 := Tryz.zeroValue213
 t64 := Tryz.underlying214
 a64 := Tryz.isAgg214
 z64 := Tryz.sizeOf214
 v64 := Tryz.zeroValue214 }
def Tryz.sortEdges_ren : Go.Shelf.Ren := ⟨fun | 6 => 35 | 15 => 86 | 14 => 85 | 28 => 116 | 29 => 117 | 20 => 108 | 21 => 109 | 22 => 110 | 23 => 111 | 24 => 112 | 25 => 113 | 26 => 114 | 27 => 115 | 46 => 135 | 47 => 136 | 48 => 137 | 49 => 138 | 50 => 139 | 57 => 145 | n => n,fun | 22 => 24 | 24 => 67 | 25 => 86 | 3 => 3 | 39 => 137 | 0 => 0 | 53 => 180 | 55 => 182 | 4 => 4 | 46 => 174 | 45 => 173 | 50 => 82 | 5 => 5 | 9 => 9 | 66 => 203 | 70 => 207 | 76 => 213 | 77 => 214 | n => n,fun | n => n⟩
theorem Tryz.sortEdges : Go.Proofs.SlLaysF0.n6 Tryz.prog Tryz.sortEdges_ren := {
 mixed := by kernel_rfl
 f6 := ⟨Tryz.f35.name,by decide,Tryz.func35.trans (congrArg some (by kernel_rfl))⟩
 f14 := ⟨Tryz.f85.name,by decide,Tryz.func85.trans (congrArg some (by kernel_rfl))⟩
 f15 := Tryz.func86.trans (congrArg some (by kernel_rfl))
 f20 := ⟨Tryz.f108.name,by decide,Tryz.func108.trans (congrArg some (by kernel_rfl))⟩
 f21 := ⟨Tryz.f109.name,by decide,Tryz.func109.trans (congrArg some (by kernel_rfl))⟩
 f22 := ⟨Tryz.f110.name,by decide,Tryz.func110.trans (congrArg some (by kernel_rfl))⟩
 f23 := ⟨Tryz.f111.name,by decide,Tryz.func111.trans (congrArg some (by kernel_rfl))⟩
 f24 := ⟨Tryz.f112.name,by decide,Tryz.func112.trans (congrArg some (by kernel_rfl))⟩
 f25 := ⟨Tryz.f113.name,by decide,Tryz.func113.trans (congrArg some (by kernel_rfl))⟩
 f26 := ⟨Tryz.f114.name,by decide,Tryz.func114.trans (congrArg some (by kernel_rfl))⟩
 f27 := ⟨Tryz.f115.name,by decide,Tryz.func115.trans (congrArg some (by kernel_rfl))⟩
 f28 := Tryz.func116.trans (congrArg some (by kernel_rfl))
 f29 := Tryz.func117.trans (congrArg some (by kernel_rfl))
 f46 := ⟨Tryz.f135.name,by decide,Tryz.func135.trans (congrArg some (by kernel_rfl))⟩
 f47 := Tryz.func136.trans (congrArg some (by kernel_rfl))
 f48 := Tryz.func137.trans (congrArg some (by kernel_rfl))
 f49 := ⟨Tryz.f138.name,by decide,Tryz.func138.trans (congrArg some (by kernel_rfl))⟩
 f50 := ⟨Tryz.f139.name,by decide,Tryz.func139.trans (congrArg some (by kernel_rfl))⟩
 f57 := ⟨Tryz.f145.name,by decide,Tryz.func145.trans (congrArg some (by kernel_rfl))⟩
 t0 := Tryz.underlying0
 a0 := Tryz.isAgg0
 z0 := Tryz.sizeOf0
 v0 := Tryz.zeroValue0
 t3 := Tryz.underlying3
 a3 := Tryz.isAgg3
 z3 := Tryz.sizeOf3
 v3 := Tryz.zeroValue3
 t4 := Tryz.underlying4
 a4 := Tryz.isAgg4
 z4 := Tryz.sizeOf4
 v4 := Tryz.zeroValue4
 t5 := Tryz.underlying5
 a5 := Tryz.isAgg5
 z5 := Tryz.sizeOf5
 v5 := Tryz.zeroValue5
 t9 := Tryz.underlying9
 a9 := Tryz.isAgg9
 z9 := Tryz.sizeOf9
 v9 := Tryz.zeroValue9
 t22 := Tryz.underlying24
 a22 := Tryz.isAgg24
 z22 := Tryz.sizeOf24
 v22 := Tryz.zeroValue24
 t25 := Tryz.underlying86
 a25 := Tryz.isAgg86
 z25 := Tryz.sizeOf86
 v25 := Tryz.zeroValue86
 t39 := Tryz.underlying137
 a39 := Tryz.isAgg137
 z39 := Tryz.sizeOf137
 v39 := Tryz.zeroValue137
 t45 := Tryz.underlying173
 a45 := Tryz.isAgg173
 z45 := Tryz.sizeOf173
 v45 := Tryz.zeroValue173
 t46 := Tryz.underlying174
 a46 := Tryz.isAgg174
 z46 := Tryz.sizeOf174
 v46 := Tryz.zeroValue174
 t50 := Tryz.underlying82
 a50 := Tryz.isAgg82
 z50 := Tryz.sizeOf82
 v50 := Tryz.zeroValue82
 t53 := Tryz.underlying180
 a53 := Tryz.isAgg180
 z53 := Tryz.sizeOf180
 v53 := Tryz.zeroValue180
 t55 := Tryz.underlying182
 a55 := Tryz.isAgg182
 z55 := Tryz.sizeOf182
 v55 := Tryz.zeroValue182
 t66 := Tryz.underlying203
 a66 := Tryz.isAgg203
 z66 := Tryz.sizeOf203
 v66 := Tryz.zeroValue203
 t70 := Tryz.underlying207
 a70 := Tryz.isAgg207
 z70 := Tryz.sizeOf207
 v70 := Tryz.zeroValue207
 t76 := Tryz.underlying213
 a76 := Tryz.isAgg213
 z76 := Tryz.sizeOf213
 v76 := Tryz.zeroValue213
 t77 := Tryz.underlying214
 a77 := Tryz.isAgg214
 z77 := Tryz.sizeOf214
 v77 := Tryz.zeroValue214 }
end Go.Proofs
namespace Go.Au
open Go.Proofs.Tryz
open Go Go.RowKit Go.Sort Go.Lib
theorem Oq {α : Type} [Inhabited α] {enc : α → List Value} {k : Nat} (hk : ∀ x,(enc x).length = k) (d : Array α) : (flatK enc k d).toList = d.toList.flatMap enc := by
 rcases Nat.eq_zero_or_pos k with h0 | h0
 · subst h0
   have h1 : d.toList.flatMap enc = [] := by
    rw [List.flatMap_eq_nil_iff]
    intro x _
    exact List.eq_nil_of_length_eq_zero (hk x)
   rw [h1]
   apply List.eq_nil_of_length_eq_zero
   simp
 · apply List.ext_getElem?
   intro t
   by_cases ht : t < d.size * k
   · have hq : t / k < d.size := Nat.div_lt_of_lt_mul (by rw [Nat.mul_comm]; exact ht)
     have hr : t % k < k := Nat.mod_lt _ h0
     have hx : d.toList[t / k]? = some d[t / k] := by simp [hq]
     have h2 := Gl hk d.toList (t / k) d[t / k] hx (t % k) hr
     rw [show t / k * k + t % k = t by rw [Nat.mul_comm]; exact Nat.div_add_mod t k] at h2
     rw [h2]
     have h3 := get_flatK enc k d t ht
     rw [getElem!_pos _ t (by simpa using ht),getElem!_pos d _ hq,getElem!_pos _ (t % k) (by rw [hk]; exact hr)] at h3
     rw [Array.getElem?_toList,Array.getElem?_eq_getElem (by simpa using ht),h3,List.getElem?_eq_getElem (by rw [hk]; exact hr)]
   · rw [List.getElem?_eq_none (by simpa using ht),List.getElem?_eq_none (by rw [An hk]; simpa using ht)]
theorem Aa6 {W w' : World} (k : Kp W w') : ∃ q os,w' = grow (W.drewN q) os := by
 refine ⟨w'.drawn - W.drawn,w'.heap.extract W.heap.size w'.heap.size,?_⟩
 obtain ⟨k1,k2,k3,k4,k5,k6⟩ := k
 obtain ⟨heap,tape,drawn,os,output⟩ := w'
 obtain ⟨heap0,tape0,Ax,os0,output0⟩ := W
 simp only at k1 k2 k3 k4 k5 k6
 subst k1 k2 k4
 unfold grow World.drewN
 simp only [World.mk.injEq,true_and,and_true]
 refine ⟨?_,by omega⟩
 apply Array.ext_getElem?
 intro i
 rw [Array.getElem?_append]
 split
 · rename_i hi; exact k6 i hi id
 · rename_i hi
   rw [Array.getElem?_extract]
   split
   · congr 1; omega
   · rw [Array.getElem?_eq_none (by omega)]
theorem Nx {w : World} {base size n g cap : Nat} {el : TypeId} {xs : List Value} (h : w.ownsRow base el size (.slice (some ⟨g,0,none⟩) n cap) n xs) (F : Array Value) (hF : F.size = n * size) (m : Nat) (os : Array Obj) :
 Chg (fun j => j = g) w (grow (putRow id (Sort.ahead w m) g 0 F) os) ∧ (grow (putRow id (Sort.ahead w m) g 0 F) os).ownsRow base el size (.slice (some ⟨g,0,none⟩) n cap) n F.toList := by
 rcases h.2 with ⟨h0,_⟩ | ⟨g',cap',cur,h0,h1,h2,h3,h4,h5,h6⟩
 · cases h0
 injection h0 with h0 _ h0'
 injection h0 with h0
 injection h0 with h0
 subst h0 h0'
 have hlt := Am h2
 have hsz : (grow (putRow id (Sort.ahead w m) g 0 F) os).heap = (w.heap.modify g (onCells (putCells id 0 F))) ++ os := rfl
 have hcs : n * size ≤ cap * size := Nat.mul_le_mul_right _ h3
 refine ⟨⟨rfl,rfl,Nat.le_add_right _ _,rfl,?_,fun k hk hn => ?_⟩,by simpa using hF,.inr ⟨g,cap,putCells id 0 F cur,rfl,h1,?_,h3,h4,by simpa [putCells] using h5,?_⟩⟩
 · rw [hsz]; simp
 · rw [hsz,Array.getElem?_append,if_pos (by simpa using hk),Array.getElem?_modify,if_neg (Ne.symm hn)]
 · rw [hsz,Array.getElem?_append,if_pos (by simpa using hlt),Array.getElem?_modify,if_pos rfl,h2]; rfl
 · apply List.ext_getElem?
   intro i
   rw [List.getElem?_take]
   split
   · rename_i hi
     have hi2 : i < cur.size := by rw [h5]; omega
     rw [Array.getElem?_toList,Array.getElem?_toList]
     simp only [putCells,Array.getElem?_mapIdx]
     rw [Array.getElem?_eq_getElem hi2,Array.getElem?_eq_getElem (by omega)]
     simp only [Option.map_some]
     rw [if_pos ⟨Nat.zero_le _,by omega⟩,Nat.sub_zero,getElem!_pos F i (by omega)]
     rfl
   · rename_i hi
     rw [List.getElem?_eq_none (by simp; omega)]
theorem P8 {w : World} {base size n g cap : Nat} {el : TypeId} {xs : List Value} (h : w.ownsRow base el size (.slice (some ⟨g,0,none⟩) n cap) n xs) : Holds id w g 0 xs.toArray := by
 rcases h.2 with ⟨h0,_⟩ | ⟨g',cap',cur,h0,h1,h2,h3,h4,h5,h6⟩
 · cases h0
 injection h0 with h0 _ h0'
 injection h0 with h0
 injection h0 with h0
 subst h0 h0'
 intro j hj
 have hj : j < xs.length := by simpa using hj
 have hjn : j < n * size := by have := h.1; omega
 have hx : cur[j]? = some xs[j] := by
  have : xs[j]? = cur.toList[j]? := by rw [← h6,List.getElem?_take,if_pos hjn]
  rw [List.getElem?_eq_getElem hj,Array.getElem?_toList] at this
  exact this.symm
 refine ⟨?_,?_⟩
 · simp only [World.cell?,h2,Nat.zero_add]
   simp [hx,hj]
 · simp only [World.frozen?,h2,Nat.zero_add]
   simp
theorem U4 {α : Type} [Inhabited α] (enc : α → Value) (w : World) (g : Nat) (d : Array α) : putRow enc w g 0 d = putRow id w g 0 (d.map enc) := by
 unfold putRow
 congr 1
 funext c
 unfold putCells
 apply Array.ext_getElem?
 intro i
 simp only [Array.getElem?_mapIdx]
 cases c[i]? with
 | none => rfl
 | some x =>
  simp only [Option.map_some,Array.size_map]
  congr 1
  by_cases h : 0 ≤ i ∧ i < 0 + d.size
  · rw [if_pos h,if_pos h,Nat.sub_zero,getElem!_pos d i (by omega),getElem!_pos _ i (by simp; omega)]
    simp
  · rw [if_neg h,if_neg h]
end Go.Au
namespace Go.Au
open Go.Proofs.Tryz
open Go Go.RowKit Go.Sort Go.Lib Go.Proofs
abbrev Ia (x : Int) : List Value := [.int .i64 x]
theorem Tr (xs : List Int) : xs.flatMap Ia = xs.map (Value.int .i64) := by induction xs <;> simp_all
theorem Ll : Af prog 81 = true := by kernel_rfl
theorem Ny {w : World} {base : Nat} {v : Value} {xs : List Int} (h : w.ownsRow base 3 1 v xs.length (xs.flatMap Ia)) (hl : xs.length < 4611686018427387904) :
 Calls prog 81 [v].toArray w (Bg fun _ w' => Chg (fun j => some j = v.ownBlock) w w' ∧ w'.ownsRow base 3 1 v xs.length ((xs.mergeSort fun x y => decide (x ≤ y)).flatMap Ia)) := by
 have h' := h
 rcases h'.2 with ⟨rfl,h0⟩ | ⟨g,cap,cur,rfl,-,h2,-⟩
 · have hx : xs = [] := List.eq_nil_of_length_eq_zero h0
   subst hx
   have hc := AnyM.slices_Sort_int_none sortInts none 0 w
   refine Calls.mono hc fun e w' ⟨he,hw⟩ => ?_
   subst he hw
   exact ⟨Chg.refl _ _,by rw [List.mergeSort_nil]; exact h⟩
 · have hH : Holds (Value.int .i64) w g 0 xs.toArray := by
    have := P8 h
    rw [Tr] at this
    intro j hj
    have hj' : j < xs.length := by simpa using hj
    have h3 := this j (by simpa using hj)
    rw [getElem!_pos _ j (by simpa using hj)] at h3
    rw [getElem!_pos _ j hj]
    simpa using h3
   have hc := AnyM.slices_Sort_int sortInts g 0 cap xs w hH (Am h2) hl
   refine Calls.mono hc fun e w' ⟨he,m,os,hw⟩ => ?_
   subst he
   rw [U4] at hw
   have hs := Nx h ((xs.mergeSort fun x y => decide (x ≤ y)).toArray.map (Value.int .i64)) (by simp) m os
   rw [← hw] at hs
   refine ⟨hs.1.mono fun j hj => by subst hj; rfl,?_⟩
   have h4 := hs.2
   rw [Tr]
   simpa using h4
theorem Ti (a b : Edge) : Ci a b < 0 ↔ a.frm < b.frm ∨ a.frm = b.frm ∧ (a.to < b.to ∨ a.to = b.to ∧ (a.must < b.must ∨ a.must = b.must ∧ a.no < b.no)) := by
 have hc : ∀ x y : Int,(Er x y = 0 ↔ x = y) ∧ (Er x y < 0 ↔ x < y) := fun x y => by
  unfold Er
  split
  · constructor <;> constructor <;> intro <;> omega
  · split
    · constructor <;> constructor <;> intro <;> omega
    · constructor <;> constructor <;> intro <;> omega
 obtain ⟨a1,a2⟩ := hc a.frm b.frm
 obtain ⟨b1,b2⟩ := hc a.to b.to
 obtain ⟨c1,c2⟩ := hc a.must b.must
 obtain ⟨d1,d2⟩ := hc a.no b.no
 unfold Ci
 simp only [Dx]
 by_cases h1 : Er a.frm b.frm = 0
 · rw [if_pos h1]
   have h1' := a1.1 h1
   by_cases h2 : Er a.to b.to = 0
   · rw [if_pos h2]
     have h2' := b1.1 h2
     by_cases h3 : Er a.must b.must = 0
     · rw [if_pos h3]
       have h3' := c1.1 h3
       by_cases h4 : Er a.no b.no = 0
       · rw [if_pos h4]
         have h4' := d1.1 h4
         constructor <;> intro h <;> omega
       · rw [if_neg h4,d2]
         constructor <;> intro h <;> omega
     · rw [if_neg h3,c2]
       have : ¬ a.must = b.must := fun h => h3 (c1.2 h)
       constructor <;> intro h <;> omega
   · rw [if_neg h2,b2]
     have : ¬ a.to = b.to := fun h => h2 (b1.2 h)
     constructor <;> intro h <;> omega
 · rw [if_neg h1,a2]
   have : ¬ a.frm = b.frm := fun h => h1 (a1.2 h)
   constructor <;> intro h <;> omega
def Ee (a b : Edge) : Bool := ltOf Ci a b
theorem Fn (a b : Edge) : Ee a b = true ↔ a.frm < b.frm ∨ a.frm = b.frm ∧ (a.to < b.to ∨ a.to = b.to ∧ (a.must < b.must ∨ a.must = b.must ∧ a.no < b.no)) := by
 unfold Ee ltOf
 rw [decide_eq_true_eq]
 exact Ti a b
theorem Vl (a b : Edge) : Ee a b = false ↔ ¬ (a.frm < b.frm ∨ a.frm = b.frm ∧ (a.to < b.to ∨ a.to = b.to ∧ (a.must < b.must ∨ a.must = b.must ∧ a.no < b.no))) := by
 rw [← Fn]; cases Ee a b <;> simp
theorem Aa4 : SWO Ee where
 irrefl x := by rw [Vl]; omega
 trans x y z h1 h2 := by rw [Fn] at *; omega
 ntrans x y z h1 h2 := by rw [Vl] at *; omega
theorem X5 (x y : Edge) (h1 : Ee x y = false) (h2 : Ee y x = false) : x = y := by
 rw [Vl] at h1 h2
 obtain ⟨a,b,c,d⟩ := x
 obtain ⟨a',b',c',d'⟩ := y
 simp only at h1 h2
 simp only [Edge.mk.injEq]
 omega
instance : Inhabited Edge := ⟨⟨0,0,0,0⟩⟩
def Bj (es : List Edge) : List Edge := es.mergeSort fun x y => !Ee y x
theorem G6 : Af prog 35 = true := by kernel_rfl
theorem Vc (blk off size : Nat) (w : World) : CmpLays prog 36 #[] Edge.cells 4 Ci blk off size w := fun m os dk hdk x y => by
 have h := Wr (sortWorldK Edge.cells 4 w blk off m dk os) x y
 refine Calls.mono h fun e w' he => ?_
 cases e with
 | returned v =>
  obtain ⟨rfl,k⟩ := he
  exact ⟨rfl,Aa6 k⟩
 | _ => exact he.elim
theorem Ie {w : World} {base : Nat} {v : Value} {es : List Edge} (h : w.ownsRow base 67 4 v es.length (es.flatMap Edge.cells)) (hl : es.length < 4611686018427387904) :
 Calls prog 35 [v,.func (.func 36) #[] #[]].toArray w (Bg fun _ w' => Chg (fun j => some j = v.ownBlock) w w' ∧ w'.ownsRow base 67 4 v es.length ((Bj es).flatMap Edge.cells)) := by
 have h' := h
 rcases h'.2 with ⟨rfl,h0⟩ | ⟨g,cap,cur,rfl,-,h2,-⟩
 · have hx : es = [] := List.eq_nil_of_length_eq_zero h0
   subst hx
   have hc := AnyF.slices_SortFunc_none sortEdges none 0 (.func (.func 36) #[] #[]) w
   refine Calls.mono hc fun e w' ⟨he,hw⟩ => ?_
   subst he hw
   exact ⟨Chg.refl _ _,by unfold Bj; rw [List.mergeSort_nil]; exact h⟩
 · have hk : ∀ x : Edge,x.cells.length = 4 := fun _ => rfl
   have hf : flatK Edge.cells 4 es.toArray = (es.flatMap Edge.cells).toArray := by
    apply Array.toList_inj.1
    rw [Oq hk]
   have hH : HoldsK Edge.cells 4 w g 0 es.toArray := by
    unfold HoldsK
    rw [hf]
    exact P8 h
   have eg : ∀ args w,(callFunc 36 args).run prog w = .ok (.enter 36 args) w := fun args w => Rj Q0 args w
   have hc := AnyQ.slices_SortFunc_total sortEdges 4 isAgg67 sizeOf67 Edge.cells hk (fun x u hu => by simp [Edge.cells] at hu; rcases hu with rfl | rfl | rfl | rfl <;> rfl) Ci Aa4 36 #[] g 0 cap es.toArray w eg (Vc g 0 _ w) hH (Am h2) (by simpa using hl) X5
   refine Calls.mono hc fun e w' ⟨he,m,os,hw⟩ => ?_
   subst he
   have hs := Nx h (flatK Edge.cells 4 (Bj es).toArray) (by simp [Bj]) m os
   have hw : w' = grow (putRow id (Sort.ahead w m) g 0 (flatK Edge.cells 4 (Bj es).toArray)) os := hw
   rw [← hw] at hs
   refine ⟨hs.1.mono fun j hj => by subst hj; rfl,?_⟩
   have h4 := hs.2
   rw [Oq hk] at h4
   exact h4
end Go.Au
namespace Go.Au
open Go.Proofs.Tryz
open Go Go.RowKit
def Cc (xs : List Edge) : Nat → List Edge
 | 0 => []
 | p + 1 => match xs[p]? with
  | none => Cc xs p
  | some x => if 0 < p ∧ xs[p - 1]? = some x then Cc xs p else Cc xs p ++ [x]
def Br (xs : List Edge) : List Edge := Cc xs xs.length
theorem I7 (xs : List Edge) : ∀ p,(Cc xs p).length ≤ p
 | 0 => Nat.le_refl _
 | p + 1 => by
  have := I7 xs p
  unfold Cc
  split
  · omega
  · split
    · omega
    · rw [List.length_append]; simp; exact this
theorem Qx {xs : List Edge} {p : Nat} {x : Edge} (hx : xs[p]? = some x) (hn : 0 < p → xs[p - 1]? ≠ some x) : Cc xs (p + 1) = Cc xs p ++ [x] := by
 rw [Cc,hx]
 simp only
 rw [if_neg fun h => hn h.1 h.2]
theorem Qw {xs : List Edge} {p : Nat} {x : Edge} (hx : xs[p]? = some x) (h0 : 0 < p) (hn : xs[p - 1]? = some x) : Cc xs (p + 1) = Cc xs p := by
 rw [Cc,hx]
 simp only
 rw [if_pos ⟨h0,hn⟩]
theorem Kf {xs : List Edge} : ∀ {k : Nat},k ≤ xs.length → (∀ j,0 < j → j < k → xs[j]? ≠ xs[j - 1]?) → Cc xs k = xs.take k
 | 0,_,_ => by simp [Cc]
 | k + 1,hk,h => by
  have hx : xs[k]? = some xs[k] := by simp
  rw [Qx hx fun h0 he => h k h0 (by omega) (hx.trans he.symm),Kf (by omega) fun j h1 h2 => h j h1 (by omega),List.take_succ_eq_append_getElem (by omega)]
theorem Mg (a b : Edge) : (#[.int .i64 a.frm,.int .i64 a.to,.int .u16 a.must,.int .u16 a.no] : Array Value) = #[.int .i64 b.frm,.int .i64 b.to,.int .u16 b.must,.int .u16 b.no] ↔ a = b := by
 constructor
 · intro h
   obtain ⟨a1,a2,a3,a4⟩ := a
   obtain ⟨b1,b2,b3,b4⟩ := b
   simp at h
   simp [h]
 · rintro rfl; rfl
theorem H3 : Af prog 37 = true := by kernel_rfl
set_option maxHeartbeats 1000000 in
theorem Ke {w : World} {base : Nat} {v : Value} {xs : List Edge} (h : w.ownsRow base 67 4 v xs.length (xs.flatMap Edge.cells)) (hl : xs.length < 4611686018427387904) :
 Calls prog 37 [v].toArray w (Bg fun r w' => Chg (fun j => some j = v.ownBlock) w w' ∧ w'.ownsRow base 67 4 r (Br xs).length ((Br xs).flatMap Edge.cells) ∧ r.ownBlock = v.ownBlock) := by
 have hk4 : ∀ x : Edge,x.cells.length = 4 := fun _ => rfl
 have hf := Ae h
 obtain ⟨va,vc,rfl⟩ := hf
 have hsame : Unit → (∀ j,0 < j → j < xs.length → xs[j]? ≠ xs[j - 1]?) → Br xs = xs := fun _ hn => by unfold Br; rw [Kf (Nat.le_refl _) hn,List.take_length]
 refine call Aa func37 rfl ntmps37 (by kernel_rfl) ?_
 refine sp (fun hlt => ?_) (fun hge => ?_)
 · have he := hsame () fun j h1 h2 => by omega
   exact ⟨Chg.refl _ _,by rw [he]; exact h,rfl⟩
 · have hge : 2 ≤ xs.length := by omega
   rcases id h.2 with ⟨h0,h1⟩ | ⟨g,cap,cur,h0,hbase,hg,hncap,hcm,hcs,htk⟩
   · omega
   injection h0 with h0 _ h0'
   subst h0 h0'
   obtain ⟨cs,hcsd⟩ : ∃ cs,cs = cur.toList := ⟨_,rfl⟩
   have hO : Own w g 67 cs := by rw [hcsd]; exact hg
   obtain ⟨rest,hrest⟩ : ∃ rest,rest = cs.drop (xs.length * 4) := ⟨_,rfl⟩
   have hsp : cs = xs.flatMap Edge.cells ++ rest := by rw [hrest,← htk,hcsd,List.take_append_drop]
   have hcl : cs.length = vc * 4 := by rw [hcsd]; simpa using hcs
   rw [hsp] at hO
   have hmk : ∀ (W : World) (ys : List Edge) (rest' : List Value) (m : Nat),Own W g 67 (ys.flatMap Edge.cells ++ rest') → (ys.flatMap Edge.cells ++ rest').length = vc * 4 → m ≤ ys.length → m ≤ vc → W.ownsRow base 67 4 (.slice (some ⟨g,0,none⟩) m vc) m ((ys.take m).flatMap Edge.cells) := fun W ys rest' m hW hlen hm hmc => by
    refine ⟨by rw [An hk4,List.length_take]; omega,.inr ⟨g,vc,(ys.flatMap Edge.cells ++ rest').toArray,rfl,hbase,hW,hmc,hcm,by simpa using hlen,?_⟩⟩
    show (ys.flatMap Edge.cells ++ rest').take (m * 4) = _
    rw [← List.take_append_drop m ys,List.flatMap_append,List.append_assoc,List.take_append_drop,List.take_left' (by rw [An hk4,List.length_take]; omega)]
   refine loop Aa (σ := Nat) (fun k => [(0,.slice (some ⟨g,0,none⟩) xs.length vc),(3,.int .i64 k)]) (fun k W => Kp w W ∧ 1 ≤ k ∧ k ≤ xs.length ∧ ∀ j,0 < j → j < k → xs[j]? ≠ xs[j - 1]?) (fun k => xs.length - k) 1
    ⟨rfl,rfl,trivial⟩ ⟨Chg.refl _ _,Nat.le_refl _,by omega,fun j h1 h2 => by omega⟩ ?_
   rintro k e0 W ⟨kW,hk1,hkl,hno⟩
   refine sp (fun hlt => ?_) (fun hge2 => ?_)
   · have hlt : k < xs.length := by omega
     have hxk : xs[k]? = some xs[k] := by simp
     have hxp : xs[k - 1]? = some (xs[k - 1]'(by omega)) := by simp [show k - 1 < xs.length by omega]
     obtain ⟨X,hX⟩ : ∃ X,X = xs[k] := ⟨_,rfl⟩
     obtain ⟨Y,hY⟩ : ∃ Y,Y = xs[k - 1]'(by omega) := ⟨_,rfl⟩
     rw [← hX] at hxk
     rw [← hY] at hxp
     refine Ax Aa mixed 10 (by kernel_rfl) (fun _ => False) ?_
     conv => whnf
     refine ne ⟨by omega,by omega⟩ ?_
     conv => whnf
     refine A7 (v := X.val) Aa rfl rfl (fun V hV _ => by rw [Int.toNat_natCast]; exact Cb hk4 hxk (Own.all ((kW.trans hV).own hO id))) (by rfl) fun _ => ?_
     conv => whnf
     refine C3 (show _ = ((k - 1 : Nat) : Int) by rw [show ((k : Int) - 1) = ((k - 1 : Nat) : Int) by omega]; exact As (by omega) (by omega)) ?_
     conv => whnf
     refine ne ⟨by omega,by omega⟩ ?_
     conv => whnf
     refine A7 (v := Y.val) Aa rfl rfl (fun V hV _ => by rw [Int.toNat_natCast]; exact Cb hk4 hxp (Own.all ((kW.trans hV).own hO id))) (by rfl) fun _ => ?_
     conv => whnf
     refine ne ⟨by kernel_rfl,by kernel_rfl⟩ ?_
     conv => whnf
     by_cases hXY : X = Y
     · refine Dj ((Mg X Y).2 hXY) ?_
       conv => whnf
       intro W1 k1 _
       have kW1 := kW.trans k1
       have hO1 := kW1.own hO id
       refine ne ⟨by omega,by omega,by omega⟩ ?_
       have hcv : vc = k ∨ ¬ vc = k := Classical.em _
       have hcP : Cc xs k = xs.take k := Kf (by omega) hno
       have hcP1 : Cc xs (k + 1) = xs.take k := by rw [Qw hxk (by omega) (by rw [hxp,hXY])]; exact hcP
       have h2s : ∀ p,k + 1 ≤ p → (Cc xs p).length < p := fun p => by
        induction p with
        | zero => intro hp; omega
        | succ p ih =>
         intro hp
         rcases Nat.lt_or_ge k p with h3 | h3
         · have h4 := ih (by omega)
           rw [Cc]
           split
           · omega
           · split
             · omega
             · rw [List.length_append]; simp; omega
         · obtain rfl : p = k := by omega
           rw [hcP1,List.length_take]; omega
       have hnc : ¬ vc = k := by omega
       have hsl : (if vc = k then (some ⟨g,0,none⟩ : Option Addr) else (some ⟨g,0,none⟩ : Option Addr).map (·.add (k * 4))) = some ⟨g,k * 4,none⟩ := by
        rw [if_neg hnc]
        simp only [Option.map_some,Addr.add]
        rw [if_neg (by omega),Nat.zero_add]
       obtain ⟨sl,hsld⟩ : ∃ sl,sl = (if vc = k then (some ⟨g,0,none⟩ : Option Addr) else (some ⟨g,0,none⟩ : Option Addr).map (·.add (k * 4))) := ⟨_,rfl⟩
       rw [← hsld] at hsl
       subst hsl
       refine loop Aa (σ := Nat × Nat × List Edge) (fun t => [(0,.slice (some ⟨g,0,none⟩) xs.length vc),(3,.int .i64 t.2.1),(4,.slice (some ⟨g,k * 4,none⟩) (xs.length - k) (vc - k)),(5,.int .i64 t.1)])
        (fun t W => Chg (fun j => j = g) w W ∧ 1 ≤ t.1 ∧ t.1 ≤ xs.length - k ∧ t.2.1 = (Cc xs (k + t.1)).length ∧ t.2.2.length = xs.length ∧ Own W g 67 (t.2.2.flatMap Edge.cells ++ rest) ∧ t.2.2.take t.2.1 = Cc xs (k + t.1) ∧ ∀ j,k + t.1 - 1 ≤ j → t.2.2[j]? = xs[j]?) (fun t => xs.length - t.1) (1,k,xs)
        ⟨rfl,rfl,?_,rfl,trivial⟩ ⟨kW1.mono fun _ hf => hf.elim,Nat.le_refl _,by simp only; omega,by simp only; rw [hcP1,List.length_take]; omega,rfl,hO1,by simp only; rw [hcP1],fun j hj => rfl⟩ ?_
       · show Value.slice (if vc = k then (some ⟨g,0,none⟩ : Option Addr) else (some ⟨g,0,none⟩ : Option Addr).map (·.add (k * 4))) (xs.length - k) (vc - k) = _
         rw [← hsld]
       rintro ⟨i,q,ys⟩ e1 W2 ⟨c2,hi1,hil,hq,hyl,hOy,htq,hor⟩
       simp only at hi1 hil hq hyl hOy htq hor
       have hql := I7 xs (k + i)
       refine sp (fun hlt2 => ?_) (fun hge3 => ?_)
       · have hlt2 : i < xs.length - k := by simp only at hlt2; omega
         have hki : k + i < xs.length := by omega
         obtain ⟨A,hA⟩ : ∃ A,A = xs[k + i] := ⟨_,rfl⟩
         obtain ⟨B,hB⟩ : ∃ B,B = xs[k + i - 1]'(by omega) := ⟨_,rfl⟩
         have hxA : xs[k + i]? = some A := by rw [hA]; simp
         have hxB : xs[k + i - 1]? = some B := by rw [hB]; simp [show k + i - 1 < xs.length by omega]
         have hyA : ys[k + i]? = some A := (hor _ (by omega)).trans hxA
         have hyB : ys[k + i - 1]? = some B := (hor _ (by omega)).trans hxB
         have rA := Cb hk4 hyA (Own.all hOy)
         have rB := Cb hk4 hyB (Own.all hOy)
         have eA : 0 + (k + i) * 4 = k * 4 + i * 4 := by omega
         have eB : 0 + (k + i - 1) * 4 = k * 4 + (i - 1) * 4 := by omega
         rw [eA] at rA
         rw [eB] at rB
         refine Ax Aa mixed 10 (by kernel_rfl) (fun _ => False) ?_
         conv => whnf
         refine ne ⟨by omega,by omega⟩ ?_
         conv => whnf
         refine A7 (v := A.val) Aa rfl rfl (fun V hV _ => by rw [Int.toNat_natCast]; exact hV.range rA id) (by rfl) fun _ => ?_
         conv => whnf
         refine C3 (show _ = ((i - 1 : Nat) : Int) by rw [show ((i : Int) - 1) = ((i - 1 : Nat) : Int) by omega]; exact As (by omega) (by omega)) ?_
         conv => whnf
         refine ne ⟨by omega,by omega⟩ ?_
         conv => whnf
         refine A7 (v := B.val) Aa rfl rfl (fun V hV _ => by rw [Int.toNat_natCast]; exact hV.range rB id) (by rfl) fun _ => ?_
         conv => whnf
         refine ne ⟨by kernel_rfl,by kernel_rfl⟩ ?_
         conv => whnf
         by_cases hAB : A = B
         · refine Bs (fun hn => hn ((Mg A B).2 hAB)) ?_
           conv => whnf
           intro W3 k3 _
           have hc1 : Cc xs (k + (i + 1)) = Cc xs (k + i) := Qw (p := k + i) hxA (by omega) (by rw [hxB,hAB])
           refine aw (by simp only; omega) (by simp only; omega) ?_
           refine again (i + 1,q,ys) ⟨rfl,rfl,rfl,rfl,trivial⟩ ⟨c2.newT k3 fun _ hf => hf.elim,by simp only; omega,by simp only; omega,by simp only; rw [hc1]; exact hq,hyl,k3.own hOy id,by simp only; rw [hc1]; exact htq,fun j hj => hor j (by simp only at hj; omega)⟩ (by simp only; omega)
         · refine Dj (fun hn => hAB ((Mg A B).1 hn)) ?_
           conv => whnf
           intro W3 k3 _
           have hOy3 := k3.own hOy id
           have hc1 : Cc xs (k + (i + 1)) = Cc xs (k + i) ++ [A] := Qx (p := k + i) hxA fun _ he => hAB (by rw [hxB] at he; injection he with he; exact he.symm)
           have hqx : q < xs.length := by omega
           refine ne ⟨by omega,by omega⟩ ?_
           refine ld Aa (v := A.val) (by rw [Int.toNat_natCast]; exact k3.range rA id) (by rfl) ?_
           refine ne ⟨Int.natCast_nonneg _,Int.ofNat_lt.2 hqx⟩ ?_
           refine st Aa hOy3 rfl ?_ rfl ?_
           · show 0 + ((q : Nat) : Int).toNat * 4 + 4 ≤ _
             rw [List.length_append,An hk4]; omega
           intro W4 z4 c4 m4
           have hly := Cn hk4 rest A ys q (by omega)
           have m4 : Own W4 g 67 (Gk (ys.flatMap Edge.cells ++ rest) (0 + ((q : Nat) : Int).toNat * 4) A.cells) := m4
           rw [show 0 + ((q : Nat) : Int).toNat * 4 = q * 4 by omega,hly] at m4
           refine aw (by simp only; omega) (by simp only; omega) ?_
           refine aw (by simp only; omega) (by simp only; omega) ?_
           refine again (i + 1,q + 1,ys.set q A) ⟨rfl,rfl,rfl,rfl,trivial⟩ ⟨(c2.newT k3 fun _ hf => hf.elim).trans c4,by simp only; omega,by simp only; omega,by simp only; rw [hc1,List.length_append,← hq]; rfl,by simp only; rw [List.length_set]; exact hyl,m4,?_,fun j hj => ?_⟩ (by simp only; omega)
           · show (ys.set q A).take (q + 1) = Cc xs (k + (i + 1))
             have ht9 : (ys.set q A).take (q + 1) = ys.take q ++ [A] := by
              rw [List.take_succ_eq_append_getElem (by rw [List.length_set]; omega),List.getElem_set_self,List.take_set_of_le (Nat.le_refl _)]
             rw [hc1,← htq]
             exact ht9
           · have hj : k + (i + 1) - 1 ≤ j := hj
             have h9 := h2s (k + i) (by omega)
             show (ys.set q A)[j]? = xs[j]?
             rw [List.getElem?_set_ne (show q ≠ j by omega)]
             exact hor j (by omega)
       · have hie : i = xs.length - k := by simp only at hge3; omega
         subst hie
         have hkk : k + (xs.length - k) = xs.length := by omega
         rw [hkk] at hq htq hql
         have hqlt : q < xs.length := by
          rw [hq]
          exact h2s xs.length (by omega)
         refine ne ⟨Int.natCast_nonneg _,Int.ofNat_le.2 (Nat.le_of_lt hqlt),Int.ofNat_le.2 hncap⟩ ?_
         have hncq : ¬ vc = q := by omega
         have hslq : (if vc = q then (some ⟨g,0,none⟩ : Option Addr) else (some ⟨g,0,none⟩ : Option Addr).map (·.add (q * 4))) = some ⟨g,q * 4,none⟩ := by
          rw [if_neg hncq]
          simp only [Option.map_some,Addr.add]
          split
          · rename_i h0; rw [h0]
          · rw [Nat.zero_add]
         obtain ⟨sq,hsqd⟩ : ∃ sq,sq = (if vc = q then (some ⟨g,0,none⟩ : Option Addr) else (some ⟨g,0,none⟩ : Option Addr).map (·.add (q * 4))) := ⟨_,rfl⟩
         rw [← hsqd] at hslq
         subst hslq
         refine Ai9 (b := g) (o := q * 4) (n := xs.length - q) (c := vc - q) Aa rfl ?_ rfl rfl rfl hOy (by omega) ?_ rfl ?_
         · show Value.slice (if vc = q then (some ⟨g,0,none⟩ : Option Addr) else (some ⟨g,0,none⟩ : Option Addr).map (·.add (q * 4))) (xs.length - q) (vc - q) = _
           rw [← hsqd]
         · show q * 4 + (xs.length - q) * 4 ≤ _
           rw [List.length_append,An hk4,hyl]; omega
         intro W3 zs hzl z3 c3 hO3
         have hzl : zs.length = (xs.length - q) * 4 := hzl
         refine ne ⟨by decide,Int.natCast_nonneg _,Int.ofNat_le.2 (Nat.le_trans (Nat.le_of_lt hqlt) hncap)⟩ ?_
         have hlen : (ys.flatMap Edge.cells ++ rest).length = vc * 4 := by
          have : (xs.flatMap Edge.cells ++ rest).length = vc * 4 := by rw [← hsp]; exact hcl
          rw [List.length_append,An hk4] at this ⊢
          omega
         have hsplit : Gk (ys.flatMap Edge.cells ++ rest) (q * 4) zs = (ys.take q).flatMap Edge.cells ++ (zs ++ rest) := by
          have h1 : ys.flatMap Edge.cells ++ rest = (ys.take q).flatMap Edge.cells ++ ((ys.drop q).flatMap Edge.cells ++ rest) := by
           conv => lhs; rw [← List.take_append_drop q ys,List.flatMap_append,List.append_assoc]
          rw [h1]
          have h2 := Ol rest zs ((ys.drop q).flatMap Edge.cells) ((ys.take q).flatMap Edge.cells) (by rw [An hk4,List.length_drop,hyl]; exact hzl)
          rw [An hk4,List.length_take,Nat.min_eq_left (by omega)] at h2
          exact h2
         rw [hsplit] at hO3
         have hcq : Br xs = ys.take q := htq.symm
         have hcql : (Br xs).length = q := hq.symm
         refine ⟨(c2.trans c3).mono fun j hj => by rw [hj]; rfl,?_,rfl⟩
         rw [hcql,hcq]
         have h5 := hmk W3 (ys.take q) (zs ++ rest) q hO3 (by
          rw [← hlen,List.length_append,List.length_append,List.length_append,An hk4,An hk4,List.length_take]; omega) (by rw [List.length_take]; omega) (by omega)
         rw [List.take_take,Nat.min_self] at h5
         exact h5
     · refine Bs (fun hn => hXY ((Mg X Y).1 hn)) ?_
       conv => whnf
       intro W1 k1 _
       refine aw (by omega) (by omega) ?_
       refine again (k + 1) ⟨rfl,rfl,trivial⟩ ⟨kW.trans k1,by omega,by omega,fun j h1 h2 => ?_⟩ (by omega)
       rcases Nat.lt_or_ge j k with h3 | h3
       · exact hno j h1 h3
       · obtain rfl : j = k := by omega
         rw [hxk,hxp]
         exact fun he => hXY (by injection he)
   · have he := hsame () fun j h1 h2 => hno j h1 (by omega)
     exact ⟨kW.mono fun _ hf => hf.elim,by rw [he]; exact Ab h kW fun _ _ => id,rfl⟩
theorem Sb : Af prog 82 = true := by kernel_rfl
theorem Vx {w : World} {lo hi : Nat} {v : Value} {xs : List Int} (h : Ef lo hi w v xs) (hl : xs.length < 4611686018427387904) (hp : xs.Pairwise (· < ·)) :
 Calls prog 82 [v].toArray w (Bg fun r w' => r = v ∧ Kp w w') := by
 obtain ⟨va,vc,rfl,hc,hr⟩ := id h
 refine call Aa func82 rfl ntmps82 (by kernel_rfl) ?_
 refine sp (fun hlt => ?_) (fun hge => ?_)
 · exact ⟨rfl,Chg.refl _ _⟩
 · refine loop Aa (σ := Nat) (fun k => [(0,.slice va xs.length vc),(3,.int .i64 k)]) (fun k W => Kp w W ∧ 1 ≤ k ∧ k ≤ xs.length) (fun k => xs.length - k) 1
    ⟨rfl,rfl,trivial⟩ ⟨Chg.refl _ _,Nat.le_refl _,by omega⟩ ?_
   rintro k e0 W ⟨kW,hk1,hkl⟩
   refine sp (fun hlt => ?_) (fun hge2 => ?_)
   · have hlt : k < xs.length := by omega
     obtain ⟨b,o,rfl,-,-,cs,-,hrd,rfl⟩ := hr k xs[k] (by simp)
     obtain ⟨b',o',e1,-,-,cs',-,hrd',rfl⟩ := hr (k - 1) (xs[k - 1]'(by omega)) (by simp [show k - 1 < xs.length by omega])
     injection e1 with e1
     injection e1 with e1 e2
     subst e1 e2
     have hne := List.pairwise_iff_getElem.1 hp (k - 1) k (by omega) hlt (by omega)
     refine Ax Aa mixed 10 (by kernel_rfl) (fun _ => False) ?_
     conv => whnf
     refine ne ⟨by omega,by omega⟩ ?_
     conv => whnf
     refine A7 (v := .int .i64 xs[k]) Aa rfl rfl (fun V hV _ => by rw [Int.toNat_natCast]; exact (kW.trans hV).range hrd id) (by rfl) fun _ => ?_
     conv => whnf
     refine C3 (show _ = ((k - 1 : Nat) : Int) by rw [show ((k : Int) - 1) = ((k - 1 : Nat) : Int) by omega]; exact As (by omega) (by omega)) ?_
     conv => whnf
     refine ne ⟨by omega,by omega⟩ ?_
     conv => whnf
     refine A7 (v := .int .i64 (xs[k - 1]'(by omega))) Aa rfl rfl (fun V hV _ => by rw [Int.toNat_natCast]; exact (kW.trans hV).range hrd' id) (by rfl) fun _ => ?_
     conv => whnf
     refine Bs (by omega) ?_
     conv => whnf
     intro W1 k1 _
     refine aw (by omega) (by omega) ?_
     exact again (k + 1) ⟨rfl,rfl,trivial⟩ ⟨kW.trans k1,by omega,by omega⟩ (by omega)
   · exact ⟨rfl,kW⟩
abbrev Y4 (x : ByteArray) : List Value := [.string x]
theorem Pb : Af prog 78 = true := by kernel_rfl
theorem Ua {w : World} {lo hi : Nat} {v : Value} {xs : List ByteArray} (h : Ib lo hi w v xs) (hl : xs.length < 1000000000000) :
 Calls prog 78 [v].toArray w (Bg fun r w' => Kp w w' ∧ (∃ a c,r = .slice a xs.length c) ∧ w'.ownsRow w.heap.size 9 1 r xs.length (xs.flatMap Y4)) := by
 obtain ⟨a,c,rfl,hc,hr⟩ := id h
 refine call Aa func78 rfl ntmps78 (by kernel_rfl) ?_
 refine Af0 Aa rfl rfl rfl (by kernel_rfl) ?_
 cases a with
 | none =>
  have : xs = [] := by
   cases xs with
   | nil => rfl
   | cons x r =>
    obtain ⟨b,o,h2,_⟩ := hr 0 x rfl
    cases h2
  subst this
  exact ⟨Chg.refl _ _,⟨none,0,rfl⟩,World.ownsRow_nil _ _ _ _⟩
 | some a =>
  refine ne (by decide) ?_
  refine nd fun b w1 e1 s1 k1 m1 => ?_
  have own0 : w1.ownsRow w.heap.size 9 1 (.slice (some ⟨b,0,none⟩) 0 0) 0 [] := ⟨rfl,.inr ⟨b,0,_,rfl,by omega,m1,by omega,by simp [maxLen],rfl,by simp⟩⟩
  have hrow1 : RowE (fun _ cs (x : ByteArray) => cs = Y4 x) 1 lo hi w1 (.slice (some a) xs.length c) xs := by
   have := (h.chg k1 (fun _ _ _ h => h) (fun _ _ h => h))
   exact this
  refine apV (f := Y4) (size := 1) Aa rfl rfl rfl rfl rfl rfl rfl (by decide) own0 (fun _ => rfl) hrow1 (fun _ => rfl) (by simp only [maxLen]; omega) (by show (_ + xs.length) * 16 ≤ _; omega) (by omega) ?_
  intro v' w2 o2 c2
  have o2 : w2.ownsRow w.heap.size 9 1 v' (0 + xs.length) (xs.flatMap Y4) := o2
  rw [Nat.zero_add] at o2
  have hf := Ae o2
  obtain ⟨a2,c3,rfl⟩ := hf
  refine ⟨k1.newS c2 fun j hj => ?_,⟨a2,c3,rfl⟩,?_⟩
  · have : j = b := by have h2 : some j = some b := hj; injection h2
    omega
  · exact o2
end Go.Au
namespace Go.Au
open Go.Proofs.Tryz
open Go
def Fd (sets : List (List Int)) (p : Ag) : Bool := decide (p.1 ∈ sets.getD p.2.toNat [])
def Be (sets : List (List Int)) (p : Ag) : Int := if sets.length ≠ 0 ∧ Fd sets p = true then (((p.2.toNat + 1) % sets.length : Nat) : Int) else p.2
def B9 (sets : List (List Int)) (p : Ag) : Bool := decide (sets.length = 0 ∨ (p.2 + 1 = sets.length ∧ Fd sets p = true))
def G4 (i : Nat) (d : Int) (st : List Ag × List Edge) (e : Edge) : List Ag × List Edge := (B7 st.1 (e.to,d),st.2 ++ [⟨i,Aw st.1 (e.to,d),e.must,e.no⟩])
def Ba (i : Nat) (d : Int) (st : List Ag × List Edge) (l : List Edge) : List Ag × List Edge := l.foldl (G4 i d) st
abbrev DSt := List Ag × List Edge × List Int
def Gh (sets : List (List Int)) (fr : Int → List Edge) (i : Nat) (st : DSt) : DSt := match st.1[i]? with
 | none => st
 | some p => ((Ba i (Be sets p) (st.1,st.2.1) (fr p.1)).1,(Ba i (Be sets p) (st.1,st.2.1) (fr p.1)).2,st.2.2 ++ if B9 sets p = true then [(i : Int)] else [])
def A5 (sets : List (List Int)) (fr : Int → List Edge) (st0 : DSt) : Nat → DSt
 | 0 => st0
 | i + 1 => Gh sets fr i (A5 sets fr st0 i)
def Ry (t : List Ag × List Int) (s : Int) : List Ag × List Int := (B7 t.1 (s,0),t.2 ++ [(Aw t.1 (s,0) : Int)])
def A9 (l : List Int) : List Ag × List Int := l.foldl Ry ([],[])
def InB (n k : Nat) (p : Ag) : Prop := 0 ≤ p.1 ∧ p.1 < n ∧ 0 ≤ p.2 ∧ p.2 < k
theorem Ky {n k : Nat} {L : List Ag} {p : Ag} (h : ∀ q ∈ L,InB n k q) (hp : InB n k p) : ∀ q ∈ B7 L p,InB n k q := fun q hq => by
 unfold B7 at hq
 split at hq
 · exact h q hq
 · rcases List.mem_append.1 hq with h1 | h1
   · exact h q h1
   · simp at h1; rw [h1]; exact hp
theorem Oj (L : List Ag) (p : Ag) : L.length ≤ (B7 L p).length := by
 unfold B7; split
 · exact Nat.le_refl _
 · simp
theorem Zr (L : List Ag) (p : Ag) : L <+: B7 L p := by
 unfold B7; split
 · exact List.prefix_refl _
 · exact List.prefix_append _ _
theorem A6 {n k : Nat} {L : List Ag} (hn : L.Nodup) (h : ∀ q ∈ L,InB n k q) : L.length ≤ n * k := by
 have h1 := A8 (l := L) (r := (List.range n).flatMap fun a => (List.range k).map fun b => (((a : Nat) : Int),((b : Nat) : Int))) hn fun q hq => by
  obtain ⟨h1,h2,h3,h4⟩ := h q hq
  refine List.mem_flatMap.2 ⟨q.1.toNat,by rw [List.mem_range]; omega,List.mem_map.2 ⟨q.2.toNat,by rw [List.mem_range]; omega,?_⟩⟩
  obtain ⟨a,b⟩ := q
  simp only at h1 h3 ⊢
  rw [Int.toNat_of_nonneg h1,Int.toNat_of_nonneg h3]
 have h2 : ((List.range n).flatMap fun a => (List.range k).map fun b => (((a : Nat) : Int),((b : Nat) : Int))).length = n * k := by
  rw [List.length_flatMap]
  have : ∀ m,((List.range m).map fun (_ : Nat) => k).sum = m * k := fun m => by
   induction m with
   | zero => simp
   | succ m ih => rw [List.range_succ,List.map_append,List.sum_append,ih,Nat.add_mul]; simp
  simpa using this n
 omega
theorem Dy (i : Nat) (d : Int) : ∀ (l : List Edge) (st : List Ag × List Edge),st.1.length ≤ (Ba i d st l).1.length
 | [],_ => Nat.le_refl _
 | e :: l,st => Nat.le_trans (Oj st.1 (e.to,d)) (Dy i d l (G4 i d st e))
theorem Ey (i : Nat) (d : Int) (st : List Ag × List Edge) (l : List Edge) (e : Edge) : Ba i d st (l ++ [e]) = G4 i d (Ba i d st l) e := by
 unfold Ba; rw [List.foldl_append]; rfl
theorem Cm {n k i : Nat} {d : Int} (hd : 0 ≤ d ∧ d < k) : ∀ (l : List Edge) (st : List Ag × List Edge),(∀ e ∈ l,0 ≤ e.to ∧ e.to < n) → st.1.Nodup → (∀ q ∈ st.1,InB n k q) → (Ba i d st l).1.Nodup ∧ (∀ q ∈ (Ba i d st l).1,InB n k q) ∧ (Ba i d st l).2.length = st.2.length + l.length
 | [],st,_,h1,h2 => ⟨h1,h2,rfl⟩
 | e :: l,st,he,h1,h2 => by
  have h3 := he e List.mem_cons_self
  have := Cm (i := i) hd l (G4 i d st e) (fun x hx => he x (List.mem_cons_of_mem _ hx)) (Ca h1) (Ky h2 ⟨h3.1,h3.2,hd.1,hd.2⟩)
  refine ⟨this.1,this.2.1,?_⟩
  have h4 := this.2.2
  show (Ba i d (G4 i d st e) l).2.length = _
  rw [h4]
  simp [G4]; omega
theorem Cq {sets : List (List Int)} {p : Ag} (h : 0 ≤ p.2 ∧ p.2 < (max sets.length 1 : Nat)) : 0 ≤ Be sets p ∧ Be sets p < (max sets.length 1 : Nat) := by
 unfold Be
 split
 · rename_i h1
   have := Nat.mod_lt (p.2.toNat + 1) (show 0 < sets.length by omega)
   omega
 · exact h
structure DOk (n k : Nat) (st : DSt) : Prop where
 nd : st.1.Nodup
 box : ∀ q ∈ st.1,InB n k q
theorem DOk.step {n : Nat} {sets : List (List Int)} {fr : Int → List Edge} (hfr : ∀ s,∀ e ∈ fr s,0 ≤ e.to ∧ e.to < n) {st : DSt} (h : DOk n (max sets.length 1) st) (i : Nat) : DOk n (max sets.length 1) (Gh sets fr i st) := by
 unfold Gh
 split
 · exact h
 · rename_i p hp
   have hb := h.box p (List.mem_of_getElem? hp)
   have hd := Cq (sets := sets) (p := p) ⟨hb.2.2.1,hb.2.2.2⟩
   have := Cm (i := i) hd (fr p.1) (st.1,st.2.1) (hfr p.1) h.nd h.box
   exact ⟨this.1,this.2.1⟩
theorem Fq {n : Nat} {sets : List (List Int)} {fr : Int → List Edge} (hfr : ∀ s,∀ e ∈ fr s,0 ≤ e.to ∧ e.to < n) {st0 : DSt} (h : DOk n (max sets.length 1) st0) : ∀ i,DOk n (max sets.length 1) (A5 sets fr st0 i)
 | 0 => h
 | i + 1 => (Fq hfr h i).step hfr i
theorem P9 (i : Nat) (d : Int) : ∀ (l : List Edge) (st : List Ag × List Edge),(Ba i d st l).2.length = st.2.length + l.length
 | [],_ => rfl
 | e :: l,st => by
  have := P9 i d l (G4 i d st e)
  show (Ba i d (G4 i d st e) l).2.length = _
  rw [this]
  simp [G4]; omega
theorem Ff {sets : List (List Int)} {fr : Int → List Edge} {L0 : List Ag} {m : Nat} (hm : ∀ s,(fr s).length ≤ m) : ∀ i,(A5 sets fr (L0,[],[]) i).2.1.length ≤ i * m ∧ (A5 sets fr (L0,[],[]) i).2.2.length ≤ i
 | 0 => ⟨by simp [A5],by simp [A5]⟩
 | i + 1 => by
  obtain ⟨h1,h2⟩ := Ff hm (L0 := L0) (sets := sets) i
  obtain ⟨D,hD⟩ : ∃ D,D = A5 sets fr (L0,[],[]) i := ⟨_,rfl⟩
  rw [← hD] at h1 h2
  have h3 : A5 sets fr (L0,[],[]) (i + 1) = Gh sets fr i D := by rw [hD]; rfl
  rw [h3,Nat.add_mul,Nat.one_mul]
  unfold Gh
  split
  · exact ⟨by omega,by omega⟩
  · rename_i p hp
    refine ⟨?_,?_⟩
    · show (Ba i (Be sets p) (D.1,D.2.1) (fr p.1)).2.length ≤ _
      rw [P9]
      have := hm p.1
      show D.2.1.length + _ ≤ _
      omega
    · show (D.2.2 ++ _).length ≤ _
      rw [List.length_append]
      split <;> simp <;> omega
theorem E5 {sets : List (List Int)} {fr : Int → List Edge} {st0 : DSt} {i : Nat} (h : (A5 sets fr st0 i).1.length ≤ i) : ∀ j,i ≤ j → A5 sets fr st0 j = A5 sets fr st0 i := by
 intro j hj
 induction j with
 | zero => obtain rfl : i = 0 := by omega
           rfl
 | succ j ih =>
  rcases Nat.lt_or_ge j i with h1 | h1
  · obtain rfl : i = j + 1 := by omega
    rfl
  · show Gh sets fr j (A5 sets fr st0 j) = _
    rw [ih h1]
    unfold Gh
    rw [List.getElem?_eq_none (by omega)]
theorem E4 (l : List Int) (s : Int) : A9 (l ++ [s]) = Ry (A9 l) s := by unfold A9; rw [List.foldl_append]; rfl
theorem Bf {l : List Int} (h : l.Nodup) : A9 l = (l.map fun s => (s,0),(List.range l.length).map fun (i : Nat) => (i : Int)) := by
 have key : ∀ m,m ≤ l.length → A9 (l.take m) = ((l.take m).map fun s => (s,(0 : Int)),(List.range m).map fun (i : Nat) => (i : Int)) := by
  intro m
  induction m with
  | zero => intro _; simp [A9]
  | succ m ih =>
   intro hm
   rw [List.take_succ_eq_append_getElem (by omega),E4,ih (by omega)]
   have hnew : (l[m],(0 : Int)) ∉ (l.take m).map fun s => (s,(0 : Int)) := fun hmem => by
    obtain ⟨s,hs,he⟩ := List.mem_map.1 hmem
    injection he with he _
    subst he
    have hd := h
    rw [← List.take_append_drop m l,List.nodup_append] at hd
    exact hd.2.2 _ hs _ (by rw [List.drop_eq_getElem_cons (by omega)]; exact List.mem_cons_self) rfl
   unfold Ry
   simp only
   rw [Kx hnew,Qg hnew,List.map_append,List.range_succ,List.map_append]
   simp [List.length_take,Nat.min_eq_left (show m ≤ l.length by omega)]
 have := key l.length (Nat.le_refl _)
 rwa [List.take_length] at this
end Go.Au
namespace Go.Au
open Go.Proofs.Tryz
open Go Go.RowKit Go.MapKept
theorem G3 {w : World} {base size n g : Nat} {el : TypeId} {v : Value} {xs : List Value} (h : w.ownsRow base el size v n xs) (hg : v.ownBlock = some g) : ∃ cur,w.heap[g]? = some (.cells cur el (0,0)) := by
 rcases h.2 with ⟨rfl,_⟩ | ⟨g',cap,cur,rfl,_,h2,_⟩
 · cases hg
 · have : g' = g := by simpa [Value.ownBlock] using hg
   subst this
   exact ⟨cur,h2⟩
theorem Aq {w : World} {b1 b2 s1 s2 n1 n2 : Nat} {t1 t2 : TypeId} {v u : Value} {xs ys : List Value} (h : w.ownsRow b1 t1 s1 v n1 xs) (h' : w.ownsRow b2 t2 s2 u n2 ys) (ht : t1 ≠ t2) : ∀ g,v.ownBlock = some g → u.ownBlock ≠ some g := fun g hg hg' => by
 obtain ⟨c1,e1⟩ := G3 h hg
 obtain ⟨c2,e2⟩ := G3 h' hg'
 rw [e1] at e2
 injection e2 with e2
 injection e2 with _ e2
 exact ht e2
theorem El {w w' : World} {base size n : Nat} {el : TypeId} {v : Value} {xs : List Value} (h : w.ownsRow base el size v n xs) (hs : ∀ g,v.ownBlock = some g → w'.heap[g]? = w.heap[g]?) : w'.ownsRow base el size v n xs := by
 refine ⟨h.1,h.2.imp id fun ⟨g,cap,cur,a1,a2,a3,a4⟩ => ⟨g,cap,cur,a1,a2,?_,a4⟩⟩
 rw [hs g (by rw [a1]; rfl)]
 exact a3
theorem Hh {α β : Type} {P : Program} {k : TypeId} {ek : α → Value} {ev : β → Value} {w w' : World} {b : Nat} {xs : List (α × β)} (h : MapE P k ek ev w b xs) (hs : w'.heap[b]? = w.heap[b]?) : MapE P k ek ev w' b xs := by
 obtain ⟨⟨es,clock,h1,h2⟩,h3⟩ := h
 exact ⟨⟨es,clock,hs.trans h1,h2⟩,h3⟩
theorem Ku {w w' : World} {b o : Nat} {cs : List Value} (h : w.rangeAt b o cs) (hs : w'.heap[b]? = w.heap[b]?) : w'.rangeAt b o cs := fun j v hv => (World.cell?_of_block (a := ⟨b,o + j,none⟩) hs).trans (h j v hv)
structure MachV (w : World) (b lo hi : Nat) (pv iv fn sv : Value) (props : List ByteArray) (init : List Int) (sets : List (List Int)) : Prop where
 box : Own w b 79 [pv,iv,fn,sv]
 props : Ib lo hi w pv props
 init : Ef lo hi w iv init
 sets : H6 lo hi w sv sets
theorem MachV.kp {w w' : World} {b lo hi : Nat} {pv iv fn sv : Value} {props : List ByteArray} {init : List Int} {sets : List (List Int)} (h : MachV w b lo hi pv iv fn sv props init sets) (k : Kp w w') : MachV w' b lo hi pv iv fn sv props init sets :=
 ⟨k.own h.box id,h.props.chg k (fun _ _ _ h => h) (fun _ _ h => h),h.init.chg k (fun _ _ _ h => h) (fun _ _ h => h),h.sets.chg k (fun _ _ _ h => h) (fun _ _ ⟨u,hu,hr,hl⟩ => ⟨u,hu,hr.chg k (fun _ _ _ h => h) (fun _ _ h => h),hl⟩)⟩
theorem Lm : Af prog 79 = true := by kernel_rfl
theorem Rz {w : World} {b lo hi : Nat} {pv iv fn sv : Value} {props : List ByteArray} {init : List Int} {sets : List (List Int)} (h : MachV w b lo hi pv iv fn sv props init sets) (hs : ∀ F ∈ sets,F.Pairwise (· ≤ ·)) {c s : Nat} (hc : c < sets.length) :
 Calls prog 79 [.int .i64 c,.int .i64 s,pt b 0].toArray w (Bg fun r w' => r = .bool (Fd sets ((s : Nat),(c : Nat))) ∧ Kp w w') := by
 obtain ⟨sa,sc,rfl,hsc,hr⟩ := h.sets
 have hF : sets[c]? = some sets[c] := by simp
 obtain ⟨q,o,rfl,-,-,cs,-,hrd,u,rfl,hu,hul⟩ := hr c sets[c] hF
 obtain ⟨ua,uc,rfl,-⟩ := id hu
 refine call Aa func79 rfl ntmps79 (by kernel_rfl) ?_
 refine ld Aa (Own.at_ (xs := [.slice (some ⟨q,o,none⟩) sets.length sc]) (o := 3) h.box rfl) (by rfl) ?_
 refine ne ⟨by omega,by omega⟩ ?_
 refine ld (v := .slice ua (sets[c]).length uc) Aa (by rw [Int.toNat_natCast]; exact hrd) (by rfl) ?_
 have hb := Hm hu hul (hs _ (List.getElem_mem hc)) s
 refine cl E6 hb ?_
 rintro _ w1 ⟨⟨k,rfl⟩,k1⟩
 refine ⟨congrArg Value.bool ?_,k1⟩
 have hg : sets.getD c [] = sets[c] := by rw [List.getD_eq_getElem?_getD,hF]; rfl
 exact decide_eq_decide.2 (by show _ ↔ (s : Int) ∈ sets.getD ((c : Int)).toNat []; rw [Int.toNat_natCast,hg])
end Go.Au