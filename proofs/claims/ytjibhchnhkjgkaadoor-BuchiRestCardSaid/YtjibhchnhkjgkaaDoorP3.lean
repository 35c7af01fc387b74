/- Own text of this workplace: a part of the proofs of this place's statements. -/
import Derived.Test.YtjibhchnhkjgkaaDoorP0
import Derived.Test.YtjibhchnhkjgkaaDoorG
import Derived.Test.YtjibhchnhkjgkaaDoorP2
set_option linter.unusedVariables false
set_option linter.unusedSimpArgs false
set_option linter.unusedSectionVars false
namespace Go.Au
open Go Go.RowKit

def int (x : Int) : Value := .int .i64 x
abbrev Ints := RowE (fun _ cs (x : Int) => cs = [.int .i64 x]) 1

def risingFrom (n : Int) : Option Int → List Int → Bool
  | _, [] => true
  | p, x :: r => !(decide (x < 0) || decide (n ≤ x) || (match p with | some y => decide (x ≤ y) | none => false)) && risingFrom n (some x) r

theorem isRow_c {w : World} {lo hi : Nat} {v : Value} {xs : List Int} {n : Int} (h : Ints lo hi w v xs) (hl : xs.length < 4611686018427387904) :
    Calls Proofs.Tryd.prog 39 [v, .int .i64 n].toArray w (Ret fun r w' => r = .bool (risingFrom n none xs) ∧ Kp w w') := by
  obtain ⟨a, cap, rfl, hcap, hx⟩ := h
  refine call agree Proofs.Tryd.func39 rfl Proofs.Tryd.ntmps39 (by kernel_rfl) ?_
  refine loop agree (σ := Nat) (fun i => [(0, .slice a xs.length cap), (1, .int .i64 n), (7, .slice a xs.length cap), (8, .int .i64 xs.length), (9, .int .i64 i)])
    (fun i w' => Kp w w' ∧ i ≤ xs.length ∧ risingFrom n none xs = risingFrom n (if i = 0 then none else xs[i-1]?) (xs.drop i)) (fun i => xs.length - i) 0
    ⟨rfl, rfl, rfl, rfl, rfl, trivial⟩ ⟨Chg.refl _ _, by omega, by simp⟩ ?_
  rintro i e0 w1 ⟨hk, hi, hr⟩
  refine sp (fun h1 => ?_) (fun h1 => ?_)
  · obtain ⟨b, o, rfl, hlo, hhi, cs, hcs, hrd, rfl⟩ := hx i xs[i] (by simp)
    refine ne ⟨by omega, h1⟩ ?_
    refine ld agree (hk.range hrd id) rfl ?_
    have hi' : i < xs.length := by omega
    rw [List.drop_eq_getElem_cons hi'] at hr
    refine sp (fun h2 => ?_) (fun h2 => ?_)
    · exact ⟨congrArg Value.bool (by rw [hr]; simp [risingFrom, h2]), hk⟩
    · refine sp (fun h3 => ?_) (fun h3 => ?_)
      · exact ⟨congrArg Value.bool (by rw [hr]; simp [risingFrom, h3]), hk⟩
      · refine sp (fun h4 => ?_) (fun h4 => ?_)
        · refine aw (by omega) (by omega) ?_
          obtain ⟨b', o', hb', -, -, cs', hcs', hrd', rfl⟩ := hx (i - 1) xs[i-1] (by simp)
          cases hb'
          refine ne ⟨by omega, by omega⟩ ?_
          refine ld agree (o := o + ((i : Int) - 1).toNat * 1) (hk.range (by rw [show ((i : Int) - 1).toNat = i - 1 by omega]; exact hrd') id) rfl ?_
          have h0 : i ≠ 0 := by omega
          rw [if_neg h0, List.getElem?_eq_getElem (by omega)] at hr
          refine sp (fun h5 => ?_) (fun h5 => ?_)
          · exact ⟨congrArg Value.bool (by rw [hr]; simp [risingFrom, h5]), hk⟩
          · refine aw (by omega) (by omega) ?_
            refine again (i + 1) ⟨rfl, rfl, rfl, rfl, rfl, trivial⟩ ⟨hk, by omega, ?_⟩ (by omega)
            rw [hr]; simp [risingFrom, h2, h3, h5, List.getElem?_eq_getElem hi']
        · refine aw (by omega) (by omega) ?_
          refine again (i + 1) ⟨rfl, rfl, rfl, rfl, rfl, trivial⟩ ⟨hk, by omega, ?_⟩ (by omega)
          have h0 : i = 0 := by omega
          subst h0
          rw [hr]; simp [risingFrom, h2, h3, List.getElem?_eq_getElem hi']
  · refine ⟨congrArg Value.bool (by rw [hr, List.drop_eq_nil_of_le (by omega)]; rfl), hk⟩
end Go.Au

namespace Go.Au
open Go Go.RowKit Go.MapKept
open Go.Maps (Keyed)

abbrev Strs := RowE (fun _ cs (x : ByteArray) => cs = [.string x]) 1
def badByte (c : UInt8) : Bool := decide ((c.toNat : Int) < 32) || decide (126 < (c.toNat : Int)) || decide ((c.toNat : Int) = 34) || decide ((c.toNat : Int) = 92)
def nameOk (s : ByteArray) : Bool := decide (1 ≤ s.size) && decide (s.size ≤ 32) && s.data.toList.all fun c => !badByte c
def namesOk (l : List ByteArray) : Bool := decide l.Nodup && l.all nameOk && decide (l.length ≤ 8)

theorem strKeyed : Keyed Proofs.Tryd.prog 9 := Maps.string_keyed Proofs.Tryd.underlying9
theorem strKey {s : ByteArray} (h : s.size ≤ 32) : ∃ lit, keyOf Proofs.Tryd.prog 9 (.string s) = some lit := ⟨_, WideMaps.keyOf_string_mk Proofs.Tryd.underlying9 (by simp only [maxLen]; omega)⟩

theorem alook_ones {l : List ByteArray} {s : ByteArray} (h : s ∈ l) : alook (l.map fun s => (s, (1 : Int))) s = some 1 := by
  induction l with
  | nil => simp at h
  | cons a r ih =>
    simp only [List.map_cons, alook]
    by_cases h' : a = s
    · rw [if_pos h']
    · rw [if_neg h', ih ((List.mem_cons.1 h).resolve_left (Ne.symm h'))]
theorem alook_zeros {l : List ByteArray} {s : ByteArray} (h : s ∉ l) : alook (l.map fun s => (s, (1 : Int))) s = none :=
  alook_none fun p hp he => by
    obtain ⟨x, hx, rfl⟩ := List.mem_map.1 hp
    exact h (he ▸ hx)

theorem isNames_c {w : World} {lo hi : Nat} {v : Value} {l : List ByteArray} (h : Strs lo hi w v l) (hl : l.length < 4611686018427387904) :
    Calls Proofs.Tryd.prog 38 [v].toArray w (Ret fun r w' => r = .bool (namesOk l) ∧ Kp w w') := by
  obtain ⟨a, cap, rfl, hcap, hx⟩ := h
  refine call agree Proofs.Tryd.func38 rfl Proofs.Tryd.ntmps38 (by kernel_rfl) ?_
  refine nd fun m w1 e1 e2 k1 hm => ?_
  refine loop agree (σ := Nat) (fun i => [(0, .slice a l.length cap), (3, .map (some m)), (8, .slice a l.length cap), (9, .int .i64 l.length), (10, .int .i64 i)])
    (fun i w' => Chg (fun b => b = m) w1 w' ∧ i ≤ l.length ∧ (l.take i).Nodup ∧ (l.take i).all nameOk = true ∧ MapE Proofs.Tryd.prog 9 (fun s => .string s) (fun n : Int => .int .i64 n) w' m ((l.take i).map fun s => (s, (1 : Int)))) (fun i => l.length - i) 0
    ⟨rfl, rfl, rfl, rfl, rfl, trivial⟩ ⟨Chg.refl _ _, by omega, by simp, by simp, MapE.made hm fun x y h => by injection h⟩ ?_
  rintro i e0 w2 ⟨hk, hi, hnd, hall, hme⟩
  have hkp : Kp w w2 := ⟨hk.os.trans k1.os, hk.tape.trans k1.tape, hk.output.trans k1.output, Nat.le_trans k1.size hk.size, fun b hb _ => (hk.block b (by have := k1.size; omega) (by omega)).trans (k1.block b hb id)⟩
  refine sp (fun h1 => ?_) (fun h1 => ?_)
  · have hi' : i < l.length := by omega
    obtain ⟨b, o, rfl, -, hhi, cs, hcs, hrd, rfl⟩ := hx i l[i] (by simp)
    have htk : l.take (i + 1) = l.take i ++ [l[i]] := by simp
    refine ne ⟨by omega, h1⟩ ?_
    refine ld agree (hkp.range hrd id) rfl ?_
    have bad : nameOk l[i] = false → namesOk l = false := fun hb => by
      simp only [namesOk, Bool.and_eq_false_iff]
      refine .inl (.inr ?_)
      rw [List.all_eq_false]
      exact ⟨l[i], by simp, by simp [hb]⟩
    refine sp (fun h2 => ?_) (fun h2 => ?_)
    · exact ⟨congrArg Value.bool (bad (by simp only [nameOk]; rw [decide_eq_false (by omega)]; rfl)).symm, hkp⟩
    · refine sp (fun h3 => ?_) (fun h3 => ?_)
      · exact ⟨congrArg Value.bool (bad (by simp only [nameOk]; rw [decide_eq_false (p := l[i].size ≤ 32) (by omega)]; simp)).symm, hkp⟩
      · have hlk := MapE.lookup agree strKeyed (t := 99) rfl rfl rfl hme l[i] (strKey (by omega)) false
        by_cases hin : l[i] ∈ l.take i
        · rw [alook_ones hin] at hlk
          refine lk hlk ?_
          refine spT (by decide) ?_
          refine ⟨congrArg Value.bool ?_, hkp⟩
          simp only [namesOk]
          rw [decide_eq_false]
          · rfl
          · intro hn
            have hn' : (l.take (i + 1)).Nodup := hn.sublist (List.take_sublist _ _)
            rw [htk, List.nodup_append] at hn'
            exact hn'.2.2 _ hin _ (by simp) rfl
        · rw [alook_zeros hin] at hlk
          refine lk hlk ?_
          refine spF (by decide) ?_
          refine lk hlk ?_
          refine ar ?_
          refine mu (MapE.update agree strKeyed (t := 99) rfl rfl hme l[i] 1 (strKey (by omega))) ?_
          rintro w3 ⟨hme3, hs3, hc3⟩
          rw [aput_new (fun p hp he => by
            obtain ⟨s, hs, rfl⟩ := List.mem_map.1 hp
            exact hin (he ▸ hs)), show (l.take i).map (fun s => (s, (1 : Int))) ++ [(l[i], 1)] = (l.take (i + 1)).map fun s => (s, (1 : Int)) by rw [htk, List.map_append]; rfl] at hme3
          have hk3 := hk.trans hc3
          have hkp3 : Kp w w3 := ⟨hc3.os.trans hkp.os, hc3.tape.trans hkp.tape, hc3.output.trans hkp.output, Nat.le_trans hkp.size hc3.size, fun b hb _ => (hc3.block b (by have := hkp.size; omega) (by omega)).trans (hkp.block b hb id)⟩
          refine loop agree (σ := Nat) (fun j => [(0, .slice (some ⟨b, o, none⟩) l.length cap), (3, .map (some m)), (5, .string l[i]), (8, .slice (some ⟨b, o, none⟩) l.length cap), (9, .int .i64 l.length), (10, .int .i64 i), (33, .int .i64 l[i].size), (34, .int .i64 j)])
            (fun j w' => w' = w3 ∧ j ≤ l[i].size ∧ (l[i].data.toList.take j).all (fun c => !badByte c) = true) (fun j => l[i].size - j) 0 ⟨rfl, rfl, rfl, rfl, rfl, rfl, rfl, rfl, trivial⟩ ⟨rfl, by omega, by simp⟩ ?_
          rintro j e1 w4 ⟨rfl, hj, hja⟩
          refine sp (fun h4 => ?_) (fun h4 => ?_)
          · have hj' : j < l[i].size := by omega
            have hjt : l[i].data.toList.take (j + 1) = l[i].data.toList.take j ++ [l[i][j]] := by
              rw [List.take_succ_eq_append_getElem (by simpa using hj')]
              rfl
            have badb : badByte l[i][j] = true → namesOk l = false := fun hb => bad (by
              simp only [nameOk, Bool.and_eq_false_iff]
              refine .inr ?_
              rw [List.all_eq_false]
              exact ⟨l[i][j], by
                have : l[i][j] ∈ l[i].data.toList.take (j + 1) := by rw [hjt]; simp
                exact List.mem_of_mem_take this, by simp [hb]⟩)
            refine ixS agree rfl rfl rfl rfl hj' ?_
            refine sp (fun h5 => ?_) (fun h5 => ?_)
            · exact ⟨congrArg Value.bool (badb (by simp [badByte, h5])).symm, hkp3⟩
            refine ixS agree rfl rfl rfl rfl hj' ?_
            refine sp (fun h6 => ?_) (fun h6 => ?_)
            · exact ⟨congrArg Value.bool (badb (by simp [badByte, h6])).symm, hkp3⟩
            refine ixS agree rfl rfl rfl rfl hj' ?_
            refine sp (fun h7 => ?_) (fun h7 => ?_)
            · exact ⟨congrArg Value.bool (badb (by simp [badByte, h7])).symm, hkp3⟩
            refine ixS agree rfl rfl rfl rfl hj' ?_
            refine sp (fun h8 => ?_) (fun h8 => ?_)
            · exact ⟨congrArg Value.bool (badb (by simp [badByte, h8])).symm, hkp3⟩
            refine aw (by omega) (by omega) ?_
            refine again (j + 1) ⟨rfl, rfl, rfl, rfl, rfl, rfl, rfl, rfl, trivial⟩ ⟨rfl, by omega, ?_⟩ (by omega)
            rw [hjt, List.all_append, hja]
            simp [badByte, h5, h6, h7, h8]
          · refine aw (by omega) (by omega) ?_
            refine again (i + 1) ⟨rfl, rfl, rfl, rfl, rfl, trivial⟩ ⟨hk3, by omega, ?_, ?_, hme3⟩ (by omega)
            · rw [htk, List.nodup_append]
              refine ⟨hnd, by simp, fun x hx y hy he => ?_⟩
              simp at hy
              exact hin (hy ▸ he ▸ hx)
            · rw [htk, List.all_append, hall]
              have : l[i].data.toList.take j = l[i].data.toList := List.take_of_length_le (by
                have : l[i].data.toList.length = l[i].size := Array.length_toList
                omega)
              rw [this] at hja
              simp only [List.all_cons, List.all_nil, Bool.and_true, Bool.true_and, nameOk, hja]
              rw [decide_eq_true (by omega), decide_eq_true (by omega)]
              rfl
  · have : l.take i = l := List.take_of_length_le (by omega)
    rw [this] at hnd hall
    refine sp (fun h2 => ?_) (fun h2 => ?_)
    · exact ⟨congrArg Value.bool (by unfold namesOk; rw [hall, decide_eq_true hnd, decide_eq_true (by omega)]; rfl), hkp⟩
    · exact ⟨congrArg Value.bool (by unfold namesOk; rw [hall, decide_eq_true hnd, decide_eq_false (by omega)]; rfl), hkp⟩
end Go.Au

namespace Go.Au
open Go Go.RowKit Go.MapKept
open Go.Maps (Keyed)

theorem mixed : Proofs.Tryd.prog.follows .mixedOrders = true := by kernel_rfl
def cmp3 (a b : Int) : Int := if a < b then -1 else if b < a then 1 else 0
def firstOf : List Int → Int
  | [] => 0
  | x :: r => if x = 0 then firstOf r else x

theorem isNaNi_c (w : World) (x : Int) : Calls Proofs.Tryd.prog 56 [.int .i64 x].toArray w (Ret fun r w' => r = .bool false ∧ Kp w w') := by
  refine call agree Proofs.Tryd.func56 rfl Proofs.Tryd.ntmps56 (by kernel_rfl) ?_
  exact spF (fun h => h rfl) ⟨rfl, Chg.refl _ _⟩
theorem isNaNu_c (w : World) (x : Int) : Calls Proofs.Tryd.prog 57 [.int .u16 x].toArray w (Ret fun r w' => r = .bool false ∧ Kp w w') := by
  refine call agree Proofs.Tryd.func57 rfl Proofs.Tryd.ntmps57 (by kernel_rfl) ?_
  exact spF (fun h => h rfl) ⟨rfl, Chg.refl _ _⟩
theorem callNaNi : callable Proofs.Tryd.prog 56 = true := by kernel_rfl
theorem callNaNu : callable Proofs.Tryd.prog 57 = true := by kernel_rfl

theorem compi_c (w : World) (a b : Int) : Calls Proofs.Tryd.prog 50 [.int .i64 a, .int .i64 b].toArray w (Ret fun r w' => r = .int .i64 (cmp3 a b) ∧ Kp w w') := by
  refine call agree Proofs.Tryd.func50 rfl Proofs.Tryd.ntmps50 (by kernel_rfl) ?_
  refine cl callNaNi (isNaNi_c w a) ?_
  rintro _ w1 ⟨rfl, k1⟩
  refine cl callNaNi (isNaNi_c w1 b) ?_
  rintro _ w2 ⟨rfl, k2⟩
  refine sp (fun h => ?_) (fun h => ?_)
  · exact ⟨congrArg (Value.int .i64) (by simp [cmp3, h]), k1.trans k2⟩
  · refine sp (fun h2 => ?_) (fun h2 => ?_)
    · exact ⟨congrArg (Value.int .i64) (by simp [cmp3, h, h2]), k1.trans k2⟩
    · exact ⟨congrArg (Value.int .i64) (by simp [cmp3, h, h2]), k1.trans k2⟩
theorem compu_c (w : World) (a b : Int) : Calls Proofs.Tryd.prog 51 [.int .u16 a, .int .u16 b].toArray w (Ret fun r w' => r = .int .i64 (cmp3 a b) ∧ Kp w w') := by
  refine call agree Proofs.Tryd.func51 rfl Proofs.Tryd.ntmps51 (by kernel_rfl) ?_
  refine cl callNaNu (isNaNu_c w a) ?_
  rintro _ w1 ⟨rfl, k1⟩
  refine cl callNaNu (isNaNu_c w1 b) ?_
  rintro _ w2 ⟨rfl, k2⟩
  refine sp (fun h => ?_) (fun h => ?_)
  · exact ⟨congrArg (Value.int .i64) (by simp [cmp3, h]), k1.trans k2⟩
  · refine sp (fun h2 => ?_) (fun h2 => ?_)
    · exact ⟨congrArg (Value.int .i64) (by simp [cmp3, h, h2]), k1.trans k2⟩
    · exact ⟨congrArg (Value.int .i64) (by simp [cmp3, h, h2]), k1.trans k2⟩
theorem callCompi : callable Proofs.Tryd.prog 50 = true := by kernel_rfl
theorem callCompu : callable Proofs.Tryd.prog 51 = true := by kernel_rfl

theorem or_c {w : World} {lo hi : Nat} {v : Value} {xs : List Int} (h : Ints lo hi w v xs) (hl : xs.length < 4611686018427387904) :
    Calls Proofs.Tryd.prog 49 [v].toArray w (Ret fun r w' => r = .int .i64 (firstOf xs) ∧ Kp w w') := by
  obtain ⟨a, cap, rfl, hcap, hx⟩ := h
  refine call agree Proofs.Tryd.func49 rfl Proofs.Tryd.ntmps49 (by kernel_rfl) ?_
  refine loop agree (σ := Nat) (fun i => [(3, .int .i64 0), (6, .slice a xs.length cap), (7, .int .i64 xs.length), (8, .int .i64 i)])
    (fun i w' => Kp w w' ∧ i ≤ xs.length ∧ firstOf xs = firstOf (xs.drop i)) (fun i => xs.length - i) 0
    ⟨rfl, rfl, rfl, rfl, trivial⟩ ⟨Chg.refl _ _, by omega, by simp⟩ ?_
  rintro i e0 w1 ⟨hk, hi, hr⟩
  refine sp (fun h1 => ?_) (fun h1 => ?_)
  · obtain ⟨b, o, rfl, hlo, hhi, cs, hcs, hrd, rfl⟩ := hx i xs[i] (by simp)
    refine ne ⟨by omega, h1⟩ ?_
    refine ld agree (hk.range hrd id) rfl ?_
    have hi' : i < xs.length := by omega
    rw [List.drop_eq_getElem_cons hi'] at hr
    refine sp (fun h2 => ?_) (fun h2 => ?_)
    · exact ⟨congrArg (Value.int .i64) (by rw [hr]; simp [firstOf, h2]), hk⟩
    · refine aw (by omega) (by omega) ?_
      refine again (i + 1) ⟨rfl, rfl, rfl, rfl, trivial⟩ ⟨hk, by omega, ?_⟩ (by omega)
      rw [hr]; simp only [firstOf]; rw [if_pos (by omega)]
  · exact ⟨congrArg (Value.int .i64) (by rw [hr, List.drop_eq_nil_of_le (by omega)]; rfl), hk⟩
theorem callOr : callable Proofs.Tryd.prog 49 = true := by kernel_rfl

structure Edge where
  frm : Int
  to : Int
  must : Int
  no : Int
  deriving DecidableEq
def Edge.cells (e : Edge) : List Value := [.int .i64 e.frm, .int .i64 e.to, .int .u16 e.must, .int .u16 e.no]
def Edge.val (e : Edge) : Value := .agg #[.int .i64 e.frm, .int .i64 e.to, .int .u16 e.must, .int .u16 e.no]
def orderS (a b : Edge) : Int := firstOf [cmp3 a.frm b.frm, cmp3 a.to b.to, cmp3 a.must b.must, cmp3 a.no b.no]

theorem order_c (w : World) (a b : Edge) : Calls Proofs.Tryd.prog 40 [a.val, b.val].toArray w (Ret fun r w' => r = .int .i64 (orderS a b) ∧ Kp w w') := by
  refine call agree Proofs.Tryd.func40 rfl Proofs.Tryd.ntmps40 (by kernel_rfl) ?_
  refine nd fun p w1 e1 s1 k1 m1 => ?_
  refine nd fun q w2 e2 s2 k2 m2 => ?_
  refine drawn0 agree mixed 23 (by kernel_rfl) (fun _ => False) ?_
  have A : ∀ W, Kp w2 W → Own W p 50 a.cells := fun W h => h.heap (k2.heap m1 id) id
  have B : ∀ W, Kp w2 W → Own W q 50 b.cells := fun W h => h.heap m2 id
  conv => whnf
  refine ldk agree rfl rfl (fun W h _ => Own.at_ (xs := [.int .i64 a.frm]) (A W h) rfl) (by rfl) fun _ => ?_
  conv => whnf
  refine ldk agree rfl rfl (fun W h _ => Own.at_ (xs := [.int .i64 b.frm]) (B W h) rfl) (by rfl) fun _ => ?_
  conv => whnf
  refine callk rfl rfl rfl callCompi (fun W _ _ => compi_c W a.frm b.frm) fun _ => ?_
  conv => whnf
  refine ldk agree rfl rfl (fun W h _ => Own.at_ (xs := [.int .i64 a.to]) (A W h) rfl) (by rfl) fun _ => ?_
  conv => whnf
  refine ldk agree rfl rfl (fun W h _ => Own.at_ (xs := [.int .i64 b.to]) (B W h) rfl) (by rfl) fun _ => ?_
  conv => whnf
  refine callk rfl rfl rfl callCompi (fun W _ _ => compi_c W a.to b.to) fun _ => ?_
  conv => whnf
  refine ldk agree rfl rfl (fun W h _ => Own.at_ (xs := [.int .u16 a.must]) (A W h) rfl) (by rfl) fun _ => ?_
  conv => whnf
  refine ldk agree rfl rfl (fun W h _ => Own.at_ (xs := [.int .u16 b.must]) (B W h) rfl) (by rfl) fun _ => ?_
  conv => whnf
  refine callk rfl rfl rfl callCompu (fun W _ _ => compu_c W a.must b.must) fun _ => ?_
  conv => whnf
  refine ldk agree rfl rfl (fun W h _ => Own.at_ (xs := [.int .u16 a.no]) (A W h) rfl) (by rfl) fun _ => ?_
  conv => whnf
  refine ldk agree rfl rfl (fun W h _ => Own.at_ (xs := [.int .u16 b.no]) (B W h) rfl) (by rfl) fun _ => ?_
  conv => whnf
  refine callk rfl rfl rfl callCompu (fun W _ _ => compu_c W a.no b.no) fun _ => ?_
  conv => whnf
  refine bsk rfl rfl rfl rfl (by rfl) (by decide) fun q' D hD => ?_
  conv => whnf
  refine callk rfl rfl rfl callOr (fun W h1 h2 => or_c (xs := [cmp3 a.frm b.frm, cmp3 a.to b.to, cmp3 a.must b.must, cmp3 a.no b.no]) (lo := q') (hi := q' + 1) (row1 (hD W (h2 20 (by kernel_rfl))).1 rfl rfl (by decide) (by omega) (by omega)) (by simp)) fun D2 => ?_
  conv => whnf
  exact fun W h _ => ⟨rfl, k1.trans (k2.trans h)⟩
theorem callOrder : callable Proofs.Tryd.prog 40 = true := by kernel_rfl
end Go.Au

namespace Go.Au
open Go Go.RowKit Go.MapKept
open Go.Maps (Keyed)

def goesS (e : Edge) (l : Int) : Bool := decide (bits .and .u16 l e.must = e.must) && decide (bits .and .u16 l e.no = 0)
theorem goes_c (w : World) (a : Edge) (l : Int) : Calls Proofs.Tryd.prog 31 [a.val, .int .u16 l].toArray w (Ret fun r w' => r = .bool (goesS a l) ∧ Kp w w') := by
  refine call agree Proofs.Tryd.func31 rfl Proofs.Tryd.ntmps31 (by kernel_rfl) ?_
  refine nd fun p w1 e1 s1 k1 m1 => ?_
  have m1 : Own w1 p 50 a.cells := m1
  refine ld agree (Own.at_ (xs := [.int .u16 a.must]) m1 rfl) (by rfl) ?_
  refine ar ?_
  refine ld agree (Own.at_ (xs := [.int .u16 a.must]) m1 rfl) (by rfl) ?_
  refine sp (fun h => ?_) (fun h => ?_)
  · refine ld agree (Own.at_ (xs := [.int .u16 a.no]) m1 rfl) (by rfl) ?_
    refine ar ?_
    refine sp (fun h2 => ?_) (fun h2 => ?_)
    · exact ⟨congrArg Value.bool (by simp [goesS, h, h2]), k1⟩
    · exact ⟨congrArg Value.bool (by simp [goesS, h, h2]), k1⟩
  · exact ⟨congrArg Value.bool (by simp [goesS, h]), k1⟩
theorem callGoes : callable Proofs.Tryd.prog 31 = true := by kernel_rfl

def Edge.wf (e : Edge) : Prop := 0 ≤ e.must ∧ e.must < 65536 ∧ 0 ≤ e.no ∧ e.no < 65536
abbrev Edges := RowE (fun _ cs (x : Edge) => cs = x.cells ∧ x.wf) 4
abbrev IntRows (lo hi : Nat) := RowE (fun w cs (xs : List Int) => ∃ u, cs = [u] ∧ Ints lo hi w u xs ∧ xs.length < 4611686018427387904) 1 lo hi

structure General where
  props : List ByteArray
  states : Int
  init : List Int
  edges : List Edge
  sets : List (List Int)
structure Buchi where
  props : List ByteArray
  states : Int
  init : List Int
  edges : List Edge
  final : List Int

structure GenV (lo hi : Nat) (w : World) (p i e s : Value) (g : General) : Prop where
  props : Strs lo hi w p g.props
  init : Ints lo hi w i g.init
  edges : Edges lo hi w e g.edges
  sets : IntRows lo hi w s g.sets
  lp : g.props.length < 4611686018427387904
  li : g.init.length < 4611686018427387904
  le : g.edges.length < 4611686018427387904
  ls : g.sets.length < 4611686018427387904

def edgesGo (n : Int) (letters : Int) : Option Edge → List Edge → Bool
  | _, [] => true
  | p, x :: r => risingFrom n none [x.frm] && (risingFrom n none [x.to] && (!decide (letters ≤ x.must) && (!decide (letters ≤ x.no) && (!decide (bits .and .u16 x.must x.no ≠ 0) && (!(match p with | some y => decide (0 ≤ orderS y x) | none => false) && edgesGo n letters (some x) r)))))

def checkS (g : General) : Bool := namesOk g.props && !decide (g.states < 0) && !decide (65536 < g.states) && risingFrom g.states none g.init && edgesGo g.states (2 ^ g.props.length) none g.edges && g.sets.all (risingFrom g.states none)
def errS (b : Bool) : Int := if b then 0 else 100

theorem callNames : callable Proofs.Tryd.prog 38 = true := by kernel_rfl
theorem callIsRow : callable Proofs.Tryd.prog 39 = true := by kernel_rfl

set_option maxHeartbeats 4000000 in
theorem check_c {w : World} {lo hi : Nat} {pv iv ev sv : Value} {g : General} (hv : GenV lo hi w pv iv ev sv g) :
    Calls Proofs.Tryd.prog 25 [.agg #[pv, .int .i64 g.states, iv, ev, sv]].toArray w (Ret fun r w' => r = .int .i64 (errS (checkS g)) ∧ Kp w w') := by
  refine call agree Proofs.Tryd.func25 rfl Proofs.Tryd.ntmps25 (by kernel_rfl) ?_
  refine nd fun p w1 e1 s1 k1 m1 => ?_
  have m1 : Own w1 p 33 [pv, .int .i64 g.states, iv, ev, sv] := m1
  have ret0 : ∀ W, Kp w1 W → checkS g = false → (Value.int .i64 100 = .int .i64 (errS (checkS g)) ∧ Kp w W) := fun W h hf => ⟨by rw [hf]; rfl, k1.trans h⟩
  have rowc : ∀ W u xs, Kp w1 W → Ints lo hi w u xs → xs.length < 4611686018427387904 → ∀ b, risingFrom g.states none xs = b → Calls Proofs.Tryd.prog 39 [u, .int .i64 g.states].toArray W (Ret fun r w' => r = .bool b ∧ Kp W w') := fun W u xs h hu hl b hb => by
    subst hb
    exact isRow_c (hu.chg (k1.trans h) (fun _ _ _ h => h) (fun _ _ h => h)) hl
  refine ld agree (Own.at_ (xs := [pv]) m1 rfl) (by rfl) ?_
  cases hnm : namesOk g.props with
  | false =>
    refine cl (R := fun r w' => r = .bool false ∧ Kp w1 w') callNames (by have := isNames_c (hv.props.chg k1 (fun _ _ _ h => h) (fun _ _ h => h)) hv.lp; rw [hnm] at this; exact this) ?_
    rintro _ w2 ⟨rfl, k2⟩
    exact ret0 _ k2 (by simp [checkS, hnm])
  | true =>
  refine cl (R := fun r w' => r = .bool true ∧ Kp w1 w') callNames (by have := isNames_c (hv.props.chg k1 (fun _ _ _ h => h) (fun _ _ h => h)) hv.lp; rw [hnm] at this; exact this) ?_
  rintro _ w2 ⟨rfl, k2⟩
  have hlp : g.props.length ≤ 8 := by
    unfold namesOk at hnm
    rw [Bool.and_eq_true] at hnm
    exact of_decide_eq_true hnm.2
  refine ld agree (Own.at_ (xs := [.int .i64 g.states]) (k2.own m1 id) rfl) (by rfl) ?_
  refine sp (fun h1 => ?_) (fun h1 => ?_)
  · exact ret0 _ k2 (by simp [checkS, h1])
  refine ld agree (Own.at_ (xs := [.int .i64 g.states]) (k2.own m1 id) rfl) (by rfl) ?_
  refine sp (fun h2 => ?_) (fun h2 => ?_)
  · exact ret0 _ k2 (by simp [checkS, h2])
  refine ld agree (Own.at_ (xs := [iv]) (k2.own m1 id) rfl) (by rfl) ?_
  refine ld agree (Own.at_ (xs := [.int .i64 g.states]) (k2.own m1 id) rfl) (by rfl) ?_
  cases hin : risingFrom g.states none g.init with
  | false =>
    refine cl callIsRow (rowc w2 iv g.init k2 hv.init hv.li _ hin) ?_
    rintro _ w3 ⟨rfl, k3⟩
    exact ret0 _ (k2.trans k3) (by simp [checkS, hin])
  | true =>
  refine cl callIsRow (rowc w2 iv g.init k2 hv.init hv.li _ hin) ?_
  rintro _ w3 ⟨rfl, k3⟩
  replace k3 := k2.trans k3
  obtain ⟨pa, pc, rfl, hpc, hprops⟩ := hv.props
  refine ld agree (Own.at_ (xs := [.slice pa g.props.length pc]) (k3.own m1 id) rfl) (by rfl) ?_
  refine ne (by omega) ?_
  have hp2 : (1 : Int) * 2 ^ (min ((g.props.length : Int)).toNat (IntKind.bits .i64)) = 2 ^ g.props.length := by
    rw [Int.toNat_natCast, Nat.min_eq_left (by simp only [IntKind.bits]; omega), Int.one_mul]
  have hb2 : (2 : Int) ^ g.props.length ≤ 256 := by
    have h : (2 : Nat) ^ g.props.length ≤ 2 ^ 8 := Nat.pow_le_pow_right (by decide) hlp
    have := Int.ofNat_le.2 h
    rw [Int.natCast_pow] at this
    exact this
  have hb1 : (1 : Int) ≤ 2 ^ g.props.length := by
    have h : 1 ≤ (2 : Nat) ^ g.props.length := Nat.one_le_two_pow
    have := Int.ofNat_le.2 h
    rw [Int.natCast_pow] at this
    exact this
  refine aw (by rw [hp2]; omega) (by rw [hp2]; omega) ?_
  generalize hL : (1 : Int) * 2 ^ (min ((g.props.length : Int)).toNat (IntKind.bits .i64)) = L
  rw [hp2] at hL
  have hck : checkS g = (edgesGo g.states L none g.edges && g.sets.all (risingFrom g.states none)) := by
    simp [checkS, hnm, h1, h2, hin, hL]
  clear hL
  have hle := hv.le
  have hls := hv.ls
  obtain ⟨ea, ec, rfl, hec, hedges⟩ := hv.edges
  obtain ⟨sa, sc, rfl, hsc, hsets⟩ := hv.sets
  refine ld agree (Own.at_ (xs := [.slice ea g.edges.length ec]) (k3.own m1 id) rfl) (by rfl) ?_
  refine loop agree (σ := Nat) (fun i => [(1, pt p 0), (3, .int .i64 L), (35, .slice ea g.edges.length ec), (36, .int .i64 g.edges.length), (37, .int .i64 i)])
    (fun i w' => Kp w1 w' ∧ i ≤ g.edges.length ∧ edgesGo g.states L none g.edges = edgesGo g.states L (if i = 0 then none else g.edges[i-1]?) (g.edges.drop i)) (fun i => g.edges.length - i) 0
    ⟨rfl, rfl, rfl, rfl, rfl, trivial⟩ ⟨k3, by omega, by simp⟩ ?_
  rintro i e0 w4 ⟨k4, hi, hr⟩
  refine sp (fun h3 => ?_) (fun h3 => ?_)
  · have hi' : i < g.edges.length := by omega
    rw [List.drop_eq_getElem_cons hi'] at hr
    obtain ⟨b, o, rfl, hlo, hhi, cs, hcs, hrd, rfl, hwf⟩ := hedges i g.edges[i] (by simp)
    refine ne ⟨by omega, h3⟩ ?_
    refine ld agree (v := g.edges[i].val) ((k1.trans k4).range hrd id) rfl ?_
    refine nd fun q w5 e5 s5 k5 m5 => ?_
    refine st agree (cs := [.int .i64 0, .int .i64 0, .int .u16 0, .int .u16 0]) m5 rfl (Nat.le_refl 4) rfl ?_
    intro w6 s6 k6 m6
    have m6 : Own w6 q 50 g.edges[i].cells := m6
    have k46 : Kp w4 w6 := k5.new e5 k6
    have A : ∀ W, Kp w6 W → Own W q 50 g.edges[i].cells := fun W h => h.heap m6 id
    have B : ∀ W, Kp w6 W → Own W p 33 [.slice pa g.props.length pc, .int .i64 g.states, iv, .slice (some ⟨b, o, none⟩) g.edges.length ec, .slice sa g.sets.length sc] := fun W h => h.heap (k46.heap (k4.heap m1 id) id) id
    have bad : ∀ W, Kp w6 W → edgesGo g.states L none g.edges = false → (Value.int .i64 100 = .int .i64 (errS (checkS g)) ∧ Kp w W) := fun W h hf => ret0 W (k4.trans (k46.trans h)) (by rw [hck, hf]; rfl)
    refine drawn0 agree mixed 53 (by kernel_rfl) (fun _ => False) ?_
    conv => whnf
    refine ldk agree rfl rfl (fun W h _ => Own.at_ (xs := [.int .i64 g.edges[i].frm]) (A W h) rfl) (by rfl) fun _ => ?_
    conv => whnf
    refine bsk rfl rfl rfl rfl (by rfl) (by decide) fun q1 D1 hD1 => ?_
    conv => whnf
    refine ldk agree rfl rfl (fun W h _ => Own.at_ (xs := [.int .i64 g.states]) (B W h) rfl) (by rfl) fun _ => ?_
    conv => whnf
    cases hb1 : risingFrom g.states none [g.edges[i].frm] with
    | false =>
      refine callk (v := .bool false) rfl rfl rfl callIsRow (fun W h1 h2 => by
        have := isRow_c (n := g.states) (xs := [g.edges[i].frm]) (lo := q1) (hi := q1 + 1) (row1 (hD1 W (h2 2 (by kernel_rfl))).1 rfl rfl (Nat.le_refl 1) (Nat.le_refl _) (by omega)) (by simp)
        rw [hb1] at this
        exact this) fun _ => ?_
      conv => whnf
      intro W h _
      exact bad W h (by rw [hr]; simp [edgesGo, hb1])
    | true =>
      refine callk (v := .bool true) rfl rfl rfl callIsRow (fun W h1 h2 => by
        have := isRow_c (n := g.states) (xs := [g.edges[i].frm]) (lo := q1) (hi := q1 + 1) (row1 (hD1 W (h2 2 (by kernel_rfl))).1 rfl rfl (Nat.le_refl 1) (Nat.le_refl _) (by omega)) (by simp)
        rw [hb1] at this
        exact this) fun _ => ?_
      conv => whnf
      refine ldk agree rfl rfl (fun W h _ => Own.at_ (xs := [.int .i64 g.edges[i].to]) (A W h) rfl) (by rfl) fun _ => ?_
      conv => whnf
      refine bsk rfl rfl rfl rfl (by rfl) (by decide) fun q2 D2 hD2 => ?_
      conv => whnf
      refine ldk agree rfl rfl (fun W h _ => Own.at_ (xs := [.int .i64 g.states]) (B W h) rfl) (by rfl) fun _ => ?_
      conv => whnf
      cases hb2 : risingFrom g.states none [g.edges[i].to] with
      | false =>
        refine callk (v := .bool false) rfl rfl rfl callIsRow (fun W h1 h2 => by
          have := isRow_c (n := g.states) (xs := [g.edges[i].to]) (lo := q2) (hi := q2 + 1) (row1 (hD2 W (h2 10 (by kernel_rfl))).1 rfl rfl (Nat.le_refl 1) (Nat.le_refl _) (by omega)) (by simp)
          rw [hb2] at this
          exact this) fun _ => ?_
        conv => whnf
        intro W h _
        exact bad W h (by rw [hr]; simp [edgesGo, hb2])
      | true =>
        refine callk (v := .bool true) rfl rfl rfl callIsRow (fun W h1 h2 => by
          have := isRow_c (n := g.states) (xs := [g.edges[i].to]) (lo := q2) (hi := q2 + 1) (row1 (hD2 W (h2 10 (by kernel_rfl))).1 rfl rfl (Nat.le_refl 1) (Nat.le_refl _) (by omega)) (by simp)
          rw [hb2] at this
          exact this) fun _ => ?_
        conv => whnf
        refine ldk agree rfl rfl (fun W h _ => Own.at_ (xs := [.int .u16 g.edges[i].must]) (A W h) rfl) (by rfl) fun _ => ?_
        conv => whnf
        refine aw (by have := hwf.1; omega) (by have := hwf.2.1; omega) ?_
        conv => whnf
        refine sp (fun h5 => ?_) (fun h5 => ?_)
        · conv => whnf
          intro W h _
          exact bad W h (by rw [hr]; simp [edgesGo, h5])
        conv => whnf
        refine ldk agree rfl rfl (fun W h _ => Own.at_ (xs := [.int .u16 g.edges[i].no]) (A W h) rfl) (by rfl) fun _ => ?_
        conv => whnf
        refine aw (by have := hwf.2.2.1; omega) (by have := hwf.2.2.2; omega) ?_
        conv => whnf
        refine sp (fun h6 => ?_) (fun h6 => ?_)
        · conv => whnf
          intro W h _
          exact bad W h (by rw [hr]; simp [edgesGo, h6])
        conv => whnf
        refine ldk agree rfl rfl (fun W h _ => Own.at_ (xs := [.int .u16 g.edges[i].must]) (A W h) rfl) (by rfl) fun _ => ?_
        conv => whnf
        refine ldk agree rfl rfl (fun W h _ => Own.at_ (xs := [.int .u16 g.edges[i].no]) (A W h) rfl) (by rfl) fun _ => ?_
        conv => whnf
        refine ar ?_
        conv => whnf
        refine sp (fun h7 => ?_) (fun h7 => ?_)
        · conv => whnf
          intro W h _
          exact bad W h (by rw [hr]; simp [edgesGo, h7])
        conv => whnf
        have step : ∀ W, Kp w6 W → (match (if i = 0 then none else g.edges[i-1]?) with | some y => decide (0 ≤ orderS y g.edges[i]) | none => false) = false → ∀ e',
            Has e' [(1, pt p 0), (3, .int .i64 L), (35, .slice (some ⟨b, o, none⟩) g.edges.length ec), (36, .int .i64 g.edges.length), (37, .int .i64 (i + 1 : Nat))] → e' mark = undef →
            Again (σ := Nat) (fun i => [(1, pt p 0), (3, .int .i64 L), (35, .slice (some ⟨b, o, none⟩) g.edges.length ec), (36, .int .i64 g.edges.length), (37, .int .i64 i)])
              (fun i w' => Kp w1 w' ∧ i ≤ g.edges.length ∧ edgesGo g.states L none g.edges = edgesGo g.states L (if i = 0 then none else g.edges[i-1]?) (g.edges.drop i)) (fun i => g.edges.length - i) i e' W := fun W h hlast e' he hmk =>
          again (hm := hmk) (i + 1) he ⟨k4.trans (k46.trans h), by omega, by
            rw [hr]
            simp only [edgesGo, hb1, hb2, hlast, Bool.true_and, Bool.not_false]
            rw [decide_eq_false h5, decide_eq_false h6, decide_eq_false h7]
            simp [List.getElem?_eq_getElem hi']⟩ (by omega)
        refine sp (fun h8 => ?_) (fun h8 => ?_)
        · conv => whnf
          refine ldk agree rfl rfl (fun W h _ => Own.at_ (xs := [.slice (some ⟨b, o, none⟩) g.edges.length ec]) (B W h) rfl) (by rfl) fun _ => ?_
          conv => whnf
          refine aw (by omega) (by omega) ?_
          conv => whnf
          refine ne ⟨by omega, by omega⟩ ?_
          conv => whnf
          obtain ⟨b', o', hb', -, -, cs', hcs', hrd', rfl, hwf'⟩ := hedges (i - 1) g.edges[i-1] (by simp)
          cases hb'
          refine ldk agree (v := g.edges[i-1].val) rfl rfl (fun W h _ => (k1.trans (k4.trans (k46.trans h))).range (by have := hrd'; rw [show (i - 1) * 4 = ((i : Int) - 1).toNat * ti50.size by show _ = ((i : Int) - 1).toNat * 4; omega] at this; exact this) id) (by rfl) fun _ => ?_
          conv => whnf
          refine ldk agree (v := g.edges[i].val) rfl rfl (fun W h _ => Own.at_ (xs := g.edges[i].cells) (A W h) rfl) (by rfl) fun _ => ?_
          conv => whnf
          refine callk (v := .int .i64 (orderS g.edges[i-1] g.edges[i])) rfl rfl rfl callOrder (fun W _ _ => by
            have := order_c W g.edges[i-1] g.edges[i]
            exact this) fun _ => ?_
          conv => whnf
          have h0 : i ≠ 0 := by omega
          refine sp (fun h9 => ?_) (fun h9 => ?_)
          · conv => whnf
            intro W h _
            exact bad W h (by rw [hr, if_neg h0, List.getElem?_eq_getElem (by omega)]; simp [edgesGo, h9])
          · conv => whnf
            intro W h _
            refine aw (by omega) (by omega) ?_
            exact step W h (by rw [if_neg h0, List.getElem?_eq_getElem (by omega)]; simpa using h9) _ ⟨rfl, rfl, rfl, rfl, rfl, trivial⟩ rfl
        · conv => whnf
          intro W h _
          refine aw (by omega) (by omega) ?_
          exact step W h (by rw [if_pos (by omega)]) _ ⟨rfl, rfl, rfl, rfl, rfl, trivial⟩ rfl
  · rw [List.drop_eq_nil_of_le (by omega)] at hr
    have hr : edgesGo g.states L none g.edges = true := hr
    refine ld agree (Own.at_ (xs := [.slice sa g.sets.length sc]) (k4.own m1 id) rfl) (by rfl) ?_
    refine loop agree (σ := Nat) (fun i => [(1, pt p 0), (97, .slice sa g.sets.length sc), (98, .int .i64 g.sets.length), (99, .int .i64 i)])
      (fun i w' => Kp w1 w' ∧ i ≤ g.sets.length ∧ (g.sets.take i).all (risingFrom g.states none) = true) (fun i => g.sets.length - i) 0
      ⟨rfl, rfl, rfl, rfl, trivial⟩ ⟨k4, by omega, by simp⟩ ?_
    rintro j e0 w5 ⟨k5, hj, hall⟩
    refine sp (fun h4 => ?_) (fun h4 => ?_)
    · have hj' : j < g.sets.length := by omega
      obtain ⟨b, o, rfl, hlo, hhi, cs, hcs, hrd, u, rfl, hu, hul⟩ := hsets j g.sets[j] (by simp)
      refine ne ⟨by omega, h4⟩ ?_
      refine ld agree ((k1.trans k5).range hrd id) (by rfl) ?_
      refine ld agree (Own.at_ (xs := [.int .i64 g.states]) (k5.own m1 id) rfl) (by rfl) ?_
      cases hb : risingFrom g.states none g.sets[j] with
      | false =>
        refine cl callIsRow (rowc w5 u g.sets[j] k5 hu hul _ hb) ?_
        rintro _ w6 ⟨rfl, k6⟩
        refine ret0 _ (k5.trans k6) ?_
        rw [hck, hr, Bool.true_and, List.all_eq_false]
        exact ⟨g.sets[j], by simp, by simp [hb]⟩
      | true =>
        refine cl callIsRow (rowc w5 u g.sets[j] k5 hu hul _ hb) ?_
        rintro _ w6 ⟨rfl, k6⟩
        refine aw (by omega) (by omega) ?_
        refine again (j + 1) ⟨rfl, rfl, rfl, rfl, trivial⟩ ⟨k5.trans k6, by omega, ?_⟩ (by omega)
        rw [show g.sets.take (j + 1) = g.sets.take j ++ [g.sets[j]] by simp, List.all_append, hall]
        simp [hb]
    · have ht : g.sets.take j = g.sets := List.take_of_length_le (by omega)
      rw [ht] at hall
      exact ⟨by rw [hck, hr, hall]; rfl, k1.trans k5⟩
theorem callCheckG : callable Proofs.Tryd.prog 25 = true := by kernel_rfl
end Go.Au

namespace Go.Au
open Go Go.RowKit Go.MapKept
open Go.Maps (Keyed)

structure BuchiV (lo hi : Nat) (w : World) (p i e f : Value) (g : Buchi) : Prop where
  props : Strs lo hi w p g.props
  init : Ints lo hi w i g.init
  edges : Edges lo hi w e g.edges
  final : Ints lo hi w f g.final
  lp : g.props.length < 4611686018427387904
  li : g.init.length < 4611686018427387904
  le : g.edges.length < 4611686018427387904
  lf : g.final.length < 4611686018427387904
def Buchi.general (b : Buchi) : General := { props := b.props, states := b.states, init := b.init, edges := b.edges, sets := [b.final] }

theorem general_c (w : World) (a1 a2 a3 a4 : Option Addr) (l1 c1 l2 c2 l3 c3 l4 c4 : Nat) (n : Int) :
    Calls Proofs.Tryd.prog 15 [.agg #[.slice a1 l1 c1, .int .i64 n, .slice a2 l2 c2, .slice a3 l3 c3, .slice a4 l4 c4]].toArray w
      (Ret fun r w' => Kp w w' ∧ ∃ q, w.heap.size ≤ q ∧ q < w'.heap.size ∧ w'.heap[q]? = some (.cells [.slice a4 l4 c4].toArray 23 (0, 0)) ∧ r = .agg #[.slice a1 l1 c1, .int .i64 n, .slice a2 l2 c2, .slice a3 l3 c3, .slice (some ⟨q, 0, none⟩) 1 1]) := by
  refine call agree Proofs.Tryd.func15 rfl Proofs.Tryd.ntmps15 (by kernel_rfl) ?_
  refine nd fun p w1 e1 s1 k1 m1 => ?_
  have m1 : Own w1 p 26 [.slice a1 l1 c1, .int .i64 n, .slice a2 l2 c2, .slice a3 l3 c3, .slice a4 l4 c4] := m1
  refine nd fun q w2 e2 s2 k2 m2 => ?_
  have m2 : Own w2 q 33 [.slice none 0 0, .int .i64 0, .slice none 0 0, .slice none 0 0, .slice none 0 0] := m2
  have m1 := k2.own m1 id
  refine ld agree (Own.at_ (xs := [.slice a1 l1 c1]) m1 rfl) (by rfl) ?_
  refine ld agree (Own.at_ (xs := [.int .i64 n]) m1 rfl) (by rfl) ?_
  refine ld agree (Own.at_ (xs := [.slice a2 l2 c2]) m1 rfl) (by rfl) ?_
  refine ld agree (Own.at_ (xs := [.slice a3 l3 c3]) m1 rfl) (by rfl) ?_
  refine ld agree (Own.at_ (xs := [.slice a4 l4 c4]) m1 rfl) (by rfl) ?_
  refine ne (by decide) ?_
  refine nd fun r w3 e3 s3 k3 m3 => ?_
  have m3 : Own w3 r 23 [.slice a4 l4 c4] := m3
  refine st agree (k3.own m2 id) rfl (Nat.le_refl 5) rfl ?_
  intro w4 s4 k4 m4
  refine ld agree (Own.at_ (xs := [.slice a1 l1 c1, .int .i64 n, .slice a2 l2 c2, .slice a3 l3 c3, .slice (some ⟨r, 0, none⟩) 1 1]) (o := 0) m4 rfl) (by rfl) ?_
  refine ⟨?_, r, ?_, ?_, ?_, rfl⟩
  · exact k1.trans ((k2.trans k3).new e2 k4)
  · have := k1.size; have := k2.size; omega
  · omega
  · exact k4.heap m3 (by omega)
theorem callGeneral : callable Proofs.Tryd.prog 15 = true := by kernel_rfl

theorem GenV.chg {lo hi lo' hi' : Nat} {w w' : World} {p i e s : Value} {g : General} (h : GenV lo hi w p i e s g) (k : Kp w w') (h1 : lo' ≤ lo) (h2 : hi ≤ hi') : GenV lo' hi' w' p i e s g :=
  ⟨(h.props.chg k (fun _ _ _ h => h) (fun _ _ h => h)).mono (fun _ _ h => h) h1 h2, (h.init.chg k (fun _ _ _ h => h) (fun _ _ h => h)).mono (fun _ _ h => h) h1 h2, (h.edges.chg k (fun _ _ _ h => h) (fun _ _ h => h)).mono (fun _ _ h => h) h1 h2,
    (h.sets.chg k (fun _ _ _ h => h) (fun _ _ ⟨u, hu, hr, hl⟩ => ⟨u, hu, hr.chg k (fun _ _ _ h => h) (fun _ _ h => h), hl⟩)).mono (fun _ _ ⟨u, hu, hr, hl⟩ => ⟨u, hu, hr.mono (fun _ _ h => h) h1 h2, hl⟩) h1 h2, h.lp, h.li, h.le, h.ls⟩
theorem BuchiV.chg {lo hi lo' hi' : Nat} {w w' : World} {p i e s : Value} {g : Buchi} (h : BuchiV lo hi w p i e s g) (k : Kp w w') (h1 : lo' ≤ lo) (h2 : hi ≤ hi') : BuchiV lo' hi' w' p i e s g :=
  ⟨(h.props.chg k (fun _ _ _ h => h) (fun _ _ h => h)).mono (fun _ _ h => h) h1 h2, (h.init.chg k (fun _ _ _ h => h) (fun _ _ h => h)).mono (fun _ _ h => h) h1 h2, (h.edges.chg k (fun _ _ _ h => h) (fun _ _ h => h)).mono (fun _ _ h => h) h1 h2,
    (h.final.chg k (fun _ _ _ h => h) (fun _ _ h => h)).mono (fun _ _ h => h) h1 h2, h.lp, h.li, h.le, h.lf⟩

/-- an automaton as a general one -/
theorem BuchiV.general {lo hi q : Nat} {w : World} {p i e f : Value} {g : Buchi} (h : BuchiV lo hi w p i e f g) (m : w.heap[q]? = some (.cells [f].toArray 23 (0, 0))) : GenV 0 (max hi (q + 1)) w p i e (.slice (some ⟨q, 0, none⟩) 1 1) g.general := by
  have h' := h.chg (Chg.refl _ w) (Nat.zero_le _) (Nat.le_max_left hi (q + 1))
  refine ⟨h'.props, h'.init, h'.edges, ?_, h.lp, h.li, h.le, by simp [Buchi.general]⟩
  refine row1R m (fun j x hx => ?_) rfl (Nat.le_refl _) (Nat.zero_le _) (by omega)
  cases j with
  | zero =>
    simp [Buchi.general] at hx
    subst hx
    exact ⟨f, rfl, f, rfl, h'.final, h.lf⟩
  | succ j => simp [Buchi.general] at hx

theorem checkB_c {w : World} {lo hi : Nat} {pv iv ev fv : Value} {g : Buchi} (hv : BuchiV lo hi w pv iv ev fv g) :
    Calls Proofs.Tryd.prog 13 [.agg #[pv, .int .i64 g.states, iv, ev, fv]].toArray w (Ret fun r w' => r = .int .i64 (errS (checkS g.general)) ∧ Kp w w') := by
  obtain ⟨a1, c1, rfl, -⟩ := id hv.props
  obtain ⟨a2, c2, rfl, -⟩ := id hv.init
  obtain ⟨a3, c3, rfl, -⟩ := id hv.edges
  obtain ⟨a4, c4, rfl, -⟩ := id hv.final
  refine call agree Proofs.Tryd.func13 rfl Proofs.Tryd.ntmps13 (by kernel_rfl) ?_
  refine nd fun p w1 e1 s1 k1 m1 => ?_
  have m1 : Own w1 p 26 [.slice a1 g.props.length c1, .int .i64 g.states, .slice a2 g.init.length c2, .slice a3 g.edges.length c3, .slice a4 g.final.length c4] := m1
  refine ld agree (Own.at_ (xs := [.slice a1 g.props.length c1, .int .i64 g.states, .slice a2 g.init.length c2, .slice a3 g.edges.length c3, .slice a4 g.final.length c4]) (o := 0) m1 rfl) (by rfl) ?_
  refine cl callGeneral (general_c w1 a1 a2 a3 a4 _ c1 _ c2 _ c3 _ c4 g.states) ?_
  rintro _ w2 ⟨k2, q, hq1, hq2, mq, rfl⟩
  have hg := (hv.chg (k1.trans k2) (Nat.le_refl _) (Nat.le_refl _)).general mq
  have hc := check_c hg
  refine cl callCheckG hc ?_
  rintro _ w3 ⟨rfl, k3⟩
  exact ⟨rfl, k1.trans (k2.trans k3)⟩
theorem callCheck : callable Proofs.Tryd.prog 13 = true := by kernel_rfl
end Go.Au

namespace Go.Au
open Go Go.RowKit Go.MapKept
open Go.Maps (Keyed)

def Let16 (x : Int) : Prop := 0 ≤ x ∧ x < 65536
abbrev Letters := RowE (fun _ cs (x : Int) => cs = [.int .u16 x] ∧ Let16 x) 1
structure Word where
  stem : List Int
  loop : List Int
structure WordV (lo hi : Nat) (w : World) (s l : Value) (x : Word) : Prop where
  stem : Letters lo hi w s x.stem
  loop : Letters lo hi w l x.loop
  ls : x.stem.length < 2305843009213693952
  ll : x.loop.length < 2305843009213693952
theorem WordV.chg {lo hi lo' hi' : Nat} {w w' : World} {s l : Value} {x : Word} (h : WordV lo hi w s l x) (k : Kp w w') (h1 : lo' ≤ lo) (h2 : hi ≤ hi') : WordV lo' hi' w' s l x :=
  ⟨(h.stem.chg k (fun _ _ _ h => h) (fun _ _ h => h)).mono (fun _ _ h => h) h1 h2, (h.loop.chg k (fun _ _ _ h => h) (fun _ _ h => h)).mono (fun _ _ h => h) h1 h2, h.ls, h.ll⟩

def indexOf (φ : Int → Bool) : Nat → List Int → Int
  | _, [] => -1
  | i, x :: r => if φ x then i else indexOf φ (i + 1) r

theorem index_c {w : World} {lo hi : Nat} {v : Value} {xs : List Int} (h : Letters lo hi w v xs) (hl : xs.length < 4611686018427387904) (g : FuncId) (cap : List Value) (φ : Int → Bool) (hg : callable Proofs.Tryd.prog g = true)
    (hf : ∀ W x, Kp w W → Let16 x → Calls Proofs.Tryd.prog g (.int .u16 x :: cap).toArray W (Ret fun r w' => r = .bool (φ x) ∧ Kp W w')) :
    Calls Proofs.Tryd.prog 52 [v, .func (.func g) #[] cap.toArray].toArray w (Ret fun r w' => r = .int .i64 (indexOf φ 0 xs) ∧ Kp w w') := by
  obtain ⟨a, c, rfl, hcap, hx⟩ := h
  refine call agree Proofs.Tryd.func52 rfl Proofs.Tryd.ntmps52 (by kernel_rfl) ?_
  refine loop agree (σ := Nat) (fun i => [(0, .slice a xs.length c), (1, .func (.func g) #[] cap.toArray), (6, .slice a xs.length c), (7, .int .i64 xs.length), (8, .int .i64 i)])
    (fun i w' => Kp w w' ∧ i ≤ xs.length ∧ indexOf φ 0 xs = indexOf φ i (xs.drop i)) (fun i => xs.length - i) 0
    ⟨rfl, rfl, rfl, rfl, rfl, trivial⟩ ⟨Chg.refl _ _, by omega, by simp⟩ ?_
  rintro i e0 w1 ⟨hk, hi, hr⟩
  refine sp (fun h1 => ?_) (fun h1 => ?_)
  · have hi' : i < xs.length := by omega
    obtain ⟨b, o, rfl, hlo, hhi, cs, hcs, hrd, rfl, hwf⟩ := hx i xs[i] (by simp)
    rw [List.drop_eq_getElem_cons hi'] at hr
    refine ne ⟨by omega, h1⟩ ?_
    refine ld agree (hk.range hrd id) (by rfl) ?_
    cases hb : φ xs[i] with
    | true =>
      refine cl (R := fun r w' => r = .bool true ∧ Kp w1 w') hg (by have := hf w1 xs[i] hk hwf; rw [hb] at this; exact this) ?_
      rintro _ w2 ⟨rfl, k2⟩
      exact ⟨congrArg (Value.int .i64) (by rw [hr]; simp [indexOf, hb]), hk.trans k2⟩
    | false =>
      refine cl (R := fun r w' => r = .bool false ∧ Kp w1 w') hg (by have := hf w1 xs[i] hk hwf; rw [hb] at this; exact this) ?_
      rintro _ w2 ⟨rfl, k2⟩
      refine aw (by omega) (by omega) ?_
      refine again (i + 1) ⟨rfl, rfl, rfl, rfl, rfl, trivial⟩ ⟨hk.trans k2, by omega, ?_⟩ (by omega)
      rw [hr]; simp [indexOf, hb]
  · exact ⟨congrArg (Value.int .i64) (by rw [hr, List.drop_eq_nil_of_le (by omega)]; rfl), hk⟩
theorem callIndex : callable Proofs.Tryd.prog 52 = true := by kernel_rfl
theorem indexOf_any (φ : Int → Bool) : ∀ (xs : List Int) (i : Nat), (0 ≤ indexOf φ i xs) ↔ xs.any φ = true
  | [], i => by simp [indexOf]
  | x :: r, i => by
    simp only [indexOf, List.any_cons]
    cases h : φ x with
    | true => simp
    | false => simpa using indexOf_any φ r (i + 1)
theorem contains_c {w : World} {lo hi : Nat} {v : Value} {xs : List Int} (h : Letters lo hi w v xs) (hl : xs.length < 4611686018427387904) (g : FuncId) (cap : List Value) (φ : Int → Bool) (hg : callable Proofs.Tryd.prog g = true)
    (hf : ∀ W x, Kp w W → Let16 x → Calls Proofs.Tryd.prog g (.int .u16 x :: cap).toArray W (Ret fun r w' => r = .bool (φ x) ∧ Kp W w')) :
    Calls Proofs.Tryd.prog 42 [v, .func (.func g) #[] cap.toArray].toArray w (Ret fun r w' => r = .bool (xs.any φ) ∧ Kp w w') := by
  refine call agree Proofs.Tryd.func42 rfl Proofs.Tryd.ntmps42 (by kernel_rfl) ?_
  refine cl callIndex (index_c h hl g cap φ hg hf) ?_
  rintro _ w1 ⟨rfl, k1⟩
  refine sp (fun h => ?_) (fun h => ?_)
  · exact ⟨congrArg Value.bool ((indexOf_any φ xs 0).1 h).symm, k1⟩
  · refine ⟨congrArg Value.bool ?_, k1⟩
    rw [indexOf_any φ xs 0] at h
    simpa using h
theorem callContains : callable Proofs.Tryd.prog 42 = true := by kernel_rfl

theorem shl_val {n : Nat} (h : n ≤ 8) : (1 : Int) * 2 ^ (min ((n : Int)).toNat (IntKind.bits .i64)) = 2 ^ n ∧ (1 : Int) ≤ 2 ^ n ∧ (2 : Int) ^ n ≤ 256 := by
  refine ⟨?_, ?_, ?_⟩
  · rw [Int.toNat_natCast, Nat.min_eq_left (by simp only [IntKind.bits]; omega), Int.one_mul]
  · have h : 1 ≤ (2 : Nat) ^ n := Nat.one_le_two_pow
    have := Int.ofNat_le.2 h
    rw [Int.natCast_pow] at this
    exact this
  · have h : (2 : Nat) ^ n ≤ 2 ^ 8 := Nat.pow_le_pow_right (by decide) h
    have := Int.ofNat_le.2 h
    rw [Int.natCast_pow] at this
    exact this

theorem far_c {w : World} {b n : Nat} (hn : n ≤ 8) (m : Own w b 3 [.int .i64 n]) (x : Int) (hx : Let16 x) : Calls Proofs.Tryd.prog 41 [.int .u16 x, pt b 0].toArray w (Ret fun r w' => r = .bool (decide ((2 : Int) ^ n ≤ x)) ∧ Kp w w') := by
  refine call agree Proofs.Tryd.func41 rfl Proofs.Tryd.ntmps41 (by kernel_rfl) ?_
  obtain ⟨h1, h2⟩ := hx
  obtain ⟨e1, e2, e3⟩ := shl_val hn
  refine aw (by omega) (by omega) ?_
  refine ld agree (Own.at_ (xs := [.int .i64 n]) m rfl) (by rfl) ?_
  refine ne (by omega) ?_
  refine aw (by rw [e1]; omega) (by rw [e1]; omega) ?_
  refine sp (fun h => ?_) (fun h => ?_)
  · exact ⟨congrArg Value.bool (by rw [decide_eq_true (by rw [← e1]; exact h)]), Chg.refl _ _⟩
  · exact ⟨congrArg Value.bool (by rw [decide_eq_false (by rw [← e1]; exact h)]), Chg.refl _ _⟩
theorem callFar : callable Proofs.Tryd.prog 41 = true := by kernel_rfl

def wordOk (x : Word) (n : Nat) : Bool := !decide (x.loop.length = 0) && !x.stem.any (fun c => decide ((2 : Int) ^ n ≤ c)) && !x.loop.any (fun c => decide ((2 : Int) ^ n ≤ c))

theorem wcheck_c {w : World} {lo hi : Nat} {sv lv : Value} {x : Word} (hv : WordV lo hi w sv lv x) {n : Nat} (hn : n ≤ 8) :
    Calls Proofs.Tryd.prog 26 [.agg #[sv, lv], .int .i64 n].toArray w (Ret fun r w' => r = .int .i64 (if wordOk x n then 0 else 50) ∧ Kp w w') := by
  refine call agree Proofs.Tryd.func26 rfl Proofs.Tryd.ntmps26 (by kernel_rfl) ?_
  refine nd fun p w1 e1 s1 k1 m1 => ?_
  have m1 : Own w1 p 29 [sv, lv] := m1
  refine nd fun q w2 e2 s2 k2 m2 => ?_
  have m2 : Own w2 q 3 [.int .i64 n] := m2
  have m1 := k2.own m1 id
  refine ld agree (Own.at_ (xs := [.int .i64 n]) m2 rfl) (by rfl) ?_
  refine spF (by omega) ?_
  refine ld agree (Own.at_ (xs := [.int .i64 n]) m2 rfl) (by rfl) ?_
  refine spF (by omega) ?_
  have k02 := k1.trans k2
  have hf : ∀ W x, Kp w2 W → Let16 x → Calls Proofs.Tryd.prog 41 (.int .u16 x :: [pt q 0]).toArray W (Ret fun r w' => r = .bool (decide ((2 : Int) ^ n ≤ x)) ∧ Kp W w') := fun W x k hx => far_c hn (k.own m2 id) x hx
  have hv2 := hv.chg k02 (Nat.le_refl _) (Nat.le_refl _)
  have hls := hv.ls
  have hll := hv.ll
  obtain ⟨a2, c2, hlv, -⟩ := id hv.loop
  subst hlv
  refine ld agree (Own.at_ (xs := [.slice a2 x.loop.length c2]) m1 rfl) (by rfl) ?_
  refine sp (fun h => ?_) (fun h => ?_)
  · exact ⟨congrArg (Value.int .i64) (by simp [wordOk, show x.loop.length = 0 by omega]), k02⟩
  · refine ld agree (Own.at_ (xs := [sv]) m1 rfl) (by rfl) ?_
    cases hb : x.stem.any (fun c => decide ((2 : Int) ^ n ≤ c)) with
    | true =>
      refine cl (R := fun r w' => r = .bool true ∧ Kp w2 w') callContains (by have := contains_c hv2.stem (by omega) _ [pt q 0] _ callFar hf; rw [hb] at this; exact this) ?_
      rintro _ w3 ⟨rfl, k3⟩
      exact ⟨congrArg (Value.int .i64) (by simp only [wordOk, hb]; simp), k02.trans k3⟩
    | false =>
      refine cl (R := fun r w' => r = .bool false ∧ Kp w2 w') callContains (by have := contains_c hv2.stem (by omega) _ [pt q 0] _ callFar hf; rw [hb] at this; exact this) ?_
      rintro _ w3 ⟨rfl, k3⟩
      refine ld agree (Own.at_ (xs := [.slice a2 x.loop.length c2]) (k3.own m1 id) rfl) (by rfl) ?_
      have hv3 := hv2.chg k3 (Nat.le_refl _) (Nat.le_refl _)
      cases hb2 : x.loop.any (fun c => decide ((2 : Int) ^ n ≤ c)) with
      | true =>
        refine cl (R := fun r w' => r = .bool true ∧ Kp w3 w') callContains (by have := contains_c hv3.loop (by omega) _ [pt q 0] _ callFar (fun W x k hx => hf W x (k3.trans k) hx); rw [hb2] at this; exact this) ?_
        rintro _ w4 ⟨rfl, k4⟩
        exact ⟨congrArg (Value.int .i64) (by simp only [wordOk, hb2]; simp), k02.trans (k3.trans k4)⟩
      | false =>
        refine cl (R := fun r w' => r = .bool false ∧ Kp w3 w') callContains (by have := contains_c hv3.loop (by omega) _ [pt q 0] _ callFar (fun W x k hx => hf W x (k3.trans k) hx); rw [hb2] at this; exact this) ?_
        rintro _ w4 ⟨rfl, k4⟩
        exact ⟨congrArg (Value.int .i64) (by simp only [wordOk, hb, hb2]; rw [decide_eq_false (by omega)]; rfl), k02.trans (k3.trans k4)⟩
theorem callWCheck : callable Proofs.Tryd.prog 26 = true := by kernel_rfl
end Go.Au

namespace Go.Au
open Go Go.RowKit Go.MapKept
open Go.Maps (Keyed)

def Word.places (x : Word) : Nat := if x.loop.length = 0 then 0 else x.stem.length + x.loop.length
def Word.behind (x : Word) (i : Nat) : Int := if x.places ≤ i then -1 else if i + 1 = x.places then x.stem.length else (i : Int) + 1
def Word.at (x : Word) (i : Nat) : Int := if x.loop.length = 0 then 0 else if i < x.stem.length then x.stem.getD i 0 else x.loop.getD ((i - x.stem.length) % x.loop.length) 0

theorem places_c {w : World} (a1 a2 : Option Addr) (c1 c2 : Nat) (x : Word) (ls : x.stem.length < 2305843009213693952) (ll : x.loop.length < 2305843009213693952) :
    Calls Proofs.Tryd.prog 53 [.agg #[.slice a1 x.stem.length c1, .slice a2 x.loop.length c2]].toArray w (Ret fun r w' => r = .int .i64 (x.places : Nat) ∧ Kp w w') := by
  refine call agree Proofs.Tryd.func53 rfl Proofs.Tryd.ntmps53 (by kernel_rfl) ?_
  refine nd fun p w1 e1 s1 k1 m1 => ?_
  have m1 : Own w1 p 29 [.slice a1 x.stem.length c1, .slice a2 x.loop.length c2] := m1
  refine ld agree (Own.at_ (xs := [.slice a2 x.loop.length c2]) m1 rfl) (by rfl) ?_
  refine sp (fun h => ?_) (fun h => ?_)
  · exact ⟨congrArg (Value.int .i64) (by simp [Word.places, show x.loop.length = 0 by omega]), k1⟩
  · refine ld agree (Own.at_ (xs := [.slice a1 x.stem.length c1]) m1 rfl) (by rfl) ?_
    refine ld agree (Own.at_ (xs := [.slice a2 x.loop.length c2]) m1 rfl) (by rfl) ?_
    refine aw (by omega) (by omega) ?_
    exact ⟨congrArg (Value.int .i64) (by unfold Word.places; rw [if_neg (by omega)]; omega), k1⟩
theorem callPlaces : callable Proofs.Tryd.prog 53 = true := by kernel_rfl

theorem behind_c {w : World} (a1 a2 : Option Addr) (c1 c2 : Nat) (x : Word) (ls : x.stem.length < 2305843009213693952) (ll : x.loop.length < 2305843009213693952) (i : Nat) (hi : i < 4611686018427387904) :
    Calls Proofs.Tryd.prog 44 [.agg #[.slice a1 x.stem.length c1, .slice a2 x.loop.length c2], .int .i64 i].toArray w (Ret fun r w' => r = .int .i64 (x.behind i) ∧ Kp w w') := by
  refine call agree Proofs.Tryd.func44 rfl Proofs.Tryd.ntmps44 (by kernel_rfl) ?_
  refine nd fun p w1 e1 s1 k1 m1 => ?_
  have m1 : Own w1 p 29 [.slice a1 x.stem.length c1, .slice a2 x.loop.length c2] := m1
  refine ld agree (Own.at_ (xs := [.slice a1 x.stem.length c1, .slice a2 x.loop.length c2]) (o := 0) m1 rfl) (by rfl) ?_
  have hc := places_c (w := w1) a1 a2 c1 c2 x ls ll
  have hpl : x.places ≤ x.stem.length + x.loop.length := by unfold Word.places; split <;> omega
  refine cl callPlaces hc ?_
  rintro _ w2 ⟨rfl, k2⟩
  refine spF (by omega) ?_
  refine sp (fun h => ?_) (fun h => ?_)
  · exact ⟨congrArg (Value.int .i64) (by simp [Word.behind, show x.places ≤ i by omega]), k1.trans k2⟩
  · refine aw (by omega) (by omega) ?_
    refine sp (fun h2 => ?_) (fun h2 => ?_)
    · refine ld agree (Own.at_ (xs := [.slice a1 x.stem.length c1]) (k2.own m1 id) rfl) (by rfl) ?_
      exact ⟨congrArg (Value.int .i64) (by unfold Word.behind; rw [if_neg (by omega), if_pos (by omega)]), k1.trans k2⟩
    · refine aw (by omega) (by omega) ?_
      exact ⟨congrArg (Value.int .i64) (by unfold Word.behind; rw [if_neg (by omega), if_neg (by omega)]), k1.trans k2⟩
theorem callBehind : callable Proofs.Tryd.prog 44 = true := by kernel_rfl

theorem at_c {w : World} {lo hi : Nat} {sv lv : Value} {x : Word} (hv : WordV lo hi w sv lv x) (i : Nat) (hi : i < 4611686018427387904) :
    Calls Proofs.Tryd.prog 10 [.agg #[sv, lv], .int .i64 i].toArray w (Ret fun r w' => r = .int .u16 (x.at i) ∧ Kp w w') := by
  have ls := hv.ls
  have ll := hv.ll
  obtain ⟨a1, c1, rfl, -, hs⟩ := hv.stem
  obtain ⟨a2, c2, rfl, -, hl⟩ := hv.loop
  refine call agree Proofs.Tryd.func10 rfl Proofs.Tryd.ntmps10 (by kernel_rfl) ?_
  refine nd fun p w1 e1 s1 k1 m1 => ?_
  have m1 : Own w1 p 29 [.slice a1 x.stem.length c1, .slice a2 x.loop.length c2] := m1
  refine spF (by omega) ?_
  refine ld agree (Own.at_ (xs := [.slice a2 x.loop.length c2]) m1 rfl) (by rfl) ?_
  refine sp (fun h => ?_) (fun h => ?_)
  · exact ⟨congrArg (Value.int .u16) (by simp [Word.at, show x.loop.length = 0 by omega]), k1⟩
  refine ld agree (Own.at_ (xs := [.slice a1 x.stem.length c1]) m1 rfl) (by rfl) ?_
  refine sp (fun h2 => ?_) (fun h2 => ?_)
  · refine ld agree (Own.at_ (xs := [.slice a1 x.stem.length c1]) m1 rfl) (by rfl) ?_
    have hi' : i < x.stem.length := by omega
    obtain ⟨b, o, rfl, hlo, hhi, cs, hcs, hrd, rfl, hwf⟩ := hs i x.stem[i] (by simp)
    refine ne ⟨by omega, h2⟩ ?_
    refine ld agree (k1.range hrd id) (by rfl) ?_
    exact ⟨congrArg (Value.int .u16) (by unfold Word.at; rw [if_neg (by omega), if_pos hi']; simp [hi']), k1⟩
  · have hj : (i - x.stem.length) % x.loop.length < x.loop.length := Nat.mod_lt _ (by omega)
    obtain ⟨b, o, rfl, hlo, hhi, cs, hcs, hrd, rfl, hwf⟩ := hl ((i - x.stem.length) % x.loop.length) x.loop[(i - x.stem.length) % x.loop.length] (by simp)
    have hm : ((i : Int) - x.stem.length).tmod x.loop.length = (((i - x.stem.length) % x.loop.length : Nat) : Int) := by
      rw [show (i : Int) - x.stem.length = ((i - x.stem.length : Nat) : Int) by omega, Int.ofNat_tmod]
    have A : ∀ W, Kp w1 W → Own W p 29 [.slice a1 x.stem.length c1, .slice (some ⟨b, o, none⟩) x.loop.length c2] := fun W h => h.heap m1 id
    refine drawn0 agree mixed 14 (by kernel_rfl) (fun _ => False) ?_
    conv => whnf
    refine ldk agree rfl rfl (fun W h _ => Own.at_ (xs := [.slice (some ⟨b, o, none⟩) x.loop.length c2]) (A W h) rfl) (by rfl) fun _ => ?_
    conv => whnf
    refine ldk agree rfl rfl (fun W h _ => Own.at_ (xs := [.slice a1 x.stem.length c1]) (A W h) rfl) (by rfl) fun _ => ?_
    conv => whnf
    refine aw (by omega) (by omega) ?_
    conv => whnf
    refine ldk agree rfl rfl (fun W h _ => Own.at_ (xs := [.slice (some ⟨b, o, none⟩) x.loop.length c2]) (A W h) rfl) (by rfl) fun _ => ?_
    conv => whnf
    refine ne (by omega) ?_
    conv => whnf
    refine ⟨fun y hy => ?_⟩
    rw [hm] at hy
    subst hy
    conv => whnf
    refine ne ⟨by omega, by omega⟩ ?_
    conv => whnf
    refine ldk agree rfl rfl (fun W h _ => (k1.trans h).range hrd id) (by rfl) fun _ => ?_
    conv => whnf
    intro W h _
    exact ⟨congrArg (Value.int .u16) (by unfold Word.at; rw [if_neg (by omega), if_neg (by omega)]; simp [hj]), k1.trans h⟩
theorem callAt : callable Proofs.Tryd.prog 10 = true := by kernel_rfl
end Go.Au

namespace Go.Au
open Go Go.RowKit Go.MapKept
open Go.Maps (Keyed)

abbrev Place := Int × Int
def pcells (p : Place) : List Value := [.int .i64 p.1, .int .i64 p.2]
def pval (p : Place) : Value := .agg #[.int .i64 p.1, .int .i64 p.2]
theorem pval_inj (x y : Place) (h : pval x = pval y) : x = y := by
  obtain ⟨a, b⟩ := x
  obtain ⟨c, d⟩ := y
  simp [pval] at h
  rw [h.1, h.2]
def I64 (x : Int) : Prop := -9223372036854775808 ≤ x ∧ x ≤ 9223372036854775807
theorem wf64 {x : Int} (h : I64 x) : (Lit.int .i64 x).wf = true := by
  show (decide ((-9223372036854775808 : Int) ≤ x) && decide (x ≤ (9223372036854775807 : Int))) = true
  rw [decide_eq_true h.1, decide_eq_true h.2]; rfl
theorem placeKeyed : Keyed Proofs.Tryd.prog 90 := Maps.Keyed.of_law (deep_law_laid (P := Proofs.Tryd.prog) (by kernel_rfl) (m := 2) (by decide) (of_decide_eq_true (by kernel_rfl)) (by kernel_rfl) (by rw [Proofs.Tryd.underlying90]))
theorem placeType : Proofs.Tryd.prog.keyType 90 = true := by kernel_rfl
theorem typesPos : ∃ m, Proofs.Tryd.prog.types.size = m + 1 := ⟨Proofs.Tryd.prog.types.size - 1, by
  have : 0 < Proofs.Tryd.prog.types.size := of_decide_eq_true (by kernel_rfl)
  omega⟩
theorem placeKey {p : Place} (h1 : I64 p.1) (h2 : I64 p.2) : ∃ lit, keyOf Proofs.Tryd.prog 90 (pval p) = some lit := by
  obtain ⟨m, hm⟩ := typesPos
  have w1 : (Lit.int .i64 p.1).wf = true := wf64 h1
  have w2 : (Lit.int .i64 p.2).wf = true := wf64 h2
  unfold keyOf pval
  simp only [Proofs.Tryd.underlying90]
  rw [if_pos (by simp [placeType, Value.formed, Proofs.Tryd.underlying90]; try kernel_rfl), hm]
  unfold Program.keyLits
  simp only [Proofs.Tryd.underlying90, Value.cells]
  rw [if_pos ⟨by kernel_rfl, by kernel_rfl⟩]
  have hc : Proofs.Tryd.prog.cellsOf 3 = 1 := by kernel_rfl
  simp [hc, Program.keyLits, Proofs.Tryd.underlying3, w1, w2, List.mapM_cons]
end Go.Au

namespace Go.Au
open Go Go.RowKit Go.MapKept
open Go.Maps (Keyed)

def flat (l : List Place) : List Value := l.flatMap pcells
theorem flat_snoc (l : List Place) (p : Place) : flat (l ++ [p]) = flat l ++ pcells p := by simp [flat]
abbrev PlaceBag (w : World) (base : Nat) (L : List (Value × List Value)) := Bag w base 90 2 L
abbrev OnesE (w : World) (m : Nat) (xs : List (Place × Int)) := MapE Proofs.Tryd.prog 90 pval (fun n : Int => .int .i64 n) w m xs

structure PutV (w : World) (base p9 p5 r ms mn : Nat) (cs : List Value) (av : Value) (all : List Place) (L : List (Value × List Value)) : Prop where
  m9 : Own w p9 88 [.map (some ms)]
  m5 : Own w p5 63 [pt r 0]
  mr : Own w r 86 (cs ++ [.map (some mn), av])
  len : cs.length = 7
  seen : OnesE w ms (all.map fun p => (p, 1))
  bag : PlaceBag w base ((av, flat all) :: L)
  base : base ≤ w.heap.size

theorem alook_one {α : Type} [DecidableEq α] {l : List α} {s : α} (h : s ∈ l) : alook (l.map fun s => (s, (1 : Int))) s = some 1 := by
  induction l with
  | nil => simp at h
  | cons a r ih =>
    simp only [List.map_cons, alook]
    by_cases h' : a = s
    · rw [if_pos h']
    · rw [if_neg h', ih ((List.mem_cons.1 h).resolve_left (Ne.symm h'))]
theorem aget_ones {all : List Place} {p : Place} : aget (all.map fun p => (p, (1 : Int))) 0 p = if p ∈ all then 1 else 0 := by
  unfold aget
  by_cases h : p ∈ all
  · rw [if_pos h, alook_one h]; rfl
  · rw [if_neg h, alook_none fun q hq he => by
      obtain ⟨x, hx, rfl⟩ := List.mem_map.1 hq
      exact h (he ▸ hx)]
    rfl

theorem put_c {w : World} {base p9 p5 r ms mn : Nat} {cs : List Value} {av : Value} {all : List Place} {L : List (Value × List Value)} (h : PutV w base p9 p5 r ms mn cs av all L) {p : Place} (h1 : I64 p.1) (h2 : I64 p.2) (hl : all.length < 1099511627776) :
    Calls Proofs.Tryd.prog 43 [pval p, pt p9 0, pt p5 0].toArray w (Ret fun _ w' => ∃ av', PutV w' base p9 p5 r ms mn cs av' (if p ∈ all then all else all ++ [p]) L ∧
      Chg (fun k => k = r ∨ k = ms ∨ some k = av.ownBlock) w w' ∧ ∀ g, av'.ownBlock = some g → av.ownBlock = some g ∨ w.heap.size ≤ g) := by
  refine call agree Proofs.Tryd.func43 rfl Proofs.Tryd.ntmps43 (by kernel_rfl) ?_
  refine nd fun q w1 e1 s1 k1 m1 => ?_
  have mq : Own w1 q 90 (pcells p) := m1
  have m9 := k1.own h.m9 id
  have m5 := k1.own h.m5 id
  have mr := k1.own h.mr id
  have seen := h.seen.chg k1 id
  have bag := h.bag.kp k1
  refine ld agree (Own.at_ (xs := [.map (some ms)]) m9 rfl) (by rfl) ?_
  refine ld agree (v := pval p) (Own.at_ (xs := pcells p) (o := 0) mq rfl) (by rfl) ?_
  have hg := MapE.get agree placeKeyed (t := 88) rfl rfl rfl rfl (z := 0) seen p (placeKey h1 h2)
  rw [aget_ones] at hg
  refine lk hg ?_
  by_cases hp : p ∈ all
  · rw [if_pos hp, if_pos hp]
    refine spF (by decide) ?_
    exact ⟨av, ⟨m9, m5, mr, h.len, seen, bag, Nat.le_trans h.base k1.size⟩, k1.mono fun _ hf => hf.elim, fun g hg => .inl hg⟩
  rw [if_neg hp, if_neg hp]
  rw [if_neg hp] at hg
  refine spT (by decide) ?_
  have n9 : p9 ≠ ms := seen.ne m9
  have nq : q ≠ ms := seen.ne mq
  have hpre := preMapR Proofs.Tryd.prog 90 pval (fun n : Int => .int .i64 n) 0 ms p
  refine drawnR agree mixed 6 (by kernel_rfl) _ hpre ?_
  conv => whnf
  refine ldr hpre agree rfl rfl (fun W h _ => h.chg.range (Own.at_ (xs := [.map (some ms)]) m9 rfl) n9) (by rfl) fun _ => ?_
  conv => whnf
  refine ldr (v := pval p) hpre agree rfl rfl (fun W h _ => h.chg.range (Own.at_ (xs := pcells p) (o := 0) mq rfl) nq) (by rfl) fun _ => ?_
  conv => whnf
  refine lkr (v := .int .i64 0) hpre rfl (fun W h _ => by
    obtain ⟨x1, hm1, he1⟩ := h.map _ seen
    have := MapE.get agree placeKeyed (t := 88) rfl rfl rfl rfl (z := 0) hm1 p (placeKey h1 h2)
    rw [he1.get, aget_ones, if_neg hp] at this
    exact this) fun _ => ?_
  conv => whnf
  refine aw (by omega) (by omega) ?_
  conv => whnf
  refine enr agree placeKeyed (t := 88) rfl rfl rfl rfl rfl rfl (z := 0) rfl seen (placeKey h1 h2) fun s D hD => ?_
  conv => whnf
  intro W hW hDs
  obtain ⟨x1, hen, he1⟩ := hD W (hDs 4)
  refine mu (hen.store 1) ?_
  rintro w3 ⟨hm3, hs3, hc3⟩
  have hones : aput x1 p 1 = (all ++ [p]).map fun p => (p, (1 : Int)) := by
    rw [he1.put, aput_new fun x hx he => by
      obtain ⟨y, hy, rfl⟩ := List.mem_map.1 hx
      exact hp (he ▸ hy)]
    simp
  rw [hones] at hm3
  have hc : Chg (fun k => k = ms) w1 w3 := hW.chg.trans hc3
  have nr : r ≠ ms := seen.ne mr
  have n5 : p5 ≠ ms := seen.ne m5
  have m9 := hc.own m9 n9
  have m5 := hc.own m5 n5
  have mr := hc.own mr nr
  have mq := hc.own mq nq
  obtain ⟨es, clock, hms, -⟩ := seen.h
  have bag := bag.chg hc fun x hx b hb hs => by
    subst hs
    exact bag.ne hms (by simp) x hx hb
  obtain ⟨n, hrow⟩ := bag.own _ List.mem_cons_self
  have hn : n = all.length := by
    have := hrow.1
    simp only [flat] at this
    rw [flat_len (size := 2) (fun x => rfl)] at this
    omega
  subst hn
  have ha : (cs ++ [.map (some mn), av]).length = 9 := by simp [h.len]
  obtain ⟨c0, c1, c2, c3, c4, c5, c6, rfl⟩ : ∃ c0 c1 c2 c3 c4 c5 c6, cs = [c0, c1, c2, c3, c4, c5, c6] := by
    have := h.len
    match cs, this with
    | [c0, c1, c2, c3, c4, c5, c6], _ => exact ⟨_, _, _, _, _, _, _, rfl⟩
  have hlt : ∀ g, av.ownBlock = some g → g < w3.heap.size := fun g hg => (hrow.lt g hg).2
  have ne_of : ∀ {b t cs}, Own w3 b t cs → t ≠ 90 → some b ≠ av.ownBlock := fun {b t cs} ho ht he =>
    ownsRow_ne hrow ho (fun cs fr hh => by injection hh with _ h2; exact ht h2) he.symm
  have ne_q : some q ≠ av.ownBlock := fun he => by
    have := (h.bag.lt _ List.mem_cons_self q he.symm).2
    omega
  have hpre3 := preAppR w3 av (all.length * 2) (pcells p)
  refine drawnR agree mixed 10 (by kernel_rfl) _ hpre3 ?_
  conv => whnf
  refine ldr hpre3 agree rfl rfl (fun W h _ => h.chg.range (Own.at_ (xs := [pt r 0]) m5 rfl) (ne_of m5 (by decide))) (by rfl) fun _ => ?_
  conv => whnf
  refine ldr hpre3 agree rfl rfl (fun W h _ => h.chg.range (Own.at_ (xs := [pt r 0]) m5 rfl) (ne_of m5 (by decide))) (by rfl) fun _ => ?_
  conv => whnf
  refine ldr hpre3 agree rfl rfl (fun W h _ => h.chg.range (Own.at_ (xs := [av]) mr rfl) (ne_of mr (by decide))) (by rfl) fun _ => ?_
  conv => whnf
  refine ldr (v := pval p) hpre3 agree rfl rfl (fun W h _ => h.chg.range (Own.at_ (xs := pcells p) (o := 0) mq rfl) ne_q) (by rfl) fun _ => ?_
  conv => whnf
  refine bsr hpre3 rfl rfl rfl rfl rfl (by decide) (fun b o W W' hb ho hS => hS.chg.heap ho fun hc => by have := hlt b hc.symm; omega) (fun W hS => hS.chg.size) fun b D hD => ?_
  conv => whnf
  refine apr (m := 1) (news := pcells p) agree rfl rfl rfl rfl rfl rfl rfl (by decide) hrow rfl (fun W hS hDn => Own.at_ (xs := pcells p) (o := 0) (hD W (hDn 6 (by kernel_rfl))).1 rfl) rfl (by simp only [maxLen]; omega) (by show (all.length + 1) * 16 ≤ _; omega) (by have := k1.size; have := hc.size; have := h.base; omega) fun av' D2 hD2 => ?_
  conv => whnf
  intro W hS hDn
  obtain ⟨hown', hnew⟩ := hD2 W (hDn 7)
  have mrW := hS.chg.own mr (ne_of mr (by decide))
  obtain ⟨a', cap', rfl⟩ := ownsRow_form hown'
  refine st agree mrW rfl (Nat.le_refl 9) rfl ?_
  intro w4 s4 k4 m4
  refine ⟨.slice a' (all.length + 1) cap', ⟨k4.own (hS.chg.own m9 (ne_of m9 (by decide))) ?_, k4.own (hS.chg.own m5 (ne_of m5 (by decide))) ?_, m4, rfl, ?_, ?_, ?_⟩, ?_, ?_⟩
  · exact own_ne m9 mr (by decide)
  · exact own_ne m5 mr (by decide)
  · obtain ⟨es3, clock3, hms3, -⟩ := hm3.h
    exact (hm3.chg hS.chg fun he => bag.ne hms3 (by simp) _ List.mem_cons_self he.symm).chg k4 (Ne.symm nr)
  · rw [flat_snoc]
    have hb := bag.head hS.chg (fun b h => .inl h) hown' hnew
    exact hb.chg k4 fun x hx b hb' hs => by subst hs; exact hb.ne mrW (fun cs fr hh => by injection hh with _ h2; exact absurd h2 (by decide)) x hx hb'
  · have := k1.size; have := hc.size; have := h.base; have := hS.chg.size; omega
  · have e1 : Chg (fun k => k = r ∨ k = ms ∨ some k = av.ownBlock) w1 w3 := hc.mono fun _ h => .inr (.inl h)
    have e2 : Chg (fun k => k = r ∨ k = ms ∨ some k = av.ownBlock) w3 W := hS.chg.mono fun _ h => .inr (.inr h)
    have e3 : Chg (fun k => k = r ∨ k = ms ∨ some k = av.ownBlock) W w4 := k4.mono fun _ h => .inl h
    exact ((k1.mono fun _ hf => hf.elim).trans e1).trans (e2.trans e3)
  · intro g hg
    exact (hnew g hg).imp id fun h => by have := k1.size; have := hc.size; omega
theorem callPut : callable Proofs.Tryd.prog 43 = true := by kernel_rfl
end Go.Au

namespace Go.Au
open Go Go.RowKit Go.MapKept
open Go.Maps (Keyed)

def fromS (es : List Edge) (s : Int) : List Edge := es.filter fun e => decide (e.frm = s)
def succOf (es : List Edge) (x : Word) (at_ : Nat) : List Place := (es.filter fun e => goesS e (x.at at_)).map fun e => (e.to, x.behind at_)
def succ (g : General) (x : Word) (p : Place) : List Place := succOf (fromS g.edges p.1) x p.2.toNat

/-- an automaton that is right -/
structure Good (g : General) : Prop where
  s0 : 0 ≤ g.states
  s1 : g.states ≤ 65536
  init : ∀ s ∈ g.init, 0 ≤ s ∧ s < g.states
  edges : ∀ e ∈ g.edges, 0 ≤ e.frm ∧ e.frm < g.states ∧ 0 ≤ e.to ∧ e.to < g.states
  sets : ∀ l ∈ g.sets, ∀ s ∈ l, 0 ≤ s ∧ s < g.states

theorem rising_range {n : Int} : ∀ {l : List Int} {p : Option Int}, risingFrom n p l = true → ∀ s ∈ l, 0 ≤ s ∧ s < n
  | [], _, _, s, h => by simp at h
  | x :: r, p, h, s, hs => by
    simp only [risingFrom, Bool.and_eq_true, Bool.not_eq_true', Bool.or_eq_false_iff, decide_eq_false_iff_not] at h
    rcases List.mem_cons.1 hs with rfl | hs
    · omega
    · exact rising_range h.2 s hs
theorem edgesGo_range {n k : Int} : ∀ {l : List Edge} {p : Option Edge}, edgesGo n k p l = true → ∀ e ∈ l, 0 ≤ e.frm ∧ e.frm < n ∧ 0 ≤ e.to ∧ e.to < n
  | [], _, _, s, h => by simp at h
  | x :: r, p, h, e, he => by
    simp only [edgesGo, Bool.and_eq_true] at h
    rcases List.mem_cons.1 he with rfl | he
    · have h1 := rising_range h.1 e.frm (by simp)
      have h2 := rising_range h.2.1 e.to (by simp)
      exact ⟨h1.1, h1.2, h2.1, h2.2⟩
    · exact edgesGo_range h.2.2.2.2.2.2 e he
theorem Good.of {g : General} (h : checkS g = true) : Good g := by
  simp only [checkS, Bool.and_eq_true, Bool.not_eq_true', decide_eq_false_iff_not] at h
  obtain ⟨⟨⟨⟨⟨h1, h2⟩, h3⟩, h4⟩, h5⟩, h6⟩ := h
  exact ⟨by omega, by omega, rising_range h4, edgesGo_range h5, fun l hl s hs => rising_range (List.all_eq_true.1 h6 l hl) s hs⟩

theorem wordOk_loop {x : Word} {n : Nat} (h : wordOk x n = true) : x.loop.length ≠ 0 := by
  simp only [wordOk, Bool.and_eq_true, Bool.not_eq_true', decide_eq_false_iff_not] at h
  exact h.1.1
theorem places_pos {x : Word} (h : x.loop.length ≠ 0) : 0 < x.places ∧ x.stem.length < x.places ∧ x.places = x.stem.length + x.loop.length := by
  unfold Word.places; rw [if_neg h]; omega
theorem behind_lt {x : Word} (h : x.loop.length ≠ 0) {i : Nat} (hi : i < x.places) : 0 ≤ x.behind i ∧ x.behind i < x.places := by
  have := places_pos h
  unfold Word.behind
  rw [if_neg (by omega)]
  split <;> omega

def InBox (g : General) (x : Word) (p : Place) : Prop := 0 ≤ p.1 ∧ p.1 < g.states ∧ 0 ≤ p.2 ∧ p.2 < x.places
theorem succ_box {g : General} {x : Word} (hg : Good g) (hx : x.loop.length ≠ 0) {p : Place} (hp : InBox g x p) : ∀ q ∈ succ g x p, InBox g x q := by
  intro q hq
  simp only [succ, succOf, fromS, List.mem_map, List.mem_filter] at hq
  obtain ⟨e, ⟨⟨he, -⟩, -⟩, rfl⟩ := hq
  have h1 := hg.edges e he
  obtain ⟨_, _, h2, h3⟩ := hp
  have h4 := behind_lt hx (i := p.2.toNat) (by omega)
  exact ⟨h1.2.2.1, h1.2.2.2, h4.1, h4.2⟩

/-- what is reached -/
structure AllOf (g : General) (x : Word) (all : List Place) : Prop where
  nodup : all.Nodup
  init : ∀ s ∈ g.init, (s, 0) ∈ all
  closed : ∀ p ∈ all, ∀ q ∈ succ g x p, q ∈ all
  least : ∀ X : Place → Prop, (∀ s ∈ g.init, X (s, 0)) → (∀ p q, X p → q ∈ succ g x p → X q) → ∀ p ∈ all, X p
theorem AllOf.box {g : General} {x : Word} {all : List Place} (h : AllOf g x all) (hg : Good g) (hx : x.loop.length ≠ 0) : ∀ p ∈ all, InBox g x p :=
  h.least _ (fun s hs => by
    have := hg.init s hs
    have := places_pos hx
    exact ⟨by simp; omega, by simp; omega, by simp, by simp; omega⟩) (fun p q hp hq => succ_box hg hx hp q hq)
theorem box_len {g : General} {x : Word} {all : List Place} (hn : all.Nodup) (hg : Good g) (h : ∀ p ∈ all, InBox g x p) : all.length ≤ g.states.toNat * x.places :=
  nodup_box hn fun p hp => by obtain ⟨a, b, c, d⟩ := h p hp; exact ⟨a, by have := hg.s0; omega, c, d⟩

theorem Bag.lookRow {w : World} {base size : Nat} {el : TypeId} {pre : List (Value × List Value)} {α : Type} [DecidableEq α] {nl : List (α × Value)} {F : α → List Value} (h : Bag w base el size (pre ++ nl.map fun p => (p.2, F p.1))) (hz : ∀ a, alook nl a = none → F a = []) (a : α) : ∃ n, w.ownsRow base el size (aget nl nilS a) n (F a) := by
  unfold aget
  cases hl : alook nl a with
  | none => rw [hz a hl]; exact ⟨0, World.ownsRow_nil _ _ _ _⟩
  | some v => exact h.own (v, F a) (List.mem_append_right _ (List.mem_map.2 ⟨(a, v), alook_some_mem hl, rfl⟩))

theorem RowE.and {α : Type} {E : World → List Value → α → Prop} {Q : α → Prop} {size lo hi : Nat} {w : World} {v : Value} {xs : List α} (h : RowE E size lo hi w v xs) (hq : ∀ x ∈ xs, Q x) : RowE (fun w cs x => E w cs x ∧ Q x) size lo hi w v xs := by
  obtain ⟨a, cap, hv, hc, h⟩ := h
  refine ⟨a, cap, hv, hc, fun i x hx => ?_⟩
  obtain ⟨b, o, ha, hlo, hhi, cs, hl, hr, he⟩ := h i x hx
  exact ⟨b, o, ha, hlo, hhi, cs, hl, hr, he, hq x (List.mem_of_getElem? hx)⟩

/-- edges by the state from which they go, under way -/
structure ByV (w : World) (base bb n : Nat) (vs : List Value) (es : List Edge) : Prop where
  len : vs.length = n
  mb : Own w bb 24 vs
  bag : Bag w base 50 4 ((List.range n).map fun (s : Nat) => (vs.getD s nilS, (fromS es s).flatMap Edge.cells))

theorem fromS_snoc (es : List Edge) (e : Edge) (s : Int) : fromS (es ++ [e]) s = if e.frm = s then fromS es s ++ [e] else fromS es s := by
  simp only [fromS, List.filter_append]
  split
  · rename_i h; simp [h]
  · rename_i h; simp [h]

theorem ByV.set {w w' w'' : World} {base bb n : Nat} {vs : List Value} {es : List Edge} (h : ByV w base bb n vs es) {e : Edge} {f : Nat} (hf : e.frm = (f : Int)) (hfn : f < n) {v' : Value} {n' : Nat} (hb : base ≤ bb)
    (hc : Chg (fun k => some k = (vs.getD f nilS).ownBlock) w w') (hv : w'.ownsRow base 50 4 v' n' ((fromS es f).flatMap Edge.cells ++ e.cells)) (hnew : ∀ g, v'.ownBlock = some g → (vs.getD f nilS).ownBlock = some g ∨ w.heap.size ≤ g)
    (hc2 : Chg (fun k => k = bb) w' w'') (hm : Own w'' bb 24 (vs.set f v')) : ByV w'' base bb n (vs.set f v') (es ++ [e]) := by
  refine ⟨by simp [h.len], hm, ?_⟩
  have hi : ((List.range n).map fun (s : Nat) => (vs.getD s nilS, (fromS es s).flatMap Edge.cells))[f]? = some (vs.getD f nilS, (fromS es f).flatMap Edge.cells) := by simp [hfn]
  have hb1 := h.bag.set hi hc (fun b hb => .inl hb) hv hnew
  have heq : (List.range n).map (fun (s : Nat) => ((vs.set f v').getD s nilS, (fromS (es ++ [e]) s).flatMap Edge.cells)) = ((List.range n).map fun (s : Nat) => (vs.getD s nilS, (fromS es s).flatMap Edge.cells)).set f (v', (fromS es f).flatMap Edge.cells ++ e.cells) := by
    apply List.ext_getElem?
    intro i
    rw [List.getElem?_set]
    simp only [List.getElem?_map, List.length_map, List.length_range]
    by_cases hin : i < n
    · rw [List.getElem?_range hin]
      simp only [Option.map_some]
      rw [fromS_snoc, hf]
      by_cases hif : f = i
      · subst hif
        rw [if_pos rfl, if_pos rfl, if_pos hin]
        simp [h.len, hin]
      · rw [if_neg hif, if_neg (by omega)]
        simp [List.getElem?_set, hif]
    · rw [List.getElem?_eq_none (by simpa using hin)]
      by_cases hif : f = i
      · omega
      · rw [if_neg hif]; rfl
  rw [heq]
  have hm' : ∀ x ∈ ((List.range n).map fun (s : Nat) => (vs.getD s nilS, (fromS es s).flatMap Edge.cells)).set f (v', (fromS es f).flatMap Edge.cells ++ e.cells), x.1.ownBlock ≠ some bb := by
    refine hb1.ne (o := .cells vs.toArray 24 (0, 0)) ?_ (fun cs fr hh => by injection hh with _ h2; exact absurd h2 (by decide))
    refine hc.heap h.mb fun he => ?_
    exact h.bag.ne h.mb (fun cs fr hh => by injection hh with _ h2; exact absurd h2 (by decide)) _ (List.mem_of_getElem? hi) he.symm
  exact hb1.chg hc2 fun x hx b hb2 hs => by subst hs; exact hm' x hx hb2

abbrev EdgeRows (lo hi : Nat) := RowE (fun w cs (xs : List Edge) => ∃ u, cs = [u] ∧ Edges lo hi w u xs) 1 lo hi
theorem ByV.row {w : World} {base bb n : Nat} {vs : List Value} {es : List Edge} (h : ByV w base bb n vs es) (hb : base ≤ bb) (hwf : ∀ e ∈ es, e.wf) : EdgeRows base w.heap.size w (.slice (some ⟨bb, 0, none⟩) n n) ((List.range n).map fun (s : Nat) => fromS es s) := by
  have hlt := h.mb.lt
  refine row1R h.mb (fun i x hx => ?_) (by simp) (by simp) hb hlt
  rw [List.getElem?_map] at hx
  have hin : i < n := by
    rcases Nat.lt_or_ge i n with h1 | h1
    · exact h1
    · rw [List.getElem?_eq_none (by simpa using h1)] at hx; cases hx
  rw [List.getElem?_range hin] at hx
  simp only [Option.map_some, Option.some.injEq] at hx
  subst hx
  have hv : vs[i]? = some (vs.getD i nilS) := by simp [List.getD_eq_getElem?_getD, h.len, hin]
  obtain ⟨m, hm⟩ := h.bag.own (vs.getD i nilS, (fromS es i).flatMap Edge.cells) (List.mem_map.2 ⟨i, by simpa using hin, rfl⟩)
  exact ⟨_, hv, _, rfl, (ownsRow_row (f := Edge.cells) (fun _ => rfl) hm (by decide)).and fun e he => hwf e (List.mem_filter.1 he).1⟩
end Go.Au

namespace Go.Au
open Go Go.RowKit Go.MapKept
open Go.Maps (Keyed)

/-- a run of an automaton beside a word -/
structure RunV (lo hi : Nat) (w : World) (r : Nat) (g : General) (x : Word) (all : List Place) : Prop where
  h : ∃ pv iv ev sv stv lov mn av nl, Own w r 86 [pv, .int .i64 g.states, iv, ev, sv, stv, lov, .map (some mn), av] ∧ lo ≤ r ∧ r < hi ∧ lo ≤ mn ∧ mn < hi ∧ GenV 0 hi w pv iv ev sv g ∧
    RowE (fun _ cs p => cs = pcells p) 2 0 hi w av all ∧ MapE Proofs.Tryd.prog 90 pval (fun v : Value => v) w mn nl ∧ ∀ p ∈ all, RowE (fun _ cs p => cs = pcells p) 2 0 hi w (aget nl nilS p) (succ g x p)

theorem behindV_c {w : World} {lo hi : Nat} {sv lv : Value} {x : Word} (hv : WordV lo hi w sv lv x) (i : Nat) (hi : i < 4611686018427387904) :
    Calls Proofs.Tryd.prog 44 [.agg #[sv, lv], .int .i64 i].toArray w (Ret fun r w' => r = .int .i64 (x.behind i) ∧ Kp w w') := by
  obtain ⟨a1, c1, rfl, -⟩ := hv.stem
  obtain ⟨a2, c2, rfl, -⟩ := hv.loop
  exact behind_c a1 a2 c1 c2 x hv.ls hv.ll i hi
def putP (all : List Place) (p : Place) : List Place := if p ∈ all then all else all ++ [p]
theorem mem_putP {all : List Place} {p q : Place} : q ∈ putP all p ↔ q ∈ all ∨ q = p := by
  unfold putP
  split
  · rename_i h
    exact ⟨.inl, fun h' => h'.elim id fun e => e ▸ h⟩
  · simp
theorem nodup_putP {all : List Place} {p : Place} (h : all.Nodup) : (putP all p).Nodup := by
  unfold putP
  split
  · exact h
  · rename_i hp
    rw [List.nodup_append]
    refine ⟨h, by simp, fun a ha b hb he => ?_⟩
    simp at hb
    exact hp (hb ▸ he ▸ ha)
theorem take_putP {all : List Place} {p : Place} {i : Nat} (h : i ≤ all.length) : (putP all p).take i = all.take i := by
  unfold putP
  split
  · rfl
  · rw [List.take_append_of_le_length h]
theorem len_putP {all : List Place} {p : Place} : all.length ≤ (putP all p).length := by
  unfold putP
  split <;> simp

/-- what is reached, under way: i places are done -/
structure Reach (g : General) (x : Word) (i : Nat) (all : List Place) : Prop where
  nodup : all.Nodup
  closed : ∀ p ∈ all.take i, ∀ q ∈ succ g x p, q ∈ all
  least : ∀ X : Place → Prop, (∀ s ∈ g.init, X (s, 0)) → (∀ p q, X p → q ∈ succ g x p → X q) → ∀ p ∈ all, X p
theorem Reach.put {g : General} {x : Word} {i : Nat} {all : List Place} {q : Place} (h : Reach g x i all) (hi : i ≤ all.length) (hq : (∃ s ∈ g.init, q = (s, 0)) ∨ ∃ p ∈ all, q ∈ succ g x p) : Reach g x i (putP all q) :=
  ⟨nodup_putP h.nodup, fun p hp a ha => mem_putP.2 (.inl (h.closed p (by rwa [take_putP hi] at hp) a ha)), fun X h1 h2 p hp => by
    rcases mem_putP.1 hp with hp | rfl
    · exact h.least X h1 h2 p hp
    · rcases hq with ⟨s, hs, rfl⟩ | ⟨p', hp', hq⟩
      · exact h1 s hs
      · exact h2 _ _ (h.least X h1 h2 p' hp') hq⟩
theorem Reach.box {g : General} {x : Word} {i : Nat} {all : List Place} (h : Reach g x i all) (hg : Good g) (hx : x.loop.length ≠ 0) : ∀ p ∈ all, InBox g x p :=
  h.least _ (fun s hs => by
    have := hg.init s hs
    have := places_pos hx
    exact ⟨by simp; omega, by simp; omega, by simp, by simp; omega⟩) (fun p q hp hq => succ_box hg hx hp q hq)
theorem Reach.len {g : General} {x : Word} {i : Nat} {all : List Place} (h : Reach g x i all) (hg : Good g) (hx : x.loop.length ≠ 0) (hP : x.places < 1048576) : all.length < 1099511627776 := by
  have h1 := box_len h.nodup hg (h.box hg hx)
  have h2 : g.states.toNat * x.places ≤ 65536 * 1048576 := Nat.mul_le_mul (by have := hg.s1; omega) (by omega)
  omega

def doneS (g : General) (x : Word) (dn : List Place) (a : Place) : List Place := if a ∈ dn then succ g x a else []
def curS (g : General) (x : Word) (dn : List Place) (p : Place) (sj : List Place) (a : Place) : List Place := if a = p then sj else doneS g x dn a

theorem curS_done (g : General) (x : Word) (dn : List Place) (p : Place) : curS g x dn p (succ g x p) = doneS g x (dn ++ [p]) := by
  funext a
  unfold curS doneS
  by_cases h : a = p
  · rw [if_pos h, if_pos (by simp [h]), h]
  · rw [if_neg h]
    simp [h]
abbrev NextE (w : World) (mn : Nat) (nl : List (Place × Value)) := MapE Proofs.Tryd.prog 90 pval (fun v : Value => v) w mn nl

/-- the walk is at its places -/
structure RunS (w8 w : World) (base p9 p5 r ms mn : Nat) (cs : List Value) (av : Value) (all : List Place) (nl : List (Place × Value)) (F : Place → List Place) (pre : List (Value × List Value)) : Prop where
  put : PutV w base p9 p5 r ms mn cs av all (pre ++ nl.map fun a => (a.2, flat (F a.1)))
  next : NextE w mn nl
  none : ∀ a, alook nl a = none → F a = []
  chg : Chg (fun k => k = r ∨ k = mn) w8 w
  ne : mn ≠ ms
  low : w8.heap.size ≤ base ∧ w8.heap.size ≤ ms

theorem RunS.step {w8 w w' : World} {base p9 p5 r ms mn : Nat} {cs : List Value} {av av' : Value} {all all' : List Place} {nl : List (Place × Value)} {F : Place → List Place} {pre : List (Value × List Value)} (h : RunS w8 w base p9 p5 r ms mn cs av all nl F pre)
    (hp : PutV w' base p9 p5 r ms mn cs av' all' (pre ++ nl.map fun a => (a.2, flat (F a.1)))) (hc : Chg (fun k => k = r ∨ k = ms ∨ some k = av.ownBlock) w w') : RunS w8 w' base p9 p5 r ms mn cs av' all' nl F pre := by
  obtain ⟨es, clock, hm, -⟩ := h.next.h
  refine ⟨hp, h.next.chg hc fun hh => ?_, h.none, h.chg.newT hc ?_, h.ne, h.low⟩
  · rcases hh with rfl | rfl | hh
    · rw [show w.heap[mn]? = _ from h.put.mr] at hm; cases hm
    · exact h.ne rfl
    · exact h.put.bag.ne hm (by simp) _ List.mem_cons_self hh.symm
  · rintro k (rfl | rfl | hk) 
    · exact .inl (.inl rfl)
    · exact .inr h.low.2
    · have := h.put.bag.lt _ List.mem_cons_self k hk.symm
      have := h.low.1; exact .inr (by omega)

theorem PutV.kp {w w' : World} {base p9 p5 r ms mn : Nat} {cs : List Value} {av : Value} {all : List Place} {L : List (Value × List Value)} (h : PutV w base p9 p5 r ms mn cs av all L) (k : Kp w w') : PutV w' base p9 p5 r ms mn cs av all L :=
  ⟨k.own h.m9 id, k.own h.m5 id, k.own h.mr id, h.len, h.seen.chg k id, h.bag.kp k, Nat.le_trans h.base k.size⟩
theorem RunS.kp {w8 w w' : World} {base p9 p5 r ms mn : Nat} {cs : List Value} {av : Value} {all : List Place} {nl : List (Place × Value)} {F : Place → List Place} {pre : List (Value × List Value)} (h : RunS w8 w base p9 p5 r ms mn cs av all nl F pre) (k : Kp w w') : RunS w8 w' base p9 p5 r ms mn cs av all nl F pre :=
  ⟨h.put.kp k, h.next.chg k id, h.none, h.chg.newT k fun _ hf => hf.elim, h.ne, h.low⟩
theorem RunS.row {w8 w : World} {base p9 p5 r ms mn : Nat} {cs : List Value} {av : Value} {all : List Place} {nl : List (Place × Value)} {F : Place → List Place} {pre : List (Value × List Value)} (h : RunS w8 w base p9 p5 r ms mn cs av all nl F pre) (p : Place) : w.ownsRow base 90 2 (aget nl nilS p) (F p).length (flat (F p)) := by
  obtain ⟨n, hn⟩ := Bag.lookRow (pre := (av, flat all) :: pre) (F := fun a => flat (F a)) h.put.bag (fun a ha => by rw [h.none a ha]; rfl) p
  have : n = (F p).length := by
    have := hn.1
    simp only [flat] at this
    rw [flat_len (size := 2) (fun x => rfl)] at this
    omega
  rwa [this] at hn
theorem RunS.next_ {w8 w w' : World} {base p9 p5 r ms mn : Nat} {cs : List Value} {av v' : Value} {all : List Place} {nl : List (Place × Value)} {F : Place → List Place} {pre : List (Value × List Value)} {p q : Place} {n' : Nat} (h : RunS w8 w base p9 p5 r ms mn cs av all nl F pre)
    (hc : Chg (fun b => b = mn ∨ some b = (aget nl nilS p).ownBlock) w w') (hm : NextE w' mn (aput nl p v')) (hrow : w'.ownsRow base 90 2 v' n' (flat (F p) ++ pcells q)) (hnew : ∀ g, v'.ownBlock = some g → (aget nl nilS p).ownBlock = some g ∨ w.heap.size ≤ g) :
    RunS w8 w' base p9 p5 r ms mn cs av all (aput nl p v') (fun a => if a = p then F p ++ [q] else F a) pre := by
  have hold := h.row p
  obtain ⟨es, clock, hmn, -⟩ := h.next.h
  obtain ⟨es2, clock2, hms, -⟩ := h.put.seen.h
  have hcell : ∀ {b t cs}, Own w b t cs → t ≠ 90 → Own w' b t cs := fun {b t cs} ho ht => hc.own ho fun hk => by
    rcases hk with hk | hk
    · exact h.next.ne ho hk
    · exact ownsRow_ne hold ho (fun cs fr hh => by injection hh with _ h2; exact ht h2) hk.symm
  refine ⟨⟨hcell h.put.m9 (by decide), hcell h.put.m5 (by decide), hcell h.put.mr (by decide), h.put.len, h.put.seen.chg hc ?_, ?_, Nat.le_trans h.put.base hc.size⟩, hm, ?_, h.chg.newT hc ?_, h.ne, h.low⟩
  · rintro (hk | hk)
    · exact h.ne hk.symm
    · exact ownsRow_ne hold hms (by simp) hk.symm
  · have hb := Bag.aput (pre := (av, flat all) :: pre) (F := fun a => flat (F a)) (x := p) (xs' := flat (F p) ++ pcells q) h.next.nodup h.put.bag hc (fun b hb => ?_) hrow hnew
    · have heq : (fun a : Place × Value => (a.2, flat (if a.1 = p then F p ++ [q] else F a.1))) = fun a => (a.2, if a.1 = p then flat (F p) ++ pcells q else flat (F a.1)) := by
        funext a
        split
        · rw [flat_snoc]
        · rfl
      rw [heq]
      exact hb
    · rcases hb with rfl | hb
      · exact .inr (h.put.bag.ne hmn (by simp))
      · exact .inl hb
  · intro a ha
    rw [alook_aput] at ha
    by_cases hap : a = p
    · subst hap
      rw [if_pos rfl] at ha
      cases ha
    · rw [if_neg (Ne.symm hap)] at ha
      rw [if_neg hap]
      exact h.none a ha
  · rintro k (hk | hk)
    · exact .inl (.inr hk)
    · have := (hold.lt k hk.symm).1
      have := h.low.1
      exact .inr (by omega)

set_option maxHeartbeats 4000000 in
theorem beside_c {w : World} {pv iv ev sv stv lov : Value} {g : General} {x : Word} (hv : GenV 0 w.heap.size w pv iv ev sv g) (hw : WordV 0 w.heap.size w stv lov x) (hg : Good g) (hx : x.loop.length ≠ 0)
    (hE : g.edges.length < 1099511627776) (hP : x.places < 1048576) :
    Calls Proofs.Tryd.prog 27 [.agg #[pv, .int .i64 g.states, iv, ev, sv], .agg #[stv, lov]].toArray w (Ret fun v w' => Kp w w' ∧ ∃ r all, v = pt r 0 ∧ AllOf g x all ∧ RunV w.heap.size w'.heap.size w' r g x all) := by
  obtain ⟨ea, ec, he, hec, hedges⟩ := id hv.edges
  obtain ⟨ia, ic, hi, hic, hinit⟩ := id hv.init
  subst he hi
  refine call agree Proofs.Tryd.func27 rfl Proofs.Tryd.ntmps27 (by kernel_rfl) ?_
  refine nd fun p2 w1 e1 s1 k1 m1 => ?_
  have m2 : Own w1 p2 33 [pv, .int .i64 g.states, .slice ia g.init.length ic, .slice ea g.edges.length ec, sv] := m1
  refine nd fun p3 w2 e2 s2 k2 m3 => ?_
  have m3 : Own w2 p3 29 [stv, lov] := m3
  have m2 := k2.own m2 id
  refine ld agree (v := .agg #[pv, .int .i64 g.states, .slice ia g.init.length ic, .slice ea g.edges.length ec, sv]) (Own.at_ (xs := [pv, .int .i64 g.states, .slice ia g.init.length ic, .slice ea g.edges.length ec, sv]) (o := 0) m2 rfl) (by rfl) ?_
  refine ld agree (v := .agg #[stv, lov]) (Own.at_ (xs := [stv, lov]) (o := 0) m3 rfl) (by rfl) ?_
  refine nd fun mn w3 e3 s3 k3 mmn => ?_
  refine nd fun r w4 e4 s4 k4 mr => ?_
  have mr : Own w4 r 86 [pv, .int .i64 g.states, .slice ia g.init.length ic, .slice ea g.edges.length ec, sv, stv, lov, .map (some mn), nilS] := mr
  refine nd fun p5 w5 e5 s5 k5 m5 => ?_
  have m5 : Own w5 p5 63 [.pointer none] := m5
  refine st agree m5 rfl (Nat.le_refl 1) rfl ?_
  intro w6 s6 k6 m6
  have m6 : Own w6 p5 63 [pt r 0] := m6
  have k16 : Kp w1 w6 := k2.trans (k3.trans (k4.trans (k5.new e5 k6)))
  have k26 : Kp w2 w6 := k3.trans (k4.trans (k5.new e5 k6))
  have k36 : Kp w3 w6 := k4.trans (k5.new e5 k6)
  have k46 : Kp w4 w6 := k5.new e5 k6
  refine ld agree (Own.at_ (xs := [.int .i64 g.states]) (k26.own m2 id) rfl) (by rfl) ?_
  have h0 := hg.s0
  have h1 := hg.s1
  refine ms agree rfl rfl rfl rfl rfl rfl h0 (Int.le_refl _) (by show (24 : Int) * _ ≤ _; omega) (by omega) fun bb w7 e7 s7 k7 m7 => ?_
  obtain ⟨n, hn⟩ : ∃ n : Nat, g.states = n := ⟨g.states.toNat, by omega⟩
  have m7 : Own w7 bb 24 (rep [nilS] g.states.toNat) := m7
  rw [hn, Int.toNat_natCast] at m7
  have k27 : Kp w2 w7 := k26.trans k7
  have k17 : Kp w1 w7 := k16.trans k7
  refine ld agree (Own.at_ (xs := [.slice ea g.edges.length ec]) (k27.own m2 id) rfl) (by rfl) ?_
  have hrep : ∀ n, rep [nilS] n = List.replicate n nilS := by
    intro n
    induction n with
    | zero => rfl
    | succ n ih => simp [rep, ih, List.replicate_succ]
  have hby0 : ByV w7 bb bb n (rep [nilS] n) [] := by
    refine ⟨by simp [hrep], m7, ⟨fun y hy => ?_, ?_⟩⟩
    · obtain ⟨s, hs, rfl⟩ := List.mem_map.1 hy
      refine ⟨0, ?_⟩
      simp only [hrep, fromS, List.filter_nil, List.flatMap_nil]
      have : (List.replicate n nilS).getD s nilS = nilS := by simp [List.getD_eq_getElem?_getD, List.getElem?_replicate]; split <;> rfl
      rw [this]
      exact World.ownsRow_nil _ _ _ _
    · rw [List.pairwise_map]
      refine List.pairwise_of_forall fun a b c hc => ?_
      have : (rep [nilS] n).getD a nilS = nilS := by simp [hrep, List.getD_eq_getElem?_getD, List.getElem?_replicate]; split <;> rfl
      simp only [this, Value.ownBlock] at hc
      cases hc
  have k67 : Kp w6 w7 := k7
  refine loop agree (σ := Nat × List Value) (fun t => [(2, pt p2 0), (3, pt p3 0), (5, pt p5 0), (6, .slice (some ⟨bb, 0, none⟩) n n), (27, .slice ea g.edges.length ec), (28, .int .i64 g.edges.length), (29, .int .i64 t.1)])
    (fun t w' => t.1 ≤ g.edges.length ∧ Kp w6 w' ∧ ByV w' bb bb n t.2 (g.edges.take t.1)) (fun t => g.edges.length - t.1) (0, rep [nilS] n)
    ⟨rfl, rfl, rfl, ?_, rfl, rfl, rfl, trivial⟩ ⟨by omega, k67, by simpa using hby0⟩ ?_
  · show Value.slice _ g.states.toNat g.states.toNat = _
    rw [hn, Int.toNat_natCast]
  rintro ⟨i, vs⟩ env w8 ⟨hi, k68, hby⟩
  have k18 : Kp w1 w8 := k16.trans k68
  refine sp (fun hlt => ?_) (fun hge => ?_)
  · have hi' : i < g.edges.length := by simp only at hlt; omega
    obtain ⟨b, o, rfl, hlo, hhi, cs, hcs, hrd, rfl, hwf⟩ := hedges i g.edges[i] (by simp)
    have her := hg.edges g.edges[i] (by simp)
    obtain ⟨f, hf⟩ : ∃ f : Nat, g.edges[i].frm = f := ⟨g.edges[i].frm.toNat, by omega⟩
    have hfn : f < n := by omega
    refine ne ⟨by omega, hlt⟩ ?_
    refine ld agree (v := g.edges[i].val) ((k1.trans k18).range hrd id) rfl ?_
    refine nd fun q w9 e9 s9 k9 m9 => ?_
    refine st agree (cs := [.int .i64 0, .int .i64 0, .int .u16 0, .int .u16 0]) m9 rfl (Nat.le_refl 4) rfl ?_
    intro w10 s10 k10 m10
    have m10 : Own w10 q 50 g.edges[i].cells := m10
    have k810 : Kp w8 w10 := k9.new e9 k10
    have hmb := k810.own hby.mb id
    have hbag := hby.bag.kp k810
    obtain ⟨m, hrow⟩ := hbag.own (vs.getD f nilS, (fromS (g.edges.take i) f).flatMap Edge.cells) (List.mem_map.2 ⟨f, by simpa using hfn, rfl⟩)
    have hm : m = (fromS (g.edges.take i) f).length := by
      have := hrow.1
      rw [flat_len (size := 4) (fun e => rfl)] at this
      omega
    subst hm
    have hml : (fromS (g.edges.take i) f).length ≤ i := by
      have h1 := List.length_filter_le (fun e : Edge => decide (e.frm = (f : Int))) (g.edges.take i)
      simp only [List.length_take] at h1
      unfold fromS
      omega
    have hltB : ∀ k, (vs.getD f nilS).ownBlock = some k → k < w10.heap.size := fun k hk => (hrow.lt k hk).2
    have hltB8 : ∀ k, (vs.getD f nilS).ownBlock = some k → k < w8.heap.size := fun k hk => (hby.bag.lt _ (List.mem_map.2 ⟨f, by simpa using hfn, rfl⟩) k hk).2
    have hnq : some q ≠ (vs.getD f nilS).ownBlock := fun he => by have := hltB8 q he.symm; omega
    have hnb : some bb ≠ (vs.getD f nilS).ownBlock := fun he => ownsRow_ne hrow hmb (fun cs fr hh => by injection hh with _ h2; exact absurd h2 (by decide)) he.symm
    have hvf : vs[f]? = some (vs.getD f nilS) := by simp [List.getD_eq_getElem?_getD, hby.len, hfn]
    obtain ⟨va, vc, hvs⟩ := ownsRow_form hrow
    have hpre := preAppR w10 (vs.getD f nilS) ((fromS (g.edges.take i) f).length * 4) g.edges[i].cells
    refine drawnR agree mixed 12 (by kernel_rfl) _ hpre ?_
    conv => whnf
    refine ldr hpre agree rfl rfl (fun W h _ => h.chg.range (Own.at_ (xs := [.int .i64 g.edges[i].frm]) m10 rfl) hnq) (by rfl) fun _ => ?_
    conv => whnf
    refine ldr hpre agree rfl rfl (fun W h _ => h.chg.range (Own.at_ (xs := [.int .i64 g.edges[i].frm]) m10 rfl) hnq) (by rfl) fun _ => ?_
    conv => whnf
    refine ne ⟨by omega, by omega⟩ ?_
    conv => whnf
    refine ldr (v := vs.getD f nilS) hpre agree rfl rfl (fun W h _ => h.chg.range (Own.one hmb hvf (by show 0 + g.edges[i].frm.toNat * 1 = f; omega)) hnb) (by rfl) fun _ => ?_
    conv => whnf
    refine ldr (v := g.edges[i].val) hpre agree rfl rfl (fun W h _ => h.chg.range (Own.at_ (xs := g.edges[i].cells) (o := 0) m10 rfl) hnq) (by rfl) fun _ => ?_
    conv => whnf
    refine bsr hpre rfl rfl rfl rfl rfl (by decide) (fun b o W W' hb ho hS => hS.chg.heap ho fun hc => by have := hltB b hc.symm; omega) (fun W hS => hS.chg.size) fun q2 D hD => ?_
    conv => whnf
    refine apr (m := 1) (news := g.edges[i].cells) agree rfl rfl rfl rfl rfl rfl rfl (by decide) hrow rfl (fun W hS hDn => Own.at_ (xs := g.edges[i].cells) (o := 0) (hD W (hDn 9 (by kernel_rfl))).1 rfl) rfl (by simp only [maxLen]; omega) (by show (_ + 1) * 24 ≤ _; omega) (by have := k810.size; have := hby.mb.lt; omega) fun v' D2 hD2 => ?_
    conv => whnf
    refine ne ⟨by omega, by omega⟩ ?_
    conv => whnf
    intro W hS hDn
    obtain ⟨hown', hnew⟩ := hD2 W (hDn 10)
    have hmbW := hS.chg.own hmb hnb
    obtain ⟨a', cap', rfl⟩ := ownsRow_form hown'
    refine st agree hmbW (by rfl) ?_ rfl ?_
    · show 0 + g.edges[i].frm.toNat * 1 + 1 ≤ vs.length
      rw [hby.len]; omega
    intro w11 s11 k11 m11
    refine aw (by omega) (by omega) ?_
    have hby' : ByV w8 bb bb n vs (g.edges.take i) := hby
    have hlay : lay vs (0 + g.edges[i].frm.toNat * 1) (cellsL (.slice a' ((fromS (g.edges.take i) f).length + 1) cap')) = vs.set f (.slice a' ((fromS (g.edges.take i) f).length + 1) cap') := by
      show vs.set (0 + g.edges[i].frm.toNat * 1) _ = _
      rw [show 0 + g.edges[i].frm.toNat * 1 = f by omega]
    have m11 : Own w11 bb 24 (vs.set f (.slice a' ((fromS (g.edges.take i) f).length + 1) cap')) := by rw [← hlay]; exact m11
    have hby10 : ByV w10 bb bb n vs (g.edges.take i) := ⟨hby.len, hmb, hbag⟩
    have hby11 := hby10.set hf hfn (Nat.le_refl _) hS.chg hown' hnew k11 m11
    refine again (i + 1, vs.set f (.slice a' ((fromS (g.edges.take i) f).length + 1) cap')) ⟨rfl, rfl, rfl, rfl, rfl, rfl, rfl, trivial⟩ ⟨by simp only; omega, ?_, ?_⟩ (by simp only; omega)
    · refine Chg.newS (T := fun k => k = bb ∨ some k = (vs.getD f nilS).ownBlock) (k68.trans k810) ((hS.chg.mono fun _ => .inr).trans (k11.mono fun _ => .inl)) fun k hk => ?_
      rcases hk with rfl | hk
      · omega
      · have := (hbag.lt _ (List.mem_map.2 ⟨f, by simpa using hfn, rfl⟩) k hk.symm).1
        omega
    · rw [show g.edges.take (i + 1) = g.edges.take i ++ [g.edges[i]] by simp]
      exact hby11
  -- behind the first loop
  have hall : g.edges.take i = g.edges := List.take_of_length_le (by simp only at hge; omega)
  rw [hall] at hby
  have hwf : ∀ e ∈ g.edges, e.wf := fun e he => by
    obtain ⟨j, hj, rfl⟩ := List.getElem_of_mem he
    obtain ⟨b, o, _, _, _, cs, _, _, _, hwf⟩ := hedges j g.edges[j] (by simp)
    exact hwf
  have hrows := hby.row (Nat.le_refl _) hwf
  have k28 : Kp w2 w8 := k26.trans k68
  refine nd fun ms w9 e9 s9 k9 mms => ?_
  refine nd fun p9 w10 e10 s10 k10 m9 => ?_
  have m9 : Own w10 p9 88 [.map none] := m9
  refine st agree m9 rfl (Nat.le_refl 1) rfl ?_
  intro w11 s11 k11 m11
  have m9 : Own w11 p9 88 [.map (some ms)] := m11
  have k8b : Kp w8 w11 := k9.trans (k10.new e10 k11)
  refine ld agree (Own.at_ (xs := [.slice ia g.init.length ic]) ((k28.trans k8b).own m2 id) rfl) (by rfl) ?_
  have hput0 : RunS w8 w11 w11.heap.size p9 p5 r ms mn [pv, .int .i64 g.states, .slice ia g.init.length ic, .slice ea g.edges.length ec, sv, stv, lov] nilS [] [] (fun _ => []) [] := by
    have k9b : Kp w9 w11 := k10.new e10 k11
    refine ⟨⟨m9, k8b.own (k68.own m6 id) id, k8b.own (k68.own (k46.own mr id) id) id, rfl, (MapE.made mms pval_inj).chg k9b id, ?_, Nat.le_refl _⟩, (((MapE.made mmn pval_inj).chg k36 id).chg k68 id).chg k8b id, fun _ _ => rfl, k8b.mono fun _ hf => hf.elim, ?_, ?_⟩
    · exact (Bag.nil).consNil
    · have := lt_of_heap mmn; have := k36.size; have := k68.size; omega
    · exact ⟨k8b.size, by omega⟩
  refine loop agree (σ := Nat × Value × List Place) (fun t => [(3, pt p3 0), (5, pt p5 0), (6, .slice (some ⟨bb, 0, none⟩) n n), (10, .func (.func 43) #[] #[pt p9 0, pt p5 0]), (49, .slice ia g.init.length ic), (50, .int .i64 g.init.length), (51, .int .i64 t.1)])
    (fun t w' => t.1 ≤ g.init.length ∧ Reach g x 0 t.2.2 ∧ (∀ s ∈ g.init.take t.1, (s, 0) ∈ t.2.2) ∧ RunS w8 w' w11.heap.size p9 p5 r ms mn [pv, .int .i64 g.states, .slice ia g.init.length ic, .slice ea g.edges.length ec, sv, stv, lov] t.2.1 t.2.2 [] (fun _ => []) []) (fun t => g.init.length - t.1) (0, nilS, [])
    ⟨rfl, rfl, rfl, rfl, rfl, rfl, rfl, trivial⟩ ⟨by omega, ⟨by simp, by simp, by simp⟩, by simp, hput0⟩ ?_
  rintro ⟨j, av, all⟩ env2 w12 ⟨hj, hR, hinj, hS⟩
  have hlow := hS.low
  have hli := hv.li
  have keep : ∀ {W b t cs}, Chg (fun k => k = r ∨ k = mn) w8 W → Own w8 b t cs → b ≠ r → b ≠ mn → Own W b t cs := fun h m h1 h2 => h.own m fun hh => hh.elim h1 h2
  refine sp (fun hlt => ?_) (fun hge2 => ?_)
  · have hj' : j < g.init.length := by simp only at hlt; omega
    obtain ⟨b, o, rfl, hlo, hhi, cs, hcs, hrd, rfl⟩ := hinit j g.init[j] (by simp)
    have hir := hg.init g.init[j] (by simp)
    refine ne ⟨by omega, hlt⟩ ?_
    have hn12 : ∀ k, k < w.heap.size → ¬ (k = r ∨ k = mn) := fun k hk => by
      have := k1.size; have := k2.size; have := lt_of_heap mmn; omega
    refine ld agree (hS.chg.range ((k1.trans (k16.trans k68)).range hrd id) (hn12 _ hhi)) (by rfl) ?_
    have hbx : I64 ((g.init[j], 0) : Place).1 ∧ I64 ((g.init[j], 0) : Place).2 := ⟨⟨by simp; omega, by simp; omega⟩, ⟨by simp, by simp⟩⟩
    have hlen := hR.len hg hx hP
    have hcall := put_c hS.put hbx.1 hbx.2 hlen
    refine cl callPut hcall ?_
    rintro v' w13 ⟨av', hp', hc', hnew'⟩
    refine aw (by omega) (by omega) ?_
    refine again (j + 1, av', putP all (g.init[j], 0)) ⟨rfl, rfl, rfl, rfl, rfl, rfl, rfl, trivial⟩ ⟨by simp only; omega, hR.put (Nat.zero_le _) (.inl ⟨_, by simp, rfl⟩), ?_, hS.step hp' hc'⟩ (by simp only; omega)
    intro s hs
    rw [show g.init.take (j + 1) = g.init.take j ++ [g.init[j]] by simp] at hs
    rcases List.mem_append.1 hs with hs | hs
    · exact mem_putP.2 (.inl (hinj s hs))
    · simp at hs
      exact mem_putP.2 (.inr (by rw [hs]))
  have hinit0 : ∀ s ∈ g.init, (s, 0) ∈ all := by
    rw [List.take_of_length_le (by simp only at hge2; omega)] at hinj
    exact hinj
  have hrows8 : EdgeRows bb w8.heap.size w8 (.slice (some ⟨bb, 0, none⟩) n n) ((List.range n).map fun (s : Nat) => fromS g.edges s) := hrows
  have hkeys : ∀ {W}, Chg (fun k => k = r ∨ k = mn) w8 W → ∀ {lo v es}, bb ≤ lo → Edges lo w8.heap.size w8 v es → Edges lo w8.heap.size W v es := fun h _ _ _ hlo hr => hr.chg h (fun k h1 h2 hh => by
    have := lt_of_heap mmn; have := mr.lt; have := k46.size; omega) (fun _ _ h => h)
  have hF0 : (fun _ : Place => ([] : List Place)) = doneS g x (all.take 0) := by funext a; simp [doneS]
  rw [hF0] at hS
  refine loop agree (σ := Nat × Value × List Place × List (Place × Value)) (fun t => [(3, pt p3 0), (5, pt p5 0), (6, .slice (some ⟨bb, 0, none⟩) n n), (10, .func (.func 43) #[] #[pt p9 0, pt p5 0]), (13, .int .i64 t.1)])
    (fun t w' => t.1 ≤ t.2.2.1.length ∧ Reach g x t.1 t.2.2.1 ∧ (∀ s ∈ g.init, (s, 0) ∈ t.2.2.1) ∧ RunS w8 w' w11.heap.size p9 p5 r ms mn [pv, .int .i64 g.states, .slice ia g.init.length ic, .slice ea g.edges.length ec, sv, stv, lov] t.2.1 t.2.2.1 t.2.2.2 (doneS g x (t.2.2.1.take t.1)) [])
    (fun t => g.states.toNat * x.places - t.1) (0, av, all, [])
    ⟨rfl, rfl, rfl, rfl, rfl, trivial⟩ ⟨by omega, hR, hinit0, hS⟩ ?_
  clear hS hR hinit0 hinj hF0 hge2 keep
  rintro ⟨i, av, all, nl⟩ env3 w14 ⟨hi, hR, hI, hS⟩
  simp only at hi hR hI hS
  have hlen := hR.len hg hx hP
  obtain ⟨ma, hav⟩ := hS.put.bag.own _ List.mem_cons_self
  obtain ⟨ava, avc, rfl⟩ := ownsRow_form hav
  have hma : ma = all.length := by
    have := hav.1
    simp only [flat] at this
    rw [flat_len (size := 2) (fun x => rfl)] at this
    omega
  subst hma
  refine ld agree (Own.at_ (xs := [pt r 0]) hS.put.m5 rfl) (by rfl) ?_
  refine ld agree (Own.at_ (xs := [.slice ava all.length avc]) hS.put.mr rfl) (by rfl) ?_
  refine sp (fun hlt => ?_) (fun hge2 => ?_)
  · have hi' : i < all.length := by omega
    have hbox := hR.box hg hx all[i] (by simp)
    obtain ⟨hb1, hb2, hb3, hb4⟩ := hbox
    obtain ⟨f, hf⟩ : ∃ f : Nat, all[i].1 = f := ⟨all[i].1.toNat, by omega⟩
    obtain ⟨at_, hat⟩ : ∃ a : Nat, all[i].2 = a := ⟨all[i].2.toNat, by omega⟩
    have hav' := ownsRow_row (f := pcells) (fun _ => rfl) hav (by decide)
    obtain ⟨a', c', he', hcap', hread⟩ := hav'
    obtain ⟨b, o, rfl, hlo, hhi, cs, hcs, hrd, rfl⟩ := hread i all[i] (by simp)
    have he1 := (Value.slice.inj he').1
    have he3 := (Value.slice.inj he').2.2
    subst he1 he3
    refine ld agree (Own.at_ (xs := [pt r 0]) hS.put.m5 rfl) (by rfl) ?_
    refine ld agree (Own.at_ (xs := [.slice (some ⟨b, o, none⟩) all.length avc]) hS.put.mr rfl) (by rfl) ?_
    refine ne ⟨by omega, hlt⟩ ?_
    refine ld agree (v := pval all[i]) hrd rfl ?_
    refine nd fun p14 w15 e15 s15 k15 m15 => ?_
    refine st agree (cs := [.int .i64 0, .int .i64 0]) m15 rfl (Nat.le_refl 2) rfl ?_
    intro w16 s16 k16' m16
    have m14 : Own w16 p14 90 (pcells all[i]) := m16
    have kin : Kp w14 w16 := k15.new e15 k16'
    refine ld agree (Own.at_ (xs := [.int .i64 all[i].1]) m14 rfl) (by rfl) ?_
    refine ne ⟨by omega, by omega⟩ ?_
    obtain ⟨_, _, hrowE, _, hrowsE⟩ := id hrows8
    have h1 := (Value.slice.inj hrowE).1
    subst h1
    obtain ⟨b2, o2, hbo, hlo2, hhi2, cs2, hcs2, hrd2, u, rfl, hu⟩ := hrowsE f (fromS g.edges f) (by rw [List.getElem?_map, List.getElem?_range (by omega)]; rfl)
    have hbo1 : bb = b2 := congrArg Addr.block (Option.some.inj hbo)
    have hbo2 : 0 = o2 := congrArg Addr.off (Option.some.inj hbo)
    subst hbo1 hbo2
    have hCw : Chg (fun k => k = r ∨ k = mn) w8 w16 := hS.chg.newT kin fun _ hf => hf.elim
    have hlo8 : ∀ k, bb ≤ k → ¬ (k = r ∨ k = mn) := fun k hk => by
      have := lt_of_heap mmn; have := mr.lt; have := k46.size; omega
    refine ld agree (v := u) (hCw.range (by have := hrd2; rw [show 0 + f * 1 = 0 + all[i].1.toNat * 1 by omega] at this; exact this) (hlo8 _ hlo2)) (by rfl) ?_
    obtain ⟨ua, uc, rfl, huc, hel⟩ := id hu
    have hesl : (fromS g.edges f).length ≤ g.edges.length := List.length_filter_le _ _
    have hnin : all[i] ∉ all.take i := fun hm => by
      obtain ⟨k, hk, he⟩ := List.getElem_of_mem hm
      have hk' : k < i := by simp at hk; omega
      rw [List.getElem_take] at he
      exact absurd ((List.nodup_iff_pairwise_ne.1 hR.nodup |> List.pairwise_iff_getElem.1) k i (by omega) hi' hk' ) (by simpa using he)
    have hS0 : RunS w8 w16 w11.heap.size p9 p5 r ms mn [pv, .int .i64 g.states, .slice ia g.init.length ic, .slice ea g.edges.length ec, sv, stv, lov] (.slice (some ⟨b, o, none⟩) all.length avc) all nl (curS g x (all.take i) all[i] []) [(.slice (some ⟨p14, 0, none⟩) 1 1, pcells all[i])] := by
      have h := hS.kp kin
      have hFF : curS g x (all.take i) all[i] [] = doneS g x (all.take i) := by
        funext a
        by_cases ha : a = all[i]
        · subst ha; simp [curS, doneS, hnin]
        · simp [curS, ha]
      rw [hFF]
      refine ⟨⟨h.put.m9, h.put.m5, h.put.mr, h.put.len, h.put.seen, ?_, h.put.base⟩, h.next, h.none, h.chg, h.ne, h.low⟩
      have hlow := hS.put.base
      refine Bag.perm ?_ (List.Perm.swap _ _ _)
      refine h.put.bag.cons (own1_ownsRow m14 rfl (by omega)) fun b hb y hy he => ?_
      simp only [Value.ownBlock, Option.some.injEq] at hb
      have := (hS.put.bag.lt y hy b he).2
      omega
    refine loop agree (σ := Nat × Value × List Place × List (Place × Value)) (fun t => [(3, pt p3 0), (5, pt p5 0), (6, .slice (some ⟨bb, 0, none⟩) n n), (10, .func (.func 43) #[] #[pt p9 0, pt p5 0]), (13, .int .i64 i), (14, pt p14 0), (80, .slice ua (fromS g.edges f).length uc), (81, .int .i64 (fromS g.edges f).length), (82, .int .i64 t.1)])
      (fun t w' => t.1 ≤ (fromS g.edges f).length ∧ Reach g x i t.2.2.1 ∧ (∃ more, t.2.2.1 = all ++ more) ∧ RunS w8 w' w11.heap.size p9 p5 r ms mn [pv, .int .i64 g.states, .slice ia g.init.length ic, .slice ea g.edges.length ec, sv, stv, lov] t.2.1 t.2.2.1 t.2.2.2 (curS g x (all.take i) all[i] (succOf ((fromS g.edges f).take t.1) x at_)) [(.slice (some ⟨p14, 0, none⟩) 1 1, pcells all[i])] ∧
        ∀ q ∈ succOf ((fromS g.edges f).take t.1) x at_, q ∈ t.2.2.1)
      (fun t => (fromS g.edges f).length - t.1) (0, .slice (some ⟨b, o, none⟩) all.length avc, all, nl)
      ⟨rfl, rfl, rfl, rfl, rfl, rfl, rfl, rfl, rfl, trivial⟩ ⟨by omega, hR, ⟨[], by simp⟩, by simpa [succOf] using hS0, by simp [succOf]⟩ ?_
    rintro ⟨j, av2, all2, nl2⟩ env4 w17 ⟨hj2, hR2, ⟨more, hmore⟩, hS2, hq2⟩
    simp only at hj2 hR2 hmore hS2 hq2
    subst hmore
    refine sp (fun hlt2 => ?_) (fun hge3 => ?_)
    · have hj' : j < (fromS g.edges f).length := by omega
      obtain ⟨e, he⟩ : ∃ e, e = (fromS g.edges f)[j] := ⟨_, rfl⟩
      have hej : (fromS g.edges f)[j]? = some e := by rw [he]; simp
      obtain ⟨b3, o3, rfl, hlo3, hhi3, cs3, hcs3, hrd3, rfl, hwf3⟩ := hel j e hej
      have heg : e ∈ g.edges := (List.mem_filter.1 (List.mem_of_getElem? hej)).1
      have hefr : e.frm = f := by have := (List.mem_filter.1 (List.mem_of_getElem? hej)).2; simpa using this
      have heto := hg.edges e heg
      refine ne ⟨by omega, hlt2⟩ ?_
      refine ld agree (v := e.val) (hS2.chg.range hrd3 (hlo8 _ hlo3)) (by rfl) ?_
      refine nd fun p16 w18 e18 s18 k18' m18 => ?_
      refine st agree (cs := [.int .i64 0, .int .i64 0, .int .u16 0, .int .u16 0]) m18 rfl (Nat.le_refl 4) rfl ?_
      intro w19 s19 k19 m19
      have m16 : Own w19 p16 50 e.cells := m19
      have kin2 : Kp w17 w19 := k18'.new e18 k19
      have k019 : Kp w w19 := ((k1.trans (k16.trans k68)).newS hS2.chg (fun k hk => by have := k1.size; have := k2.size; have := lt_of_heap mmn; omega)).trans kin2
      have m3' : Own w19 p3 29 [stv, lov] := kin2.own (hS2.chg.own ((k28).own m3 id) (fun hk => by omega)) id
      have hb14 : Own w17 p14 90 (pcells all[i]) := by
        obtain ⟨nn, hnn⟩ := hS2.put.bag.own (.slice (some ⟨p14, 0, none⟩) 1 1, pcells all[i]) (by simp)
        have : nn = 1 := by have := hnn.1; simp [pcells] at this; omega
        subst this
        exact ownsRow_own1 hnn
      have m14' : Own w19 p14 90 (pcells all[i]) := kin2.own hb14 id
      have A3 : ∀ W, Kp w19 W → Own W p3 29 [stv, lov] := fun W h => h.own m3' id
      have A14 : ∀ W, Kp w19 W → Own W p14 90 (pcells all[i]) := fun W h => h.own m14' id
      have A16 : ∀ W, Kp w19 W → Own W p16 50 e.cells := fun W h => h.own m16 id
      have hatl : at_ < 4611686018427387904 := by omega
      refine drawnK agree mixed 6 [1, 2, 3, 4, 0, 5] (by kernel_rfl) ?_
      conv => whnf
      refine ldk (v := .agg #[stv, lov]) agree rfl rfl (fun W h _ => Own.at_ (xs := [stv, lov]) (o := 0) (A3 W h) rfl) (by rfl) fun _ => ?_
      conv => whnf
      refine ldk (v := .int .i64 at_) agree rfl rfl (fun W h _ => Own.at_ (xs := [.int .i64 at_]) (A14 W h) (by show [Value.int .i64 all[i].2] = _; rw [hat])) (by rfl) fun _ => ?_
      conv => whnf
      refine callk (v := .int .u16 (x.at at_)) rfl rfl rfl callAt (fun W h _ => at_c (hw.chg (k019.trans h) (Nat.le_refl _) (Nat.le_refl _)) at_ hatl) fun _ => ?_
      conv => whnf
      refine ldk (v := e.val) agree rfl rfl (fun W h _ => Own.at_ (xs := e.cells) (o := 0) (A16 W h) rfl) (by rfl) fun _ => ?_
      conv => whnf
      refine callk (v := .bool (goesS e (x.at at_))) rfl rfl rfl callGoes (fun W h _ => goes_c W e (x.at at_)) fun _ => ?_
      conv => whnf
      intro W20 k20 _
      have htake : (fromS g.edges f).take (j + 1) = (fromS g.edges f).take j ++ [e] := by rw [he]; simp
      cases hgo : goesS e (x.at at_) with
      | false =>
        refine aw (by omega) (by omega) ?_
        have hsucc : succOf ((fromS g.edges f).take (j + 1)) x at_ = succOf ((fromS g.edges f).take j) x at_ := by
          rw [htake]
          simp [succOf, hgo]
        refine again (j + 1, av2, all ++ more, nl2) ⟨rfl, rfl, rfl, rfl, rfl, rfl, rfl, rfl, rfl, trivial⟩ ⟨by simp only; omega, hR2, ⟨more, rfl⟩, ?_, ?_⟩ (by simp only; omega)
        · simp only [hsucc]
          exact hS2.kp (kin2.trans k20)
        · simp only [hsucc]
          exact hq2
      | true =>
        have B3 : ∀ W, Kp W20 W → Own W p3 29 [stv, lov] := fun W h => A3 W (k20.trans h)
        have B14 : ∀ W, Kp W20 W → Own W p14 90 (pcells all[i]) := fun W h => A14 W (k20.trans h)
        have B16 : ∀ W, Kp W20 W → Own W p16 50 e.cells := fun W h => A16 W (k20.trans h)
        refine drawnK agree mixed 8 [2, 3, 4, 5, 0, 1, 6, 7] (by kernel_rfl) ?_
        conv => whnf
        refine ldk (v := .agg #[stv, lov]) agree rfl rfl (fun W h _ => Own.at_ (xs := [stv, lov]) (o := 0) (B3 W h) rfl) (by rfl) fun _ => ?_
        conv => whnf
        refine ldk (v := .int .i64 at_) agree rfl rfl (fun W h _ => Own.at_ (xs := [.int .i64 at_]) (B14 W h) (by show [Value.int .i64 all[i].2] = _; rw [hat])) (by rfl) fun _ => ?_
        conv => whnf
        refine callk (v := .int .i64 (x.behind at_)) rfl rfl rfl callBehind (fun W h _ => behindV_c (hw.chg (k019.trans (k20.trans h)) (Nat.le_refl _) (Nat.le_refl _)) at_ hatl) fun _ => ?_
        conv => whnf
        refine ldk (v := .int .i64 e.to) agree rfl rfl (fun W h _ => Own.at_ (xs := [.int .i64 e.to]) (B16 W h) rfl) (by rfl) fun _ => ?_
        conv => whnf
        refine alk rfl rfl fun p17 D17 hD17 => ?_
        conv => whnf
        intro W21 k21 hDs21
        obtain ⟨m17, hp17⟩ := hD17 W21 (hDs21 7)
        refine st agree m17 rfl (Nat.le_refl 2) rfl ?_
        intro W22 s22 k22 m22
        have m17' : Own W22 p17 90 (pcells (e.to, x.behind at_)) := m22
        have kall : Kp w17 W22 := (kin2.trans k20).trans (k21.newS k22 fun k hk => hk ▸ hp17)
        have hS3 := hS2.kp kall
        have m14'' : Own W22 p14 90 (pcells all[i]) := kall.own hb14 id
        obtain ⟨sj, hsj⟩ : ∃ sj, sj = succOf ((fromS g.edges f).take j) x at_ := ⟨_, rfl⟩
        rw [← hsj] at hS3 hq2
        have hFp : curS g x (all.take i) all[i] sj all[i] = sj := by simp [curS]
        have hrow := hS3.row all[i]
        rw [hFp] at hrow
        have hsjl : sj.length ≤ j := by
          rw [hsj]
          simp only [succOf, List.length_map]
          exact Nat.le_trans (List.length_filter_le _ _) (by simp; omega)
        obtain ⟨es, clock, hmn, -⟩ := hS3.next.h
        have hvm : (aget nl2 nilS all[i]).ownBlock ≠ some mn := ownsRow_ne hrow hmn (by simp)
        have hvl : ∀ k, (aget nl2 nilS all[i]).ownBlock = some k → k < W22.heap.size := fun k hk => (hrow.lt k hk).2
        have hne : ∀ {b t cs}, Own W22 b t cs → t ≠ 90 → ¬ (b = mn ∨ some b = (aget nl2 nilS all[i]).ownBlock) := fun {b t cs} ho ht hk => by
          rcases hk with hk | hk
          · exact hS3.next.ne ho hk
          · exact ownsRow_ne hrow ho (fun cs fr hh => by injection hh with _ h2; exact ht h2) hk.symm
        have hn17 : ¬ (p17 = mn ∨ some p17 = (aget nl2 nilS all[i]).ownBlock) := fun hk => by
          rcases hk with hk | hk
          · exact hS3.next.ne m17' hk
          · have := ((hS2.row all[i]).lt p17 hk.symm).2
            have := (kin2.trans k20).size
            omega
        have hn14 : ¬ (p14 = mn ∨ some p14 = (aget nl2 nilS all[i]).ownBlock) := fun hk => by
          rcases hk with hk | hk
          · exact hS3.next.ne m14'' hk
          · have hsep := hS3.put.bag.tail.sep
            rw [List.singleton_append, List.pairwise_cons] at hsep
            cases hal : alook nl2 all[i] with
            | none => simp [aget, hal, Value.ownBlock] at hk
            | some v =>
              simp only [aget, hal, Option.getD_some] at hk
              exact hsep.1 _ (List.mem_map.2 ⟨_, alook_some_mem hal, rfl⟩) p14 rfl hk.symm
        have hpre := preMapAppR Proofs.Tryd.prog 90 pval (fun v : Value => v) nilS mn all[i] W22 (aget nl2 nilS all[i]) (sj.length * 2) (pcells (e.to, x.behind at_))
        have hpb : I64 all[i].1 ∧ I64 all[i].2 := ⟨⟨by omega, by omega⟩, ⟨by omega, by omega⟩⟩
        have hwsz : w11.heap.size ≤ W22.heap.size := hS3.put.base
        refine drawnR agree mixed 11 (by kernel_rfl) _ hpre ?_
        conv => whnf
        refine ldr (v := pt r 0) hpre agree rfl rfl (fun W h _ => h.chg.range (Own.at_ (xs := [pt r 0]) hS3.put.m5 rfl) (hne hS3.put.m5 (by decide))) (by rfl) fun _ => ?_
        conv => whnf
        refine ldr (v := .map (some mn)) hpre agree rfl rfl (fun W h _ => h.chg.range (Own.at_ (xs := [.map (some mn)]) hS3.put.mr rfl) (hne hS3.put.mr (by decide))) (by rfl) fun _ => ?_
        conv => whnf
        refine ldr (v := pval all[i]) hpre agree rfl rfl (fun W h _ => h.chg.range (Own.at_ (xs := pcells all[i]) (o := 0) m14'' rfl) hn14) (by rfl) fun _ => ?_
        conv => whnf
        refine ldr (v := pval (e.to, x.behind at_)) hpre agree rfl rfl (fun W h _ => h.chg.range (Own.at_ (xs := pcells (e.to, x.behind at_)) (o := 0) m17' rfl) hn17) (by rfl) fun _ => ?_
        conv => whnf
        refine bsr hpre rfl rfl rfl rfl rfl (by decide) (fun b o W W' hb ho hS => hS.chg.heap ho fun hc => by
          rcases hc with hc | hc
          · have := lt_of_heap hmn; omega
          · have := hvl b hc.symm; omega) (fun W hS => hS.chg.size) fun q2 D hD => ?_
        conv => whnf
        refine enrS agree placeKeyed (t := 83) (MapAppR.bearsMap (lt_of_heap hmn) hvm) rfl rfl rfl rfl rfl rfl (z := nilS) rfl hS3.next (placeKey hpb.1 hpb.2) fun st Den hDen => ?_
        conv => whnf
        refine aprS (m := 1) (news := pcells (e.to, x.behind at_)) agree (MapAppR.bearsApp (lt_of_heap hmn) hvm hvl) rfl rfl rfl rfl rfl rfl rfl (by decide) hrow rfl (fun W hS hDn => Own.at_ (xs := pcells (e.to, x.behind at_)) (o := 0) (hD W (hDn 6 (by kernel_rfl))).1 rfl) rfl (by simp only [maxLen]; omega) (by show (_ + 1) * 16 ≤ _; omega) hwsz fun v' D2 hD2 => ?_
        conv => whnf
        intro W23 hS23 hDs23
        obtain ⟨hown', hnew⟩ := hD2 W23 (hDs23 9)
        obtain ⟨x1, hen, he1⟩ := hDen W23 (hDs23 7)
        obtain ⟨a', cap', rfl⟩ := ownsRow_form hown'
        refine mu (hen.store (.slice a' (sj.length + 1) cap')) ?_
        rintro W24 ⟨hm24, hs24, hc24⟩
        rw [he1.put] at hm24
        have hc : Chg (fun b => b = mn ∨ some b = (aget nl2 nilS all[i]).ownBlock) W22 W24 := hS23.chg.trans (hc24.mono fun _ => .inl)
        obtain ⟨es3, clock3, hmn3, -⟩ := hen.mapE.h
        have hown24 := ownsRow_chg hown' hc24 (fun b hb he => ownsRow_ne hown' hmn3 (by simp) (he ▸ hb))
        have hS4 := hS3.next_ (p := all[i]) (q := (e.to, x.behind at_)) hc hm24 (by rw [hFp]; exact hown24) hnew
        have m17W := hc.own m17' hn17
        refine ld agree (v := pval (e.to, x.behind at_)) (Own.at_ (xs := pcells (e.to, x.behind at_)) (o := 0) m17W rfl) (by rfl) ?_
        have hbl := behind_lt hx (i := at_) (by omega)
        have hbq : I64 ((e.to, x.behind at_) : Place).1 ∧ I64 ((e.to, x.behind at_) : Place).2 := ⟨⟨by simp only; omega, by simp only; omega⟩, ⟨by simp only; omega, by simp only; omega⟩⟩
        have hlen2 := hR2.len hg hx hP
        have hcall := put_c hS4.put hbq.1 hbq.2 hlen2
        refine cl callPut hcall ?_
        rintro v'' W25 ⟨av', hp', hc', hnew'⟩
        have hS5 := hS4.step hp' hc'
        refine aw (by omega) (by omega) ?_
        have hsucc : succOf ((fromS g.edges f).take (j + 1)) x at_ = sj ++ [(e.to, x.behind at_)] := by
          rw [htake, hsj]
          simp [succOf, hgo]
        have hin : (e.to, x.behind at_) ∈ succ g x all[i] := by
          unfold succ succOf
          rw [hf, hat, Int.toNat_natCast]
          exact List.mem_map.2 ⟨e, List.mem_filter.2 ⟨List.mem_of_getElem? hej, hgo⟩, rfl⟩
        refine again (j + 1, av', putP (all ++ more) (e.to, x.behind at_), aput nl2 all[i] (.slice a' (sj.length + 1) cap')) ⟨rfl, rfl, rfl, rfl, rfl, rfl, rfl, rfl, rfl, trivial⟩ ⟨by simp only; omega, ?_, ?_, ?_, ?_⟩ (by simp only; omega)
        · exact hR2.put (by simp; omega) (.inr ⟨all[i], by simp, hin⟩)
        · show ∃ more', putP (all ++ more) _ = all ++ more'
          unfold putP
          split
          · exact ⟨more, rfl⟩
          · exact ⟨more ++ [(e.to, x.behind at_)], by simp⟩
        · have hFF : (fun a => if a = all[i] then curS g x (all.take i) all[i] sj all[i] ++ [(e.to, x.behind at_)] else curS g x (all.take i) all[i] sj a) = curS g x (all.take i) all[i] (succOf ((fromS g.edges f).take (j + 1)) x at_) := by
            funext a
            rw [hsucc, hFp]
            by_cases ha : a = all[i] <;> simp [curS, ha]
          show RunS w8 W25 w11.heap.size p9 p5 r ms mn _ av' (putP (all ++ more) (e.to, x.behind at_)) _ (curS g x (all.take i) all[i] (succOf ((fromS g.edges f).take (j + 1)) x at_)) _
          rw [← hFF]
          exact hS5
        · intro a ha
          rw [show succOf (List.take (j + 1) (fromS g.edges f)) x at_ = _ from hsucc] at ha
          rcases List.mem_append.1 ha with ha | ha
          · exact mem_putP.2 (.inl (hq2 a ha))
          · exact mem_putP.2 (.inr (by simpa using ha))
    have htk : (fromS g.edges f).take j = fromS g.edges f := List.take_of_length_le (by omega)
    rw [htk] at hS2 hq2
    have hsucc : succOf (fromS g.edges f) x at_ = succ g x all[i] := by
      unfold succ
      rw [hf, hat, Int.toNat_natCast]
    rw [hsucc] at hS2 hq2
    have htk2 : (all ++ more).take (i + 1) = all.take i ++ [all[i]] := by
      rw [List.take_append_of_le_length (by omega)]; simp
    have hFF : curS g x (all.take i) all[i] (succ g x all[i]) = doneS g x ((all ++ more).take (i + 1)) := by
      rw [htk2]
      exact curS_done _ _ _ _
    refine aw (by omega) (by omega) ?_
    refine again (i + 1, av2, all ++ more, nl2) ⟨rfl, rfl, rfl, rfl, rfl, trivial⟩ ⟨?_, ?_, ?_, ?_⟩ ?_
    · simp only [List.length_append]; omega
    · refine ⟨hR2.nodup, fun p hp q hq => ?_, hR2.least⟩
      simp only at hp ⊢
      rw [htk2] at hp
      rcases List.mem_append.1 hp with hp | hp
      · exact List.mem_append_left _ (hR.closed p hp q hq)
      · simp only [List.mem_singleton] at hp
        exact hq2 q (hp ▸ hq)
    · exact fun s hs => List.mem_append_left _ (hI s hs)
    · simp only
      rw [← hFF]
      have hb := hS2.put.bag.perm (List.Perm.swap _ _ _)
      exact ⟨⟨hS2.put.m9, hS2.put.m5, hS2.put.mr, hS2.put.len, hS2.put.seen, hb.tail, hS2.put.base⟩, hS2.next, hS2.none, hS2.chg, hS2.ne, hS2.low⟩
    · have := box_len hR.nodup hg (hR.box hg hx)
      simp only
      omega
  refine ld agree (Own.at_ (xs := [pt r 0]) hS.put.m5 rfl) (by rfl) ?_
  have hall2 : all.take i = all := List.take_of_length_le (by omega)
  have k014 : Kp w w14 := (k1.trans (k16.trans k68)).newS hS.chg (fun k hk => by have := k1.size; have := k2.size; have := lt_of_heap mmn; omega)
  obtain ⟨es, clock, hmn, -⟩ := hS.next.h
  refine ⟨k014, r, all, rfl, ⟨hR.nodup, hI, fun p hp => hR.closed p (by rwa [hall2]), hR.least⟩, ⟨_, _, _, _, _, _, mn, _, nl, hS.put.mr, ?_, hS.put.mr.lt, ?_, lt_of_heap hmn, ?_, ?_, hS.next, ?_⟩⟩
  · have := k1.size; have := k2.size; have := lt_of_heap mmn; omega
  · have := k1.size; have := k2.size; have := lt_of_heap mmn; omega
  · exact hv.chg k014 (Nat.le_refl _) k014.size
  · exact (ownsRow_row (f := pcells) (fun _ => rfl) hav (by decide)).mono (fun _ _ h => h) (Nat.zero_le _) (Nat.le_refl _)
  · intro p hp
    have := hS.row p
    rw [hall2, show doneS g x all p = succ g x p by simp [doneS, hp]] at this
    exact (ownsRow_row (f := pcells) (fun _ => rfl) this (by decide)).mono (fun _ _ h => h) (Nat.zero_le _) (Nat.le_refl _)
theorem callBeside : callable Proofs.Tryd.prog 27 = true := by kernel_rfl
end Go.Au

namespace Go.Au
open Go Go.RowKit Go.MapKept
open Go.Maps (Keyed)

def ones {α : Type} (l : List α) : List (α × Int) := l.map fun p => (p, 1)
/-- among some places, one comes to one of these by one step or more -/
inductive Comes (g : General) (x : Word) (lin lto : List Place) : Place → Prop
  | one {p q : Place} : p ∈ lin → q ∈ succ g x p → q ∈ lin → q ∈ lto → Comes g x lin lto p
  | more {p q : Place} : p ∈ lin → q ∈ succ g x p → q ∈ lin → Comes g x lin lto q → Comes g x lin lto p

structure BefI (g : General) (x : Word) (all lin lto lout : List Place) : Prop where
  nodup : lout.Nodup
  sub : ∀ p ∈ lout, p ∈ all
  comes : ∀ p ∈ lout, Comes g x lin lto p
def hit (lin lto lout : List Place) (q : Place) : Prop := q ∈ lin ∧ (q ∈ lto ∨ q ∈ lout)
/-- nothing is to be added for this one -/
def still (g : General) (x : Word) (lin lto lout : List Place) (p : Place) : Prop := p ∈ lin → p ∉ lout → ∀ q ∈ succ g x p, ¬ hit lin lto lout q

theorem get1 {w : World} {m : Nat} {l : List Place} (h : OnesE w m (ones l)) {p : Place} (h1 : I64 p.1) (h2 : I64 p.2) :
    (Instr.lookup 88 (.map (some m)) (pval p) false).run Proofs.Tryd.prog w = .ok (.int .i64 (if p ∈ l then 1 else 0)) w := by
  have hg := MapE.get agree placeKeyed (t := 88) rfl rfl rfl rfl (z := 0) h p (placeKey h1 h2)
  rw [ones, aget_ones] at hg
  exact hg

set_option maxHeartbeats 4000000 in
theorem before_c {w : World} {lo hi r mi mt : Nat} {g : General} {x : Word} {all lin lto : List Place} (hr : RunV lo hi w r g x all) (ha : AllOf g x all) (hg : Good g) (hx : x.loop.length ≠ 0) (hP : x.places < 1048576) (hE : g.edges.length < 1099511627776)
    (hi_ : OnesE w mi (ones lin)) (ht : OnesE w mt (ones lto)) :
    Calls Proofs.Tryd.prog 46 [pt r 0, .map (some mi), .map (some mt)].toArray w (Ret fun v w' => Kp w w' ∧ ∃ mo lout, v = .map (some mo) ∧ OnesE w' mo (ones lout) ∧ w.heap.size ≤ mo ∧ lout.Nodup ∧ ∀ p, p ∈ lout ↔ p ∈ all ∧ Comes g x lin lto p) := by
  obtain ⟨pv, iv, ev, sv, stv, lov, mn, av, nl, mr, hr1, hr2, hn1, hn2, hgv, hav, hnext, hrows⟩ := hr.h
  have hbox := ha.box hg hx
  have hlen : all.length < 1099511627776 := by
    have h1 := box_len ha.nodup hg hbox
    have h2 : g.states.toNat * x.places ≤ 65536 * 1048576 := Nat.mul_le_mul (by have := hg.s1; omega) (by omega)
    omega
  have hI : ∀ p ∈ all, I64 p.1 ∧ I64 p.2 := fun p hp => by
    obtain ⟨a, b, c, d⟩ := hbox p hp
    have := hg.s1
    exact ⟨⟨by omega, by omega⟩, ⟨by omega, by omega⟩⟩
  obtain ⟨ava, avc, rfl, havc, hread⟩ := hav
  refine call agree Proofs.Tryd.func46 rfl Proofs.Tryd.ntmps46 (by kernel_rfl) ?_
  refine nd fun mo w1 e1 s1 k1 m1 => ?_
  have hmo : OnesE w1 mo (ones []) := MapE.made m1 pval_inj
  refine loop agree (σ := Bool × List Place) (fun t => [(0, pt r 0), (1, .map (some mi)), (2, .map (some mt)), (7, .map (some mo)), (8, .bool t.1)])
    (fun t W => Kp w W ∧ OnesE W mo (ones t.2) ∧ BefI g x all lin lto t.2 ∧ (t.1 = false → ∀ p ∈ all, still g x lin lto t.2 p)) (fun t => (all.length - t.2.length) * 2 + (if t.1 then 1 else 0)) (true, [])
    ⟨rfl, rfl, rfl, rfl, rfl, trivial⟩ ⟨k1, hmo, ⟨by simp, by simp, by simp⟩, by simp⟩ ?_
  rintro ⟨more, lout⟩ env W ⟨k2, hm2, hB, hst⟩
  cases more with
  | false =>
    have hst := hst rfl
    refine ⟨k2, mo, lout, rfl, hm2, by omega, hB.nodup, fun p => ⟨fun hp => ⟨hB.sub p hp, hB.comes p hp⟩, fun ⟨hpa, hc⟩ => ?_⟩⟩
    simp only at hst
    induction hc with
    | one h1 h2 h3 h4 => exact Classical.byContradiction fun hn => hst _ hpa h1 hn _ h2 ⟨h3, .inl h4⟩
    | more h1 h2 h3 h4 ih => exact Classical.byContradiction fun hn => hst _ hpa h1 hn _ h2 ⟨h3, .inr (ih ⟨ha.closed _ hpa _ h2, h4⟩ (ha.closed _ hpa _ h2))⟩
  | true =>
    refine ld agree (Own.at_ (xs := [.slice ava all.length avc]) (k2.own mr id) rfl) (by rfl) ?_
    refine loop agree (σ := Nat × Bool × List Place) (fun t => [(0, pt r 0), (1, .map (some mi)), (2, .map (some mt)), (7, .map (some mo)), (8, .bool t.2.1), (18, .slice ava all.length avc), (19, .int .i64 all.length), (20, .int .i64 t.1)])
      (fun t W => t.1 ≤ all.length ∧ Kp w W ∧ OnesE W mo (ones t.2.2) ∧ BefI g x all lin lto t.2.2 ∧ (t.2.1 = false → t.2.2 = lout ∧ ∀ p ∈ all.take t.1, still g x lin lto lout p) ∧ (t.2.1 = true → lout.length < t.2.2.length)) (fun t => all.length - t.1) (0, false, lout)
      ⟨rfl, rfl, rfl, rfl, rfl, rfl, rfl, rfl, trivial⟩ ⟨by omega, k2, hm2, hB, by simp, by simp⟩ ?_
    rintro ⟨i, more, lout2⟩ env2 W3 ⟨hi3, k3, hm3, hB3, hs3, ht3⟩
    simp only at hi3 hm3 hB3 hs3 ht3
    refine sp (fun hlt => ?_) (fun hge => ?_)
    · have hi' : i < all.length := by omega
      obtain ⟨b, o, rfl, hlo, hhi, cs, hcs, hrd, rfl⟩ := hread i all[i] (by simp)
      have hp := hI all[i] (by simp)
      refine ne ⟨by omega, hlt⟩ ?_
      refine ld agree (v := pval all[i]) (k3.range hrd id) rfl ?_
      refine nd fun p10 w4 e4 s4 k4 m4 => ?_
      refine st agree (cs := [.int .i64 0, .int .i64 0]) m4 rfl (Nat.le_refl 2) rfl ?_
      intro w5 s5 k5 m5
      have m10 : Own w5 p10 90 (pcells all[i]) := m5
      have k35 : Kp W3 w5 := k4.new e4 k5
      have hm5 : OnesE w5 mo (ones lout2) := hm3.chg k35 id
      refine ld agree (v := pval all[i]) (Own.at_ (xs := pcells all[i]) (o := 0) m10 rfl) (by rfl) ?_
      refine lk (get1 ((hi_.chg k3 id).chg k35 id) hp.1 hp.2) ?_
      have hsnoc : all.take (i + 1) = all.take i ++ [all[i]] := by simp
      have skip : still g x lin lto lout all[i] ∨ more = true → ∀ W, Kp W3 W → OnesE W mo (ones lout2) → ∀ e',
          Has e' [(0, pt r 0), (1, .map (some mi)), (2, .map (some mt)), (7, .map (some mo)), (8, .bool more), (18, .slice (some ⟨b, o, none⟩) all.length avc), (19, .int .i64 all.length), (20, .int .i64 (i + 1 : Nat))] → e' mark = undef →
          Again (σ := Nat × Bool × List Place) (fun t => [(0, pt r 0), (1, .map (some mi)), (2, .map (some mt)), (7, .map (some mo)), (8, .bool t.2.1), (18, .slice (some ⟨b, o, none⟩) all.length avc), (19, .int .i64 all.length), (20, .int .i64 t.1)])
            (fun t W => t.1 ≤ all.length ∧ Kp w W ∧ OnesE W mo (ones t.2.2) ∧ BefI g x all lin lto t.2.2 ∧ (t.2.1 = false → t.2.2 = lout ∧ ∀ p ∈ all.take t.1, still g x lin lto lout p) ∧ (t.2.1 = true → lout.length < t.2.2.length)) (fun t => all.length - t.1) (i, more, lout2) e' W := fun h W hW hmW e' he hmk =>
        again (hm := hmk) (i + 1, more, lout2) he ⟨by simp only; omega, k3.trans hW, hmW, hB3, fun hf => ⟨(hs3 hf).1, fun p hp' => by
          simp only [hsnoc] at hp'
          rcases List.mem_append.1 hp' with hp' | hp'
          · exact (hs3 hf).2 p hp'
          · simp only [List.mem_singleton] at hp'
            rw [hp']
            exact h.resolve_right fun h => by rw [h] at hf; cases hf⟩, ht3⟩ (by simp only; omega)
      by_cases hin : all[i] ∈ lin
      · rw [if_pos hin]
        refine spF (by decide) ?_
        refine ld agree (v := pval all[i]) (Own.at_ (xs := pcells all[i]) (o := 0) m10 rfl) (by rfl) ?_
        refine lk (get1 hm5 hp.1 hp.2) ?_
        by_cases hout : all[i] ∈ lout2
        · rw [if_pos hout]
          refine spT (by decide) ?_
          refine aw (by omega) (by omega) ?_
          refine skip ?_ w5 k35 hm5 _ ⟨rfl, rfl, rfl, rfl, rfl, rfl, rfl, rfl, trivial⟩ rfl
          cases more with
          | true => exact .inr rfl
          | false => exact .inl fun _ hn => absurd ((hs3 rfl).1 ▸ hout) hn
        · rw [if_neg hout]
          refine spF (by decide) ?_
          have hrow := hrows all[i] (by simp)
          obtain ⟨na, nc, hnv, hnc, hnr⟩ := id hrow
          have A10 : ∀ W, Kp w5 W → Own W p10 90 (pcells all[i]) := fun W h => h.own m10 id
          refine drawnK agree mixed 8 [0, 1, 2, 3, 4, 5, 6, 7] (by kernel_rfl) ?_
          conv => whnf
          refine ldk (v := .map (some mn)) agree rfl rfl (fun W h _ => Own.at_ (xs := [.map (some mn)]) ((k3.trans (k35.trans h)).own mr id) rfl) (by rfl) fun _ => ?_
          conv => whnf
          refine ldk (v := pval all[i]) agree rfl rfl (fun W h _ => Own.at_ (xs := pcells all[i]) (o := 0) (A10 W h) rfl) (by rfl) fun _ => ?_
          conv => whnf
          refine lkr (v := .slice na (succ g x all[i]).length nc) (preChg _) rfl (fun W h _ => by
            have := MapE.get agree placeKeyed (t := 83) rfl rfl rfl rfl (z := nilS) (hnext.chg (k3.trans (k35.trans h)) id) all[i] (placeKey hp.1 hp.2)
            rw [hnv] at this
            exact this) fun _ => ?_
          conv => whnf
          intro w6 k6 _
          have k36 : Kp W3 w6 := k35.trans k6
          have hsl : (succ g x all[i]).length < 1099511627776 := by
            unfold succ succOf fromS
            rw [List.length_map]
            exact Nat.lt_of_le_of_lt (Nat.le_trans (List.length_filter_le _ _) (List.length_filter_le _ _)) hE
          refine loop agree (σ := Nat) (fun j => [(0, pt r 0), (1, .map (some mi)), (2, .map (some mt)), (7, .map (some mo)), (8, .bool more), (10, pt p10 0), (18, .slice (some ⟨b, o, none⟩) all.length avc), (19, .int .i64 all.length), (20, .int .i64 i), (39, .slice na (succ g x all[i]).length nc), (40, .int .i64 (succ g x all[i]).length), (41, .int .i64 j)])
            (fun j W => Kp w6 W ∧ j ≤ (succ g x all[i]).length ∧ ∀ q ∈ (succ g x all[i]).take j, ¬ hit lin lto lout2 q) (fun j => (succ g x all[i]).length - j) 0
            ⟨rfl, rfl, rfl, rfl, rfl, rfl, rfl, rfl, rfl, rfl, rfl, rfl, trivial⟩ ⟨Chg.refl _ _, by omega, by simp⟩ ?_
          rintro j env3 w7 ⟨k7, hj, hno⟩
          refine sp (fun hlt2 => ?_) (fun hge2 => ?_)
          · have hj' : j < (succ g x all[i]).length := by omega
            obtain ⟨q, hq⟩ : ∃ q, q = (succ g x all[i])[j] := ⟨_, rfl⟩
            have hqj : (succ g x all[i])[j]? = some q := by rw [hq]; simp
            have hqs : q ∈ succ g x all[i] := List.mem_of_getElem? hqj
            have hqa := ha.closed all[i] (by simp) q hqs
            have hqI := hI q hqa
            obtain ⟨b3, o3, rfl, hlo3, hhi3, cs3, hcs3, hrd3, rfl⟩ := hnr j q hqj
            refine ne ⟨by omega, hlt2⟩ ?_
            refine ld agree (v := pval q) ((k3.trans (k36.trans k7)).range hrd3 id) (by rfl) ?_
            refine nd fun p12 w8 e8 s8 k8 m8 => ?_
            refine st agree (cs := [.int .i64 0, .int .i64 0]) m8 rfl (Nat.le_refl 2) rfl ?_
            intro w9 s9 k9 m9
            have m12 : Own w9 p12 90 (pcells q) := m9
            have k39 : Kp W3 w9 := k36.trans (k7.trans (k8.new e8 k9))
            have k69 : Kp w6 w9 := k7.trans (k8.new e8 k9)
            have hm9 : OnesE w9 mo (ones lout2) := hm3.chg k39 id
            refine ld agree (v := pval q) (Own.at_ (xs := pcells q) (o := 0) m12 rfl) (by rfl) ?_
            refine lk (get1 (hi_.chg (k3.trans k39) id) hqI.1 hqI.2) ?_
            by_cases c1 : q ∈ lin
            · rw [if_pos c1]
              refine spT (by decide) ?_
              refine ld agree (v := pval q) (Own.at_ (xs := pcells q) (o := 0) m12 rfl) (by rfl) ?_
              refine lk (get1 (ht.chg (k3.trans k39) id) hqI.1 hqI.2) ?_
              by_cases c2 : q ∈ lto
              · rw [if_pos c2]
                refine spT (by decide) ?_
                have hh : hit lin lto lout2 q := ⟨c1, .inl c2⟩
                have hpre := preMapR Proofs.Tryd.prog 90 pval (fun n : Int => .int .i64 n) 0 mo all[i]
                have m10' : Own w9 p10 90 (pcells all[i]) := (k6.trans k69).own m10 id
                have n10 : p10 ≠ mo := hm9.ne m10'
                refine drawnR agree mixed 6 (by kernel_rfl) _ hpre ?_
                conv => whnf
                refine ldr (v := pval all[i]) hpre agree rfl rfl (fun W h _ => h.chg.range (Own.at_ (xs := pcells all[i]) (o := 0) m10' rfl) n10) (by rfl) fun _ => ?_
                conv => whnf
                refine lkr (v := .int .i64 0) hpre rfl (fun W h _ => by
                  obtain ⟨x1, hm1, he1⟩ := h.map _ hm9
                  have := MapE.get agree placeKeyed (t := 88) rfl rfl rfl rfl (z := 0) hm1 all[i] (placeKey hp.1 hp.2)
                  rw [he1.get, ones, aget_ones, if_neg hout] at this
                  exact this) fun _ => ?_
                conv => whnf
                refine aw (by omega) (by omega) ?_
                conv => whnf
                refine enr agree placeKeyed (t := 88) rfl rfl rfl rfl rfl rfl (z := 0) rfl hm9 (placeKey hp.1 hp.2) fun st D hD => ?_
                conv => whnf
                intro W10 hW10 hDs
                obtain ⟨x1, hen, he1⟩ := hD W10 (hDs 4)
                refine mu (hen.store 1) ?_
                rintro w11 ⟨hm11, hs11, hc11⟩
                have hones : aput x1 all[i] 1 = ones (lout2 ++ [all[i]]) := by
                  rw [he1.put, ones, ones, aput_new fun y hy he => by
                    obtain ⟨z, hz, rfl⟩ := List.mem_map.1 hy
                    exact hout (he ▸ hz)]
                  simp
                rw [hones] at hm11
                refine aw (by omega) (by omega) ?_
                have k11 : Kp w w11 := (k3.trans k39).newS (hW10.chg.trans hc11) fun k hk => by omega
                refine again (i + 1, true, lout2 ++ [all[i]]) ⟨rfl, rfl, rfl, rfl, rfl, rfl, rfl, rfl, trivial⟩ ⟨by simp only; omega, k11, hm11, ⟨?_, ?_, ?_⟩, (fun hf => by cases hf), fun _ => ?_⟩ (by simp only; omega)
                · simp only
                  rw [List.nodup_append]
                  refine ⟨hB3.nodup, by simp, fun a ha b hb he => ?_⟩
                  simp only [List.mem_singleton] at hb
                  exact hout (hb ▸ he ▸ ha)
                · intro p hpm
                  rcases List.mem_append.1 hpm with hpm | hpm
                  · exact hB3.sub p hpm
                  · simp only [List.mem_singleton] at hpm
                    rw [hpm]; simp
                · intro p hpm
                  rcases List.mem_append.1 hpm with hpm | hpm
                  · exact hB3.comes p hpm
                  · simp only [List.mem_singleton] at hpm
                    rw [hpm]
                    rcases hh.2 with h | h
                    · exact .one hin hqs hh.1 h
                    · exact .more hin hqs hh.1 (hB3.comes q h)
                · simp only [List.length_append, List.length_singleton]
                  cases more with
                  | true => have := ht3 rfl; omega
                  | false => rw [(hs3 rfl).1]; omega
              · rw [if_neg c2]
                refine spF (by decide) ?_
                refine ld agree (v := pval q) (Own.at_ (xs := pcells q) (o := 0) m12 rfl) (by rfl) ?_
                refine lk (get1 hm9 hqI.1 hqI.2) ?_
                by_cases c3 : q ∈ lout2
                · rw [if_pos c3]
                  refine spT (by decide) ?_
                  have hh : hit lin lto lout2 q := ⟨c1, .inr c3⟩
                  have hpre := preMapR Proofs.Tryd.prog 90 pval (fun n : Int => .int .i64 n) 0 mo all[i]
                  have m10' : Own w9 p10 90 (pcells all[i]) := (k6.trans k69).own m10 id
                  have n10 : p10 ≠ mo := hm9.ne m10'
                  refine drawnR agree mixed 6 (by kernel_rfl) _ hpre ?_
                  conv => whnf
                  refine ldr (v := pval all[i]) hpre agree rfl rfl (fun W h _ => h.chg.range (Own.at_ (xs := pcells all[i]) (o := 0) m10' rfl) n10) (by rfl) fun _ => ?_
                  conv => whnf
                  refine lkr (v := .int .i64 0) hpre rfl (fun W h _ => by
                    obtain ⟨x1, hm1, he1⟩ := h.map _ hm9
                    have := MapE.get agree placeKeyed (t := 88) rfl rfl rfl rfl (z := 0) hm1 all[i] (placeKey hp.1 hp.2)
                    rw [he1.get, ones, aget_ones, if_neg hout] at this
                    exact this) fun _ => ?_
                  conv => whnf
                  refine aw (by omega) (by omega) ?_
                  conv => whnf
                  refine enr agree placeKeyed (t := 88) rfl rfl rfl rfl rfl rfl (z := 0) rfl hm9 (placeKey hp.1 hp.2) fun st D hD => ?_
                  conv => whnf
                  intro W10 hW10 hDs
                  obtain ⟨x1, hen, he1⟩ := hD W10 (hDs 4)
                  refine mu (hen.store 1) ?_
                  rintro w11 ⟨hm11, hs11, hc11⟩
                  have hones : aput x1 all[i] 1 = ones (lout2 ++ [all[i]]) := by
                    rw [he1.put, ones, ones, aput_new fun y hy he => by
                      obtain ⟨z, hz, rfl⟩ := List.mem_map.1 hy
                      exact hout (he ▸ hz)]
                    simp
                  rw [hones] at hm11
                  refine aw (by omega) (by omega) ?_
                  have k11 : Kp w w11 := (k3.trans k39).newS (hW10.chg.trans hc11) fun k hk => by omega
                  refine again (i + 1, true, lout2 ++ [all[i]]) ⟨rfl, rfl, rfl, rfl, rfl, rfl, rfl, rfl, trivial⟩ ⟨by simp only; omega, k11, hm11, ⟨?_, ?_, ?_⟩, (fun hf => by cases hf), fun _ => ?_⟩ (by simp only; omega)
                  · simp only
                    rw [List.nodup_append]
                    refine ⟨hB3.nodup, by simp, fun a ha b hb he => ?_⟩
                    simp only [List.mem_singleton] at hb
                    exact hout (hb ▸ he ▸ ha)
                  · intro p hpm
                    rcases List.mem_append.1 hpm with hpm | hpm
                    · exact hB3.sub p hpm
                    · simp only [List.mem_singleton] at hpm
                      rw [hpm]; simp
                  · intro p hpm
                    rcases List.mem_append.1 hpm with hpm | hpm
                    · exact hB3.comes p hpm
                    · simp only [List.mem_singleton] at hpm
                      rw [hpm]
                      rcases hh.2 with h | h
                      · exact .one hin hqs hh.1 h
                      · exact .more hin hqs hh.1 (hB3.comes q h)
                  · simp only [List.length_append, List.length_singleton]
                    cases more with
                    | true => have := ht3 rfl; omega
                    | false => rw [(hs3 rfl).1]; omega
                · rw [if_neg c3]
                  refine spF (by decide) ?_
                  refine aw (by omega) (by omega) ?_
                  refine again (j + 1) ⟨rfl, rfl, rfl, rfl, rfl, rfl, rfl, rfl, rfl, rfl, rfl, rfl, trivial⟩ ⟨k69, by omega, fun y hy => ?_⟩ (by omega)
                  rw [show (succ g x all[i]).take (j + 1) = (succ g x all[i]).take j ++ [q] by rw [hq]; simp] at hy
                  rcases List.mem_append.1 hy with hy | hy
                  · exact hno y hy
                  · simp only [List.mem_singleton] at hy
                    rw [hy]
                    exact fun h => h.2.elim c2 c3
            · rw [if_neg c1]
              refine spF (by decide) ?_
              refine aw (by omega) (by omega) ?_
              refine again (j + 1) ⟨rfl, rfl, rfl, rfl, rfl, rfl, rfl, rfl, rfl, rfl, rfl, rfl, trivial⟩ ⟨k69, by omega, fun y hy => ?_⟩ (by omega)
              rw [show (succ g x all[i]).take (j + 1) = (succ g x all[i]).take j ++ [q] by rw [hq]; simp] at hy
              rcases List.mem_append.1 hy with hy | hy
              · exact hno y hy
              · simp only [List.mem_singleton] at hy
                rw [hy]
                exact fun h => c1 h.1
          · refine aw (by omega) (by omega) ?_
            rw [List.take_of_length_le (by omega)] at hno
            refine skip ?_ w7 (k36.trans k7) (hm3.chg (k36.trans k7) id) _ ⟨rfl, rfl, rfl, rfl, rfl, rfl, rfl, rfl, trivial⟩ rfl
            cases more with
            | true => exact .inr rfl
            | false => exact .inl fun _ _ q hq => (hs3 rfl).1 ▸ hno q hq
      · rw [if_neg hin]
        refine spT rfl ?_
        refine aw (by omega) (by omega) ?_
        exact skip (.inl fun h => absurd h hin) w5 k35 hm5 _ ⟨rfl, rfl, rfl, rfl, rfl, rfl, rfl, rfl, trivial⟩ rfl
    have hall : all.take i = all := List.take_of_length_le (by omega)
    rw [hall] at hs3
    have hl2 := nodup_sub hB3.nodup hB3.sub
    refine again (more, lout2) ⟨rfl, rfl, rfl, rfl, rfl, trivial⟩ ⟨k3, hm3, hB3, fun hf => ?_⟩ ?_
    · simp only at hf
      simp only
      rw [(hs3 hf).1]
      exact (hs3 hf).2
    · cases more with
      | false => simp only [(hs3 rfl).1]; simp
      | true =>
        have := ht3 rfl
        simp only [if_true]
        omega
theorem callBefore : callable Proofs.Tryd.prog 46 = true := by kernel_rfl
end Go.Au

namespace Go.Au
open Go Go.RowKit Go.MapKept
open Go.Maps (Keyed)

theorem less_c (w : World) (a b : Int) : Calls Proofs.Tryd.prog 54 [.int .i64 a, .int .i64 b].toArray w (Ret fun r w' => r = .bool (decide (a < b)) ∧ Kp w w') := by
  refine call agree Proofs.Tryd.func54 rfl Proofs.Tryd.ntmps54 (by kernel_rfl) ?_
  refine cl callNaNi (isNaNi_c w a) ?_
  rintro _ w1 ⟨rfl, k1⟩
  refine spB ?_
  exact ⟨rfl, k1⟩
theorem callLess : callable Proofs.Tryd.prog 54 = true := by kernel_rfl
theorem nan_c (w : World) (x : Int) : Calls Proofs.Tryd.prog 55 [.int .i64 x].toArray w (Ret fun r w' => r = .bool false ∧ Kp w w') := by
  refine call agree Proofs.Tryd.func55 rfl Proofs.Tryd.ntmps55 (by kernel_rfl) ?_
  exact spF (fun h => h rfl) ⟨rfl, Chg.refl _ _⟩
theorem callNan : callable Proofs.Tryd.prog 55 = true := by kernel_rfl

theorem wrapU {z : Int} (h1 : 0 ≤ z) (h2 : z ≤ 18446744073709551615) : IntKind.u64.wrap z = z := by
  show (if (false && decide (z % 18446744073709551616 ≥ 9223372036854775808)) = true then z % 18446744073709551616 - 18446744073709551616 else z % 18446744073709551616) = z
  simp
  omega

set_option maxHeartbeats 4000000 in
theorem binary_c {w : World} {lo hi : Nat} {v : Value} {l : List Int} (h : Ints lo hi w v l) (hl : l.length < 4611686018427387904) (hs : l.Pairwise (· ≤ ·)) (x : Int) :
    Calls Proofs.Tryd.prog 45 [v, .int .i64 x].toArray w (Ret fun r w' => (∃ k : Nat, r = .tuple #[.int .i64 k, .bool (decide (x ∈ l))]) ∧ Kp w w') := by
  obtain ⟨a, cap, rfl, hcap, hx⟩ := h
  have hmono : ∀ i j (hi : i < l.length) (hj : j < l.length), i ≤ j → l[i] ≤ l[j] := fun i j hi hj hij => by
    rcases Nat.lt_or_eq_of_le hij with h | h
    · exact List.pairwise_iff_getElem.1 hs i j hi hj h
    · subst h; exact Int.le_refl _
  refine call agree Proofs.Tryd.func45 rfl Proofs.Tryd.ntmps45 (by kernel_rfl) ?_
  refine loop agree (σ := Nat × Nat) (fun t => [(0, .slice a l.length cap), (1, .int .i64 x), (6, .int .i64 l.length), (7, .int .i64 t.1), (8, .int .i64 t.2)])
    (fun t w' => Kp w w' ∧ t.1 ≤ t.2 ∧ t.2 ≤ l.length ∧ (∀ i (hi : i < l.length), i < t.1 → l[i] < x) ∧ (∀ i (hi : i < l.length), t.2 ≤ i → x ≤ l[i])) (fun t => t.2 - t.1) (0, l.length)
    ⟨rfl, rfl, rfl, rfl, rfl, trivial⟩ ⟨Chg.refl _ _, by omega, by simp only; omega, by simp, fun i hi hi' => by simp only at hi'; omega⟩ ?_
  rintro ⟨i, j⟩ env w1 ⟨k1, hij, hj, hlow, hhigh⟩
  simp only at hij hj hlow hhigh
  refine sp (fun hlt => ?_) (fun hge => ?_)
  · refine aw (by omega) (by omega) ?_
    refine ⟨fun z hz => ?_⟩
    rw [wrapU (by omega) (by omega)] at hz
    subst hz
    refine ne (by decide) ?_
    have hdiv : ((i : Int) + j).fdiv (2 ^ (min (1 : Int).toNat (IntKind.bits .u64))) = (((i + j) / 2 : Nat) : Int) := by
      rw [show (2 : Int) ^ (min (1 : Int).toNat (IntKind.bits .u64)) = 2 from rfl, Int.fdiv_eq_ediv_of_nonneg _ (by decide)]
      omega
    refine ⟨fun z hz => ?_⟩
    rw [hdiv] at hz
    subst hz
    refine aw (by omega) (by omega) ?_
    obtain ⟨m, hm⟩ : ∃ m, m = (i + j) / 2 := ⟨_, rfl⟩
    rw [← hm]
    have hml : m < l.length := by omega
    obtain ⟨b, o, rfl, hlo, hhi, cs, hcs, hrd, rfl⟩ := hx m l[m] (by simp)
    refine ne ⟨by omega, by omega⟩ ?_
    refine ld agree (k1.range hrd id) (by rfl) ?_
    refine cl callLess (less_c w1 l[m] x) ?_
    rintro _ w2 ⟨rfl, k2⟩
    by_cases hc : l[m] < x
    · rw [decide_eq_true hc]
      refine aw (by omega) (by omega) ?_
      refine again (m + 1, j) ⟨rfl, rfl, rfl, rfl, rfl, trivial⟩ ⟨k1.trans k2, by simp only; omega, hj, fun q hq hq' => ?_, hhigh⟩ (by simp only; omega)
      simp only at hq'
      have := hmono q m hq hml (by omega)
      omega
    · rw [decide_eq_false hc]
      refine again (i, m) ⟨rfl, rfl, rfl, rfl, rfl, trivial⟩ ⟨k1.trans k2, by simp only; omega, by simp only; omega, hlow, fun q hq hq' => ?_⟩ (by simp only; omega)
      simp only at hq'
      have := hmono m q hml hq hq'
      omega
  · have hij' : i = j := by omega
    subst hij'
    by_cases hil : i < l.length
    · refine spT (by omega) ?_
      obtain ⟨b, o, rfl, hlo, hhi, cs, hcs, hrd, rfl⟩ := hx i l[i] (by simp)
      refine ne ⟨by omega, by omega⟩ ?_
      refine ld agree (k1.range hrd id) (by rfl) ?_
      by_cases he : l[i] = x
      · refine spT he ?_
        refine ⟨⟨i, ?_⟩, k1⟩
        have hd : decide (x ∈ l) = true := decide_eq_true (by rw [← he]; simp)
        rw [hd]
        rfl
      · refine spF he ?_
        refine ne ⟨by omega, by omega⟩ ?_
        refine ld agree (k1.range hrd id) (by rfl) ?_
        refine cl callNan (nan_c w1 l[i]) ?_
        rintro _ w2 ⟨rfl, k2⟩
        refine ⟨⟨i, ?_⟩, k1.trans k2⟩
        have hd : decide (x ∈ l) = false := decide_eq_false fun hm => by
          obtain ⟨q, hq, hqe⟩ := List.getElem_of_mem hm
          rcases Nat.lt_or_ge q i with h | h
          · have := hlow q hq h; omega
          · have h1 := hmono i q hil hq h
            have h2 := hhigh i hil (Nat.le_refl _)
            omega
        rw [hd]
        rfl
    · refine spF (by omega) ?_
      refine ⟨⟨i, ?_⟩, k1⟩
      have hd : decide (x ∈ l) = false := decide_eq_false fun hm => by
        obtain ⟨q, hq, hqe⟩ := List.getElem_of_mem hm
        have := hlow q hq (by omega)
        omega
      rw [hd]
      rfl
theorem callBinary : callable Proofs.Tryd.prog 45 = true := by kernel_rfl
theorem rising_sorted {n : Int} : ∀ {l : List Int} {p : Option Int}, risingFrom n p l = true → l.Pairwise (· ≤ ·) ∧ ∀ y, p = some y → ∀ x ∈ l, y ≤ x
  | [], _, _ => ⟨.nil, by simp⟩
  | x :: r, p, h => by
    simp only [risingFrom, Bool.and_eq_true, Bool.not_eq_true', Bool.or_eq_false_iff, decide_eq_false_iff_not] at h
    obtain ⟨⟨⟨h1, h2⟩, h3⟩, h4⟩ := h
    obtain ⟨ih1, ih2⟩ := rising_sorted h4
    refine ⟨List.pairwise_cons.2 ⟨fun y hy => ih2 x rfl y hy, ih1⟩, fun y hy z hz => ?_⟩
    subst hy
    simp only [decide_eq_false_iff_not] at h3
    rcases List.mem_cons.1 hz with rfl | hz
    · omega
    · have := ih2 x rfl z hz; omega
end Go.Au

namespace Go.Au
open Go Go.RowKit Go.MapKept
open Go.Maps (Keyed)

/-- one comes to one of T by one step or more, within X -/
inductive Plus (g : General) (x : Word) (X T : Place → Prop) : Place → Prop
  | one {p q : Place} : X p → q ∈ succ g x p → X q → T q → Plus g x X T p
  | more {p q : Place} : X p → q ∈ succ g x p → X q → Plus g x X T q → Plus g x X T p
theorem Plus.mono {g : General} {x : Word} {X T X' T' : Place → Prop} (hX : ∀ p, X p → X' p) (hT : ∀ p, X p → T p → T' p) {p : Place} (h : Plus g x X T p) : Plus g x X' T' p := by
  induction h with
  | one h1 h2 h3 h4 => exact .one (hX _ h1) h2 (hX _ h3) (hT _ h3 h4)
  | more h1 h2 h3 _ ih => exact .more (hX _ h1) h2 (hX _ h3) ih
theorem Plus.self {g : General} {x : Word} {X T : Place → Prop} {p : Place} (h : Plus g x X T p) : X p := by cases h <;> assumption
theorem Comes.plus {g : General} {x : Word} {lin lto : List Place} {p : Place} (h : Comes g x lin lto p) : Plus g x (· ∈ lin) (· ∈ lto) p := by
  induction h with
  | one h1 h2 h3 h4 => exact .one h1 h2 h3 h4
  | more h1 h2 h3 _ ih => exact .more h1 h2 h3 ih
theorem Plus.comes {g : General} {x : Word} {lin lto : List Place} {p : Place} (h : Plus g x (· ∈ lin) (· ∈ lto) p) : Comes g x lin lto p := by
  induction h with
  | one h1 h2 h3 h4 => exact .one h1 h2 h3 h4
  | more h1 h2 h3 _ ih => exact .more h1 h2 h3 ih

def upTo (n : Int) : List Int := (List.range n.toNat).map fun (i : Nat) => (i : Int)
def setsOf (g : General) : List (List Int) := if g.sets.length = 0 then [upTo g.states] else g.sets
def Reachable (g : General) (x : Word) (p : Place) : Prop := ∀ X : Place → Prop, (∀ s ∈ g.init, X (s, 0)) → (∀ p q, X p → q ∈ succ g x p → X q) → X p
/-- some run meets each set again and again -/
def AccP (g : General) (x : Word) : Prop := ∃ X : Place → Prop, (∃ p, X p) ∧ (∀ p, X p → Reachable g x p) ∧ ∀ p, X p → ∀ F ∈ setsOf g, Plus g x X (fun q => q.1 ∈ F) p

theorem nodup_same {α : Type} [DecidableEq α] {l r : List α} (hl : l.Nodup) (hs : ∀ x ∈ l, x ∈ r) (he : r.length ≤ l.length) : ∀ x ∈ r, x ∈ l := fun x hx => Classical.byContradiction fun hn => by
  have := nodup_sub (l := x :: l) (r := r) (List.nodup_cons.2 ⟨hn, hl⟩) fun y hy => by
    rcases List.mem_cons.1 hy with rfl | hy
    · exact hx
    · exact hs y hy
  simp at this
  omega

structure AccI (g : General) (x : Word) (all lin : List Place) : Prop where
  nodup : lin.Nodup
  sub : ∀ p ∈ lin, p ∈ all
  great : ∀ X : Place → Prop, (∀ p, X p → p ∈ all) → (∀ p, X p → ∀ F ∈ setsOf g, Plus g x X (fun q => q.1 ∈ F) p) → ∀ p, X p → p ∈ lin
def Fixed (g : General) (x : Word) (lin : List Place) (Fs : List (List Int)) : Prop := ∀ p ∈ lin, ∀ F ∈ Fs, Plus g x (· ∈ lin) (fun q => q.1 ∈ F) p

theorem AccI.accP {g : General} {x : Word} {all lin : List Place} (ha : AllOf g x all) (h : AccI g x all lin) (hf : Fixed g x lin (setsOf g)) : 0 < lin.length ↔ AccP g x := by
  constructor
  · intro h0
    refine ⟨(· ∈ lin), ⟨lin[0], by simp⟩, fun p hp X h1 h2 => ha.least X h1 h2 p (h.sub p hp), hf⟩
  · rintro ⟨X, ⟨p, hp⟩, hr, hX⟩
    have := h.great X (fun q hq => hr q hq _ ha.init fun p q hp hq => ha.closed p hp q hq) hX p hp
    exact List.length_pos_of_mem this

/-- one round for one set -/
structure CutI (g : General) (x : Word) (lin0 lin : List Place) (Fs : List (List Int)) : Prop where
  sub : ∀ p ∈ lin, p ∈ lin0
  fixed : lin.length = lin0.length → (∀ p ∈ lin0, p ∈ lin) ∧ Fixed g x lin0 Fs
theorem CutI.step {g : General} {x : Word} {all lin0 lin lto lin' : List Place} {Fs : List (List Int)} {F : List Int} (h0 : AccI g x all lin0) (h : AccI g x all lin) (hc : CutI g x lin0 lin Fs) (hF : F ∈ setsOf g)
    (hto : ∀ p, p ∈ lto ↔ p ∈ all ∧ p.1 ∈ F ∧ p ∈ lin) (hn : lin'.Nodup) (hl : ∀ p, p ∈ lin' ↔ p ∈ all ∧ Comes g x lin lto p) : AccI g x all lin' ∧ CutI g x lin0 lin' (Fs ++ [F]) := by
  have hsub : ∀ p ∈ lin', p ∈ lin := fun p hp => ((hl p).1 hp).2.plus.self
  refine ⟨⟨hn, fun p hp => h.sub p (hsub p hp), fun X h1 h2 p hp => ?_⟩, ⟨fun p hp => hc.sub p (hsub p hp), fun he => ?_⟩⟩
  · have hXl := h.great X h1 h2
    refine (hl p).2 ⟨h1 p hp, ?_⟩
    exact (Plus.mono (fun q hq => hXl q hq) (fun q hq hqF => (hto q).2 ⟨h1 q hq, hqF, hXl q hq⟩) (h2 p hp F hF)).comes
  · have e1 := nodup_sub hn hsub
    have e2 := nodup_sub h.nodup hc.sub
    obtain ⟨f1, f2⟩ := hc.fixed (by omega)
    have e3 := nodup_same hn hsub (by omega)
    refine ⟨fun p hp => e3 p (f1 p hp), fun p hp G hG => ?_⟩
    rcases List.mem_append.1 hG with hG | hG
    · exact f2 p hp G hG
    · simp only [List.mem_singleton] at hG
      subst hG
      have := ((hl p).1 (e3 p (f1 p hp))).2.plus
      exact this.mono (fun q hq => hc.sub q hq) (fun q _ hq => ((hto q).1 hq).2.1)

theorem upTo_sorted (n : Int) : (upTo n).Pairwise (· ≤ ·) := by
  unfold upTo
  rw [List.pairwise_map]
  exact (List.pairwise_lt_range).imp fun h => by omega

theorem RunV.chg {lo hi hi' r : Nat} {w w' : World} {g : General} {x : Word} {all : List Place} (h : RunV lo hi w r g x all) (k : Kp w w') (hh : hi ≤ hi') : RunV lo hi' w' r g x all := by
  obtain ⟨pv, iv, ev, sv, stv, lov, mn, av, nl, mr, hr1, hr2, hn1, hn2, hgv, hav, hnext, hrows⟩ := h.h
  exact ⟨_, _, _, _, _, _, mn, _, nl, k.own mr id, hr1, by omega, hn1, by omega, hgv.chg k (Nat.le_refl _) hh, (hav.chg k (fun _ _ _ h => h) (fun _ _ h => h)).mono (fun _ _ h => h) (Nat.le_refl _) hh, hnext.chg k id,
    fun p hp => ((hrows p hp).chg k (fun _ _ _ h => h) (fun _ _ h => h)).mono (fun _ _ h => h) (Nat.le_refl _) hh⟩
noncomputable def acceptsS (g : General) (x : Word) : Bool := @decide (AccP g x) (Classical.propDecidable _)

set_option maxHeartbeats 4000000 in
theorem accepts_c {w : World} {lo hi r : Nat} {g : General} {x : Word} {all : List Place} (hr : RunV lo hi w r g x all) (hhi : hi ≤ w.heap.size) (ha : AllOf g x all) (hg : Good g) (hs : ∀ l ∈ g.sets, l.Pairwise (· ≤ ·)) (hx : x.loop.length ≠ 0) (hP : x.places < 1048576) (hE : g.edges.length < 1099511627776) :
    Calls Proofs.Tryd.prog 28 [pt r 0].toArray w (Ret fun v w' => v = .bool (acceptsS g x) ∧ Kp w w') := by
  obtain ⟨pv, iv, ev, sv, stv, lov, mn, av, nl, mr, hr1, hr2, hn1, hn2, hgv, hav, hnext, hrows⟩ := id hr.h
  have hbox := ha.box hg hx
  have hls := hgv.ls
  have hlen : all.length < 1099511627776 := by
    have h1 := box_len ha.nodup hg hbox
    have h2 : g.states.toNat * x.places ≤ 65536 * 1048576 := Nat.mul_le_mul (by have := hg.s1; omega) (by omega)
    omega
  have hI : ∀ p ∈ all, I64 p.1 ∧ I64 p.2 := fun p hp => by
    obtain ⟨a, b, c, d⟩ := hbox p hp
    have := hg.s1
    exact ⟨⟨by omega, by omega⟩, ⟨by omega, by omega⟩⟩
  have hsorted : ∀ F ∈ setsOf g, F.Pairwise (· ≤ ·) := fun F hF => by
    unfold setsOf at hF
    split at hF
    · simp only [List.mem_singleton] at hF
      rw [hF]
      exact upTo_sorted _
    · exact hs F hF
  obtain ⟨ava, avc, rfl, havc, hread⟩ := id hav
  refine call agree Proofs.Tryd.func28 rfl Proofs.Tryd.ntmps28 (by kernel_rfl) ?_
  refine nd fun m3 w1 e1 s1 k1 m1 => ?_
  have hm3 : OnesE w1 m3 (ones []) := MapE.made m1 pval_inj
  refine ld agree (Own.at_ (xs := [.slice ava all.length avc]) (k1.own mr id) rfl) (by rfl) ?_
  refine loop agree (σ := Nat) (fun i => [(0, pt r 0), (3, .map (some m3)), (20, .slice ava all.length avc), (21, .int .i64 all.length), (22, .int .i64 i)])
    (fun i W => i ≤ all.length ∧ Kp w W ∧ OnesE W m3 (ones (all.take i))) (fun i => all.length - i) 0
    ⟨rfl, rfl, rfl, rfl, rfl, trivial⟩ ⟨by omega, k1, hm3⟩ ?_
  rintro i env w2 ⟨hi2, k2, hm⟩
  refine sp (fun hlt => ?_) (fun hge => ?_)
  · have hi' : i < all.length := by omega
    obtain ⟨b, o, rfl, hlo, hhi, cs, hcs, hrd, rfl⟩ := hread i all[i] (by simp)
    have hp := hI all[i] (by simp)
    refine ne ⟨by omega, hlt⟩ ?_
    refine ld agree (v := pval all[i]) (k2.range hrd id) rfl ?_
    refine nd fun p5 w4 e4 s4 k4 m4 => ?_
    refine st agree (cs := [.int .i64 0, .int .i64 0]) m4 rfl (Nat.le_refl 2) rfl ?_
    intro w5 s5 k5 m5
    have m10 : Own w5 p5 90 (pcells all[i]) := m5
    have k25 : Kp w2 w5 := k4.new e4 k5
    have hm5 := hm.chg k25 id
    have hnot : all[i] ∉ all.take i := fun hmem => by
      have hd := ha.nodup
      rw [← List.take_append_drop i all, List.nodup_append] at hd
      exact hd.2.2 _ hmem _ (by rw [List.drop_eq_getElem_cons hi']; exact List.mem_cons_self) rfl
    have n10 : p5 ≠ m3 := hm5.ne m10
    have hpre := preMapR Proofs.Tryd.prog 90 pval (fun n : Int => .int .i64 n) 0 m3 all[i]
    refine drawnR agree mixed 6 (by kernel_rfl) _ hpre ?_
    conv => whnf
    refine ldr (v := pval all[i]) hpre agree rfl rfl (fun W h _ => h.chg.range (Own.at_ (xs := pcells all[i]) (o := 0) m10 rfl) n10) (by rfl) fun _ => ?_
    conv => whnf
    refine lkr (v := .int .i64 0) hpre rfl (fun W h _ => by
      obtain ⟨x1, hm1, he1⟩ := h.map _ hm5
      have := MapE.get agree placeKeyed (t := 88) rfl rfl rfl rfl (z := 0) hm1 all[i] (placeKey hp.1 hp.2)
      rw [he1.get, ones, aget_ones, if_neg hnot] at this
      exact this) fun _ => ?_
    conv => whnf
    refine aw (by omega) (by omega) ?_
    conv => whnf
    refine enr agree placeKeyed (t := 88) rfl rfl rfl rfl rfl rfl (z := 0) rfl hm5 (placeKey hp.1 hp.2) fun st D hD => ?_
    conv => whnf
    intro W10 hW10 hDs
    obtain ⟨x1, hen, he1⟩ := hD W10 (hDs 4)
    refine mu (hen.store 1) ?_
    rintro w11 ⟨hm11, hs11, hc11⟩
    have hones : aput x1 all[i] 1 = ones (all.take i ++ [all[i]]) := by
      rw [he1.put, ones, ones, aput_new fun y hy he => by
        obtain ⟨z, hz, rfl⟩ := List.mem_map.1 hy
        exact hnot (he ▸ hz)]
      rw [List.map_append]; rfl
    rw [hones] at hm11
    refine aw (by omega) (by omega) ?_
    have k11 : Kp w w11 := (k2.trans k25).newS (hW10.chg.trans hc11) fun k hk => by omega
    refine again (i + 1) ⟨rfl, rfl, rfl, rfl, rfl, trivial⟩ ⟨by omega, k11, ?_⟩ (by omega)
    rw [show all.take (i + 1) = all.take i ++ [all[i]] by simp]
    exact hm11
  have hall : all.take i = all := List.take_of_length_le (by omega)
  rw [hall] at hm
  clear hall
  refine ld agree (Own.at_ (xs := [sv]) (k2.own mr id) rfl) (by rfl) ?_
  obtain ⟨sa, sc, rfl, hsc, hsr⟩ := id hgv.sets
  refine sp (fun h0 => ?A) (fun h0 => ?B)
  case' A =>
    refine ne (by decide) ?_
    refine nd fun sb w3 e3 s3 k3 m3' => ?_
    have msb : Own w3 sb 23 [nilS] := m3'
    refine ld agree (Own.at_ (xs := [.int .i64 g.states]) ((k2.trans k3).own mr id) rfl) (by rfl) ?_
    have hs0 := hg.s0
    have hs1 := hg.s1
    refine loop agree (σ := Nat × Value) (fun t => [(0, pt r 0), (3, .map (some m3)), (6, .slice (some ⟨sb, 0, none⟩) 1 1), (46, .int .i64 g.states), (47, .int .i64 t.1)])
      (fun t W => t.1 ≤ g.states.toNat ∧ Kp w2 W ∧ Own W sb 23 [t.2] ∧ W.ownsRow w3.heap.size 3 1 t.2 t.1 (((List.range t.1).map fun (i : Nat) => (i : Int)).flatMap fun x => [.int .i64 x])) (fun t => g.states.toNat - t.1) (0, nilS)
      ⟨rfl, rfl, rfl, rfl, rfl, trivial⟩ ⟨by simp only; omega, k3, msb, World.ownsRow_nil _ _ _ _⟩ ?_
    rintro ⟨j, v⟩ env2 w4 ⟨hj, k4, hsb, hrow⟩
    simp only at hj hsb hrow
    refine sp (fun hlt2 => ?_) (fun hge2 => ?C)
    case' C =>
      have hjn : j = g.states.toNat := by omega
      subst hjn
      have hrr := ownsRow_row (f := fun x : Int => [Value.int .i64 x]) (fun _ => rfl) hrow (by decide)
      have hsets : IntRows 0 w4.heap.size w4 (.slice (some ⟨sb, 0, none⟩) (setsOf g).length 1) (setsOf g) := by
        have hset1 : setsOf g = [upTo g.states] := by unfold setsOf; rw [if_pos (by omega)]
        rw [hset1]
        refine row1R hsb (fun q y hy => ?_) rfl (Nat.le_refl _) (Nat.zero_le _) hsb.lt
        cases q with
        | zero =>
          simp at hy
          subst hy
          exact ⟨v, rfl, v, rfl, hrr.mono (fun _ _ h => h) (Nat.zero_le _) (Nat.le_refl _), by unfold upTo; simp; omega⟩
        | succ q => simp at hy
      have kws : Kp w2 w4 := k4
      have hSL : (setsOf g).length = 1 := by unfold setsOf; rw [if_pos (by omega)]; rfl
      obtain ⟨A0, C0, hA0, hC0, hset⟩ := hsets
      have hA1 := (Value.slice.inj hA0).1
      subst hA1

      have hm4 : OnesE w4 m3 (ones all) := hm.chg kws id
      have hk4 : Kp w w4 := k2.trans kws
      refine loop agree (σ := Int × Nat × List Place) (fun t => [(0, pt r 0), (3, .map (some t.2.1)), (6, .slice (some ⟨sb, 0, none⟩) 1 1), (8, .int .i64 t.1)])
        (fun t W => Kp w4 W ∧ OnesE W t.2.1 (ones t.2.2) ∧ AccI g x all t.2.2 ∧ (t.1 = t.2.2.length → Fixed g x t.2.2 (setsOf g))) (fun t => t.2.2.length + (if t.1 = t.2.2.length then 0 else 1)) (-1, m3, all)
        ⟨rfl, rfl, rfl, rfl, trivial⟩ ⟨Chg.refl _ _, hm4, ⟨ha.nodup, fun _ h => h, fun X h1 _ => h1⟩, fun h => by simp only at h; omega⟩ ?_
      rintro ⟨was, mi, lin⟩ env5 W5 ⟨kW, hmi, hA, hfx⟩
      simp only at hmi hA hfx
      have hlin := nodup_sub hA.nodup hA.sub
      have hol : (ones lin).length = lin.length := by simp [ones]
      refine lm (t := 88) agree rfl rfl rfl rfl hmi ?_
      rw [hol]
      refine sp (fun hne => ?_) (fun heq => ?_)
      · refine lm (t := 88) agree rfl rfl rfl rfl hmi ?_
        rw [hol]
        refine loop agree (σ := Nat × Nat × List Place) (fun t => [(0, pt r 0), (3, .map (some t.2.1)), (6, .slice (some ⟨sb, 0, none⟩) 1 1), (8, .int .i64 lin.length), (65, .slice (some ⟨sb, 0, none⟩) 1 1), (66, .int .i64 (1 : Nat)), (67, .int .i64 t.1)])
          (fun t W => t.1 ≤ (setsOf g).length ∧ Kp w4 W ∧ OnesE W t.2.1 (ones t.2.2) ∧ AccI g x all t.2.2 ∧ CutI g x lin t.2.2 ((setsOf g).take t.1)) (fun t => (setsOf g).length - t.1) (0, mi, lin)
          ⟨rfl, rfl, rfl, rfl, rfl, rfl, rfl, trivial⟩ ⟨Nat.zero_le _, kW, hmi, hA, ⟨fun _ h => h, fun _ => ⟨fun _ h => h, fun _ _ _ h => by simp at h⟩⟩⟩ ?_
        rintro ⟨j, mj, linj⟩ env6 W6 ⟨hj6, k6, hm6, hA6, hC6⟩
        simp only at hj6 hm6 hA6 hC6
        refine sp (fun hlt6 => ?_) (fun hge6 => ?_)
        · have hj' : j < (setsOf g).length := by rw [hSL]; omega
          obtain ⟨b6, o6, hAe, hlo6, hhi6, cs6, hcs6, hrd6, u, rfl, hu, hul⟩ := hset j (setsOf g)[j] (by simp)
          obtain rfl : sb = b6 := congrArg Addr.block (Option.some.inj hAe)
          obtain rfl : 0 = o6 := congrArg Addr.off (Option.some.inj hAe)
          refine ne ⟨by omega, hlt6⟩ ?_
          refine ld agree (v := u) (k6.range hrd6 id) (by rfl) ?_
          refine nd fun mt w7 e7 s7 k7 m7 => ?_
          have hmt : OnesE w7 mt (ones []) := MapE.made m7 pval_inj
          refine ld agree (Own.at_ (xs := [.slice ava all.length avc]) ((hk4.trans (k6.trans k7)).own mr id) rfl) (by rfl) ?_
          refine loop agree (σ := Nat × List Place) (fun t => [(0, pt r 0), (3, .map (some mj)), (6, .slice (some ⟨sb, 0, none⟩) 1 1), (8, .int .i64 lin.length), (10, u), (11, .map (some mt)), (65, .slice (some ⟨sb, 0, none⟩) 1 1), (66, .int .i64 (1 : Nat)), (67, .int .i64 j), (75, .slice ava all.length avc), (76, .int .i64 all.length), (77, .int .i64 t.1)])
            (fun t W => t.1 ≤ all.length ∧ Kp W6 W ∧ OnesE W mt (ones t.2) ∧ t.2 = (all.take t.1).filter (fun p => decide (p.1 ∈ (setsOf g)[j] ∧ p ∈ linj))) (fun t => all.length - t.1) (0, [])
            ⟨rfl, rfl, rfl, rfl, rfl, rfl, rfl, rfl, rfl, rfl, rfl, rfl, trivial⟩ ⟨Nat.zero_le _, k7, hmt, by simp⟩ ?_
          rintro ⟨i, lto⟩ env7 w8 ⟨hi8, k8, hmt8, hlto⟩
          simp only at hi8 hmt8 hlto
          refine sp (fun hlt8 => ?_) (fun hge8 => ?_)
          · have hi' : i < all.length := by omega
            obtain ⟨b, o, rfl, hlo, hhi9, cs, hcs, hrd, rfl⟩ := hread i all[i] (by simp)
            have hp := hI all[i] (by simp)
            refine ne ⟨by omega, hlt8⟩ ?_
            have k08 : Kp w w8 := hk4.trans (k6.trans k8)
            refine ld agree (v := pval all[i]) (k08.range hrd id) rfl ?_
            refine nd fun p13 w9 e9 s9 k9 m9 => ?_
            refine st agree (cs := [.int .i64 0, .int .i64 0]) m9 rfl (Nat.le_refl 2) rfl ?_
            intro w10 s10 k10 m10
            have m13 : Own w10 p13 90 (pcells all[i]) := m10
            have k810 : Kp w8 w10 := k9.new e9 k10
            refine ld agree (Own.at_ (xs := [.int .i64 all[i].1]) m13 rfl) (by rfl) ?_
            have hbin := binary_c (hu.chg (k6.trans (k8.trans k810)) (fun _ _ _ h => h) (fun _ _ h => h)) hul (hsorted _ (List.getElem_mem hj')) all[i].1
            obtain ⟨d, hd⟩ : ∃ d, d = decide (all[i].1 ∈ (setsOf g)[j]) := ⟨_, rfl⟩
            rw [← hd] at hbin
            refine cl callBinary hbin ?_
            rintro _ w11 ⟨⟨kk, rfl⟩, k11⟩
            have k8b : Kp w8 w11 := k810.trans k11
            have hmt11 : OnesE w11 mt (ones lto) := hmt8.chg k8b id
            have m13' : Own w11 p13 90 (pcells all[i]) := k11.own m13 id
            have hsnoc : all.take (i + 1) = all.take i ++ [all[i]] := by simp
            have hfl : (all.take (i + 1)).filter (fun p => decide (p.1 ∈ (setsOf g)[j] ∧ p ∈ linj)) = lto ++ if all[i].1 ∈ (setsOf g)[j] ∧ all[i] ∈ linj then [all[i]] else [] := by
              rw [hsnoc, List.filter_append, ← hlto]
              congr 1
              by_cases hc : all[i].1 ∈ (setsOf g)[j] ∧ all[i] ∈ linj
              · rw [if_pos hc, List.filter_cons_of_pos (by simpa using hc)]; rfl
              · rw [if_neg hc, List.filter_cons_of_neg (by simpa using hc)]; rfl
            cases d with
            | false =>
              have hd' := of_decide_eq_false hd.symm
              refine aw (by omega) (by omega) ?_
              refine again (i + 1, lto) ⟨rfl, rfl, rfl, rfl, rfl, rfl, rfl, rfl, rfl, rfl, rfl, rfl, trivial⟩ ⟨by simp only; omega, k8.trans k8b, hmt11, ?_⟩ (by simp only; omega)
              simp only [hfl]
              rw [if_neg fun h => hd' h.1, List.append_nil]
            | true =>
              have hd' := of_decide_eq_true hd.symm
              refine ld agree (v := pval all[i]) (Own.at_ (xs := pcells all[i]) (o := 0) m13' rfl) (by rfl) ?_
              refine lk (get1 (hm6.chg (k8.trans k8b) id) hp.1 hp.2) ?_
              by_cases c2 : all[i] ∈ linj
              · rw [if_pos c2]
                refine spT (by decide) ?_
                have hnot : all[i] ∉ lto := fun hmem => by
                  rw [hlto] at hmem
                  have hmem := (List.mem_filter.1 hmem).1
                  have hd := ha.nodup
                  rw [← List.take_append_drop i all, List.nodup_append] at hd
                  exact hd.2.2 _ hmem _ (by rw [List.drop_eq_getElem_cons hi']; exact List.mem_cons_self) rfl
                have n13 : p13 ≠ mt := hmt11.ne m13'
                have hpre := preMapR Proofs.Tryd.prog 90 pval (fun n : Int => .int .i64 n) 0 mt all[i]
                refine drawnR agree mixed 6 (by kernel_rfl) _ hpre ?_
                conv => whnf
                refine ldr (v := pval all[i]) hpre agree rfl rfl (fun W h _ => h.chg.range (Own.at_ (xs := pcells all[i]) (o := 0) m13' rfl) n13) (by rfl) fun _ => ?_
                conv => whnf
                refine lkr (v := .int .i64 0) hpre rfl (fun W h _ => by
                  obtain ⟨x1, hm1, he1⟩ := h.map _ hmt11
                  have := MapE.get agree placeKeyed (t := 88) rfl rfl rfl rfl (z := 0) hm1 all[i] (placeKey hp.1 hp.2)
                  rw [he1.get, ones, aget_ones, if_neg hnot] at this
                  exact this) fun _ => ?_
                conv => whnf
                refine aw (by omega) (by omega) ?_
                conv => whnf
                refine enr agree placeKeyed (t := 88) rfl rfl rfl rfl rfl rfl (z := 0) rfl hmt11 (placeKey hp.1 hp.2) fun st D hD => ?_
                conv => whnf
                intro W10 hW10 hDs
                obtain ⟨x1, hen, he1⟩ := hD W10 (hDs 4)
                refine mu (hen.store 1) ?_
                rintro w11' ⟨hm11, hs11, hc11⟩
                have hones : aput x1 all[i] 1 = ones (lto ++ [all[i]]) := by
                  rw [he1.put, ones, ones, aput_new fun y hy he => by
                    obtain ⟨z, hz, rfl⟩ := List.mem_map.1 hy
                    exact hnot (he ▸ hz)]
                  rw [List.map_append]; rfl
                rw [hones] at hm11
                refine aw (by omega) (by omega) ?_
                have k11' : Kp W6 w11' := (k8.trans k8b).newS (hW10.chg.trans hc11) fun k hk => by omega
                refine again (i + 1, lto ++ [all[i]]) ⟨rfl, rfl, rfl, rfl, rfl, rfl, rfl, rfl, rfl, rfl, rfl, rfl, trivial⟩ ⟨by simp only; omega, k11', hm11, ?_⟩ (by simp only; omega)
                simp only [hfl]
                rw [if_pos ⟨hd', c2⟩]
              · rw [if_neg c2]
                refine spF (by decide) ?_
                refine aw (by omega) (by omega) ?_
                refine again (i + 1, lto) ⟨rfl, rfl, rfl, rfl, rfl, rfl, rfl, rfl, rfl, rfl, rfl, rfl, trivial⟩ ⟨by simp only; omega, k8.trans k8b, hmt11, ?_⟩ (by simp only; omega)
                simp only [hfl]
                rw [if_neg fun h => c2 h.2, List.append_nil]
          · have k08 : Kp w w8 := hk4.trans (k6.trans k8)
            have htk : all.take i = all := List.take_of_length_le (by omega)
            rw [htk] at hlto
            have hbef := before_c (hr.chg k08 (Nat.le_refl _)) ha hg hx hP hE (hm6.chg k8 id) hmt8
            refine cl callBefore hbef ?_
            rintro _ w9 ⟨k9, mo, lout, rfl, hmo, hsz, hnd, hl⟩
            refine aw (by omega) (by omega) ?_
            obtain ⟨hA', hC'⟩ := hC6.step hA hA6 (List.getElem_mem hj') (fun p => by rw [hlto, List.mem_filter, decide_eq_true_eq]) hnd hl
            refine again (j + 1, mo, lout) ⟨rfl, rfl, rfl, rfl, rfl, rfl, rfl, trivial⟩ ⟨by simp only; omega, k6.trans (k8.trans k9), hmo, hA', ?_⟩ (by simp only; omega)
            rw [show (setsOf g).take (j + 1) = (setsOf g).take j ++ [(setsOf g)[j]] by simp]
            exact hC'
        · rw [List.take_of_length_le (by omega)] at hC6
          have hll := nodup_sub hA6.nodup hC6.sub
          refine again ((lin.length : Int), mj, linj) ⟨rfl, rfl, rfl, rfl, trivial⟩ ⟨k6, hm6, hA6, fun he => ?_⟩ ?_
          · simp only at he
            obtain ⟨f1, f2⟩ := hC6.fixed (by omega)
            exact fun p hp F hF => (f2 p (hC6.sub p hp) F hF).mono (fun q hq => f1 q hq) fun _ _ h => h
          · simp only
            rw [if_neg hne]
            split <;> omega
      · have heq' : was = (lin.length : Int) := Classical.byContradiction fun h => heq h
        refine lm (t := 88) agree rfl rfl rfl rfl hmi ?_
        rw [hol]
        refine spB ?_
        refine ⟨congrArg Value.bool ?_, hk4.trans kW⟩
        have := hA.accP ha (hfx heq')
        unfold acceptsS
        by_cases hc : AccP g x
        · rw [@decide_eq_true _ (Classical.propDecidable _) hc, decide_eq_true (by have := this.2 hc; omega)]
        · rw [@decide_eq_false _ (Classical.propDecidable _) hc, decide_eq_false (by intro h; exact hc (this.1 (by omega)))]
    obtain ⟨va, vc, rfl⟩ := ownsRow_form hrow
    refine ne (by decide) ?_
    refine ld agree (Own.at_ (xs := [.slice va j vc]) hsb rfl) (by rfl) ?_
    refine ne (by decide) ?_
    refine nd fun q w5 e5 s5 k5 m5 => ?_
    have hrow5 := ownsRow_chg hrow k5 (fun _ _ => id)
    refine ap (m := 1) (news := [.int .i64 j]) agree rfl rfl rfl rfl rfl rfl rfl (by decide) hrow5 rfl (Own.at_ (xs := [.int .i64 j]) (o := 0) m5 rfl) rfl (by simp only [maxLen]; omega) (by show (_ + 1) * 8 ≤ _; omega) (by have := hsb.lt; omega) fun v' w6 hown hc6 => ?_
    refine ne (by decide) ?_
    have hsb5 := k5.own hsb id
    have hsb6 := hc6.own hsb5 fun he => ownsRow_ne hrow5 hsb5 (fun cs fr hh => by injection hh with _ h2; exact absurd h2 (by decide)) he.symm
    obtain ⟨a', cap', rfl⟩ := ownsRow_form hown
    refine st agree hsb6 rfl (Nat.le_refl 1) rfl ?_
    intro w7 s7 k7 m7
    have hb7 : ∀ b, (Value.slice a' (j + 1) cap').ownBlock = some b → ¬ b = sb := fun b hb he => by
      subst he
      exact ownsRow_ne hown hsb6 (fun cs fr hh => by injection hh with _ h2; exact absurd h2 (by decide)) hb
    refine aw (by omega) (by omega) ?_
    refine again (j + 1, .slice a' (j + 1) cap') ⟨rfl, rfl, rfl, rfl, rfl, trivial⟩ ⟨by simp only; omega, ?_, m7, ?_⟩ (by simp only; omega)
    · refine (k4.trans k5).newS ((hc6.mono (S' := fun k => some k = (Value.slice va j vc).ownBlock ∨ k = sb) fun _ => .inl).trans (k7.mono fun _ => .inr)) fun k hk => ?_
      rcases hk with hk | hk
      · have := (hrow.lt k hk.symm).1; have := k3.size; omega
      · omega
    · have h1 := ownsRow_chg hown k7 hb7
      rw [List.range_succ, List.map_append, List.flatMap_append]
      exact h1
  case' B =>
    have kws : Kp w2 w2 := Chg.refl _ _
    have hSe : setsOf g = g.sets := by unfold setsOf; rw [if_neg (by omega)]
    have hSL : (setsOf g).length = g.sets.length := by rw [hSe]
    have hset : ∀ i xs, (setsOf g)[i]? = some xs → ∃ b o, sa = some ⟨b, o, none⟩ ∧ 0 ≤ b ∧ b < w.heap.size ∧ ∃ cs, cs.length = 1 ∧ w2.rangeAt b (o + i * 1) cs ∧ ∃ u, cs = [u] ∧ Ints 0 w.heap.size w2 u xs ∧ xs.length < 4611686018427387904 := by
      intro i xs hi
      rw [hSe] at hi
      obtain ⟨b, o, h1, h2, h3, cs, h4, h5, u, h6, h7, h8⟩ := hsr i xs hi
      exact ⟨b, o, h1, h2, by omega, cs, h4, k2.range h5 id, u, h6, (h7.chg k2 (fun _ _ _ h => h) (fun _ _ h => h)).mono (fun _ _ h => h) (Nat.le_refl _) hhi, h8⟩

    have hm4 : OnesE w2 m3 (ones all) := hm.chg kws id
    have hk4 : Kp w w2 := k2.trans kws
    refine loop agree (σ := Int × Nat × List Place) (fun t => [(0, pt r 0), (3, .map (some t.2.1)), (6, .slice sa g.sets.length sc), (8, .int .i64 t.1)])
      (fun t W => Kp w2 W ∧ OnesE W t.2.1 (ones t.2.2) ∧ AccI g x all t.2.2 ∧ (t.1 = t.2.2.length → Fixed g x t.2.2 (setsOf g))) (fun t => t.2.2.length + (if t.1 = t.2.2.length then 0 else 1)) (-1, m3, all)
      ⟨rfl, rfl, rfl, rfl, trivial⟩ ⟨Chg.refl _ _, hm4, ⟨ha.nodup, fun _ h => h, fun X h1 _ => h1⟩, fun h => by simp only at h; omega⟩ ?_
    rintro ⟨was, mi, lin⟩ env5 W5 ⟨kW, hmi, hA, hfx⟩
    simp only at hmi hA hfx
    have hlin := nodup_sub hA.nodup hA.sub
    have hol : (ones lin).length = lin.length := by simp [ones]
    refine lm (t := 88) agree rfl rfl rfl rfl hmi ?_
    rw [hol]
    refine sp (fun hne => ?_) (fun heq => ?_)
    · refine lm (t := 88) agree rfl rfl rfl rfl hmi ?_
      rw [hol]
      refine loop agree (σ := Nat × Nat × List Place) (fun t => [(0, pt r 0), (3, .map (some t.2.1)), (6, .slice sa g.sets.length sc), (8, .int .i64 lin.length), (65, .slice sa g.sets.length sc), (66, .int .i64 (g.sets.length : Nat)), (67, .int .i64 t.1)])
        (fun t W => t.1 ≤ (setsOf g).length ∧ Kp w2 W ∧ OnesE W t.2.1 (ones t.2.2) ∧ AccI g x all t.2.2 ∧ CutI g x lin t.2.2 ((setsOf g).take t.1)) (fun t => (setsOf g).length - t.1) (0, mi, lin)
        ⟨rfl, rfl, rfl, rfl, rfl, rfl, rfl, trivial⟩ ⟨Nat.zero_le _, kW, hmi, hA, ⟨fun _ h => h, fun _ => ⟨fun _ h => h, fun _ _ _ h => by simp at h⟩⟩⟩ ?_
      rintro ⟨j, mj, linj⟩ env6 W6 ⟨hj6, k6, hm6, hA6, hC6⟩
      simp only at hj6 hm6 hA6 hC6
      refine sp (fun hlt6 => ?_) (fun hge6 => ?_)
      · have hj' : j < (setsOf g).length := by rw [hSL]; omega
        obtain ⟨b6, o6, hAe, hlo6, hhi6, cs6, hcs6, hrd6, u, rfl, hu, hul⟩ := hset j (setsOf g)[j] (by simp)
        subst hAe
        refine ne ⟨by omega, hlt6⟩ ?_
        refine ld agree (v := u) (k6.range hrd6 id) (by rfl) ?_
        refine nd fun mt w7 e7 s7 k7 m7 => ?_
        have hmt : OnesE w7 mt (ones []) := MapE.made m7 pval_inj
        refine ld agree (Own.at_ (xs := [.slice ava all.length avc]) ((hk4.trans (k6.trans k7)).own mr id) rfl) (by rfl) ?_
        refine loop agree (σ := Nat × List Place) (fun t => [(0, pt r 0), (3, .map (some mj)), (6, .slice (some ⟨b6, o6, none⟩) g.sets.length sc), (8, .int .i64 lin.length), (10, u), (11, .map (some mt)), (65, .slice (some ⟨b6, o6, none⟩) g.sets.length sc), (66, .int .i64 (g.sets.length : Nat)), (67, .int .i64 j), (75, .slice ava all.length avc), (76, .int .i64 all.length), (77, .int .i64 t.1)])
          (fun t W => t.1 ≤ all.length ∧ Kp W6 W ∧ OnesE W mt (ones t.2) ∧ t.2 = (all.take t.1).filter (fun p => decide (p.1 ∈ (setsOf g)[j] ∧ p ∈ linj))) (fun t => all.length - t.1) (0, [])
          ⟨rfl, rfl, rfl, rfl, rfl, rfl, rfl, rfl, rfl, rfl, rfl, rfl, trivial⟩ ⟨Nat.zero_le _, k7, hmt, by simp⟩ ?_
        rintro ⟨i, lto⟩ env7 w8 ⟨hi8, k8, hmt8, hlto⟩
        simp only at hi8 hmt8 hlto
        refine sp (fun hlt8 => ?_) (fun hge8 => ?_)
        · have hi' : i < all.length := by omega
          obtain ⟨b, o, rfl, hlo, hhi9, cs, hcs, hrd, rfl⟩ := hread i all[i] (by simp)
          have hp := hI all[i] (by simp)
          refine ne ⟨by omega, hlt8⟩ ?_
          have k08 : Kp w w8 := hk4.trans (k6.trans k8)
          refine ld agree (v := pval all[i]) (k08.range hrd id) rfl ?_
          refine nd fun p13 w9 e9 s9 k9 m9 => ?_
          refine st agree (cs := [.int .i64 0, .int .i64 0]) m9 rfl (Nat.le_refl 2) rfl ?_
          intro w10 s10 k10 m10
          have m13 : Own w10 p13 90 (pcells all[i]) := m10
          have k810 : Kp w8 w10 := k9.new e9 k10
          refine ld agree (Own.at_ (xs := [.int .i64 all[i].1]) m13 rfl) (by rfl) ?_
          have hbin := binary_c (hu.chg (k6.trans (k8.trans k810)) (fun _ _ _ h => h) (fun _ _ h => h)) hul (hsorted _ (List.getElem_mem hj')) all[i].1
          obtain ⟨d, hd⟩ : ∃ d, d = decide (all[i].1 ∈ (setsOf g)[j]) := ⟨_, rfl⟩
          rw [← hd] at hbin
          refine cl callBinary hbin ?_
          rintro _ w11 ⟨⟨kk, rfl⟩, k11⟩
          have k8b : Kp w8 w11 := k810.trans k11
          have hmt11 : OnesE w11 mt (ones lto) := hmt8.chg k8b id
          have m13' : Own w11 p13 90 (pcells all[i]) := k11.own m13 id
          have hsnoc : all.take (i + 1) = all.take i ++ [all[i]] := by simp
          have hfl : (all.take (i + 1)).filter (fun p => decide (p.1 ∈ (setsOf g)[j] ∧ p ∈ linj)) = lto ++ if all[i].1 ∈ (setsOf g)[j] ∧ all[i] ∈ linj then [all[i]] else [] := by
            rw [hsnoc, List.filter_append, ← hlto]
            congr 1
            by_cases hc : all[i].1 ∈ (setsOf g)[j] ∧ all[i] ∈ linj
            · rw [if_pos hc, List.filter_cons_of_pos (by simpa using hc)]; rfl
            · rw [if_neg hc, List.filter_cons_of_neg (by simpa using hc)]; rfl
          cases d with
          | false =>
            have hd' := of_decide_eq_false hd.symm
            refine aw (by omega) (by omega) ?_
            refine again (i + 1, lto) ⟨rfl, rfl, rfl, rfl, rfl, rfl, rfl, rfl, rfl, rfl, rfl, rfl, trivial⟩ ⟨by simp only; omega, k8.trans k8b, hmt11, ?_⟩ (by simp only; omega)
            simp only [hfl]
            rw [if_neg fun h => hd' h.1, List.append_nil]
          | true =>
            have hd' := of_decide_eq_true hd.symm
            refine ld agree (v := pval all[i]) (Own.at_ (xs := pcells all[i]) (o := 0) m13' rfl) (by rfl) ?_
            refine lk (get1 (hm6.chg (k8.trans k8b) id) hp.1 hp.2) ?_
            by_cases c2 : all[i] ∈ linj
            · rw [if_pos c2]
              refine spT (by decide) ?_
              have hnot : all[i] ∉ lto := fun hmem => by
                rw [hlto] at hmem
                have hmem := (List.mem_filter.1 hmem).1
                have hd := ha.nodup
                rw [← List.take_append_drop i all, List.nodup_append] at hd
                exact hd.2.2 _ hmem _ (by rw [List.drop_eq_getElem_cons hi']; exact List.mem_cons_self) rfl
              have n13 : p13 ≠ mt := hmt11.ne m13'
              have hpre := preMapR Proofs.Tryd.prog 90 pval (fun n : Int => .int .i64 n) 0 mt all[i]
              refine drawnR agree mixed 6 (by kernel_rfl) _ hpre ?_
              conv => whnf
              refine ldr (v := pval all[i]) hpre agree rfl rfl (fun W h _ => h.chg.range (Own.at_ (xs := pcells all[i]) (o := 0) m13' rfl) n13) (by rfl) fun _ => ?_
              conv => whnf
              refine lkr (v := .int .i64 0) hpre rfl (fun W h _ => by
                obtain ⟨x1, hm1, he1⟩ := h.map _ hmt11
                have := MapE.get agree placeKeyed (t := 88) rfl rfl rfl rfl (z := 0) hm1 all[i] (placeKey hp.1 hp.2)
                rw [he1.get, ones, aget_ones, if_neg hnot] at this
                exact this) fun _ => ?_
              conv => whnf
              refine aw (by omega) (by omega) ?_
              conv => whnf
              refine enr agree placeKeyed (t := 88) rfl rfl rfl rfl rfl rfl (z := 0) rfl hmt11 (placeKey hp.1 hp.2) fun st D hD => ?_
              conv => whnf
              intro W10 hW10 hDs
              obtain ⟨x1, hen, he1⟩ := hD W10 (hDs 4)
              refine mu (hen.store 1) ?_
              rintro w11' ⟨hm11, hs11, hc11⟩
              have hones : aput x1 all[i] 1 = ones (lto ++ [all[i]]) := by
                rw [he1.put, ones, ones, aput_new fun y hy he => by
                  obtain ⟨z, hz, rfl⟩ := List.mem_map.1 hy
                  exact hnot (he ▸ hz)]
                rw [List.map_append]; rfl
              rw [hones] at hm11
              refine aw (by omega) (by omega) ?_
              have k11' : Kp W6 w11' := (k8.trans k8b).newS (hW10.chg.trans hc11) fun k hk => by omega
              refine again (i + 1, lto ++ [all[i]]) ⟨rfl, rfl, rfl, rfl, rfl, rfl, rfl, rfl, rfl, rfl, rfl, rfl, trivial⟩ ⟨by simp only; omega, k11', hm11, ?_⟩ (by simp only; omega)
              simp only [hfl]
              rw [if_pos ⟨hd', c2⟩]
            · rw [if_neg c2]
              refine spF (by decide) ?_
              refine aw (by omega) (by omega) ?_
              refine again (i + 1, lto) ⟨rfl, rfl, rfl, rfl, rfl, rfl, rfl, rfl, rfl, rfl, rfl, rfl, trivial⟩ ⟨by simp only; omega, k8.trans k8b, hmt11, ?_⟩ (by simp only; omega)
              simp only [hfl]
              rw [if_neg fun h => c2 h.2, List.append_nil]
        · have k08 : Kp w w8 := hk4.trans (k6.trans k8)
          have htk : all.take i = all := List.take_of_length_le (by omega)
          rw [htk] at hlto
          have hbef := before_c (hr.chg k08 (Nat.le_refl _)) ha hg hx hP hE (hm6.chg k8 id) hmt8
          refine cl callBefore hbef ?_
          rintro _ w9 ⟨k9, mo, lout, rfl, hmo, hsz, hnd, hl⟩
          refine aw (by omega) (by omega) ?_
          obtain ⟨hA', hC'⟩ := hC6.step hA hA6 (List.getElem_mem hj') (fun p => by rw [hlto, List.mem_filter, decide_eq_true_eq]) hnd hl
          refine again (j + 1, mo, lout) ⟨rfl, rfl, rfl, rfl, rfl, rfl, rfl, trivial⟩ ⟨by simp only; omega, k6.trans (k8.trans k9), hmo, hA', ?_⟩ (by simp only; omega)
          rw [show (setsOf g).take (j + 1) = (setsOf g).take j ++ [(setsOf g)[j]] by simp]
          exact hC'
      · rw [List.take_of_length_le (by omega)] at hC6
        have hll := nodup_sub hA6.nodup hC6.sub
        refine again ((lin.length : Int), mj, linj) ⟨rfl, rfl, rfl, rfl, trivial⟩ ⟨k6, hm6, hA6, fun he => ?_⟩ ?_
        · simp only at he
          obtain ⟨f1, f2⟩ := hC6.fixed (by omega)
          exact fun p hp F hF => (f2 p (hC6.sub p hp) F hF).mono (fun q hq => f1 q hq) fun _ _ h => h
        · simp only
          rw [if_neg hne]
          split <;> omega
    · have heq' : was = (lin.length : Int) := Classical.byContradiction fun h => heq h
      refine lm (t := 88) agree rfl rfl rfl rfl hmi ?_
      rw [hol]
      refine spB ?_
      refine ⟨congrArg Value.bool ?_, hk4.trans kW⟩
      have := hA.accP ha (hfx heq')
      unfold acceptsS
      by_cases hc : AccP g x
      · rw [@decide_eq_true _ (Classical.propDecidable _) hc, decide_eq_true (by have := this.2 hc; omega)]
      · rw [@decide_eq_false _ (Classical.propDecidable _) hc, decide_eq_false (by intro h; exact hc (this.1 (by omega)))]
theorem callAccepts : callable Proofs.Tryd.prog 28 = true := by kernel_rfl
end Go.Au

namespace Go.Au
open Go Go.RowKit Go.MapKept
open Go.Maps (Keyed)

noncomputable def accS (g : General) (x : Word) : Bool × Int := if checkS g = true then (if wordOk x g.props.length = true then (acceptsS g x, 0) else (false, 101)) else (false, 100)

theorem check_len {g : General} (h : checkS g = true) : g.props.length ≤ 8 := by
  simp only [checkS, Bool.and_eq_true] at h
  have := h.1.1.1.1.1
  simp only [namesOk, Bool.and_eq_true] at this
  exact of_decide_eq_true this.2
theorem check_sorted {g : General} (h : checkS g = true) : ∀ l ∈ g.sets, l.Pairwise (· ≤ ·) := fun l hl => by
  simp only [checkS, Bool.and_eq_true] at h
  exact (rising_sorted (List.all_eq_true.1 h.2 l hl)).1

theorem acceptsG_c {w : World} {pv iv ev sv stv lov : Value} {g : General} {x : Word} (hv : GenV 0 w.heap.size w pv iv ev sv g) (hw : WordV 0 w.heap.size w stv lov x) (hE : g.edges.length < 1099511627776) (hP : x.places < 1048576) :
    Calls Proofs.Tryd.prog 14 [.agg #[pv, .int .i64 g.states, iv, ev, sv], .agg #[stv, lov]].toArray w (Ret fun v w' => v = .tuple #[.bool (accS g x).1, .int .i64 (accS g x).2] ∧ Kp w w') := by
  obtain ⟨pa, pc, hpv, -⟩ := id hv.props
  subst hpv
  refine call agree Proofs.Tryd.func14 rfl Proofs.Tryd.ntmps14 (by kernel_rfl) ?_
  refine nd fun p2 w1 e1 s1 k1 m1 => ?_
  have m2 : Own w1 p2 33 [.slice pa g.props.length pc, .int .i64 g.states, iv, ev, sv] := m1
  refine nd fun p3 w2 e2 s2 k2 m3 => ?_
  have m3 : Own w2 p3 29 [stv, lov] := m3
  have m2 := k2.own m2 id
  have k12 := k1.trans k2
  refine ld agree (v := .agg #[.slice pa g.props.length pc, .int .i64 g.states, iv, ev, sv]) (Own.at_ (xs := [.slice pa g.props.length pc, .int .i64 g.states, iv, ev, sv]) (o := 0) m2 rfl) (by rfl) ?_
  have hchk := check_c (hv.chg k12 (Nat.le_refl _) (Nat.le_refl _))
  refine cl callCheckG hchk ?_
  rintro _ w3 ⟨rfl, k3⟩
  cases hc : checkS g with
  | false =>
    refine spT (by decide) ?_
    exact ⟨by simp [accS, hc]; rfl, k12.trans k3⟩
  | true =>
    refine spF (by decide) ?_
    have m3' := k3.own m3 id
    have m2' := k3.own m2 id
    refine ld agree (v := .agg #[stv, lov]) (Own.at_ (xs := [stv, lov]) (o := 0) m3' rfl) (by rfl) ?_
    refine ld agree (Own.at_ (xs := [.slice pa g.props.length pc]) (o := 0) m2' rfl) (by rfl) ?_
    have hwc := wcheck_c (n := g.props.length) (hw.chg (k12.trans k3) (Nat.le_refl _) (Nat.le_refl _)) (check_len hc)
    refine cl callWCheck hwc ?_
    rintro _ w4 ⟨rfl, k4⟩
    have k14 := k12.trans (k3.trans k4)
    cases hk : wordOk x g.props.length with
    | false =>
      refine spT (by decide) ?_
      exact ⟨by simp [accS, hc, hk]; rfl, k14⟩
    | true =>
      refine spF (by decide) ?_
      refine ld agree (v := .agg #[.slice pa g.props.length pc, .int .i64 g.states, iv, ev, sv]) (Own.at_ (xs := [.slice pa g.props.length pc, .int .i64 g.states, iv, ev, sv]) (o := 0) (k4.own m2' id) rfl) (by rfl) ?_
      refine ld agree (v := .agg #[stv, lov]) (Own.at_ (xs := [stv, lov]) (o := 0) (k4.own m3' id) rfl) (by rfl) ?_
      have hb := beside_c (hv.chg k14 (Nat.le_refl _) k14.size) (hw.chg k14 (Nat.le_refl _) k14.size) (Good.of hc) (wordOk_loop hk) hE hP
      refine cl callBeside hb ?_
      rintro _ w5 ⟨k5, r, all, rfl, ha, hr⟩
      have hacc := accepts_c hr (Nat.le_refl _) ha (Good.of hc) (check_sorted hc) (wordOk_loop hk) hP hE
      refine cl callAccepts hacc ?_
      rintro _ w6 ⟨rfl, k6⟩
      exact ⟨by simp [accS, hc, hk]; rfl, k14.trans (k5.trans k6)⟩
theorem callAcceptsG : callable Proofs.Tryd.prog 14 = true := by kernel_rfl

theorem acceptsB_c {w : World} {pv iv ev fv stv lov : Value} {g : Buchi} {x : Word} (hv : BuchiV 0 w.heap.size w pv iv ev fv g) (hw : WordV 0 w.heap.size w stv lov x) (hE : g.edges.length < 1099511627776) (hP : x.places < 1048576) :
    Calls Proofs.Tryd.prog 7 [.agg #[pv, .int .i64 g.states, iv, ev, fv], .agg #[stv, lov]].toArray w (Ret fun v w' => v = .tuple #[.bool (accS g.general x).1, .int .i64 (accS g.general x).2] ∧ Kp w w') := by
  obtain ⟨a1, c1, hh1, -⟩ := id hv.props
  obtain ⟨a2, c2, hh2, -⟩ := id hv.init
  obtain ⟨a3, c3, hh3, -⟩ := id hv.edges
  obtain ⟨a4, c4, hh4, -⟩ := id hv.final
  subst hh1 hh2 hh3 hh4
  refine call agree Proofs.Tryd.func7 rfl Proofs.Tryd.ntmps7 (by kernel_rfl) ?_
  refine nd fun p2 w1 e1 s1 k1 m1 => ?_
  have m2 : Own w1 p2 26 [.slice a1 g.props.length c1, .int .i64 g.states, .slice a2 g.init.length c2, .slice a3 g.edges.length c3, .slice a4 g.final.length c4] := m1
  refine nd fun p3 w2 e2 s2 k2 m3 => ?_
  have m3 : Own w2 p3 29 [stv, lov] := m3
  have m2 := k2.own m2 id
  have k12 := k1.trans k2
  refine drawnK agree mixed 8 [0, 1, 2, 3, 4, 5, 6, 7] (by kernel_rfl) ?_
  conv => whnf
  refine ldk (v := .agg #[.slice a1 g.props.length c1, .int .i64 g.states, .slice a2 g.init.length c2, .slice a3 g.edges.length c3, .slice a4 g.final.length c4]) agree rfl rfl (fun W h _ => Own.at_ (xs := [.slice a1 g.props.length c1, .int .i64 g.states, .slice a2 g.init.length c2, .slice a3 g.edges.length c3, .slice a4 g.final.length c4]) (o := 0) (h.own m2 id) rfl) (by rfl) fun _ => ?_
  conv => whnf
  refine callf (fun q : Nat => .agg #[.slice a1 g.props.length c1, .int .i64 g.states, .slice a2 g.init.length c2, .slice a3 g.edges.length c3, .slice (some ⟨q, 0, none⟩) 1 1]) (fun q W => W.heap[q]? = some (.cells [.slice a4 g.final.length c4].toArray 23 (0, 0))) rfl rfl rfl (fun q W W' h k => k.heap h id) callGeneral (fun W h _ => (general_c W a1 a2 a3 a4 _ c1 _ c2 _ c3 _ c4 g.states).mono fun en W' hr => ?_) fun q D hD => ?_
  · cases en with
    | returned v =>
      obtain ⟨k, q, h1, h2, h3, h4⟩ := hr
      exact ⟨k, q, h4, h3⟩
    | _ => exact hr.elim
  conv => whnf
  refine ldk (v := .agg #[stv, lov]) agree rfl rfl (fun W h _ => Own.at_ (xs := [stv, lov]) (o := 0) (h.own m3 id) rfl) (by rfl) fun _ => ?_
  conv => whnf
  refine callk (v := .tuple #[.bool (accS g.general x).1, .int .i64 (accS g.general x).2]) rfl rfl rfl callAcceptsG (fun W h h2 => by
    have hq := hD W (h2 1 (by kernel_rfl))
    have hg := (hv.chg (k12.trans h) (Nat.le_refl _) (k12.trans h).size).general hq
    have hlt := lt_of_heap hq
    have hgg := hg.chg (Chg.refl _ W) (Nat.le_refl _) (show max W.heap.size (q + 1) ≤ W.heap.size by omega)
    exact acceptsG_c hgg (hw.chg (k12.trans h) (Nat.le_refl _) (k12.trans h).size) hE hP) fun _ => ?_
  conv => whnf
  intro W h _
  exact ⟨rfl, k12.trans h⟩
theorem callAcceptsB : callable Proofs.Tryd.prog 7 = true := by kernel_rfl
end Go.Au

namespace Go.Au
open Go

/-! ### the normal form of a word -/
def isPer (l : List Int) (n : Nat) : Prop := 0 < n ∧ n ≤ l.length ∧ l.length % n = 0 ∧ l.drop n = l.take (l.length - n)
instance isPerDec (l : List Int) (n : Nat) : Decidable (isPer l n) := by unfold isPer; infer_instance
/-- how long the shortest row is that, again and again, is l -/
def perS (l : List Int) : Nat := ((List.range l.length).find? (fun n => decide (isPer l n))).getD l.length
theorem perS_first {l : List Int} {n : Nat} (h : ∀ m, m < n → ¬ isPer l m) (hn : isPer l n) (hlt : n < l.length) : perS l = n := by
  unfold perS
  have : (List.range l.length).find? (fun n => decide (isPer l n)) = some n := by
    rw [List.find?_range_eq_some]
    exact ⟨by simpa using hn, by simpa using hlt, fun j hj => by simpa using h j hj⟩
  rw [this]; rfl
theorem perS_none {l : List Int} (h : ∀ m, m < l.length → ¬ isPer l m) : perS l = l.length := by
  unfold perS
  have : (List.range l.length).find? (fun n => decide (isPer l n)) = none := by
    rw [List.find?_eq_none]
    intro j hj
    simpa using h j (by simpa using hj)
  rw [this]; rfl
theorem perS_is {l : List Int} (hl : l.length ≠ 0) : isPer l (perS l) := by
  unfold perS
  cases h : (List.range l.length).find? (fun n => decide (isPer l n)) with
  | none => exact ⟨by show 0 < l.length; omega, Nat.le_refl _, Nat.mod_self _, by show l.drop l.length = l.take (l.length - l.length); simp⟩
  | some n => simpa using List.find?_some h
theorem per_at {l : List Int} {n : Nat} (h : isPer l n) (k : Nat) : l.getD (k % l.length) 0 = (l.take n).getD (k % n) 0 := by
  obtain ⟨h0, h1, h2, h3⟩ := h
  have key : ∀ j, j < l.length → l.getD j 0 = l.getD (j % n) 0 := by
    intro j
    induction j using Nat.strongRecOn with
    | _ j ih =>
      intro hj
      rcases Nat.lt_or_ge j n with h | h
      · rw [Nat.mod_eq_of_lt h]
      · have h4 : l[j]? = l[j - n]? := by
          have := congrArg (fun m : List Int => m[j - n]?) h3
          simp only [List.getElem?_drop, List.getElem?_take] at this
          rw [if_pos (by omega), show n + (j - n) = j by omega] at this
          exact this
        have h5 : l.getD j 0 = l.getD (j - n) 0 := by rw [List.getD_eq_getElem?_getD, List.getD_eq_getElem?_getD, h4]
        rw [h5, ih (j - n) (by omega) (by omega), Nat.mod_eq_sub_mod h]
  have hk := Nat.mod_lt k (show 0 < l.length by omega)
  have hn := Nat.mod_lt k h0
  rw [key _ hk, Nat.mod_mod_of_dvd _ (Nat.dvd_of_mod_eq_zero h2), List.getD_eq_getElem?_getD, List.getD_eq_getElem?_getD, List.getElem?_take, if_pos hn]

def rotS (l : List Int) (t : Nat) : List Int := l.drop t ++ l.take t
theorem rotS_len {l : List Int} {t : Nat} (ht : t ≤ l.length) : (rotS l t).length = l.length := by
  unfold rotS; simp; omega
theorem rotS_at {l : List Int} {t j : Nat} (ht : t ≤ l.length) (hj : j < l.length) : (rotS l t).getD j 0 = l.getD ((t + j) % l.length) 0 := by
  unfold rotS
  rw [List.getD_eq_getElem?_getD, List.getElem?_append, List.getD_eq_getElem?_getD]
  simp only [List.length_drop]
  split
  · rename_i h
    rw [List.getElem?_drop, Nat.mod_eq_of_lt (by omega)]
  · rename_i h
    rw [List.getElem?_take, if_pos (by omega), Nat.mod_eq_sub_mod (by omega), Nat.mod_eq_of_lt (by omega)]
    congr 2; omega
theorem rotS_mem {l : List Int} {t : Nat} {x : Int} : x ∈ rotS l t ↔ x ∈ l := by
  unfold rotS
  rw [List.mem_append, Or.comm, ← List.mem_append, List.take_append_drop]

/-- the loop is turned back into the stem -/
def backS (stem base : List Int) : Nat → Nat → Nat × Nat
  | 0, t => (0, t)
  | s + 1, t => if stem.getD s 0 = base.getD ((t + base.length - 1) % base.length) 0 then backS stem base s ((t + base.length - 1) % base.length) else (s + 1, t)
theorem backS_le {stem base : List Int} (hb : base.length ≠ 0) : ∀ (s t : Nat), t < base.length → (backS stem base s t).1 ≤ s ∧ (backS stem base s t).2 < base.length
  | 0, t, ht => ⟨Nat.le_refl _, ht⟩
  | s + 1, t, ht => by
    unfold backS
    split
    · have := backS_le hb (stem := stem) s ((t + base.length - 1) % base.length) (Nat.mod_lt _ (by omega))
      exact ⟨by omega, this.2⟩
    · exact ⟨Nat.le_refl _, ht⟩
theorem backS_at {stem base : List Int} (hb : base.length ≠ 0) {f : Nat → Int} : ∀ (s t : Nat), t < base.length → (∀ i, f i = if i < s then stem.getD i 0 else base.getD ((t + (i - s)) % base.length) 0) →
    ∀ i, f i = if i < (backS stem base s t).1 then stem.getD i 0 else base.getD (((backS stem base s t).2 + (i - (backS stem base s t).1)) % base.length) 0
  | 0, t, ht, h => h
  | s + 1, t, ht, h => by
    unfold backS
    split
    · rename_i he
      refine backS_at hb s _ (Nat.mod_lt _ (by omega)) fun i => ?_
      rw [h i]
      rcases Nat.lt_or_ge i s with h1 | h1
      · rw [if_pos (by omega), if_pos h1]
      · rw [if_neg (show ¬ i < s by omega)]
        rcases Nat.eq_or_lt_of_le h1 with h2 | h2
        · subst h2
          rw [if_pos (by omega), Nat.sub_self, Nat.add_zero, Nat.mod_mod]
          exact he
        · rw [if_neg (by omega), Nat.mod_add_mod]
          rw [show t + base.length - 1 + (i - s) = t + (i - (s + 1)) + base.length by omega, Nat.add_mod_right]
    · exact h
def normS (x : Word) : Word := if x.loop.length = 0 then ⟨[], []⟩ else
  ⟨x.stem.take (backS x.stem (x.loop.take (perS x.loop)) x.stem.length 0).1, rotS (x.loop.take (perS x.loop)) (backS x.stem (x.loop.take (perS x.loop)) x.stem.length 0).2⟩
theorem normS_ok {x : Word} (h : x.loop.length ≠ 0) : (normS x).loop.length ≠ 0 ∧ (∀ i, (normS x).at i = x.at i) ∧ (∀ c ∈ (normS x).stem, c ∈ x.stem) ∧ (∀ c ∈ (normS x).loop, c ∈ x.loop) ∧ (normS x).stem.length ≤ x.stem.length ∧ (normS x).loop.length ≤ x.loop.length := by
  obtain ⟨base, hbase⟩ : ∃ base, base = x.loop.take (perS x.loop) := ⟨_, rfl⟩
  have hp := perS_is h
  have hbl : base.length = perS x.loop := by rw [hbase, List.length_take]; have := hp.2.1; omega
  have hb : base.length ≠ 0 := by have := hp.1; omega
  have hB := backS_le hb (stem := x.stem) x.stem.length 0 (by omega)
  have hA := backS_at hb (stem := x.stem) (f := x.at) x.stem.length 0 (by omega) fun i => by
    unfold Word.at
    rw [if_neg h]
    split
    · rfl
    · rw [per_at hp, ← hbase, Nat.zero_add, hbl]
  obtain ⟨r, hr⟩ : ∃ r, r = backS x.stem base x.stem.length 0 := ⟨_, rfl⟩
  have hN : normS x = ⟨x.stem.take r.1, rotS base r.2⟩ := by unfold normS; rw [if_neg h, ← hbase, ← hr]
  rw [← hr] at hA hB
  rw [hN]
  have hrl : (rotS base r.2).length = base.length := rotS_len (by omega)
  refine ⟨by show (rotS base r.2).length ≠ 0; omega, fun i => ?_, fun c hc => List.mem_of_mem_take hc, fun c hc => ?_, ?_, ?_⟩
  · rw [hA i]
    have hst : (x.stem.take r.1).length = r.1 := by rw [List.length_take]; omega
    show (if (rotS base r.2).length = 0 then 0 else if i < (x.stem.take r.1).length then (x.stem.take r.1).getD i 0 else (rotS base r.2).getD ((i - (x.stem.take r.1).length) % (rotS base r.2).length) 0) = _
    rw [hrl, hst, if_neg hb]
    split
    · rename_i hi
      rw [List.getD_eq_getElem?_getD, List.getD_eq_getElem?_getD, List.getElem?_take, if_pos hi]
    · rw [rotS_at (by omega) (Nat.mod_lt _ (by omega)), Nat.add_mod_mod]
  · have : c ∈ base := rotS_mem.1 hc
    rw [hbase] at this
    exact List.mem_of_mem_take this
  · show (x.stem.take r.1).length ≤ _; rw [List.length_take]; omega
  · show (rotS base r.2).length ≤ _; rw [hrl, hbl]; exact hp.2.1

def suffS (x : Word) (n : Nat) : Word := if x.loop.length = 0 then ⟨[], []⟩ else if n < x.stem.length then normS ⟨x.stem.drop n, x.loop⟩ else normS ⟨[], rotS x.loop ((n - x.stem.length) % x.loop.length)⟩
theorem suffS_ok {x : Word} (h : x.loop.length ≠ 0) (n : Nat) : (suffS x n).loop.length ≠ 0 ∧ (∀ i, (suffS x n).at i = x.at (i + n)) ∧ (∀ c ∈ (suffS x n).stem, c ∈ x.stem) ∧ (∀ c ∈ (suffS x n).loop, c ∈ x.loop) ∧ (suffS x n).stem.length ≤ x.stem.length ∧ (suffS x n).loop.length ≤ x.loop.length := by
  unfold suffS
  rw [if_neg h]
  split
  · rename_i hn
    obtain ⟨h1, h2, h3, h4, h5, h6⟩ := normS_ok (x := ⟨x.stem.drop n, x.loop⟩) h
    refine ⟨h1, fun i => ?_, fun c hc => List.mem_of_mem_drop (h3 c hc), h4, by simp only [List.length_drop] at h5; omega, h6⟩
    rw [h2]
    unfold Word.at
    rw [if_neg h, if_neg h]
    simp only [List.length_drop]
    rw [List.getD_eq_getElem?_getD, List.getElem?_drop, List.getD_eq_getElem?_getD, Nat.add_comm n i]
    by_cases hi : i < x.stem.length - n
    · rw [if_pos hi, if_pos (by omega)]; rfl
    · rw [if_neg hi, if_neg (by omega), show i - (x.stem.length - n) = i + n - x.stem.length by omega]; rfl
  · rename_i hn
    obtain ⟨k, hk⟩ : ∃ k, k = (n - x.stem.length) % x.loop.length := ⟨_, rfl⟩
    rw [← hk]
    have hkl : k < x.loop.length := by rw [hk]; exact Nat.mod_lt _ (by omega)
    have hrl : (rotS x.loop k).length = x.loop.length := rotS_len (by omega)
    obtain ⟨h1, h2, h3, h4, h5, h6⟩ := normS_ok (x := ⟨[], rotS x.loop k⟩) (by show (rotS x.loop k).length ≠ 0; omega)
    refine ⟨h1, fun i => ?_, fun c hc => absurd (h3 c hc) (by simp), fun c hc => rotS_mem.1 (h4 c hc), by simp only [List.length_nil] at h5; omega, by rw [← hrl]; exact h6⟩
    rw [h2]
    unfold Word.at
    simp only [List.length_nil]
    rw [hrl, if_neg h, if_neg h, if_neg (by omega), if_neg (by omega), rotS_at (by omega) (Nat.mod_lt _ (by omega)), Nat.sub_zero, Nat.add_mod_mod, hk, Nat.mod_add_mod]
    congr 2; omega
end Go.Au

namespace Go.Au
open Go

/-! ### the infinite word -/
theorem mod_succ (n : Nat) {L : Nat} (hL : L ≠ 0) : (n + 1) % L = if n % L + 1 = L then 0 else n % L + 1 := by
  rw [← Nat.mod_add_mod]
  split
  · rename_i h; rw [h, Nat.mod_self]
  · rename_i h
    have := Nat.mod_lt n (show 0 < L by omega)
    exact Nat.mod_eq_of_lt (by omega)
/-- the place of the letter at i -/
def plOf (x : Word) : Nat → Nat
  | 0 => 0
  | i + 1 => (x.behind (plOf x i)).toNat
theorem plOf_eq {x : Word} (h : x.loop.length ≠ 0) : ∀ i, plOf x i = if i < x.stem.length then i else x.stem.length + (i - x.stem.length) % x.loop.length
  | 0 => by
    show 0 = _
    split
    · rfl
    · have : x.stem.length = 0 := by omega
      rw [this]; simp
  | i + 1 => by
    show (x.behind (plOf x i)).toNat = _
    have hp := places_pos h
    rw [plOf_eq h i]
    unfold Word.behind
    by_cases hi : i < x.stem.length
    · rw [if_pos hi, if_neg (by omega), if_neg (by omega)]
      by_cases h2 : i + 1 < x.stem.length
      · rw [if_pos h2]; omega
      · rw [if_neg h2, show i + 1 - x.stem.length = 0 by omega, Nat.zero_mod]; omega
    · have hm := Nat.mod_lt (i - x.stem.length) (show 0 < x.loop.length by omega)
      rw [if_neg hi, if_neg (show ¬ i + 1 < x.stem.length by omega), if_neg (by omega), show i + 1 - x.stem.length = (i - x.stem.length) + 1 by omega, mod_succ _ h]
      by_cases h2 : (i - x.stem.length) % x.loop.length + 1 = x.loop.length
      · rw [if_pos (by omega), if_pos h2]; omega
      · rw [if_neg (by omega), if_neg h2]; omega
theorem plOf_lt {x : Word} (h : x.loop.length ≠ 0) (i : Nat) : plOf x i < x.places := by
  have hp := places_pos h
  rw [plOf_eq h]
  have hm := Nat.mod_lt (i - x.stem.length) (show 0 < x.loop.length by omega)
  split <;> omega
theorem at_plOf {x : Word} (h : x.loop.length ≠ 0) (i : Nat) : x.at (plOf x i) = x.at i := by
  rw [plOf_eq h]
  by_cases hi : i < x.stem.length
  · rw [if_pos hi]
  · rw [if_neg hi]
    unfold Word.at
    rw [if_neg h, if_neg (by omega), if_neg h, if_neg hi, Nat.add_sub_cancel_left, Nat.mod_mod]

/-! ### runs over infinite words -/
structure RunI (g : General) (σ : Nat → Int) (ρ : Nat → Int) : Prop where
  start : ρ 0 ∈ g.init
  step : ∀ i, ∃ e ∈ g.edges, e.frm = ρ i ∧ goesS e (σ i) = true ∧ e.to = ρ (i + 1)
  again : ∀ F ∈ setsOf g, ∀ i, ∃ j, i ≤ j ∧ ρ j ∈ F
def AccI' (g : General) (σ : Nat → Int) : Prop := ∃ ρ, RunI g σ ρ

theorem succ_mem {g : General} {x : Word} {p q : Place} : q ∈ succ g x p ↔ ∃ e ∈ g.edges, e.frm = p.1 ∧ goesS e (x.at p.2.toNat) = true ∧ q = (e.to, x.behind p.2.toNat) := by
  simp only [succ, succOf, fromS, List.mem_map, List.mem_filter, decide_eq_true_eq]
  constructor
  · rintro ⟨e, ⟨⟨h1, h2⟩, h3⟩, rfl⟩; exact ⟨e, h1, h2, h3, rfl⟩
  · rintro ⟨e, h1, h2, h3, rfl⟩; exact ⟨e, ⟨⟨h1, h2⟩, h3⟩, rfl⟩

def ToN (g : General) (x : Word) (T : Place → Prop) : Nat → Place → Prop
  | 0, p => T p
  | n + 1, p => ∃ q ∈ succ g x p, ToN g x T n q
theorem ToN.snoc {g : General} {x : Word} {T T' : Place → Prop} (h : ∀ p, T p → ∃ q ∈ succ g x p, T' q) : ∀ {n : Nat} {p : Place}, ToN g x T n p → ToN g x T' (n + 1) p
  | 0, p, hp => h p hp
  | n + 1, p, ⟨q, hq, hr⟩ => ⟨q, hq, ToN.snoc h hr⟩
theorem ToN.imp {g : General} {x : Word} {T T' : Place → Prop} (h : ∀ p, T p → T' p) : ∀ {n : Nat} {p : Place}, ToN g x T n p → ToN g x T' n p
  | 0, p, hp => h p hp
  | n + 1, p, ⟨q, hq, hr⟩ => ⟨q, hq, ToN.imp h hr⟩
theorem Plus.toN {g : General} {x : Word} {X T : Place → Prop} {p : Place} (h : Plus g x X T p) : ∃ q ∈ succ g x p, ∃ n, ToN g x (fun q => X q ∧ T q) n q := by
  induction h with
  | one h1 h2 h3 h4 => exact ⟨_, h2, 0, h3, h4⟩
  | more h1 h2 h3 _ ih => obtain ⟨q, hq, n, hn⟩ := ih; exact ⟨_, h2, n + 1, q, hq, hn⟩
theorem reach_toN {g : General} {x : Word} {p : Place} (h : Reachable g x p) : ∃ s ∈ g.init, ∃ n, ToN g x (· = p) n (s, 0) := by
  refine h (fun p => ∃ s ∈ g.init, ∃ n, ToN g x (· = p) n (s, 0)) (fun s hs => ⟨s, hs, 0, rfl⟩) ?_
  rintro p q ⟨s, hs, n, hn⟩ hq
  exact ⟨s, hs, n + 1, ToN.snoc (T' := (· = q)) (fun p' hp => ⟨q, by rw [hp]; exact hq, rfl⟩) hn⟩

/-- a row that goes on -/
theorem endless {α : Type} {I : α → Prop} {R : α → α → Prop} (h : ∀ a, I a → ∃ b, I b ∧ R a b) {a0 : α} (h0 : I a0) : ∃ f : Nat → α, f 0 = a0 ∧ ∀ i, I (f i) ∧ R (f i) (f (i + 1)) := by
  let nx : {a // I a} → {a // I a} := fun a => ⟨(h a.1 a.2).choose, (h a.1 a.2).choose_spec.1⟩
  let f : Nat → {a // I a} := fun i => Nat.rec ⟨a0, h0⟩ (fun _ a => nx a) i
  exact ⟨fun i => (f i).1, rfl, fun i => ⟨(f i).2, (h (f i).1 (f i).2).choose_spec.2⟩⟩

theorem accP_run {g : General} {x : Word} (hx : x.loop.length ≠ 0) : AccP g x ↔ AccI' g x.at := by
  constructor
  · rintro ⟨X, ⟨p0, hp0⟩, hr, hX⟩
    obtain ⟨s, hs, n0, hn0⟩ := reach_toN (hr p0 hp0)
    obtain ⟨Fs, hFs⟩ : ∃ Fs, Fs = setsOf g := ⟨_, rfl⟩
    rw [← hFs] at hX
    have hm : 0 < Fs.length := by
      rw [hFs]; unfold setsOf; split
      · simp
      · omega
    let Tg : Nat → Place → Prop := fun k q => X q ∧ (k = 0 ∨ q.1 ∈ Fs.getD ((k - 1) % Fs.length) [])
    have hnx : ∀ k p, X p → ∃ q ∈ succ g x p, ∃ n, ToN g x (Tg (k + 1)) n q := fun k p hp => by
      have hlt : k % Fs.length < Fs.length := Nat.mod_lt _ hm
      have hF : Fs.getD (k % Fs.length) [] ∈ Fs := by
        rw [List.getD_eq_getElem?_getD, List.getElem?_eq_getElem hlt]
        exact List.getElem_mem hlt
      obtain ⟨q, hq, n, hn⟩ := (hX p hp _ hF).toN
      exact ⟨q, hq, n, hn.imp fun r hr => ⟨hr.1, .inr hr.2⟩⟩
    have hstep : ∀ a : Place × Nat × Nat, ToN g x (Tg a.2.1) a.2.2 a.1 → ∃ b : Place × Nat × Nat, ToN g x (Tg b.2.1) b.2.2 b.1 ∧ b.1 ∈ succ g x a.1 ∧ (a.2.2 ≠ 0 → b.2.1 = a.2.1 ∧ b.2.2 + 1 = a.2.2) ∧ (a.2.2 = 0 → b.2.1 = a.2.1 + 1) := by
      rintro ⟨p, k, n⟩ ha
      cases n with
      | zero =>
        obtain ⟨q, hq, n, hn⟩ := hnx k p ha.1
        exact ⟨(q, k + 1, n), hn, hq, fun h => absurd rfl h, fun _ => rfl⟩
      | succ n =>
        obtain ⟨q, hq, hn⟩ := ha
        exact ⟨(q, k, n), hn, hq, fun _ => ⟨rfl, rfl⟩, fun h => absurd h (by simp)⟩
    obtain ⟨f, hf0, hf⟩ := endless (a0 := ((s, 0), 0, n0)) hstep (hn0.imp fun q hq => by subst hq; exact ⟨hp0, .inl rfl⟩)
    have hpl : ∀ i, (f i).1.2 = (plOf x i : Nat) := by
      intro i
      induction i with
      | zero => rw [hf0]; rfl
      | succ i ih =>
        obtain ⟨e, -, -, -, he⟩ := succ_mem.1 (hf i).2.1
        rw [he, ih, Int.toNat_natCast]
        have := (behind_lt hx (plOf_lt hx i)).1
        show x.behind (plOf x i) = ((x.behind (plOf x i)).toNat : Nat)
        omega
    refine ⟨fun i => (f i).1.1, by rw [hf0]; exact hs, fun i => ?_, ?_⟩
    · obtain ⟨e, h1, h2, h3, he⟩ := succ_mem.1 (hf i).2.1
      rw [hpl, Int.toNat_natCast, at_plOf hx] at h3
      exact ⟨e, h1, h2, h3, by rw [he]⟩
    · have hit : ∀ n i, (f i).2.2 = n → ∃ j, i ≤ j ∧ (f j).2.1 = (f i).2.1 ∧ (f j).2.2 = 0 := by
        intro n
        induction n with
        | zero => exact fun i h => ⟨i, Nat.le_refl _, rfl, h⟩
        | succ n ih =>
          intro i h
          obtain ⟨h1, h2⟩ := (hf i).2.2.1 (by omega)
          obtain ⟨j, h3, h4, h5⟩ := ih (i + 1) (by omega)
          exact ⟨j, by omega, by rw [h4, h1], h5⟩
      have far : ∀ t i, ∃ j, i ≤ j ∧ (f j).2.1 = (f i).2.1 + t ∧ (f j).2.2 = 0 := by
        intro t
        induction t with
        | zero => exact fun i => hit _ i rfl
        | succ t ih =>
          intro i
          obtain ⟨j, h1, h2, h3⟩ := ih i
          have h4 := (hf j).2.2.2 h3
          obtain ⟨j2, h5, h6, h7⟩ := hit _ (j + 1) rfl
          exact ⟨j2, by omega, by omega, h7⟩
      intro F hF i
      rw [← hFs] at hF
      obtain ⟨a, ha, hFa⟩ := List.mem_iff_getElem.1 hF
      obtain ⟨k, hk⟩ : ∃ k, k = (f i).2.1 := ⟨_, rfl⟩
      obtain ⟨j, h1, h2, h3⟩ := far (Fs.length - k % Fs.length + a + 1) i
      have hT := (hf j).1
      rw [h3, h2, ← hk] at hT
      refine ⟨j, h1, ?_⟩
      rcases hT.2 with h | h
      · omega
      · have hmod : (k + (Fs.length - k % Fs.length + a + 1) - 1) % Fs.length = a := by
          have hlt := Nat.mod_lt k hm
          have h5 := Nat.div_add_mod k Fs.length
          have h6 : k + (Fs.length - k % Fs.length + a + 1) - 1 = a + Fs.length * (k / Fs.length + 1) := by rw [Nat.mul_add]; omega
          rw [h6, Nat.add_mul_mod_self_left, Nat.mod_eq_of_lt ha]
        rw [hmod, List.getD_eq_getElem?_getD, List.getElem?_eq_getElem ha] at h
        rw [← hFa]; exact h
  · rintro ⟨ρ, h0, hs, ha⟩
    have hsucc : ∀ i, (ρ (i + 1), ((plOf x (i + 1) : Nat) : Int)) ∈ succ g x (ρ i, ((plOf x i : Nat) : Int)) := fun i => by
      obtain ⟨e, h1, h2, h3, h4⟩ := hs i
      have := (behind_lt hx (plOf_lt hx i)).1
      refine succ_mem.2 ⟨e, h1, h2, by rw [Int.toNat_natCast, at_plOf hx]; exact h3, ?_⟩
      rw [h4, Int.toNat_natCast]
      congr 1
      show ((x.behind (plOf x i)).toNat : Int) = _
      omega
    refine ⟨fun p => ∃ i, p = (ρ i, ((plOf x i : Nat) : Int)), ⟨_, 0, rfl⟩, ?_, ?_⟩
    · rintro p ⟨i, rfl⟩ Y h1 h2
      induction i with
      | zero => exact h1 _ h0
      | succ i ih => exact h2 _ _ ih (hsucc i)
    · rintro p ⟨i, rfl⟩ F hF
      obtain ⟨j, hj, hjF⟩ := ha F hF (i + 1)
      obtain ⟨d, rfl⟩ : ∃ d, j = i + 1 + d := ⟨j - (i + 1), by omega⟩
      clear hj
      induction d generalizing i with
      | zero => exact .one ⟨i, rfl⟩ (hsucc i) ⟨i + 1, rfl⟩ hjF
      | succ d ih => exact .more ⟨i, rfl⟩ (hsucc i) ⟨i + 1, rfl⟩ (ih (i + 1) (by rw [show i + 1 + 1 + d = i + 1 + (d + 1) by omega]; exact hjF))
end Go.Au

namespace Go.Au
open Go

/-- a word and its rest -/
theorem acc_rest {g : General} {σ τ : Nat → Int} {I : List Int} (hI : ∀ s, s ∈ I ↔ ∃ e ∈ g.edges, e.frm ∈ g.init ∧ goesS e (σ 0) = true ∧ e.to = s) (hτ : ∀ i, τ i = σ (i + 1)) : AccI' g σ ↔ AccI' { g with init := I } τ := by
  constructor
  · rintro ⟨ρ, h0, hs, ha⟩
    refine ⟨fun i => ρ (i + 1), ?_, fun i => ?_, fun F hF i => ?_⟩
    · obtain ⟨e, h1, h2, h3, h4⟩ := hs 0
      exact (hI _).2 ⟨e, h1, by rw [h2]; exact h0, h3, h4⟩
    · rw [hτ]; exact hs (i + 1)
    · obtain ⟨j, hj, hF⟩ := ha F hF (i + 1)
      exact ⟨j - 1, by omega, by rw [show j - 1 + 1 = j by omega]; exact hF⟩
  · rintro ⟨ρ, h0, hs, ha⟩
    obtain ⟨e, h1, h2, h3, h4⟩ := (hI _).1 h0
    refine ⟨fun i => match i with | 0 => e.frm | i + 1 => ρ i, h2, fun i => ?_, fun F hF i => ?_⟩
    · cases i with
      | zero => exact ⟨e, h1, rfl, h3, h4⟩
      | succ i => rw [← hτ]; exact hs i
    · obtain ⟨j, hj, hF⟩ := ha F hF i
      exact ⟨j + 1, by omega, hF⟩
theorem acc_same {g : General} {σ τ : Nat → Int} (h : ∀ i, τ i = σ i) : AccI' g σ ↔ AccI' g τ := by
  rw [show τ = σ from funext h]
end Go.Au

namespace Go.Au
open Go Go.RowKit Go.MapKept
open Go.Maps (Keyed)

def kA : Buchi := { props := [⟨#[97]⟩], states := 1, init := [0], edges := [⟨0, 0, 1, 0⟩], final := [0] }

def kW1 : Word := { stem := [], loop := [1] }

def kW2 : Word := { stem := [1], loop := [1, 0] }

theorem kCheck : checkS kA.general = true := by decide +kernel

theorem kOk1 : wordOk kW1 kA.general.props.length = true := by decide +kernel

theorem kOk2 : wordOk kW2 kA.general.props.length = true := by decide +kernel

theorem kSets : setsOf kA.general = [[0]] := by rfl

theorem kS1 : succ kA.general kW1 (0, 0) = [(0, 0)] := by decide +kernel

theorem kS20 : succ kA.general kW2 (0, 0) = [(0, 1)] := by decide +kernel

theorem kS21 : succ kA.general kW2 (0, 1) = [(0, 2)] := by decide +kernel

theorem kS22 : succ kA.general kW2 (0, 2) = [] := by decide +kernel

theorem kAcc1 : accS kA.general kW1 = (true, 0) := by
  have h : AccP kA.general kW1 := by
    refine ⟨fun p => p = (0, 0), ⟨_, rfl⟩, fun p hp X h1 _ => by rw [hp]; exact h1 0 (by simp [kA, Buchi.general]), fun p hp F hF => ?_⟩
    rw [kSets] at hF
    simp only [List.mem_singleton] at hF
    subst hF hp
    exact .one rfl (by rw [kS1]; simp) rfl (by simp)
  unfold accS
  rw [if_pos kCheck, if_pos kOk1]
  unfold acceptsS
  rw [@decide_eq_true _ (Classical.propDecidable _) h]

theorem kAcc2 : accS kA.general kW2 = (false, 0) := by
  have h : ¬ AccP kA.general kW2 := by
    rintro ⟨X, ⟨p, hp⟩, hr, hX⟩
    have step : ∀ p, X p → ∃ q, q ∈ succ kA.general kW2 p ∧ X q := fun p hp => by
      have := hX p hp [0] (by rw [kSets]; simp)
      cases this with
      | one h1 h2 h3 h4 => exact ⟨_, h2, h3⟩
      | more h1 h2 h3 h4 => exact ⟨_, h2, h3⟩
    have n2 : ¬ X (0, 2) := fun h => by obtain ⟨q, hq, _⟩ := step _ h; rw [kS22] at hq; simp at hq
    have n1 : ¬ X (0, 1) := fun h => by obtain ⟨q, hq, hx⟩ := step _ h; rw [kS21] at hq; simp at hq; subst hq; exact n2 hx
    have n0 : ¬ X (0, 0) := fun h => by obtain ⟨q, hq, hx⟩ := step _ h; rw [kS20] at hq; simp at hq; subst hq; exact n1 hx
    have := hr p hp (fun q => q = (0, 0) ∨ q = (0, 1) ∨ q = (0, 2)) (fun s hs => by simp [kA, Buchi.general] at hs; simp [hs]) (fun a q ha hq => by
      rcases ha with rfl | rfl | rfl
      · rw [kS20] at hq; simp at hq; simp [hq]
      · rw [kS21] at hq; simp at hq; simp [hq]
      · rw [kS22] at hq; simp at hq)
    rcases this with rfl | rfl | rfl
    · exact n0 hp
    · exact n1 hp
    · exact n2 hp
  unfold accS
  rw [if_pos kCheck, if_pos kOk2]
  unfold acceptsS
  rw [@decide_eq_false _ (Classical.propDecidable _) h]

theorem known_c (w : World) : Calls Proofs.Tryd.prog 6 [].toArray w (Ret fun v w' => v = .bool true ∧ Kp w w') := by
  refine call agree Proofs.Tryd.func6 rfl Proofs.Tryd.ntmps6 (by kernel_rfl) ?_
  refine ne (by decide) ?_
  refine nd fun b1 w1 e1 s1 k1 m1 => ?_
  refine ne (by decide) ?_
  refine nd fun b2 w2 e2 s2 k2 m2 => ?_
  refine ne (by decide) ?_
  refine nd fun b3 w3 e3 s3 k3 m3 => ?_
  refine ne (by decide) ?_
  refine nd fun b4 w4 e4 s4 k4 m4 => ?_
  refine nd fun p1 w5 e5 s5 k5 m5 => ?_
  refine st agree (cs := [.slice none 0 0, .int .i64 0, .slice none 0 0, .slice none 0 0, .slice none 0 0]) m5 rfl (Nat.le_refl 5) rfl ?_
  intro w6 s6 k6 m6
  have m6 : Own w6 p1 26 [.slice (some ⟨b1, 0, none⟩) 1 1, .int .i64 1, .slice (some ⟨b2, 0, none⟩) 1 1, .slice (some ⟨b3, 0, none⟩) 1 1, .slice (some ⟨b4, 0, none⟩) 1 1] := m6
  have k46 : Kp w4 w6 := k5.new e5 k6
  have k06 : Kp w w6 := k1.trans (k2.trans (k3.trans (k4.trans k46)))
  have hB : BuchiV 0 w6.heap.size w6 (.slice (some ⟨b1, 0, none⟩) 1 1) (.slice (some ⟨b2, 0, none⟩) 1 1) (.slice (some ⟨b3, 0, none⟩) 1 1) (.slice (some ⟨b4, 0, none⟩) 1 1) kA := by
    have c1 := (k2.trans (k3.trans (k4.trans k46))).own (show Own w1 b1 9 [.string ⟨#[97]⟩] from m1) id
    have c2 := (k3.trans (k4.trans k46)).own (show Own w2 b2 3 [.int .i64 0] from m2) id
    have c3 := (k4.trans k46).own (show Own w3 b3 50 [.int .i64 0, .int .i64 0, .int .u16 1, .int .u16 0] from m3) id
    have c4 := k46.own (show Own w4 b4 3 [.int .i64 0] from m4) id
    have g1 := own_row (f := fun x : ByteArray => [Value.string x]) (l := [⟨#[97]⟩]) (size := 1) (fun _ => rfl) (by decide) c1 (by simp [maxLen])
    have g2 := own_row (f := fun x : Int => [Value.int .i64 x]) (l := [0]) (size := 1) (fun _ => rfl) (by decide) c2 (by simp [maxLen])
    have g3 := own_row (f := Edge.cells) (l := [⟨0, 0, 1, 0⟩]) (size := 4) (fun _ => rfl) (by decide) c3 (by simp [maxLen])
    have g4 := own_row (f := fun x : Int => [Value.int .i64 x]) (l := [0]) (size := 1) (fun _ => rfl) (by decide) c4 (by simp [maxLen])
    exact ⟨g1, g2, g3.and (by simp [Edge.wf]), g4, by simp [kA], by simp [kA], by simp [kA], by simp [kA]⟩
  refine ld agree (v := .agg #[.slice (some ⟨b1, 0, none⟩) 1 1, .int .i64 1, .slice (some ⟨b2, 0, none⟩) 1 1, .slice (some ⟨b3, 0, none⟩) 1 1, .slice (some ⟨b4, 0, none⟩) 1 1]) (Own.at_ (xs := [.slice (some ⟨b1, 0, none⟩) 1 1, .int .i64 1, .slice (some ⟨b2, 0, none⟩) 1 1, .slice (some ⟨b3, 0, none⟩) 1 1, .slice (some ⟨b4, 0, none⟩) 1 1]) (o := 0) m6 rfl) (by rfl) ?_
  refine ne (by decide) ?_
  refine nd fun q1 w7 e7 s7 k7 m7 => ?_
  have d1 := own_row (f := fun x : Int => [Value.int .u16 x]) (l := [1]) (size := 1) (fun _ => rfl) (by decide) (show Own w7 q1 42 [.int .u16 1] from m7) (by simp [maxLen])
  have hW1 : WordV 0 w7.heap.size w7 (.slice none 0 0) (.slice (some ⟨q1, 0, none⟩) 1 1) kW1 :=
    ⟨⟨none, 0, rfl, Nat.le_refl _, fun i x hx => by simp [kW1] at hx⟩, d1.and (by simp [Let16]), by simp [kW1], by simp [kW1]⟩
  have hcall := acceptsB_c (hB.chg k7 (Nat.le_refl _) k7.size) hW1 (by simp [kA]) (by decide)
  rw [kAcc1] at hcall
  refine cl callAcceptsB hcall ?_
  rintro _ w8 ⟨rfl, k8⟩
  have k68 := k7.trans k8
  refine ld agree (v := .agg #[.slice (some ⟨b1, 0, none⟩) 1 1, .int .i64 1, .slice (some ⟨b2, 0, none⟩) 1 1, .slice (some ⟨b3, 0, none⟩) 1 1, .slice (some ⟨b4, 0, none⟩) 1 1]) (Own.at_ (xs := [.slice (some ⟨b1, 0, none⟩) 1 1, .int .i64 1, .slice (some ⟨b2, 0, none⟩) 1 1, .slice (some ⟨b3, 0, none⟩) 1 1, .slice (some ⟨b4, 0, none⟩) 1 1]) (o := 0) (k68.own m6 id) rfl) (by rfl) ?_
  refine ne (by decide) ?_
  refine nd fun q2 w9 e9 s9 k9 m9 => ?_
  refine ne (by decide) ?_
  refine nd fun q3 w10 e10 s10 k10 m10 => ?_
  have d2 := own_row (f := fun x : Int => [Value.int .u16 x]) (l := [1]) (size := 1) (fun _ => rfl) (by decide) (k10.own (show Own w9 q2 42 [.int .u16 1] from m9) id) (by simp [maxLen])
  have d3 := own_row (f := fun x : Int => [Value.int .u16 x]) (l := [1, 0]) (size := 1) (fun _ => rfl) (by decide) (show Own w10 q3 42 [.int .u16 1, .int .u16 0] from m10) (by simp [maxLen])
  have hW2 : WordV 0 w10.heap.size w10 (.slice (some ⟨q2, 0, none⟩) 1 1) (.slice (some ⟨q3, 0, none⟩) 2 2) kW2 :=
    ⟨d2.and (by simp [Let16]), d3.and (by simp [Let16]), by simp [kW2], by simp [kW2]⟩
  have k610 := k68.trans (k9.trans k10)
  have hcall := acceptsB_c (hB.chg k610 (Nat.le_refl _) k610.size) hW2 (by simp [kA]) (by decide)
  rw [kAcc2] at hcall
  refine cl callAcceptsB hcall ?_
  rintro _ w11 ⟨rfl, k11⟩
  have k611 := k610.trans k11
  refine ld agree (v := .agg #[.slice (some ⟨b1, 0, none⟩) 1 1, .int .i64 1, .slice (some ⟨b2, 0, none⟩) 1 1, .slice (some ⟨b3, 0, none⟩) 1 1, .slice (some ⟨b4, 0, none⟩) 1 1]) (Own.at_ (xs := [.slice (some ⟨b1, 0, none⟩) 1 1, .int .i64 1, .slice (some ⟨b2, 0, none⟩) 1 1, .slice (some ⟨b3, 0, none⟩) 1 1, .slice (some ⟨b4, 0, none⟩) 1 1]) (o := 0) (k611.own m6 id) rfl) (by rfl) ?_
  have hchk := checkB_c (hB.chg k611 (Nat.le_refl _) k611.size)
  rw [kCheck] at hchk
  refine cl callCheck hchk ?_
  rintro _ w12 ⟨rfl, k12⟩
  refine spT rfl ?_
  refine spT rfl ?_
  refine spT rfl ?_
  exact ⟨rfl, k06.trans (k611.trans k12)⟩

theorem callKnown : callable Proofs.Tryd.prog 6 = true := by kernel_rfl

theorem arE {z z' : Int} {K : Int → Prop} (hz : z = z') (h : K z') : Ar z K := by subst hz; exact ar h

theorem wrapU16 {z : Int} (h1 : 0 ≤ z) (h2 : z < 65536) : IntKind.u16.wrap z = z := by
  show (if (false && decide (z % 65536 ≥ 32768)) = true then z % 65536 - 65536 else z % 65536) = z
  rw [if_neg (by simp)]; omega

theorem callRGeneral : callable Proofs.Tryd.prog 5 = true := by kernel_rfl

theorem rgeneral_c (w : World) (a1 a2 a3 a4 : Option Addr) (l1 c1 l2 c2 l3 c3 l4 c4 : Nat) (n : Int) :
    Calls Proofs.Tryd.prog 5 [.agg #[.slice a1 l1 c1, .int .i64 n, .slice a2 l2 c2, .slice a3 l3 c3, .slice a4 l4 c4]].toArray w
      (Ret fun r w' => Kp w w' ∧ ∃ q, w.heap.size ≤ q ∧ q < w'.heap.size ∧ w'.heap[q]? = some (.cells [.slice a4 l4 c4].toArray 23 (0, 0)) ∧ r = .agg #[.slice a1 l1 c1, .int .i64 n, .slice a2 l2 c2, .slice a3 l3 c3, .slice (some ⟨q, 0, none⟩) 1 1]) := by
  refine call agree Proofs.Tryd.func5 rfl Proofs.Tryd.ntmps5 (by kernel_rfl) ?_
  refine nd fun p w1 e1 s1 k1 m1 => ?_
  have m1 : Own w1 p 26 [.slice a1 l1 c1, .int .i64 n, .slice a2 l2 c2, .slice a3 l3 c3, .slice a4 l4 c4] := m1
  refine nd fun q w2 e2 s2 k2 m2 => ?_
  have m1 := k2.own m1 id
  refine ld agree (Own.at_ (xs := [.slice a1 l1 c1]) (o := 0) m1 rfl) (by rfl) ?_
  refine ld agree (Own.at_ (xs := [.int .i64 n]) (o := 1) m1 rfl) (by rfl) ?_
  refine ld agree (Own.at_ (xs := [.slice a2 l2 c2]) (o := 2) m1 rfl) (by rfl) ?_
  refine ld agree (Own.at_ (xs := [.slice a3 l3 c3]) (o := 3) m1 rfl) (by rfl) ?_
  refine ld agree (Own.at_ (xs := [.slice a4 l4 c4]) (o := 4) m1 rfl) (by rfl) ?_
  refine ne (by decide) ?_
  refine nd fun r w3 e3 s3 k3 m3 => ?_
  refine st agree (k3.own m2 id) rfl (Nat.le_refl 5) rfl ?_
  intro w4 s4 k4 m4
  refine ld (v := .agg #[.slice a1 l1 c1, .int .i64 n, .slice a2 l2 c2, .slice a3 l3 c3, .slice (some ⟨r, 0, none⟩) 1 1]) agree (Own.at_ (xs := [.slice a1 l1 c1, .int .i64 n, .slice a2 l2 c2, .slice a3 l3 c3, .slice (some ⟨r, 0, none⟩) 1 1]) (o := 0) m4 rfl) (by rfl) ?_
  exact ⟨(k1.trans (k2.trans k3)).newS k4 fun j hj => by omega, r, by omega, by omega, k4.heap m3 (by omega), rfl⟩

/-- as small as the statements ask -/
structure Few (g : General) (x : Word) : Prop where
  st : g.states ≤ 60
  ed : g.edges.length ≤ 300
  se : g.sets.length ≤ 6
  pl : x.stem.length + x.loop.length ≤ 30

theorem callFew : callable Proofs.Tryd.prog 4 = true := by kernel_rfl

theorem few_c (w : World) (pv iv : Value) (ea sa wa1 wa2 : Option Addr) (ec sc wc1 wc2 : Nat) (g : General) (x : Word) (ls : x.stem.length * 2 ≤ 140737488351232) (ll : x.loop.length * 2 ≤ 140737488351232) :
    Calls Proofs.Tryd.prog 4 [.agg #[pv, .int .i64 g.states, iv, .slice ea g.edges.length ec, .slice sa g.sets.length sc], .agg #[.slice wa1 x.stem.length wc1, .slice wa2 x.loop.length wc2]].toArray w (Ret fun r w' => Kp w w' ∧ ∃ b : Bool, r = .bool b ∧ (b = true → Few g x)) := by
  refine call agree Proofs.Tryd.func4 rfl Proofs.Tryd.ntmps4 (by kernel_rfl) ?_
  refine nd fun p w1 e1 s1 k1 m1 => ?_
  have m1 : Own w1 p 33 [pv, .int .i64 g.states, iv, .slice ea g.edges.length ec, .slice sa g.sets.length sc] := m1
  refine nd fun q w2 e2 s2 k2 m2 => ?_
  have m2 : Own w2 q 29 [.slice wa1 x.stem.length wc1, .slice wa2 x.loop.length wc2] := m2
  have m1 := k2.own m1 id
  have k12 := k1.trans k2
  refine ld agree (Own.at_ (xs := [.slice wa1 x.stem.length wc1]) (o := 0) m2 rfl) (by rfl) ?_
  refine ld agree (Own.at_ (xs := [.slice wa2 x.loop.length wc2]) (o := 1) m2 rfl) (by rfl) ?_
  refine aw (by omega) (by omega) ?_
  refine ld agree (Own.at_ (xs := [.int .i64 g.states]) (o := 1) m1 rfl) (by rfl) ?_
  refine sp (fun h1 => ?_) (fun h1 => ?_)
  · refine ld agree (Own.at_ (xs := [.slice ea g.edges.length ec]) (o := 3) m1 rfl) (by rfl) ?_
    refine sp (fun h2 => ?_) (fun h2 => ?_)
    · refine ld agree (Own.at_ (xs := [.slice sa g.sets.length sc]) (o := 4) m1 rfl) (by rfl) ?_
      refine sp (fun h3 => ?_) (fun h3 => ?_)
      · refine sp (fun h4 => ?_) (fun h4 => ?_)
        · exact ⟨k12, true, rfl, fun _ => ⟨h1, by omega, by omega, by omega⟩⟩
        · exact ⟨k12, false, rfl, fun h => by cases h⟩
      · exact ⟨k12, false, rfl, fun h => by cases h⟩
    · exact ⟨k12, false, rfl, fun h => by cases h⟩
  · exact ⟨k12, false, rfl, fun h => by cases h⟩
end Go.Au

namespace Go.Au
open Go Go.RowKit Go.MapKept
open Go.Maps (Keyed)

structure Bin (lo hi : Nat) (w : World) (p i e s : Value) (g : Buchi) : Prop where
  props : Strs lo hi w p g.props
  init : Ints lo hi w i g.init
  edges : Edges lo hi w e g.edges
  final : Ints lo hi w s g.final
  lp : g.props.length * 16 ≤ 140737488351232
  li : g.init.length * 8 ≤ 140737488351232
  le : g.edges.length * 24 ≤ 140737488351232
  ls : g.final.length * 8 ≤ 140737488351232

theorem Bin.wf {lo hi : Nat} {w : World} {p i e s : Value} {g : Buchi} (h : Bin lo hi w p i e s g) : ∀ x ∈ g.edges, x.wf := fun x hx => by
  obtain ⟨a, c, -, -, hh⟩ := h.edges
  obtain ⟨j, hj, rfl⟩ := List.getElem_of_mem hx
  obtain ⟨b, o, -, -, -, cs, -, -, -, hw⟩ := hh j g.edges[j] (by simp)
  exact hw

structure Win (lo hi : Nat) (w : World) (s l : Value) (x : Word) : Prop where
  stem : Letters lo hi w s x.stem
  loop : Letters lo hi w l x.loop
  ls : x.stem.length * 2 ≤ 140737488351232
  ll : x.loop.length * 2 ≤ 140737488351232

section
variable {W : World}

theorem opensInts : Opens Proofs.Tryd.prog W 23 (fun cs (xs : List Int) => ∃ v, cs = [v] ∧ Ints 0 W.heap.size W v xs ∧ xs.length * 8 ≤ 140737488351232) :=
  (opens_slice (size := 1) (B := 8) Proofs.Tryd.underlying23 (by kernel_rfl) (by decide) (by kernel_rfl) (by decide) (opens_int Proofs.Tryd.underlying3)).mono fun cs xs ⟨v, h1, h2, h3⟩ => ⟨v, h1, h2.mono (fun _ _ h => h.1) (Nat.le_refl _) (Nat.le_refl _), h3⟩

theorem opensTexts : Opens Proofs.Tryd.prog W 22 (fun cs (xs : List ByteArray) => ∃ v, cs = [v] ∧ Strs 0 W.heap.size W v xs ∧ xs.length * 16 ≤ 140737488351232) :=
  (opens_slice (size := 1) (B := 16) Proofs.Tryd.underlying22 (by kernel_rfl) (by decide) (by kernel_rfl) (by decide) (opens_string Proofs.Tryd.underlying9)).mono fun cs xs ⟨v, h1, h2, h3⟩ => ⟨v, h1, h2.mono (fun _ _ h => h.1) (Nat.le_refl _) (Nat.le_refl _), h3⟩

theorem opensLetters : Opens Proofs.Tryd.prog W 27 (fun cs (xs : List Int) => ∃ v, cs = [v] ∧ Letters 0 W.heap.size W v xs ∧ xs.length * 2 ≤ 140737488351232) :=
  (opens_slice (size := 1) (B := 2) Proofs.Tryd.underlying27 (by kernel_rfl) (by decide) (by kernel_rfl) (by decide) (opens_int Proofs.Tryd.underlying42)).mono fun cs xs ⟨v, h1, h2, h3⟩ => ⟨v, h1, h2.mono (fun _ x h => ⟨h.1, h.2.1, Int.lt_add_one_of_le h.2.2⟩) (Nat.le_refl _) (Nat.le_refl _), h3⟩

theorem five {cs : List Value} (h : cs.length = 5) : ∃ a b c d e, cs = [a, b, c, d, e] := by
  match cs, h with
  | [a, b, c, d, e], _ => exact ⟨a, b, c, d, e, rfl⟩

theorem four {cs : List Value} (h : cs.length = 4) : ∃ a b c d, cs = [a, b, c, d] := by
  match cs, h with
  | [a, b, c, d], _ => exact ⟨a, b, c, d, rfl⟩

theorem two {cs : List Value} (h : cs.length = 2) : ∃ a b, cs = [a, b] := by
  match cs, h with
  | [a, b], _ => exact ⟨a, b, rfl⟩

theorem c1int : Proofs.Tryd.prog.cellsOf 3 = 1 := by kernel_rfl

theorem c1u16 : Proofs.Tryd.prog.cellsOf 42 = 1 := by kernel_rfl

theorem c1ints : Proofs.Tryd.prog.cellsOf 23 = 1 := by kernel_rfl

theorem c1texts : Proofs.Tryd.prog.cellsOf 22 = 1 := by kernel_rfl

theorem c1edges : Proofs.Tryd.prog.cellsOf 24 = 1 := by kernel_rfl

theorem c1letters : Proofs.Tryd.prog.cellsOf 27 = 1 := by kernel_rfl

theorem opensEdge : Opens Proofs.Tryd.prog W 50 (fun cs (x : Edge) => cs = Edge.cells x ∧ x.wf) := by
  intro H enc fuel base sp hd cs d ps h hw
  obtain ⟨hl, hf⟩ := field_of Proofs.Tryd.underlying50 h hw
  have hl : cs.length = 4 := hl.trans (by kernel_rfl)
  obtain ⟨a, b, c, d, rfl⟩ := four hl
  obtain ⟨x0, h0⟩ := fld_at hf 0 0 1 rfl c1int (opens_int Proofs.Tryd.underlying3)
  obtain ⟨x1, h1⟩ := fld_at hf 1 1 1 rfl c1int (opens_int Proofs.Tryd.underlying3)
  obtain ⟨x2, h2⟩ := fld_at hf 2 2 1 rfl c1u16 (opens_int Proofs.Tryd.underlying42)
  obtain ⟨x3, h3⟩ := fld_at hf 3 3 1 rfl c1u16 (opens_int Proofs.Tryd.underlying42)
  simp at h0 h1 h2 h3
  refine ⟨⟨x0, x1, x2, x3⟩, by simp [Edge.cells, h0, h1, h2, h3], h2.2.1, Int.lt_add_one_of_le h2.2.2, h3.2.1, Int.lt_add_one_of_le h3.2.2⟩

theorem opensEdges : Opens Proofs.Tryd.prog W 24 (fun cs (xs : List Edge) => ∃ v, cs = [v] ∧ Edges 0 W.heap.size W v xs ∧ xs.length * 24 ≤ 140737488351232) :=
  (opens_slice (size := 4) (B := 24) Proofs.Tryd.underlying24 (by kernel_rfl) (by decide) (by kernel_rfl) (by decide) opensEdge).mono fun cs xs ⟨v, h1, h2, h3⟩ => ⟨v, h1, h2.mono (fun _ _ h => h) (Nat.le_refl _) (Nat.le_refl _), h3⟩

theorem opensBuchi : Opens Proofs.Tryd.prog W 26 (fun cs (g : Buchi) => ∃ p i e s, cs = [p, .int .i64 g.states, i, e, s] ∧ Bin 0 W.heap.size W p i e s g) := by
  intro H enc fuel base sp hd cs d ps h hw
  obtain ⟨hl, hf⟩ := field_of Proofs.Tryd.underlying26 h hw
  have hl : cs.length = 5 := hl.trans (by kernel_rfl)
  obtain ⟨a, b, c, d, e, rfl⟩ := five hl
  obtain ⟨x0, v0, e0, h0, b0⟩ := fld_at hf 0 0 1 rfl c1texts opensTexts
  obtain ⟨x1, e1, -⟩ := fld_at hf 1 1 1 rfl c1int (opens_int Proofs.Tryd.underlying3)
  obtain ⟨x2, v2, e2, h2, b2⟩ := fld_at hf 2 2 1 rfl c1ints opensInts
  obtain ⟨x3, v3, e3, h3, b3⟩ := fld_at hf 3 3 1 rfl c1edges opensEdges
  obtain ⟨x4, v4, e4, h4, b4⟩ := fld_at hf 4 4 1 rfl c1ints opensInts
  simp at e0 e1 e2 e3 e4
  subst e0 e1 e2 e3 e4
  exact ⟨⟨x0, x1, x2, x3, x4⟩, _, _, _, _, rfl, h0, h2, h3, h4, b0, b2, b3, b4⟩

theorem opensWord : Opens Proofs.Tryd.prog W 29 (fun cs (g : Word) => ∃ p q, cs = [p, q] ∧ Letters 0 W.heap.size W p g.stem ∧ Letters 0 W.heap.size W q g.loop ∧ g.stem.length * 2 ≤ 140737488351232 ∧ g.loop.length * 2 ≤ 140737488351232) := by
  intro H enc fuel base sp hd cs d ps h hw
  obtain ⟨hl, hf⟩ := field_of Proofs.Tryd.underlying29 h hw
  have hl : cs.length = 2 := hl.trans (by kernel_rfl)
  obtain ⟨a, b, rfl⟩ := two hl
  obtain ⟨x0, v0, e0, h0, b0⟩ := fld_at hf 0 0 1 rfl c1letters opensLetters
  obtain ⟨x1, v1, e1, h1, b1⟩ := fld_at hf 1 1 1 rfl c1letters opensLetters
  simp at e0 e1
  subst e0 e1
  exact ⟨⟨x0, x1⟩, _, _, rfl, h0, h1, b0, b1⟩
end
end Go.Au
