/- Own text of this workplace: a part of the proofs of this place's statements. -/
import Derived.Test.YtjibhchnhkjgkaaB36
set_option linter.unusedVariables false
set_option linter.unusedSimpArgs false
set_option linter.unusedSectionVars false
namespace Go.Au
open Go Go.RowKit

def setT (n : Nat) (i : Int) : Prop := 0 ≤ i ∧ i < n
def putI (n : Nat) (W : List Nat) (i : Int) : List Nat := if 0 ≤ i ∧ i < (n : Int) then putW W i.toNat else W
def cutI (n : Nat) (W : List Nat) (i : Int) : List Nat := if 0 ≤ i ∧ i < (n : Int) then cutW W i.toNat else W
theorem fW_set (W : List Nat) (k v o : Nat) (ho : o = k) : lay (W.flatMap fW) o [.int .u64 (v : Int)] = (W.set k v).flatMap fW := by
  subst ho
  have h : ∀ L : List Nat, L.flatMap fW = L.map fun x => .int .u64 (x : Int) := fun L => by induction L <;> simp_all
  show (W.flatMap fW).set o _ = _
  rw [h, h, List.map_set]
theorem putW_len (W : List Nat) (i : Nat) : (putW W i).length = W.length := by unfold putW; rw [List.length_set]
theorem cutW_len (W : List Nat) (i : Nat) : (cutW W i).length = W.length := by unfold cutW; rw [List.length_set]

theorem callSPut : callable Proofs.Try.prog 110 = true := by kernel_rfl
theorem sput_c {w : World} {p q n : Nat} {W : List Nat} (h : SetV w p q n W) (i : Int) : Calls Proofs.Try.prog 110 [pt p 0, .int .i64 i].toArray w (Ret fun r w' => Chg (fun k => k = q) w w' ∧ SetV w' p q n (putI n W i)) := by
  refine call agree Proofs.Try.func110 rfl Proofs.Try.ntmps110 (by kernel_rfl) ?_
  refine cl callIn (in_c h i) ?_
  rintro _ w1 ⟨rfl, k1⟩
  have h1 := h.chg k1 id id
  have c1 : Chg (fun k => k = q) w w1 := k1.mono fun _ h => h.elim
  by_cases hi : 0 ≤ i ∧ i < n
  · have hI : putI n W i = putW W i.toNat := by unfold putI; rw [if_pos hi]
    rw [hI]
    rw [decide_eq_true hi]
    obtain ⟨j, rfl⟩ : ∃ j : Nat, i = j := ⟨i.toNat, by omega⟩
    rw [Int.toNat_natCast]
    have hj : j < n := by omega
    have hk := h.pl.idx hj
    have hn := h.nb
    have hr : j % 64 < 64 := Nat.mod_lt _ (by decide)
    have hw := h.pl.word (j / 64)
    refine drawn0 agree mixed 13 (by kernel_rfl) (fun _ => False) ?_
    conv => whnf
    refine ldk agree rfl rfl (fun V hV _ => Own.at_ (xs := [.slice (some ⟨q, 0, none⟩) W.length W.length]) (o := 1) (hV.own h1.hdr id) rfl) (by rfl) fun _ => ?_
    conv => whnf
    refine ne (by decide) ?_
    conv => whnf
    refine arE (quo64 j (by omega)) ?_
    conv => whnf
    refine ne ⟨by omega, by omega⟩ ?_
    conv => whnf
    refine ldk (v := .int .u64 (W.getD (j / 64) 0 : Nat)) agree rfl rfl (fun V hV _ => by rw [Int.toNat_natCast]; exact flat_range (f := fW) (cs := []) (fun _ => rfl) (fwAt hk) (by rw [List.append_nil]; exact Own.all (hV.own h1.row id))) (by rfl) fun _ => ?_
    conv => whnf
    refine ne (by decide) ?_
    conv => whnf
    refine arE (rem64 j) ?_
    conv => whnf
    refine ne (by omega) ?_
    conv => whnf
    refine arE (shl64 hr) ?_
    conv => whnf
    refine arE (bitsOr hw (bit_lt hr)) ?_
    conv => whnf
    refine ne ⟨by omega, by omega⟩ ?_
    conv => whnf
    intro V hV _
    have h2 := h1.chg hV id id
    refine st agree h2.row rfl (by rw [Int.toNat_natCast, flat_len (f := fW) (size := 1) (fun _ => rfl)]; show 0 + j / 64 * 1 + 1 ≤ _; omega) rfl ?_
    intro V2 s2 k2 m2
    rw [Int.toNat_natCast] at m2
    have m2 := fW_set W (j / 64) _ (0 + j / 64 * 1) (by omega) ▸ m2
    refine ⟨(c1.trans (hV.mono fun _ h => h.elim)).trans k2, ?_, ?_, h.pl.put hj, hn⟩
    · rw [putW_len]
      exact k2.own h2.hdr h.ne
    · exact m2
  · have hI : putI n W i = W := by unfold putI; rw [if_neg hi]
    rw [hI]
    rw [decide_eq_false hi]
    exact ⟨c1, h1⟩

theorem callSCut : callable Proofs.Try.prog 37 = true := by kernel_rfl
theorem scut_c {w : World} {p q n : Nat} {W : List Nat} (h : SetV w p q n W) (i : Int) : Calls Proofs.Try.prog 37 [pt p 0, .int .i64 i].toArray w (Ret fun r w' => Chg (fun k => k = q) w w' ∧ SetV w' p q n (cutI n W i)) := by
  refine call agree Proofs.Try.func37 rfl Proofs.Try.ntmps37 (by kernel_rfl) ?_
  refine cl callIn (in_c h i) ?_
  rintro _ w1 ⟨rfl, k1⟩
  have h1 := h.chg k1 id id
  have c1 : Chg (fun k => k = q) w w1 := k1.mono fun _ h => h.elim
  by_cases hi : 0 ≤ i ∧ i < n
  · have hI : cutI n W i = cutW W i.toNat := by unfold cutI; rw [if_pos hi]
    rw [hI]
    rw [decide_eq_true hi]
    obtain ⟨j, rfl⟩ : ∃ j : Nat, i = j := ⟨i.toNat, by omega⟩
    rw [Int.toNat_natCast]
    have hj : j < n := by omega
    have hk := h.pl.idx hj
    have hn := h.nb
    have hr : j % 64 < 64 := Nat.mod_lt _ (by decide)
    have hw := h.pl.word (j / 64)
    refine drawn0 agree mixed 13 (by kernel_rfl) (fun _ => False) ?_
    conv => whnf
    refine ldk agree rfl rfl (fun V hV _ => Own.at_ (xs := [.slice (some ⟨q, 0, none⟩) W.length W.length]) (o := 1) (hV.own h1.hdr id) rfl) (by rfl) fun _ => ?_
    conv => whnf
    refine ne (by decide) ?_
    conv => whnf
    refine arE (quo64 j (by omega)) ?_
    conv => whnf
    refine ne ⟨by omega, by omega⟩ ?_
    conv => whnf
    refine ldk (v := .int .u64 (W.getD (j / 64) 0 : Nat)) agree rfl rfl (fun V hV _ => by rw [Int.toNat_natCast]; exact flat_range (f := fW) (cs := []) (fun _ => rfl) (fwAt hk) (by rw [List.append_nil]; exact Own.all (hV.own h1.row id))) (by rfl) fun _ => ?_
    conv => whnf
    refine ne (by decide) ?_
    conv => whnf
    refine arE (rem64 j) ?_
    conv => whnf
    refine ne (by omega) ?_
    conv => whnf
    refine arE (shl64 hr) ?_
    conv => whnf
    refine arE (bitsCut hw (bit_lt hr)) ?_
    conv => whnf
    refine ne ⟨by omega, by omega⟩ ?_
    conv => whnf
    intro V hV _
    have h2 := h1.chg hV id id
    refine st agree h2.row rfl (by rw [Int.toNat_natCast, flat_len (f := fW) (size := 1) (fun _ => rfl)]; show 0 + j / 64 * 1 + 1 ≤ _; omega) rfl ?_
    intro V2 s2 k2 m2
    rw [Int.toNat_natCast] at m2
    have m2 := fW_set W (j / 64) _ (0 + j / 64 * 1) (by omega) ▸ m2
    refine ⟨(c1.trans (hV.mono fun _ h => h.elim)).trans k2, ?_, ?_, h.pl.cut hj, hn⟩
    · rw [cutW_len]
      exact k2.own h2.hdr h.ne
    · exact m2
  · have hI : cutI n W i = W := by unfold cutI; rw [if_neg hi]
    rw [hI]
    rw [decide_eq_false hi]
    exact ⟨c1, h1⟩


theorem callNew : callable Proofs.Try.prog 109 = true := by kernel_rfl
theorem new_c (w : World) (n : Nat) (hn : n ≤ 65536) : Calls Proofs.Try.prog 109 [.int .i64 n].toArray w (Ret fun r w' => Kp w w' ∧ ∃ p q, r = pt p 0 ∧ w.heap.size ≤ p ∧ w.heap.size ≤ q ∧ SetV w' p q n (List.replicate ((n + 63) / 64) 0)) := by
  refine call agree Proofs.Try.func109 rfl Proofs.Try.ntmps109 (by kernel_rfl) ?_
  refine spF (by omega) ?_
  refine spF (by omega) ?_
  refine aw (by omega) (by omega) ?_
  refine ne (by decide) ?_
  have hq : IntKind.i64.wrap (((n : Int) + 63).tdiv 64) = (((n + 63) / 64 : Nat) : Int) := by
    rw [Int.tdiv_eq_ediv_of_nonneg (by omega), wrap64 (by omega) (by omega)]
    omega
  refine arE hq ?_
  refine ms agree rfl rfl rfl rfl rfl rfl (by omega) (Int.le_refl _) (by show (8 : Int) * _ ≤ _; omega) (by omega) fun q w1 e1 s1 k1 m1 => ?_
  rw [Int.toNat_natCast] at m1 ⊢
  refine nd fun p w2 e2 s2 k2 m2 => ?_
  have hL : (List.replicate ((n + 63) / 64) 0).length = (n + 63) / 64 := List.length_replicate ..
  refine ⟨k1.trans k2, p, q, rfl, by omega, by omega, ?_, ?_, SetP.new n, hn⟩
  · rw [hL]; exact m2
  · have hrep : ∀ k, rep [Value.int .u64 0] k = (List.replicate k 0).flatMap fW := fun k => by
      induction k with
      | zero => rfl
      | succ k ih => simp [rep, ih, List.replicate_succ]
    have m1 : Own w1 q 107 (rep [.int .u64 0] ((n + 63) / 64)) := m1
    rw [hrep] at m1
    exact k2.own m1 id

/-- what Of comes to -/
def ofW (n : Nat) (l : List Int) : List Nat := l.foldl (putI n) (List.replicate ((n + 63) / 64) 0)
theorem ofW_snoc (n : Nat) (l : List Int) (i : Nat) (x : Int) (hx : l[i]? = some x) : ofW n (l.take (i + 1)) = putI n (ofW n (l.take i)) x := by
  unfold ofW
  rw [List.take_add_one, hx, List.foldl_append]
  rfl
theorem callOf : callable Proofs.Try.prog 76 = true := by kernel_rfl
theorem of_c {w : World} {lo hi : Nat} {v : Value} {l : List Int} (hv : Ints lo hi w v l) (n : Nat) (hn : n ≤ 65536) (hl : l.length < 4611686018427387904) :
    Calls Proofs.Try.prog 76 [.int .i64 n, v].toArray w (Ret fun r w' => Kp w w' ∧ ∃ p q, r = pt p 0 ∧ w.heap.size ≤ p ∧ w.heap.size ≤ q ∧ SetV w' p q n (ofW n l)) := by
  obtain ⟨a, c, rfl, hc, hx⟩ := hv
  refine call agree Proofs.Try.func76 rfl Proofs.Try.ntmps76 (by kernel_rfl) ?_
  refine cl callNew (new_c w n hn) ?_
  rintro _ w1 ⟨k1, p, q, rfl, hp, hq, hS⟩
  refine ptrNil agree rfl rfl rfl (by kernel_rfl) ?_
  refine loop agree (σ := Nat) (fun i => [(5, pt p 0), (12, .slice a l.length c), (13, .int .i64 l.length), (14, .int .i64 i)]) (fun i W => Kp w W ∧ i ≤ l.length ∧ SetV W p q n (ofW n (l.take i))) (fun i => l.length - i) 0
    ⟨rfl, rfl, rfl, rfl, trivial⟩ ⟨k1, by omega, hS⟩ ?_
  rintro i e0 W ⟨k, hi, hS⟩
  refine sp (fun hlt => ?_) (fun hge => ?_)
  · have hi' : i < l.length := by omega
    have hgi : l[i]? = some l[i] := by simp [hi']
    obtain ⟨b, o, rfl, -, -, cs, -, hrd, rfl⟩ := hx i l[i] hgi
    refine ne ⟨by omega, by omega⟩ ?_
    refine ld agree (k.range hrd id) (by rfl) ?_
    have hcall := sput_c hS l[i]
    refine cl callSPut hcall ?_
    rintro _ W2 ⟨k2, hS2⟩
    refine aw (by omega) (by omega) ?_
    refine again (i + 1) ⟨rfl, rfl, rfl, rfl, trivial⟩ ⟨k.newS k2 fun j hj => by omega, by omega, ?_⟩ (by omega)
    rw [ofW_snoc n l i _ hgi]
    exact hS2
  · have : i = l.length := by omega
    subst this
    rw [List.take_length] at hS
    exact ⟨k, p, q, rfl, hp, hq, hS⟩

/-! ### none in it -/
theorem callOnes : callable Proofs.Try.prog 80 = true := by kernel_rfl
theorem ones0_c (w : World) : Calls Proofs.Try.prog 80 [.int .u64 0].toArray w (Ret fun r w' => r = .int .i64 0 ∧ Kp w w') := by
  refine call agree Proofs.Try.func80 rfl Proofs.Try.ntmps80 (by kernel_rfl) ?_
  refine ne (by decide) ?_
  refine arE (z' := 0) (by decide) ?_
  refine arE (z' := 0) (by decide) ?_
  refine arE (z' := 0) (by decide) ?_
  refine arE (z' := 0) (by decide) ?_
  refine ne (by decide) ?_
  refine arE (z' := 0) (by decide) ?_
  refine arE (z' := 0) (by decide) ?_
  refine arE (z' := 0) (by decide) ?_
  refine arE (z' := 0) (by decide) ?_
  refine ne (by decide) ?_
  refine arE (z' := 0) (by decide) ?_
  refine arE (z' := 0) (by decide) ?_
  refine arE (z' := 0) (by decide) ?_
  refine ne (by decide) ?_
  refine arE (z' := 0) (by decide) ?_
  refine arE (z' := 0) (by decide) ?_
  refine ne (by decide) ?_
  refine arE (z' := 0) (by decide) ?_
  refine arE (z' := 0) (by decide) ?_
  refine ne (by decide) ?_
  refine arE (z' := 0) (by decide) ?_
  refine arE (z' := 0) (by decide) ?_
  refine arE (z' := 0) (by decide) ?_
  refine arE (z' := 0) (by decide) ?_
  exact ⟨rfl, Chg.refl _ _⟩
theorem callLen : callable Proofs.Try.prog 38 = true := by kernel_rfl
theorem len0_c {w : World} {p q n : Nat} {W : List Nat} (h : SetV w p q n W) (h0 : ∀ i, hasW W i = false) : Calls Proofs.Try.prog 38 [pt p 0].toArray w (Ret fun r w' => r = .int .i64 0 ∧ Kp w w') := by
  have hz := h.pl.zero h0
  have hn := h.nb
  have hlen := h.pl.len
  refine call agree Proofs.Try.func38 rfl Proofs.Try.ntmps38 (by kernel_rfl) ?_
  refine ld agree (Own.at_ (xs := [.slice (some ⟨q, 0, none⟩) W.length W.length]) (o := 1) h.hdr rfl) (by rfl) ?_
  refine loop agree (σ := Nat) (fun i => [(3, .int .i64 0), (9, .slice (some ⟨q, 0, none⟩) W.length W.length), (10, .int .i64 W.length), (11, .int .i64 i)]) (fun i w' => Kp w w' ∧ i ≤ W.length) (fun i => W.length - i) 0
    ⟨rfl, rfl, rfl, rfl, trivial⟩ ⟨Chg.refl _ _, by omega⟩ ?_
  rintro i e0 w1 ⟨k, hi⟩
  refine sp (fun hlt => ?_) (fun hge => ?_)
  · have hi' : i < W.length := by omega
    have hx : W[i]? = some 0 := by
      have := hz W[i] (List.getElem_mem hi')
      rw [List.getElem?_eq_getElem hi', this]
    refine ne ⟨by omega, by omega⟩ ?_
    refine ld (v := .int .u64 0) agree (by rw [Int.toNat_natCast]; exact flat_range (f := fW) (cs := []) (fun _ => rfl) hx (by rw [List.append_nil]; exact Own.all (k.own h.row id))) (by rfl) ?_
    refine cl callOnes (ones0_c w1) ?_
    rintro _ w2 ⟨rfl, k2⟩
    refine aw (by omega) (by omega) ?_
    refine aw (by omega) (by omega) ?_
    exact again (i + 1) ⟨rfl, rfl, rfl, rfl, trivial⟩ ⟨k.trans k2, by omega⟩ (by omega)
  · exact ⟨rfl, k⟩

/-! ### the same -/
theorem callEqW : callable Proofs.Try.prog 78 = true := by kernel_rfl
theorem eqW_c {w : World} {q q' : Nat} {W : List Nat} (h : Own w q 107 (W.flatMap fW)) (h' : Own w q' 107 (W.flatMap fW)) (hl : W.length < 1000000) :
    Calls Proofs.Try.prog 78 [.slice (some ⟨q, 0, none⟩) W.length W.length, .slice (some ⟨q', 0, none⟩) W.length W.length].toArray w (Ret fun r w' => r = .bool true ∧ Kp w w') := by
  refine call agree Proofs.Try.func78 rfl Proofs.Try.ntmps78 (by kernel_rfl) ?_
  refine spF (fun h => h rfl) ?_
  refine loop agree (σ := Nat) (fun i => [(0, .slice (some ⟨q, 0, none⟩) W.length W.length), (1, .slice (some ⟨q', 0, none⟩) W.length W.length), (12, .int .i64 W.length), (13, .int .i64 i)]) (fun i w' => Kp w w' ∧ i ≤ W.length) (fun i => W.length - i) 0
    ⟨rfl, rfl, rfl, rfl, trivial⟩ ⟨Chg.refl _ _, by omega⟩ ?_
  rintro i e0 w1 ⟨k, hi⟩
  refine sp (fun hlt => ?_) (fun hge => ?_)
  · have hi' : i < W.length := by omega
    have hx : W[i]? = some W[i] := by simp [hi']
    refine drawn0 agree mixed 9 (by kernel_rfl) (fun _ => False) ?_
    conv => whnf
    refine ne ⟨by omega, by omega⟩ ?_
    conv => whnf
    refine ldk (v := .int .u64 (W[i] : Nat)) agree rfl rfl (fun V hV _ => by rw [Int.toNat_natCast]; exact flat_range (f := fW) (cs := []) (fun _ => rfl) hx (by rw [List.append_nil]; exact Own.all ((k.trans hV).own h id))) (by rfl) fun _ => ?_
    conv => whnf
    refine ne ⟨by omega, by omega⟩ ?_
    conv => whnf
    refine ldk (v := .int .u64 (W[i] : Nat)) agree rfl rfl (fun V hV _ => by rw [Int.toNat_natCast]; exact flat_range (f := fW) (cs := []) (fun _ => rfl) hx (by rw [List.append_nil]; exact Own.all ((k.trans hV).own h' id))) (by rfl) fun _ => ?_
    conv => whnf
    refine spF (fun h => h rfl) ?_
    conv => whnf
    intro V hV _
    refine aw (by omega) (by omega) ?_
    exact again (i + 1) ⟨rfl, rfl, rfl, rfl, trivial⟩ ⟨k.trans hV, by omega⟩ (by omega)
  · exact ⟨rfl, k⟩
theorem callSetSame : callable Proofs.Try.prog 33 = true := by kernel_rfl
theorem setSame_c {w : World} {p q p' q' n : Nat} {W : List Nat} (h : SetV w p q n W) (h' : SetV w p' q' n W) : Calls Proofs.Try.prog 33 [pt p 0, pt p' 0].toArray w (Ret fun r w' => r = .bool true ∧ Kp w w') := by
  have hlen := h.pl.len
  have hn := h.nb
  refine call agree Proofs.Try.func33 rfl Proofs.Try.ntmps33 (by kernel_rfl) ?_
  have heq : ∀ V, Kp w V → Calls Proofs.Try.prog 78 [.slice (some ⟨q, 0, none⟩) W.length W.length, .slice (some ⟨q', 0, none⟩) W.length W.length].toArray V (Ret fun r w' => r = .bool true ∧ Kp V w') := fun V hV => eqW_c (Chg.own hV h.row id) (Chg.own hV h'.row id) (by omega)
  refine drawn0 agree mixed 21 (by kernel_rfl) (fun _ => False) ?_
  conv => whnf
  refine ldk (v := .int .i64 n) agree rfl rfl (fun V hV _ => Own.at_ (xs := [.int .i64 n]) (o := 0) (hV.own h.hdr id) rfl) (by rfl) fun _ => ?_
  conv => whnf
  refine ldk (v := .int .i64 n) agree rfl rfl (fun V hV _ => Own.at_ (xs := [.int .i64 n]) (o := 0) (hV.own h'.hdr id) rfl) (by rfl) fun _ => ?_
  conv => whnf
  refine spT rfl ?_
  conv => whnf
  refine ldk agree rfl rfl (fun V hV _ => Own.at_ (xs := [.slice (some ⟨q, 0, none⟩) W.length W.length]) (o := 1) (hV.own h.hdr id) rfl) (by rfl) fun _ => ?_
  conv => whnf
  refine ldk agree rfl rfl (fun V hV _ => Own.at_ (xs := [.slice (some ⟨q', 0, none⟩) W.length W.length]) (o := 1) (hV.own h'.hdr id) rfl) (by rfl) fun _ => ?_
  conv => whnf
  refine callk (v := .bool true) rfl rfl rfl callEqW (fun V hV _ => heq V hV) fun _ => ?_
  conv => whnf
  intro V hV _
  exact ⟨rfl, hV⟩
end Go.Au
