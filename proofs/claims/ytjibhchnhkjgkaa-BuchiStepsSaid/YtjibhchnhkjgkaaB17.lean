/- Own text of this workplace: a part of the proofs of this place's statements. -/
import Derived.Test.YtjibhchnhkjgkaaB16
import Derived.Test.YtjibhchnhkjgkaaA14
set_option linter.unusedVariables false
set_option linter.unusedSimpArgs false
set_option linter.unusedSectionVars false
namespace Go.Au
open Go Go.RowKit

abbrev fI (x : Int) : List Value := [.int .i64 x]
abbrev fS (x : ByteArray) : List Value := [.string x]
abbrev fU (x : Int) : List Value := [.int .u16 x]
theorem Edge.arr_inj {x y : Edge} (h : #[Value.int .i64 x.frm, .int .i64 x.to, .int .u16 x.must, .int .u16 x.no] = #[Value.int .i64 y.frm, .int .i64 y.to, .int .u16 y.must, .int .u16 y.no]) : x = y := by
  cases x; cases y; simp at h; simp [h]
/-- what cells of a kind hold -/
def Ty (t : TypeId) (cs : List Value) : Prop := (t = 3 → ∃ xs : List Int, cs = xs.flatMap fI) ∧ (t = 9 → ∃ xs : List ByteArray, cs = xs.flatMap fS) ∧ (t = 50 → ∃ xs : List Int, cs = xs.flatMap fU ∧ ∀ x ∈ xs, 0 ≤ x ∧ x < 65536) ∧ (t = 52 → ∃ xs : List Edge, cs = xs.flatMap Edge.cells ∧ ∀ x ∈ xs, x.wf)

/-! ### Ints -/
theorem callSameInts : callable Proofs.Try.prog 88 = true := by kernel_rfl
theorem sameInts_c {w : World} {lo hi lo2 hi2 : Nat} {v u : Value} {xs ys : List Int} (h : RowE (fun _ cs x => cs = fI x) 1 lo hi w v xs) (h' : RowE (fun _ cs x => cs = fI x) 1 lo2 hi2 w u ys) (hl : xs.length < 4611686018427387904) :
    Calls Proofs.Try.prog 88 [v, u].toArray w (Ret fun r w' => r = .bool (decide (xs = ys)) ∧ Kp w w') := by
  obtain ⟨a, cap, rfl, hcap, hx⟩ := h
  obtain ⟨a2, cap2, rfl, hcap2, hx2⟩ := h'
  refine call agree Proofs.Try.func88 rfl Proofs.Try.ntmps88 (by kernel_rfl) ?_
  refine sp (fun h1 => ?_) (fun h1 => ?_)
  · exact ⟨congrArg Value.bool (decide_eq_false (fun he => h1 (by rw [he]))).symm, Chg.refl _ _⟩
  have hlen : xs.length = ys.length := by omega
  refine loop agree (σ := Nat) (fun i => [(0, .slice a xs.length cap), (1, .slice a2 ys.length cap2), (5, .int .i64 i)]) (fun i w' => Kp w w' ∧ i ≤ xs.length ∧ xs.take i = ys.take i) (fun i => xs.length - i) 0
    ⟨rfl, rfl, rfl, trivial⟩ ⟨Chg.refl _ _, by omega, by simp⟩ ?_
  rintro i e0 w1 ⟨hk, hi, ht⟩
  refine sp (fun h3 => ?_) (fun h3 => ?_)
  · have hi1 : i < xs.length := by omega
    have hi2 : i < ys.length := by omega
    obtain ⟨b, o, rfl, -, -, cs, hcs, hrd, rfl⟩ := hx i xs[i] (by simp)
    obtain ⟨b2, o2, rfl, -, -, cs2, hcs2, hrd2, rfl⟩ := hx2 i ys[i] (by simp)
    refine drawn0 agree mixed 9 (by kernel_rfl) (fun _ => False) ?_
    conv => whnf
    refine ne ⟨by omega, h3⟩ ?_
    conv => whnf
    refine ldk agree rfl rfl (fun W h _ => (hk.trans h).range hrd id) (by rfl) fun _ => ?_
    conv => whnf
    refine ne ⟨by omega, by omega⟩ ?_
    conv => whnf
    refine ldk agree rfl rfl (fun W h _ => (hk.trans h).range hrd2 id) (by rfl) fun _ => ?_
    conv => whnf
    refine sp (fun h4 => ?_) (fun h4 => ?_)
    · conv => whnf
      intro W h _
      refine ⟨congrArg Value.bool (decide_eq_false (fun he => ?_)).symm, hk.trans h⟩
      have he : xs[i] = ys[i] := by simp [he]
      exact (fun he => h4 (by rw [he])) he
    · conv => whnf
      intro W h _
      have he : xs[i] = ys[i] := Classical.not_not.1 h4
      refine aw (by omega) (by omega) ?_
      refine again (i + 1) ⟨rfl, rfl, rfl, trivial⟩ ⟨hk.trans h, by omega, ?_⟩ (by omega)
      rw [List.take_succ_eq_append_getElem hi1, List.take_succ_eq_append_getElem hi2, ht, he]
  · refine ⟨congrArg Value.bool (decide_eq_true ?_).symm, hk⟩
    rw [List.take_of_length_le (by omega), List.take_of_length_le (by omega)] at ht
    exact ht

theorem callLentInts : callable Proofs.Try.prog 47 = true := by kernel_rfl
abbrev LentInts := Lent 3 fI [.int .i64 (-771), .int .i64 (-772)] 2
theorem lentInts_c {w : World} {lo hi : Nat} {v : Value} {xs : List Int} (h : RowE (fun _ cs x => cs = fI x) 1 lo hi w v xs) (hl : xs.length * 8 ≤ 140737488351232) :
    Calls Proofs.Try.prog 47 [v].toArray w (Ret fun r w' => Kp w w' ∧ LentInts w.heap.size w'.heap.size w' r xs) := by
  have hrow := h
  obtain ⟨a, cap, rfl, hcap, hx⟩ := h
  refine call agree Proofs.Try.func47 rfl Proofs.Try.ntmps47 (by kernel_rfl) ?_
  refine aw (by omega) (by omega) ?_
  refine ms agree rfl rfl rfl rfl rfl rfl (by omega) (by omega) (by show (8 : Int) * _ ≤ _; omega) (by omega) ?_
  intro b w1 e1 s1 k1 m1
  have hn2 : ((xs.length : Int) + 2).toNat = xs.length + 2 := by omega
  rw [hn2]
  have own0 : w1.ownsRow w.heap.size 3 1 (.slice (some ⟨b, 0, none⟩) 0 (xs.length + 2)) 0 [] := ⟨rfl, .inr ⟨b, xs.length + 2, _, rfl, by omega, m1, by omega, by simp only [maxLen]; omega, by rw [hn2, List.size_toArray, rep_len]; rfl, by simp⟩⟩
  refine apR agree rfl rfl rfl rfl rfl rfl rfl (by decide) own0 (fun _ => rfl) (hrow.chg k1 (fun _ _ _ h => h) (fun _ _ h => h)) (fun _ => rfl) (by omega) ?_
  intro w2 s2 o1 c1
  have k2 : Kp w w2 := k1.newS c1 fun i hi => by omega
  refine ne (by decide) ?_
  refine nd fun q w3 e3 s3 k3 m3 => ?_
  have o1' := ownsRow_chg o1 k3 fun _ _ h => h
  refine apR (xs := [(-771 : Int), -772]) (f := fI) agree rfl rfl rfl rfl rfl rfl rfl (by decide) o1' (fun _ => rfl) (own_row (f := fI) (l := [(-771 : Int), -772]) (fun _ => rfl) (by decide) m3 (by simp [maxLen])) (fun _ => rfl) (by simp) ?_
  intro w4 s4 o2 c2
  have k4 : Kp w w4 := (k2.trans k3).newS c2 fun i hi => by omega
  have o2 : w4.ownsRow w.heap.size 3 1 (.slice (some ⟨b, 0, none⟩) (0 + xs.length + 2) (xs.length + 2)) (0 + xs.length + 2) (xs.flatMap fI ++ [.int .i64 (-771), .int .i64 (-772)]) := o2
  rw [Nat.zero_add] at o2
  obtain ⟨o3, hlo⟩ := ownsRow_full o2
  refine ne ⟨by omega, by omega, by omega⟩ ?_
  exact ⟨k4, b, rfl, hlo, lt_of_heap o3, o3⟩

theorem callWholeInts : callable Proofs.Try.prog 55 = true := by kernel_rfl
theorem wholeInts_c {w : World} {lo hi lo2 hi2 : Nat} {v u : Value} {xs : List Int} (h : LentInts lo hi w v xs) (h' : RowE (fun _ cs x => cs = fI x) 1 lo2 hi2 w u xs) (hl : xs.length < 4611686018427387904) :
    Calls Proofs.Try.prog 55 [v, u].toArray w (Ret fun r w' => r = .bool true ∧ Kp w w') := by
  have hrow := h.row (size := 1) (fun _ => rfl)
  obtain ⟨b, rfl, hlo, hb, ho⟩ := h
  have r1 : w.rangeAt b (0 + ((xs.length : Int)).toNat * 1) [.int .i64 (-771)] := by
    have := lent_mark (size := 1) ho (fun _ => rfl) 0 (ms := [.int .i64 (-771)]) rfl
    rwa [show xs.length + 0 = ((xs.length : Int)).toNat by omega] at this
  have r2 : w.rangeAt b (0 + ((xs.length : Int) + 1).toNat * 1) [.int .i64 (-772)] := by
    have := lent_mark (size := 1) ho (fun _ => rfl) 1 (ms := [.int .i64 (-772)]) rfl
    rwa [show xs.length + 1 = ((xs.length : Int) + 1).toNat by omega] at this
  refine call agree Proofs.Try.func55 rfl Proofs.Try.ntmps55 (by kernel_rfl) ?_
  refine aw (by omega) (by omega) ?_
  refine spF (by omega) ?_
  refine aw (by omega) (by omega) ?_
  refine ne ⟨by omega, by omega, by omega⟩ ?_
  refine ne ⟨by omega, by omega⟩ ?_
  refine ld agree r1 (by rfl) ?_
  refine spT rfl ?_
  refine aw (by omega) (by omega) ?_
  refine ne ⟨by omega, by omega⟩ ?_
  refine ld agree r2 (by rfl) ?_
  refine spT rfl ?_
  have hs := sameInts_c hrow h' hl
  rw [decide_eq_true rfl] at hs
  refine cl callSameInts hs ?_
  rintro _ w1 ⟨rfl, k1⟩
  exact ⟨rfl, k1⟩

theorem callSpoilInts : callable Proofs.Try.prog 59 = true := by kernel_rfl
theorem spoilInts_c {w : World} {lo hi n : Nat} {v : Value} (h : Well 3 1 lo hi w v n) :
    Calls Proofs.Try.prog 59 [v].toArray w (Ret fun _ w' => ∃ b cs, v.ownBlock = some b ∧ Own w b 3 cs ∧ Chg (fun k => k = b) w w' ∧ w'.heap.size = w.heap.size ∧ Shp Ty w w') := by
  obtain ⟨b, cap, cur, rfl, h1, h2, h3, h4, h5, h6⟩ := h
  refine call agree Proofs.Try.func59 rfl Proofs.Try.ntmps59 (by kernel_rfl) ?_
  refine ne ⟨by omega, by omega, by omega⟩ ?_
  refine loop agree (σ := Nat) (fun i => [(2, .slice (some ⟨b, 0, none⟩) cap cap), (3, .int .i64 i)])
    (fun i w' => ∃ cur', Chg (fun k => k = b) w w' ∧ w'.heap.size = w.heap.size ∧ i ≤ cap ∧ Own w' b 3 cur' ∧ cur'.length = cap * 1 ∧ cur'.take (i * 1) = (List.replicate i ((-5) : Int)).flatMap fI) (fun i => cap - i) 0
    ⟨rfl, rfl, trivial⟩ ⟨cur, Chg.refl _ _, rfl, by omega, h5, h6, by simp⟩ ?_
  rintro i e0 w1 ⟨cur', hk, hs, hi, ho, hl, ht⟩
  refine sp (fun h7 => ?_) (fun h7 => ?_)
  · refine ne ⟨by omega, h7⟩ ?_
    have hle : i * 1 + (fI ((-5) : Int)).length ≤ cur'.length := by rw [hl]; show i * 1 + 1 ≤ _; omega
    refine st agree (o := 0 + ((i : Int)).toNat * 1) ho rfl (by rw [Nat.zero_add, Int.toNat_natCast]; exact hle) rfl ?_
    intro w2 s2 k2 m2
    rw [Nat.zero_add, Int.toNat_natCast] at m2
    refine aw (by omega) (by omega) ?_
    refine again (i + 1) ⟨rfl, rfl, trivial⟩ ⟨lay cur' (i * 1) (fI ((-5) : Int)), hk.trans k2, by omega, by omega, m2, by rw [lay_length]; exact hl, ?_⟩ (by omega)
    rw [show (i + 1) * 1 = i * 1 + (fI ((-5) : Int)).length by show _ = i * 1 + 1; omega, lay_take _ _ _ hle, ht, List.replicate_succ', List.flatMap_append]
    simp
  · have hic : i = cap := by omega
    subst hic
    have hall : cur' = (List.replicate i ((-5) : Int)).flatMap fI := by rw [← ht, List.take_of_length_le (by omega)]
    refine ⟨b, cur, rfl, h5, hk, hs, shp_of hk h5 ho (by omega) ?_⟩
    subst hall
    exact ⟨by exact fun _ => ⟨_, rfl⟩, by simp, by simp, by simp⟩


/-! ### Texts -/
theorem callSameTexts : callable Proofs.Try.prog 44 = true := by kernel_rfl
theorem sameTexts_c {w : World} {lo hi lo2 hi2 : Nat} {v u : Value} {xs ys : List ByteArray} (h : RowE (fun _ cs x => cs = fS x) 1 lo hi w v xs) (h' : RowE (fun _ cs x => cs = fS x) 1 lo2 hi2 w u ys) (hl : xs.length < 4611686018427387904) :
    Calls Proofs.Try.prog 44 [v, u].toArray w (Ret fun r w' => r = .bool (decide (xs = ys)) ∧ Kp w w') := by
  obtain ⟨a, cap, rfl, hcap, hx⟩ := h
  obtain ⟨a2, cap2, rfl, hcap2, hx2⟩ := h'
  refine call agree Proofs.Try.func44 rfl Proofs.Try.ntmps44 (by kernel_rfl) ?_
  refine sp (fun h1 => ?_) (fun h1 => ?_)
  · exact ⟨congrArg Value.bool (decide_eq_false (fun he => h1 (by rw [he]))).symm, Chg.refl _ _⟩
  have hlen : xs.length = ys.length := by omega
  refine loop agree (σ := Nat) (fun i => [(0, .slice a xs.length cap), (1, .slice a2 ys.length cap2), (5, .int .i64 i)]) (fun i w' => Kp w w' ∧ i ≤ xs.length ∧ xs.take i = ys.take i) (fun i => xs.length - i) 0
    ⟨rfl, rfl, rfl, trivial⟩ ⟨Chg.refl _ _, by omega, by simp⟩ ?_
  rintro i e0 w1 ⟨hk, hi, ht⟩
  refine sp (fun h3 => ?_) (fun h3 => ?_)
  · have hi1 : i < xs.length := by omega
    have hi2 : i < ys.length := by omega
    obtain ⟨b, o, rfl, -, -, cs, hcs, hrd, rfl⟩ := hx i xs[i] (by simp)
    obtain ⟨b2, o2, rfl, -, -, cs2, hcs2, hrd2, rfl⟩ := hx2 i ys[i] (by simp)
    refine drawn0 agree mixed 9 (by kernel_rfl) (fun _ => False) ?_
    conv => whnf
    refine ne ⟨by omega, h3⟩ ?_
    conv => whnf
    refine ldk agree rfl rfl (fun W h _ => (hk.trans h).range hrd id) (by rfl) fun _ => ?_
    conv => whnf
    refine ne ⟨by omega, by omega⟩ ?_
    conv => whnf
    refine ldk agree rfl rfl (fun W h _ => (hk.trans h).range hrd2 id) (by rfl) fun _ => ?_
    conv => whnf
    refine sp (fun h4 => ?_) (fun h4 => ?_)
    · conv => whnf
      intro W h _
      refine ⟨congrArg Value.bool (decide_eq_false (fun he => ?_)).symm, hk.trans h⟩
      have he : xs[i] = ys[i] := by simp [he]
      exact (fun he => h4 (by rw [he])) he
    · conv => whnf
      intro W h _
      have he : xs[i] = ys[i] := Classical.not_not.1 h4
      refine aw (by omega) (by omega) ?_
      refine again (i + 1) ⟨rfl, rfl, rfl, trivial⟩ ⟨hk.trans h, by omega, ?_⟩ (by omega)
      rw [List.take_succ_eq_append_getElem hi1, List.take_succ_eq_append_getElem hi2, ht, he]
  · refine ⟨congrArg Value.bool (decide_eq_true ?_).symm, hk⟩
    rw [List.take_of_length_le (by omega), List.take_of_length_le (by omega)] at ht
    exact ht

theorem callLentTexts : callable Proofs.Try.prog 46 = true := by kernel_rfl
abbrev LentTexts := Lent 9 fS [.string ⟨#[116, 104, 101, 32, 111, 119, 110, 101, 114, 39, 115]⟩, .string ⟨#[116, 104, 101, 32, 111, 119, 110, 101, 114, 39, 115]⟩] 2
theorem lentTexts_c {w : World} {lo hi : Nat} {v : Value} {xs : List ByteArray} (h : RowE (fun _ cs x => cs = fS x) 1 lo hi w v xs) (hl : xs.length * 16 ≤ 140737488351232) :
    Calls Proofs.Try.prog 46 [v].toArray w (Ret fun r w' => Kp w w' ∧ LentTexts w.heap.size w'.heap.size w' r xs) := by
  have hrow := h
  obtain ⟨a, cap, rfl, hcap, hx⟩ := h
  refine call agree Proofs.Try.func46 rfl Proofs.Try.ntmps46 (by kernel_rfl) ?_
  refine aw (by omega) (by omega) ?_
  refine ms agree rfl rfl rfl rfl rfl rfl (by omega) (by omega) (by show (16 : Int) * _ ≤ _; omega) (by omega) ?_
  intro b w1 e1 s1 k1 m1
  have hn2 : ((xs.length : Int) + 2).toNat = xs.length + 2 := by omega
  rw [hn2]
  have own0 : w1.ownsRow w.heap.size 9 1 (.slice (some ⟨b, 0, none⟩) 0 (xs.length + 2)) 0 [] := ⟨rfl, .inr ⟨b, xs.length + 2, _, rfl, by omega, m1, by omega, by simp only [maxLen]; omega, by rw [hn2, List.size_toArray, rep_len]; rfl, by simp⟩⟩
  refine apR agree rfl rfl rfl rfl rfl rfl rfl (by decide) own0 (fun _ => rfl) (hrow.chg k1 (fun _ _ _ h => h) (fun _ _ h => h)) (fun _ => rfl) (by omega) ?_
  intro w2 s2 o1 c1
  have k2 : Kp w w2 := k1.newS c1 fun i hi => by omega
  refine ne (by decide) ?_
  refine nd fun q w3 e3 s3 k3 m3 => ?_
  have o1' := ownsRow_chg o1 k3 fun _ _ h => h
  refine apR (xs := [(⟨#[116, 104, 101, 32, 111, 119, 110, 101, 114, 39, 115]⟩ : ByteArray), ⟨#[116, 104, 101, 32, 111, 119, 110, 101, 114, 39, 115]⟩]) (f := fS) agree rfl rfl rfl rfl rfl rfl rfl (by decide) o1' (fun _ => rfl) (own_row (f := fS) (l := [(⟨#[116, 104, 101, 32, 111, 119, 110, 101, 114, 39, 115]⟩ : ByteArray), ⟨#[116, 104, 101, 32, 111, 119, 110, 101, 114, 39, 115]⟩]) (fun _ => rfl) (by decide) m3 (by simp [maxLen])) (fun _ => rfl) (by simp) ?_
  intro w4 s4 o2 c2
  have k4 : Kp w w4 := (k2.trans k3).newS c2 fun i hi => by omega
  have o2 : w4.ownsRow w.heap.size 9 1 (.slice (some ⟨b, 0, none⟩) (0 + xs.length + 2) (xs.length + 2)) (0 + xs.length + 2) (xs.flatMap fS ++ [.string ⟨#[116, 104, 101, 32, 111, 119, 110, 101, 114, 39, 115]⟩, .string ⟨#[116, 104, 101, 32, 111, 119, 110, 101, 114, 39, 115]⟩]) := o2
  rw [Nat.zero_add] at o2
  obtain ⟨o3, hlo⟩ := ownsRow_full o2
  refine ne ⟨by omega, by omega, by omega⟩ ?_
  exact ⟨k4, b, rfl, hlo, lt_of_heap o3, o3⟩

theorem callWholeTexts : callable Proofs.Try.prog 54 = true := by kernel_rfl
theorem wholeTexts_c {w : World} {lo hi lo2 hi2 : Nat} {v u : Value} {xs : List ByteArray} (h : LentTexts lo hi w v xs) (h' : RowE (fun _ cs x => cs = fS x) 1 lo2 hi2 w u xs) (hl : xs.length < 4611686018427387904) :
    Calls Proofs.Try.prog 54 [v, u].toArray w (Ret fun r w' => r = .bool true ∧ Kp w w') := by
  have hrow := h.row (size := 1) (fun _ => rfl)
  obtain ⟨b, rfl, hlo, hb, ho⟩ := h
  have r1 : w.rangeAt b (0 + ((xs.length : Int)).toNat * 1) [.string ⟨#[116, 104, 101, 32, 111, 119, 110, 101, 114, 39, 115]⟩] := by
    have := lent_mark (size := 1) ho (fun _ => rfl) 0 (ms := [.string ⟨#[116, 104, 101, 32, 111, 119, 110, 101, 114, 39, 115]⟩]) rfl
    rwa [show xs.length + 0 = ((xs.length : Int)).toNat by omega] at this
  have r2 : w.rangeAt b (0 + ((xs.length : Int) + 1).toNat * 1) [.string ⟨#[116, 104, 101, 32, 111, 119, 110, 101, 114, 39, 115]⟩] := by
    have := lent_mark (size := 1) ho (fun _ => rfl) 1 (ms := [.string ⟨#[116, 104, 101, 32, 111, 119, 110, 101, 114, 39, 115]⟩]) rfl
    rwa [show xs.length + 1 = ((xs.length : Int) + 1).toNat by omega] at this
  refine call agree Proofs.Try.func54 rfl Proofs.Try.ntmps54 (by kernel_rfl) ?_
  refine aw (by omega) (by omega) ?_
  refine spF (by omega) ?_
  refine aw (by omega) (by omega) ?_
  refine ne ⟨by omega, by omega, by omega⟩ ?_
  refine ne ⟨by omega, by omega⟩ ?_
  refine ld agree r1 (by rfl) ?_
  refine spT rfl ?_
  refine aw (by omega) (by omega) ?_
  refine ne ⟨by omega, by omega⟩ ?_
  refine ld agree r2 (by rfl) ?_
  refine spT rfl ?_
  have hs := sameTexts_c hrow h' hl
  rw [decide_eq_true rfl] at hs
  refine cl callSameTexts hs ?_
  rintro _ w1 ⟨rfl, k1⟩
  exact ⟨rfl, k1⟩

theorem callSpoilTexts : callable Proofs.Try.prog 58 = true := by kernel_rfl
theorem spoilTexts_c {w : World} {lo hi n : Nat} {v : Value} (h : Well 9 1 lo hi w v n) :
    Calls Proofs.Try.prog 58 [v].toArray w (Ret fun _ w' => ∃ b cs, v.ownBlock = some b ∧ Own w b 9 cs ∧ Chg (fun k => k = b) w w' ∧ w'.heap.size = w.heap.size ∧ Shp Ty w w') := by
  obtain ⟨b, cap, cur, rfl, h1, h2, h3, h4, h5, h6⟩ := h
  refine call agree Proofs.Try.func58 rfl Proofs.Try.ntmps58 (by kernel_rfl) ?_
  refine ne ⟨by omega, by omega, by omega⟩ ?_
  refine loop agree (σ := Nat) (fun i => [(2, .slice (some ⟨b, 0, none⟩) cap cap), (3, .int .i64 i)])
    (fun i w' => ∃ cur', Chg (fun k => k = b) w w' ∧ w'.heap.size = w.heap.size ∧ i ≤ cap ∧ Own w' b 9 cur' ∧ cur'.length = cap * 1 ∧ cur'.take (i * 1) = (List.replicate i (⟨#[115, 112, 111, 105, 108, 116]⟩ : ByteArray)).flatMap fS) (fun i => cap - i) 0
    ⟨rfl, rfl, trivial⟩ ⟨cur, Chg.refl _ _, rfl, by omega, h5, h6, by simp⟩ ?_
  rintro i e0 w1 ⟨cur', hk, hs, hi, ho, hl, ht⟩
  refine sp (fun h7 => ?_) (fun h7 => ?_)
  · refine ne ⟨by omega, h7⟩ ?_
    have hle : i * 1 + (fS (⟨#[115, 112, 111, 105, 108, 116]⟩ : ByteArray)).length ≤ cur'.length := by rw [hl]; show i * 1 + 1 ≤ _; omega
    refine st agree (o := 0 + ((i : Int)).toNat * 1) ho rfl (by rw [Nat.zero_add, Int.toNat_natCast]; exact hle) rfl ?_
    intro w2 s2 k2 m2
    rw [Nat.zero_add, Int.toNat_natCast] at m2
    refine aw (by omega) (by omega) ?_
    refine again (i + 1) ⟨rfl, rfl, trivial⟩ ⟨lay cur' (i * 1) (fS (⟨#[115, 112, 111, 105, 108, 116]⟩ : ByteArray)), hk.trans k2, by omega, by omega, m2, by rw [lay_length]; exact hl, ?_⟩ (by omega)
    rw [show (i + 1) * 1 = i * 1 + (fS (⟨#[115, 112, 111, 105, 108, 116]⟩ : ByteArray)).length by show _ = i * 1 + 1; omega, lay_take _ _ _ hle, ht, List.replicate_succ', List.flatMap_append]
    simp
  · have hic : i = cap := by omega
    subst hic
    have hall : cur' = (List.replicate i (⟨#[115, 112, 111, 105, 108, 116]⟩ : ByteArray)).flatMap fS := by rw [← ht, List.take_of_length_le (by omega)]
    refine ⟨b, cur, rfl, h5, hk, hs, shp_of hk h5 ho (by omega) ?_⟩
    subst hall
    exact ⟨by simp, by exact fun _ => ⟨_, rfl⟩, by simp, by simp⟩


/-! ### Letters -/
theorem callSameLetters : callable Proofs.Try.prog 105 = true := by kernel_rfl
theorem sameLetters_c {w : World} {lo hi lo2 hi2 : Nat} {v u : Value} {xs ys : List Int} (h : RowE (fun _ cs x => cs = fU x) 1 lo hi w v xs) (h' : RowE (fun _ cs x => cs = fU x) 1 lo2 hi2 w u ys) (hl : xs.length < 4611686018427387904) :
    Calls Proofs.Try.prog 105 [v, u].toArray w (Ret fun r w' => r = .bool (decide (xs = ys)) ∧ Kp w w') := by
  obtain ⟨a, cap, rfl, hcap, hx⟩ := h
  obtain ⟨a2, cap2, rfl, hcap2, hx2⟩ := h'
  refine call agree Proofs.Try.func105 rfl Proofs.Try.ntmps105 (by kernel_rfl) ?_
  refine sp (fun h1 => ?_) (fun h1 => ?_)
  · exact ⟨congrArg Value.bool (decide_eq_false (fun he => h1 (by rw [he]))).symm, Chg.refl _ _⟩
  have hlen : xs.length = ys.length := by omega
  refine loop agree (σ := Nat) (fun i => [(0, .slice a xs.length cap), (1, .slice a2 ys.length cap2), (5, .int .i64 i)]) (fun i w' => Kp w w' ∧ i ≤ xs.length ∧ xs.take i = ys.take i) (fun i => xs.length - i) 0
    ⟨rfl, rfl, rfl, trivial⟩ ⟨Chg.refl _ _, by omega, by simp⟩ ?_
  rintro i e0 w1 ⟨hk, hi, ht⟩
  refine sp (fun h3 => ?_) (fun h3 => ?_)
  · have hi1 : i < xs.length := by omega
    have hi2 : i < ys.length := by omega
    obtain ⟨b, o, rfl, -, -, cs, hcs, hrd, rfl⟩ := hx i xs[i] (by simp)
    obtain ⟨b2, o2, rfl, -, -, cs2, hcs2, hrd2, rfl⟩ := hx2 i ys[i] (by simp)
    refine drawn0 agree mixed 9 (by kernel_rfl) (fun _ => False) ?_
    conv => whnf
    refine ne ⟨by omega, h3⟩ ?_
    conv => whnf
    refine ldk agree rfl rfl (fun W h _ => (hk.trans h).range hrd id) (by rfl) fun _ => ?_
    conv => whnf
    refine ne ⟨by omega, by omega⟩ ?_
    conv => whnf
    refine ldk agree rfl rfl (fun W h _ => (hk.trans h).range hrd2 id) (by rfl) fun _ => ?_
    conv => whnf
    refine sp (fun h4 => ?_) (fun h4 => ?_)
    · conv => whnf
      intro W h _
      refine ⟨congrArg Value.bool (decide_eq_false (fun he => ?_)).symm, hk.trans h⟩
      have he : xs[i] = ys[i] := by simp [he]
      exact (fun he => h4 (by rw [he])) he
    · conv => whnf
      intro W h _
      have he : xs[i] = ys[i] := Classical.not_not.1 h4
      refine aw (by omega) (by omega) ?_
      refine again (i + 1) ⟨rfl, rfl, rfl, trivial⟩ ⟨hk.trans h, by omega, ?_⟩ (by omega)
      rw [List.take_succ_eq_append_getElem hi1, List.take_succ_eq_append_getElem hi2, ht, he]
  · refine ⟨congrArg Value.bool (decide_eq_true ?_).symm, hk⟩
    rw [List.take_of_length_le (by omega), List.take_of_length_le (by omega)] at ht
    exact ht

theorem callLentLetters : callable Proofs.Try.prog 65 = true := by kernel_rfl
abbrev LentLetters := Lent 50 fU [.int .u16 60001, .int .u16 60002] 2
theorem lentLetters_c {w : World} {lo hi : Nat} {v : Value} {xs : List Int} (h : RowE (fun _ cs x => cs = fU x) 1 lo hi w v xs) (hl : xs.length * 2 ≤ 140737488351232) :
    Calls Proofs.Try.prog 65 [v].toArray w (Ret fun r w' => Kp w w' ∧ LentLetters w.heap.size w'.heap.size w' r xs) := by
  have hrow := h
  obtain ⟨a, cap, rfl, hcap, hx⟩ := h
  refine call agree Proofs.Try.func65 rfl Proofs.Try.ntmps65 (by kernel_rfl) ?_
  refine aw (by omega) (by omega) ?_
  refine ms agree rfl rfl rfl rfl rfl rfl (by omega) (by omega) (by show (2 : Int) * _ ≤ _; omega) (by omega) ?_
  intro b w1 e1 s1 k1 m1
  have hn2 : ((xs.length : Int) + 2).toNat = xs.length + 2 := by omega
  rw [hn2]
  have own0 : w1.ownsRow w.heap.size 50 1 (.slice (some ⟨b, 0, none⟩) 0 (xs.length + 2)) 0 [] := ⟨rfl, .inr ⟨b, xs.length + 2, _, rfl, by omega, m1, by omega, by simp only [maxLen]; omega, by rw [hn2, List.size_toArray, rep_len]; rfl, by simp⟩⟩
  refine apR agree rfl rfl rfl rfl rfl rfl rfl (by decide) own0 (fun _ => rfl) (hrow.chg k1 (fun _ _ _ h => h) (fun _ _ h => h)) (fun _ => rfl) (by omega) ?_
  intro w2 s2 o1 c1
  have k2 : Kp w w2 := k1.newS c1 fun i hi => by omega
  refine ne (by decide) ?_
  refine nd fun q w3 e3 s3 k3 m3 => ?_
  have o1' := ownsRow_chg o1 k3 fun _ _ h => h
  refine apR (xs := [(60001 : Int), 60002]) (f := fU) agree rfl rfl rfl rfl rfl rfl rfl (by decide) o1' (fun _ => rfl) (own_row (f := fU) (l := [(60001 : Int), 60002]) (fun _ => rfl) (by decide) m3 (by simp [maxLen])) (fun _ => rfl) (by simp) ?_
  intro w4 s4 o2 c2
  have k4 : Kp w w4 := (k2.trans k3).newS c2 fun i hi => by omega
  have o2 : w4.ownsRow w.heap.size 50 1 (.slice (some ⟨b, 0, none⟩) (0 + xs.length + 2) (xs.length + 2)) (0 + xs.length + 2) (xs.flatMap fU ++ [.int .u16 60001, .int .u16 60002]) := o2
  rw [Nat.zero_add] at o2
  obtain ⟨o3, hlo⟩ := ownsRow_full o2
  refine ne ⟨by omega, by omega, by omega⟩ ?_
  exact ⟨k4, b, rfl, hlo, lt_of_heap o3, o3⟩

theorem callWholeLetters : callable Proofs.Try.prog 69 = true := by kernel_rfl
theorem wholeLetters_c {w : World} {lo hi lo2 hi2 : Nat} {v u : Value} {xs : List Int} (h : LentLetters lo hi w v xs) (h' : RowE (fun _ cs x => cs = fU x) 1 lo2 hi2 w u xs) (hl : xs.length < 4611686018427387904) :
    Calls Proofs.Try.prog 69 [v, u].toArray w (Ret fun r w' => r = .bool true ∧ Kp w w') := by
  have hrow := h.row (size := 1) (fun _ => rfl)
  obtain ⟨b, rfl, hlo, hb, ho⟩ := h
  have r1 : w.rangeAt b (0 + ((xs.length : Int)).toNat * 1) [.int .u16 60001] := by
    have := lent_mark (size := 1) ho (fun _ => rfl) 0 (ms := [.int .u16 60001]) rfl
    rwa [show xs.length + 0 = ((xs.length : Int)).toNat by omega] at this
  have r2 : w.rangeAt b (0 + ((xs.length : Int) + 1).toNat * 1) [.int .u16 60002] := by
    have := lent_mark (size := 1) ho (fun _ => rfl) 1 (ms := [.int .u16 60002]) rfl
    rwa [show xs.length + 1 = ((xs.length : Int) + 1).toNat by omega] at this
  refine call agree Proofs.Try.func69 rfl Proofs.Try.ntmps69 (by kernel_rfl) ?_
  refine aw (by omega) (by omega) ?_
  refine spF (by omega) ?_
  refine aw (by omega) (by omega) ?_
  refine ne ⟨by omega, by omega, by omega⟩ ?_
  refine ne ⟨by omega, by omega⟩ ?_
  refine ld agree r1 (by rfl) ?_
  refine spT rfl ?_
  refine aw (by omega) (by omega) ?_
  refine ne ⟨by omega, by omega⟩ ?_
  refine ld agree r2 (by rfl) ?_
  refine spT rfl ?_
  have hs := sameLetters_c hrow h' hl
  rw [decide_eq_true rfl] at hs
  refine cl callSameLetters hs ?_
  rintro _ w1 ⟨rfl, k1⟩
  exact ⟨rfl, k1⟩


/-! ### Edges -/
theorem callSameEdges : callable Proofs.Try.prog 89 = true := by kernel_rfl
theorem sameEdges_c {w : World} {lo hi lo2 hi2 : Nat} {v u : Value} {xs ys : List Edge} (h : RowE (fun _ cs x => cs = Edge.cells x) 4 lo hi w v xs) (h' : RowE (fun _ cs x => cs = Edge.cells x) 4 lo2 hi2 w u ys) (hl : xs.length < 4611686018427387904) :
    Calls Proofs.Try.prog 89 [v, u].toArray w (Ret fun r w' => r = .bool (decide (xs = ys)) ∧ Kp w w') := by
  obtain ⟨a, cap, rfl, hcap, hx⟩ := h
  obtain ⟨a2, cap2, rfl, hcap2, hx2⟩ := h'
  refine call agree Proofs.Try.func89 rfl Proofs.Try.ntmps89 (by kernel_rfl) ?_
  refine sp (fun h1 => ?_) (fun h1 => ?_)
  · exact ⟨congrArg Value.bool (decide_eq_false (fun he => h1 (by rw [he]))).symm, Chg.refl _ _⟩
  have hlen : xs.length = ys.length := by omega
  refine loop agree (σ := Nat) (fun i => [(0, .slice a xs.length cap), (1, .slice a2 ys.length cap2), (5, .int .i64 i)]) (fun i w' => Kp w w' ∧ i ≤ xs.length ∧ xs.take i = ys.take i) (fun i => xs.length - i) 0
    ⟨rfl, rfl, rfl, trivial⟩ ⟨Chg.refl _ _, by omega, by simp⟩ ?_
  rintro i e0 w1 ⟨hk, hi, ht⟩
  refine sp (fun h3 => ?_) (fun h3 => ?_)
  · have hi1 : i < xs.length := by omega
    have hi2 : i < ys.length := by omega
    obtain ⟨b, o, rfl, -, -, cs, hcs, hrd, rfl⟩ := hx i xs[i] (by simp)
    obtain ⟨b2, o2, rfl, -, -, cs2, hcs2, hrd2, rfl⟩ := hx2 i ys[i] (by simp)
    refine drawn0 agree mixed 9 (by kernel_rfl) (fun _ => False) ?_
    conv => whnf
    refine ne ⟨by omega, h3⟩ ?_
    conv => whnf
    refine ldk (v := xs[i].val) agree rfl rfl (fun W h _ => (hk.trans h).range hrd id) (by rfl) fun _ => ?_
    conv => whnf
    refine ne ⟨by omega, by omega⟩ ?_
    conv => whnf
    refine ldk (v := ys[i].val) agree rfl rfl (fun W h _ => (hk.trans h).range hrd2 id) (by rfl) fun _ => ?_
    conv => whnf
    refine ne ⟨by kernel_rfl, by kernel_rfl⟩ ?_
    conv => whnf
    refine sp (fun h4 => ?_) (fun h4 => ?_)
    · conv => whnf
      intro W h _
      refine ⟨congrArg Value.bool (decide_eq_false (fun he => ?_)).symm, hk.trans h⟩
      have he : xs[i] = ys[i] := by simp [he]
      exact (fun he => h4 (by rw [he])) he
    · conv => whnf
      intro W h _
      have he : xs[i] = ys[i] := Edge.arr_inj (Classical.not_not.1 h4)
      refine aw (by omega) (by omega) ?_
      refine again (i + 1) ⟨rfl, rfl, rfl, trivial⟩ ⟨hk.trans h, by omega, ?_⟩ (by omega)
      rw [List.take_succ_eq_append_getElem hi1, List.take_succ_eq_append_getElem hi2, ht, he]
  · refine ⟨congrArg Value.bool (decide_eq_true ?_).symm, hk⟩
    rw [List.take_of_length_le (by omega), List.take_of_length_le (by omega)] at ht
    exact ht

theorem callLentEdges : callable Proofs.Try.prog 48 = true := by kernel_rfl
abbrev LentEdges := Lent 52 Edge.cells [.int .i64 (-7), .int .i64 0, .int .u16 0, .int .u16 0, .int .i64 (-8), .int .i64 0, .int .u16 0, .int .u16 0] 2
theorem lentEdges_c {w : World} {lo hi : Nat} {v : Value} {xs : List Edge} (h : RowE (fun _ cs x => cs = Edge.cells x) 4 lo hi w v xs) (hl : xs.length * 24 ≤ 140737488351232) :
    Calls Proofs.Try.prog 48 [v].toArray w (Ret fun r w' => Kp w w' ∧ LentEdges w.heap.size w'.heap.size w' r xs) := by
  have hrow := h
  obtain ⟨a, cap, rfl, hcap, hx⟩ := h
  refine call agree Proofs.Try.func48 rfl Proofs.Try.ntmps48 (by kernel_rfl) ?_
  refine aw (by omega) (by omega) ?_
  refine ms agree rfl rfl rfl rfl rfl rfl (by omega) (by omega) (by show (24 : Int) * _ ≤ _; omega) (by omega) ?_
  intro b w1 e1 s1 k1 m1
  have hn2 : ((xs.length : Int) + 2).toNat = xs.length + 2 := by omega
  rw [hn2]
  have own0 : w1.ownsRow w.heap.size 52 4 (.slice (some ⟨b, 0, none⟩) 0 (xs.length + 2)) 0 [] := ⟨rfl, .inr ⟨b, xs.length + 2, _, rfl, by omega, m1, by omega, by simp only [maxLen]; omega, by rw [hn2, List.size_toArray, rep_len]; rfl, by simp⟩⟩
  refine apR agree rfl rfl rfl rfl rfl rfl rfl (by decide) own0 (fun _ => rfl) (hrow.chg k1 (fun _ _ _ h => h) (fun _ _ h => h)) (fun _ => rfl) (by omega) ?_
  intro w2 s2 o1 c1
  have k2 : Kp w w2 := k1.newS c1 fun i hi => by omega
  refine ne (by decide) ?_
  refine nd fun q w3 e3 s3 k3 m3 => ?_
  have o1' := ownsRow_chg o1 k3 fun _ _ h => h
  refine apR (xs := [(⟨-7, 0, 0, 0⟩ : Edge), ⟨-8, 0, 0, 0⟩]) (f := Edge.cells) agree rfl rfl rfl rfl rfl rfl rfl (by decide) o1' (fun _ => rfl) (own_row (f := Edge.cells) (l := [(⟨-7, 0, 0, 0⟩ : Edge), ⟨-8, 0, 0, 0⟩]) (fun _ => rfl) (by decide) m3 (by simp [maxLen])) (fun _ => rfl) (by simp) ?_
  intro w4 s4 o2 c2
  have k4 : Kp w w4 := (k2.trans k3).newS c2 fun i hi => by omega
  have o2 : w4.ownsRow w.heap.size 52 4 (.slice (some ⟨b, 0, none⟩) (0 + xs.length + 2) (xs.length + 2)) (0 + xs.length + 2) (xs.flatMap Edge.cells ++ [.int .i64 (-7), .int .i64 0, .int .u16 0, .int .u16 0, .int .i64 (-8), .int .i64 0, .int .u16 0, .int .u16 0]) := o2
  rw [Nat.zero_add] at o2
  obtain ⟨o3, hlo⟩ := ownsRow_full o2
  refine ne ⟨by omega, by omega, by omega⟩ ?_
  exact ⟨k4, b, rfl, hlo, lt_of_heap o3, o3⟩

theorem callWholeEdges : callable Proofs.Try.prog 56 = true := by kernel_rfl
theorem wholeEdges_c {w : World} {lo hi lo2 hi2 : Nat} {v u : Value} {xs : List Edge} (h : LentEdges lo hi w v xs) (h' : RowE (fun _ cs x => cs = Edge.cells x) 4 lo2 hi2 w u xs) (hl : xs.length < 4611686018427387904) :
    Calls Proofs.Try.prog 56 [v, u].toArray w (Ret fun r w' => r = .bool true ∧ Kp w w') := by
  have hrow := h.row (size := 4) (fun _ => rfl)
  obtain ⟨b, rfl, hlo, hb, ho⟩ := h
  have r1 : w.rangeAt b (0 + ((xs.length : Int)).toNat * 4) [.int .i64 (-7), .int .i64 0, .int .u16 0, .int .u16 0] := by
    have := lent_mark (size := 4) ho (fun _ => rfl) 0 (ms := [.int .i64 (-7), .int .i64 0, .int .u16 0, .int .u16 0]) rfl
    rwa [show xs.length + 0 = ((xs.length : Int)).toNat by omega] at this
  have r2 : w.rangeAt b (0 + ((xs.length : Int) + 1).toNat * 4) [.int .i64 (-8), .int .i64 0, .int .u16 0, .int .u16 0] := by
    have := lent_mark (size := 4) ho (fun _ => rfl) 1 (ms := [.int .i64 (-8), .int .i64 0, .int .u16 0, .int .u16 0]) rfl
    rwa [show xs.length + 1 = ((xs.length : Int) + 1).toNat by omega] at this
  refine call agree Proofs.Try.func56 rfl Proofs.Try.ntmps56 (by kernel_rfl) ?_
  refine aw (by omega) (by omega) ?_
  refine spF (by omega) ?_
  refine aw (by omega) (by omega) ?_
  refine ne ⟨by omega, by omega, by omega⟩ ?_
  refine ne ⟨by omega, by omega⟩ ?_
  refine ld (v := .agg #[.int .i64 (-7), .int .i64 0, .int .u16 0, .int .u16 0]) agree r1 (by rfl) ?_
  refine ne ⟨by kernel_rfl, by kernel_rfl⟩ ?_
  refine spT rfl ?_
  refine aw (by omega) (by omega) ?_
  refine ne ⟨by omega, by omega⟩ ?_
  refine ld (v := .agg #[.int .i64 (-8), .int .i64 0, .int .u16 0, .int .u16 0]) agree r2 (by rfl) ?_
  refine ne ⟨by kernel_rfl, by kernel_rfl⟩ ?_
  refine spT rfl ?_
  have hs := sameEdges_c hrow h' hl
  rw [decide_eq_true rfl] at hs
  refine cl callSameEdges hs ?_
  rintro _ w1 ⟨rfl, k1⟩
  exact ⟨rfl, k1⟩

theorem callSpoilEdges : callable Proofs.Try.prog 60 = true := by kernel_rfl
theorem spoilEdges_c {w : World} {lo hi n : Nat} {v : Value} (h : Well 52 4 lo hi w v n) :
    Calls Proofs.Try.prog 60 [v].toArray w (Ret fun _ w' => ∃ b cs, v.ownBlock = some b ∧ Own w b 52 cs ∧ Chg (fun k => k = b) w w' ∧ w'.heap.size = w.heap.size ∧ Shp Ty w w') := by
  obtain ⟨b, cap, cur, rfl, h1, h2, h3, h4, h5, h6⟩ := h
  refine call agree Proofs.Try.func60 rfl Proofs.Try.ntmps60 (by kernel_rfl) ?_
  refine ne ⟨by omega, by omega, by omega⟩ ?_
  refine loop agree (σ := Nat) (fun i => [(2, .slice (some ⟨b, 0, none⟩) cap cap), (3, .int .i64 i)])
    (fun i w' => ∃ cur', Chg (fun k => k = b) w w' ∧ w'.heap.size = w.heap.size ∧ i ≤ cap ∧ Own w' b 52 cur' ∧ cur'.length = cap * 4 ∧ cur'.take (i * 4) = (List.replicate i (⟨-5, 0, 0, 0⟩ : Edge)).flatMap Edge.cells) (fun i => cap - i) 0
    ⟨rfl, rfl, trivial⟩ ⟨cur, Chg.refl _ _, rfl, by omega, h5, h6, by simp⟩ ?_
  rintro i e0 w1 ⟨cur', hk, hs, hi, ho, hl, ht⟩
  refine sp (fun h7 => ?_) (fun h7 => ?_)
  · refine ne ⟨by omega, h7⟩ ?_
    have hle : i * 4 + (Edge.cells (⟨-5, 0, 0, 0⟩ : Edge)).length ≤ cur'.length := by rw [hl]; show i * 4 + 4 ≤ _; omega
    refine st agree (o := 0 + ((i : Int)).toNat * 4) ho rfl (by rw [Nat.zero_add, Int.toNat_natCast]; exact hle) rfl ?_
    intro w2 s2 k2 m2
    rw [Nat.zero_add, Int.toNat_natCast] at m2
    refine aw (by omega) (by omega) ?_
    refine again (i + 1) ⟨rfl, rfl, trivial⟩ ⟨lay cur' (i * 4) (Edge.cells (⟨-5, 0, 0, 0⟩ : Edge)), hk.trans k2, by omega, by omega, m2, by rw [lay_length]; exact hl, ?_⟩ (by omega)
    rw [show (i + 1) * 4 = i * 4 + (Edge.cells (⟨-5, 0, 0, 0⟩ : Edge)).length by show _ = i * 4 + 4; omega, lay_take _ _ _ hle, ht, List.replicate_succ', List.flatMap_append]
    simp
  · have hic : i = cap := by omega
    subst hic
    have hall : cur' = (List.replicate i (⟨-5, 0, 0, 0⟩ : Edge)).flatMap Edge.cells := by rw [← ht, List.take_of_length_le (by omega)]
    refine ⟨b, cur, rfl, h5, hk, hs, shp_of hk h5 ho (by omega) ?_⟩
    subst hall
    exact ⟨by simp, by simp, by simp, by exact fun _ => ⟨_, rfl, by simp [Edge.wf]⟩⟩

end Go.Au
