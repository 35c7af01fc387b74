/- Own text of this workplace: a part of the proofs of this place's statements. -/
import Derived.Test.YtjibhchnhkjgkaaB2
set_option linter.unusedVariables false
set_option linter.unusedSimpArgs false
set_option linter.unusedSectionVars false
namespace Go.Au
open Go Go.RowKit Go.MapKept
open Go.Maps (Keyed)

theorem mixed : Proofs.Try.prog.follows .mixedOrders = true := by kernel_rfl
def cmp3 (a b : Int) : Int := if a < b then -1 else if b < a then 1 else 0
def firstOf : List Int → Int
  | [] => 0
  | x :: r => if x = 0 then firstOf r else x

theorem isNaNi_c (w : World) (x : Int) : Calls Proofs.Try.prog 124 [.int .i64 x].toArray w (Ret fun r w' => r = .bool false ∧ Kp w w') := by
  refine call agree Proofs.Try.func124 rfl Proofs.Try.ntmps124 (by kernel_rfl) ?_
  exact spF (fun h => h rfl) ⟨rfl, Chg.refl _ _⟩
theorem isNaNu_c (w : World) (x : Int) : Calls Proofs.Try.prog 125 [.int .u16 x].toArray w (Ret fun r w' => r = .bool false ∧ Kp w w') := by
  refine call agree Proofs.Try.func125 rfl Proofs.Try.ntmps125 (by kernel_rfl) ?_
  exact spF (fun h => h rfl) ⟨rfl, Chg.refl _ _⟩
theorem callNaNi : callable Proofs.Try.prog 124 = true := by kernel_rfl
theorem callNaNu : callable Proofs.Try.prog 125 = true := by kernel_rfl

theorem compi_c (w : World) (a b : Int) : Calls Proofs.Try.prog 96 [.int .i64 a, .int .i64 b].toArray w (Ret fun r w' => r = .int .i64 (cmp3 a b) ∧ Kp w w') := by
  refine call agree Proofs.Try.func96 rfl Proofs.Try.ntmps96 (by kernel_rfl) ?_
  refine cl callNaNi (isNaNi_c w a) ?_
  rintro _ w1 ⟨rfl, k1⟩
  refine cl callNaNi (isNaNi_c w1 b) ?_
  rintro _ w2 ⟨rfl, k2⟩
  refine sp (fun h => ?_) (fun h => ?_)
  · exact ⟨congrArg (Value.int .i64) (by simp [cmp3, h]), k1.trans k2⟩
  · refine sp (fun h2 => ?_) (fun h2 => ?_)
    · exact ⟨congrArg (Value.int .i64) (by simp [cmp3, h, h2]), k1.trans k2⟩
    · exact ⟨congrArg (Value.int .i64) (by simp [cmp3, h, h2]), k1.trans k2⟩
theorem compu_c (w : World) (a b : Int) : Calls Proofs.Try.prog 97 [.int .u16 a, .int .u16 b].toArray w (Ret fun r w' => r = .int .i64 (cmp3 a b) ∧ Kp w w') := by
  refine call agree Proofs.Try.func97 rfl Proofs.Try.ntmps97 (by kernel_rfl) ?_
  refine cl callNaNu (isNaNu_c w a) ?_
  rintro _ w1 ⟨rfl, k1⟩
  refine cl callNaNu (isNaNu_c w1 b) ?_
  rintro _ w2 ⟨rfl, k2⟩
  refine sp (fun h => ?_) (fun h => ?_)
  · exact ⟨congrArg (Value.int .i64) (by simp [cmp3, h]), k1.trans k2⟩
  · refine sp (fun h2 => ?_) (fun h2 => ?_)
    · exact ⟨congrArg (Value.int .i64) (by simp [cmp3, h, h2]), k1.trans k2⟩
    · exact ⟨congrArg (Value.int .i64) (by simp [cmp3, h, h2]), k1.trans k2⟩
theorem callCompi : callable Proofs.Try.prog 96 = true := by kernel_rfl
theorem callCompu : callable Proofs.Try.prog 97 = true := by kernel_rfl

theorem or_c {w : World} {lo hi : Nat} {v : Value} {xs : List Int} (h : Ints lo hi w v xs) (hl : xs.length < 4611686018427387904) :
    Calls Proofs.Try.prog 95 [v].toArray w (Ret fun r w' => r = .int .i64 (firstOf xs) ∧ Kp w w') := by
  obtain ⟨a, cap, rfl, hcap, hx⟩ := h
  refine call agree Proofs.Try.func95 rfl Proofs.Try.ntmps95 (by kernel_rfl) ?_
  refine loop agree (σ := Nat) (fun i => [(3, .int .i64 0), (6, .slice a xs.length cap), (7, .int .i64 xs.length), (8, .int .i64 i)])
    (fun i w' => Kp w w' ∧ i ≤ xs.length ∧ firstOf xs = firstOf (xs.drop i)) (fun i => xs.length - i) 0
    ⟨rfl, rfl, rfl, rfl, trivial⟩ ⟨Chg.refl _ _, by omega, by simp⟩ ?_
  rintro i e0 w1 ⟨hk, hi, hr⟩
  refine sp (fun h1 => ?_) (fun h1 => ?_)
  · obtain ⟨b, o, rfl, hlo, hhi, cs, hcs, hrd, rfl⟩ := hx i xs[i] (by simp)
    refine ne ⟨by omega, h1⟩ ?_
    refine ld agree (hk.range hrd id) rfl ?_
    have hi' : i < xs.length := by omega
    rw [List.drop_eq_getElem_cons hi'] at hr
    refine sp (fun h2 => ?_) (fun h2 => ?_)
    · exact ⟨congrArg (Value.int .i64) (by rw [hr]; simp [firstOf, h2]), hk⟩
    · refine aw (by omega) (by omega) ?_
      refine again (i + 1) ⟨rfl, rfl, rfl, rfl, trivial⟩ ⟨hk, by omega, ?_⟩ (by omega)
      rw [hr]; simp only [firstOf]; rw [if_pos (by omega)]
  · exact ⟨congrArg (Value.int .i64) (by rw [hr, List.drop_eq_nil_of_le (by omega)]; rfl), hk⟩
theorem callOr : callable Proofs.Try.prog 95 = true := by kernel_rfl

structure Edge where
  frm : Int
  to : Int
  must : Int
  no : Int
  deriving DecidableEq
def Edge.cells (e : Edge) : List Value := [.int .i64 e.frm, .int .i64 e.to, .int .u16 e.must, .int .u16 e.no]
def Edge.val (e : Edge) : Value := .agg #[.int .i64 e.frm, .int .i64 e.to, .int .u16 e.must, .int .u16 e.no]
def orderS (a b : Edge) : Int := firstOf [cmp3 a.frm b.frm, cmp3 a.to b.to, cmp3 a.must b.must, cmp3 a.no b.no]

theorem order_c (w : World) (a b : Edge) : Calls Proofs.Try.prog 52 [a.val, b.val].toArray w (Ret fun r w' => r = .int .i64 (orderS a b) ∧ Kp w w') := by
  refine call agree Proofs.Try.func52 rfl Proofs.Try.ntmps52 (by kernel_rfl) ?_
  refine nd fun p w1 e1 s1 k1 m1 => ?_
  refine nd fun q w2 e2 s2 k2 m2 => ?_
  refine drawn0 agree mixed 23 (by kernel_rfl) (fun _ => False) ?_
  have A : ∀ W, Kp w2 W → Own W p 52 a.cells := fun W h => h.heap (k2.heap m1 id) id
  have B : ∀ W, Kp w2 W → Own W q 52 b.cells := fun W h => h.heap m2 id
  conv => whnf
  refine ldk agree rfl rfl (fun W h _ => Own.at_ (xs := [.int .i64 a.frm]) (A W h) rfl) (by rfl) fun _ => ?_
  conv => whnf
  refine ldk agree rfl rfl (fun W h _ => Own.at_ (xs := [.int .i64 b.frm]) (B W h) rfl) (by rfl) fun _ => ?_
  conv => whnf
  refine callk rfl rfl rfl callCompi (fun W _ _ => compi_c W a.frm b.frm) fun _ => ?_
  conv => whnf
  refine ldk agree rfl rfl (fun W h _ => Own.at_ (xs := [.int .i64 a.to]) (A W h) rfl) (by rfl) fun _ => ?_
  conv => whnf
  refine ldk agree rfl rfl (fun W h _ => Own.at_ (xs := [.int .i64 b.to]) (B W h) rfl) (by rfl) fun _ => ?_
  conv => whnf
  refine callk rfl rfl rfl callCompi (fun W _ _ => compi_c W a.to b.to) fun _ => ?_
  conv => whnf
  refine ldk agree rfl rfl (fun W h _ => Own.at_ (xs := [.int .u16 a.must]) (A W h) rfl) (by rfl) fun _ => ?_
  conv => whnf
  refine ldk agree rfl rfl (fun W h _ => Own.at_ (xs := [.int .u16 b.must]) (B W h) rfl) (by rfl) fun _ => ?_
  conv => whnf
  refine callk rfl rfl rfl callCompu (fun W _ _ => compu_c W a.must b.must) fun _ => ?_
  conv => whnf
  refine ldk agree rfl rfl (fun W h _ => Own.at_ (xs := [.int .u16 a.no]) (A W h) rfl) (by rfl) fun _ => ?_
  conv => whnf
  refine ldk agree rfl rfl (fun W h _ => Own.at_ (xs := [.int .u16 b.no]) (B W h) rfl) (by rfl) fun _ => ?_
  conv => whnf
  refine callk rfl rfl rfl callCompu (fun W _ _ => compu_c W a.no b.no) fun _ => ?_
  conv => whnf
  refine bsk rfl rfl rfl rfl (by rfl) (by decide) fun q' D hD => ?_
  conv => whnf
  refine callk rfl rfl rfl callOr (fun W h1 h2 => or_c (xs := [cmp3 a.frm b.frm, cmp3 a.to b.to, cmp3 a.must b.must, cmp3 a.no b.no]) (lo := q') (hi := q' + 1) (row1 (hD W (h2 20 (by kernel_rfl))).1 rfl rfl (by decide) (by omega) (by omega)) (by simp)) fun D2 => ?_
  conv => whnf
  exact fun W h _ => ⟨rfl, k1.trans (k2.trans h)⟩
theorem callOrder : callable Proofs.Try.prog 52 = true := by kernel_rfl
end Go.Au
