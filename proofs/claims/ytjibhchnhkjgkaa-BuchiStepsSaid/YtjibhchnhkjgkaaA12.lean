/- Own text of this workplace: a part of the proofs of this place's statements. -/
import Derived.Test.YtjibhchnhkjgkaaA11
import Derived.RangeFuncKeeps
import Derived.RangeFuncNested
set_option linter.unusedVariables false
set_option linter.unusedSimpArgs false
set_option linter.unusedSectionVars false
namespace Go.Au
open Go Go.RowKit Go.MapKept
open Go.Maps (Keyed)

/-! ### ranges over functions -/
/-- what an iterator does with a yield: xs are handed over, one by one, till one round says no; C: what it reads -/
structure IterC {α : Type} (P : Program) (g : FuncId) (cap : List Value) (enc : α → List Value) (xs : List α) (C : World → Prop) : Prop where
  h : ∀ (l : Nat) (J Jx : List α → World → Prop) (W : World), (∀ pre W W', J pre W → Kp W W' → J pre W') → (∀ pre W W', Jx pre W → Kp W W' → Jx pre W') → (∀ pre W, J pre W → C W) →
    (∀ pre x W, J pre W → pre ++ [x] <+: xs → YieldAt Fence.wide 0 P l (enc x).toArray W (Ret fun v W' => (v = .bool true ∧ J (pre ++ [x]) W') ∨ (v = .bool false ∧ Jx (pre ++ [x]) W'))) → J [] W →
    Calls P g (.func (.yield l) #[] #[] :: cap).toArray W (Ret fun _ W' => J xs W' ∨ ∃ pre, Jx pre W')

def setPs (e : Env) : List (Nat × Value) → Env
  | [] => e
  | (t, a) :: r => setPs (upd e t a) r
theorem setPs_ag (n : Nat) : ∀ (l : List (Nat × Value)) (e : Env), (∀ p ∈ l, p.1 < mark) → ({ tmps := l.foldl (fun t p => t.setIfInBounds p.1 p.2) (ag n [] e).tmps, defers := (ag n [] e).defers } : Act) = ag n [] (setPs e l)
  | [], e, _ => rfl
  | (t, a) :: r, e, h => by
    have h1 := ag_put n [] e (some t) (by simpa [okD, Nat.blt_eq] using h _ List.mem_cons_self) a
    have h2 : (ag n [] e).tmps.setIfInBounds t a = (ag n [] (upd e t a)).tmps := congrArg Act.tmps h1
    have h3 : (ag n [] e).defers = (ag n [] (upd e t a)).defers := (congrArg Act.defers h1 : ((ag n [] e).put (some t) a).defers = _)
    simp only [List.foldl_cons, setPs, h2, h3]
    exact setPs_ag n r (upd e t a) fun p hp => h p (List.mem_cons_of_mem _ hp)

section
variable {P : Program} {Γ : List (Nat × TI)} {n : Nat} {ds : List Deferred} {rd : Option Nat}

/-- a round's end -/
def roundQ (J : World → Prop) (Jx : Exit → World → Prop) (keep : World → Prop) : Exit → Env → World → Prop
  | .normal, _, W => J W ∧ keep W
  | .ret, _, W => Jx .ret W ∧ keep W
  | .exit i, _, W => Jx (.exit i) W ∧ keep W
  | _, _, _ => False

def keepB (lo hi : Nat) (W W' : World) : Prop := ∀ k, lo ≤ k → k < hi → W'.heap[k]? = W.heap[k]?

theorem putObj_chg {S : Nat → Prop} {r : Nat} (W : World) (o : Obj) (h : S r) : Chg S W (W.putObj r o) :=
  ⟨rfl, rfl, rfl, by simp [World.putObj], fun k _ hn => World.putObj_heap_other fun he => hn (he ▸ h)⟩
theorem run_callFunc {g : FuncId} (hc : callable P g = true) (args : Array Value) (w : World) : (callFunc g args).run P w = .ok (.enter g args) w := by
  unfold callable at hc
  split at hc
  · rename_i fn hfn
    rw [Bool.and_eq_true] at hc
    have h1 : (fn.name == "runtime.NumGoroutine") = false := by simpa using hc.1
    have h2 : fn.body.isNone = false := by
      have := hc.2
      cases hb : fn.body <;> simp_all
    have hfn' : ∀ (w : World), (program).run P w = .ok P w := fun w => rfl
    simp only [callFunc, Sem.run_bind, hfn', Result.andThen_ok, hfn, h1, h2]
    simp
  · cases hc

theorem range_core (hG : Agree P Γ) {α : Type} {f : Operand} {ps : Array Tmp} {as body : Code} {Q : Exit → Env → World → Prop} {e e' : Env} {w : World} {g : FuncId} {cap : Array Value} {enc : α → List Value} {xs : List α} {C : World → Prop}
    (l : Nat) (mk : List Deferred) (w1 : FuncId → World) (D : Nat) (sz : Nat)
    (henter : ∀ fn, (Instr.enterLoop fn (ag n ds e).tmps ps as body rd).run P w = .ok (l, mk) (w1 fn))
    (hrec : ∀ fn, (w1 fn).heap[l]? = some (.loop { state := .ready, pending := none, fn := fn, tmps := (ag n ds e).tmps, params := ps, assign := as, body := body, defers := D }))
    (hold : ∀ fn, Kp w (w1 fn)) (hsz : ∀ fn, (w1 fn).heap.size = sz) (hl : w.heap.size ≤ l) (hmk : ({ ag n ds e with defers := mk ++ (ag n ds e).defers } : Act) = ag n ds e')
    (hf : ev e f = .func (.func g) #[] cap) (hg : callable P g = true) (it : IterC P g cap.toList enc xs C) (hps : ∀ x, (enc x).length = ps.size)
    (J : List α → World → Prop) (Jx : Exit → List α → World → Prop)
    (hJ : ∀ pre W W', J pre W → Chg (fun k => w.heap.size ≤ k ∧ k < sz) W W' → J pre W') (hJx : ∀ x pre W W', Jx x pre W → Chg (fun k => w.heap.size ≤ k ∧ k < sz) W W' → Jx x pre W') (hC : ∀ pre W, J pre W → C W) (h0 : J [] w)
    (hbody : ∀ pre x W, J pre W → pre ++ [x] <+: xs → sz ≤ W.heap.size → (∃ r, W.heap[l]? = some (.loop r)) → VCC P Γ n [] (some l) as (fun y e1 W1 => match y with
      | .normal => W1 = W ∧ ∀ W2, W2.heap.size = W.heap.size → Chg (fun k => k = l) W W2 → (∃ r, W2.heap[l]? = some (.loop r)) → VCC P Γ n [] (some l) body (roundQ (J (pre ++ [x])) (fun y => Jx y (pre ++ [x])) (keepB w.heap.size sz W2)) e1 W2
      | _ => False) (setPs (upd e mark undef) (ps.toList.zip (enc x))) W)
    (hdone : ∀ fn W, J xs W → (∀ k, w.heap.size ≤ k → k < sz → k ≠ l → W.heap[k]? = (w1 fn).heap[k]?) → Q .normal e' W)
    (hstop : ∀ fn W x pre, Jx x pre W → (∀ k, w.heap.size ≤ k → k < sz → k ≠ l → W.heap[k]? = (w1 fn).heap[k]?) → (match x with | .ret => Q .ret e' W | .exit i => Q (.exit i) e' W | _ => False)) :
    Piece P n ds rd (.rangeFunc f ps as body) Q e w := by
  intro hok
  simp only [okC, Bool.and_eq_true] at hok
  obtain ⟨⟨⟨⟨o1, o2⟩, o3⟩, o4⟩, o5⟩ := hok
  have o5 := Nat.le_of_ble_eq_true o5
  refine wpIn_rangeFunc ?_
  intro fn _
  obtain ⟨rec, hr⟩ : ∃ rec : LoopState → Option Code → Loop, rec = fun st pe => { state := st, pending := pe, fn := fn, tmps := (ag n ds e).tmps, params := ps, assign := as, body := body, defers := D } := ⟨_, rfl⟩
  have hlw : l < sz := by rw [← hsz fn]; exact (Array.getElem?_eq_some_iff.1 (hrec fn)).1
  have hrec0 : (w1 fn).heap[l]? = some (.loop (rec .ready none)) := by rw [hr]; exact hrec fn
  refine ⟨l, mk, w1 fn, { target := .fn (.func g) cap, args := #[.func (.yield l) #[] #[]] }, w1 fn, g, #[.func (.yield l) #[] #[]] ++ cap, w1 fn, henter fn, ?_, fun _ _ => trivial, ?_, fun h => by simp [fen, Fence.wide] at h, ?_⟩
  · simp only [resolve, rangeCall, ag_eval o1, hf]
    simp [go_sem]
  · simp [invoke, go_sem, run_callFunc hg]
  rw [hmk]
  have hargs : (#[.func (.yield l) #[] #[]] ++ cap : Array Value) = (.func (.yield l) #[] #[] :: cap.toList).toArray := by
    apply Array.toList_inj.1; simp
  rw [hargs]
  have keepT : ∀ {W W' : World}, (∀ k, w.heap.size ≤ k → k < sz → k ≠ l → W.heap[k]? = (w1 fn).heap[k]?) → sz ≤ W.heap.size → Kp W W' → ∀ k, w.heap.size ≤ k → k < sz → k ≠ l → W'.heap[k]? = (w1 fn).heap[k]? := fun h hs hk k h1 h2 h3 => (hk.block k (by omega) id).trans (h k h1 h2 h3)
  have hcall := it.h l (fun pre W => J pre W ∧ W.heap[l]? = some (.loop (rec .ready none)) ∧ sz ≤ W.heap.size ∧ ∀ k, w.heap.size ≤ k → k < sz → k ≠ l → W.heap[k]? = (w1 fn).heap[k]?)
    (fun pre W => ∃ x c, ((x = .ret ∧ c = .ret) ∨ ∃ i, x = .exit i ∧ c = .exit i) ∧ Jx x pre W ∧ W.heap[l]? = some (.loop (rec .done (some c))) ∧ sz ≤ W.heap.size ∧ ∀ k, w.heap.size ≤ k → k < sz → k ≠ l → W.heap[k]? = (w1 fn).heap[k]?)
    (w1 fn) (fun pre W W' ⟨a, b, c, d⟩ hk => ⟨hJ _ _ _ a (hk.mono fun _ hf => hf.elim), (hk.block l (by omega) id).trans b, Nat.le_trans c hk.size, keepT d c hk⟩)
    (fun pre W W' ⟨x, cd, hx, a, b, c, d⟩ hk => ⟨x, cd, hx, hJx _ _ _ _ a (hk.mono fun _ hf => hf.elim), (hk.block l (by omega) id).trans b, Nat.le_trans c hk.size, keepT d c hk⟩)
    (fun pre W h => hC pre W h.1) ?_ ⟨hJ _ _ _ h0 ((hold fn).mono fun _ hf => hf.elim), hrec0, by rw [hsz fn]; exact Nat.le_refl _, fun _ _ _ _ => rfl⟩
  · have hcall' : CallsIn (fen rd) (0 - 1) P g (.func (.yield l) #[] #[] :: cap.toList).toArray (w1 fn) _ := (callsIn_wide (n := 0)).2 hcall
    refine hcall'.mono ?_
    intro en W2 hr2
    cases en with
    | returned v =>
      rcases hr2 with ⟨a, b, c, d⟩ | ⟨pre, x, cd, hx, a, b, c, d⟩
      · have hend := run_endLoop (P := P) b (by rw [hr]; simp)
        rw [hr] at hend
        refine ⟨none, _, hend, e', rfl, hdone fn _ (hJ _ _ _ a (putObj_chg _ _ ⟨hl, hlw⟩)) fun k h1 h2 h3 => ?_⟩
        rw [World.putObj_heap_other h3]; exact d k h1 h2 h3
      · have hend := run_endLoop (P := P) b (by rw [hr]; simp)
        rw [hr] at hend
        refine ⟨some cd, _, hend, ?_⟩
        rcases hx with ⟨rfl, rfl⟩ | ⟨i, rfl, rfl⟩
        · exact wpIn_ret ⟨e', rfl, hstop fn _ .ret pre (hJx _ _ _ _ a (putObj_chg _ _ ⟨hl, hlw⟩)) (fun k h1 h2 h3 => by rw [World.putObj_heap_other h3]; exact d k h1 h2 h3)⟩
        · exact wpIn_exit ⟨e', rfl, hstop fn _ (.exit i) pre (hJx _ _ _ _ a (putObj_chg _ _ ⟨hl, hlw⟩)) (fun k h1 h2 h3 => by rw [World.putObj_heap_other h3]; exact d k h1 h2 h3)⟩
    | _ => exact hr2.elim
  · rintro pre x W ⟨hj, hl2, hs2, hk2⟩ hpre
    have hrun := run_yield (P := P) (args := (enc x).toArray) hl2 (by rw [hr]; simp [hps])
    rw [hr] at hrun
    refine ⟨fn, _, as, body, hrun, roundIn_of_wpIn trivial ?_⟩
    have hag : ({ tmps := (ps.zip (enc x).toArray).foldl (fun tmps (p : Tmp × Value) => tmps.setIfInBounds p.1 p.2) (ag n ds e).tmps, defers := [] } : Act) = ag n [] (setPs (upd e mark undef) (ps.toList.zip (enc x))) := by
      have h1 := setPs_ag n (ps.toList.zip (enc x)) (upd e mark undef) (fun p hp => by
        have h2 := List.all_eq_true.1 o4 p.1 (List.of_mem_zip hp).1
        simpa [Nat.blt_eq] using h2)
      rw [← h1]
      have ht : (ag n [] (upd e mark undef)).tmps = (ag n ds e).tmps := by
        simp only [ag]
        congr 1
        refine List.map_congr_left fun t ht => ?_
        have : t < n := by simpa using ht
        simp only [upd, beqf (show ¬ t = mark by omega), cond_false]
      have hu : upd e mark undef mark = undef := by simp only [upd, show Nat.beq mark mark = true from Nat.beq_refl mark, cond_true]
      have hd : (ag n [] (upd e mark undef)).defers = [] := by show dsOf (upd e mark undef mark) ++ [] = []; rw [hu]; rfl
      rw [ht, hd]
      congr 1
      rw [← Array.foldl_toList, Array.toList_zip]
    rw [hag]
    have hs := VCC_sound (rd := some l) hG as o2 (hbody pre x W hj hpre hs2 ⟨_, hl2⟩)
    refine wpIn_mono (F := fen (some l)) hs ?_
    rintro y a W1 ⟨e1, rfl, hq⟩
    cases y with
    | normal =>
      obtain ⟨rfl, hq⟩ := hq
      refine ⟨_, run_beginRound hl2 (by rw [hr]), ?_⟩
      have hl3 : (W1.putObj l (.loop { rec .ready none with state := .busy })).heap[l]? = some (.loop { rec .ready none with state := .busy }) := World.putObj_heap_same (by omega)
      have hb := VCC_sound (rd := some l) hG body o3 (hq _ (by simp [World.putObj]) (putObj_chg _ _ rfl) ⟨_, hl3⟩)
      refine wpIn_mono (F := fen (some l)) hb ?_
      rintro y a W2 ⟨e2, rfl, hq2⟩
      have fin : ∀ (jump : Option Code), keepB w.heap.size sz (W1.putObj l (.loop { rec .ready none with state := .busy })) W2 →
          (Instr.endRound l jump).run P W2 = .ok (.bool jump.isNone) (W2.putObj l (.loop (rec (if jump.isNone then .ready else .done) jump))) ∧
          (W2.putObj l (.loop (rec (if jump.isNone then .ready else .done) jump))).heap[l]? = some (.loop (rec (if jump.isNone then .ready else .done) jump)) ∧
          sz ≤ (W2.putObj l (.loop (rec (if jump.isNone then .ready else .done) jump))).heap.size ∧
          ∀ k, w.heap.size ≤ k → k < sz → k ≠ l → (W2.putObj l (.loop (rec (if jump.isNone then .ready else .done) jump))).heap[k]? = (w1 fn).heap[k]? := fun jump hk => by
        have hl4 := (hk l hl hlw).trans hl3
        have hend := run_endRound (P := P) jump hl4
        have hlt := (Array.getElem?_eq_some_iff.1 hl4).1
        refine ⟨by rw [hr] at hend ⊢; exact hend, World.putObj_heap_same hlt, ?_, fun k h1 h2 h3 => ?_⟩
        · have : sz ≤ W2.heap.size := by
            rcases Nat.lt_or_ge W2.heap.size sz with h | h
            · exfalso
              have h5 := hk (sz - 1) (by omega) (by omega)
              rw [Array.getElem?_eq_none (by omega), Array.getElem?_eq_getElem (by simp [World.putObj]; omega)] at h5
              cases h5
            · exact h
          simpa [World.putObj] using this
        · rw [World.putObj_heap_other h3, hk k h1 h2, World.putObj_heap_other h3]
          exact hk2 k h1 h2 h3
      cases y with
      | normal =>
        obtain ⟨hj2, hkp⟩ := hq2
        obtain ⟨f1, f2, f3, f4⟩ := fin none hkp
        exact ⟨_, _, f1, .inl ⟨rfl, hJ _ _ _ hj2 (putObj_chg _ _ ⟨hl, hlw⟩), f2, f3, f4⟩⟩
      | ret =>
        obtain ⟨hj2, hkp⟩ := hq2
        obtain ⟨f1, f2, f3, f4⟩ := fin (some .ret) hkp
        exact ⟨_, _, f1, .inr ⟨rfl, .ret, .ret, .inl ⟨rfl, rfl⟩, hJx _ _ _ _ hj2 (putObj_chg _ _ ⟨hl, hlw⟩), f2, f3, f4⟩⟩
      | exit i =>
        obtain ⟨hj2, hkp⟩ := hq2
        obtain ⟨f1, f2, f3, f4⟩ := fin (some (.exit i)) hkp
        exact ⟨_, _, f1, .inr ⟨rfl, .exit i, .exit i, .inr ⟨i, rfl, rfl⟩, hJx _ _ _ _ hj2 (putObj_chg _ _ ⟨hl, hlw⟩), f2, f3, f4⟩⟩
      | _ => exact hq2.elim
    | _ => exact hq.elim

/-- a range over a function, outside of any round -/
theorem rangeF (hG : Agree P Γ) {α : Type} {f : Operand} {ps : Array Tmp} {as body : Code} {Q : Exit → Env → World → Prop} {e : Env} {w : World} {g : FuncId} {cap : Array Value} {enc : α → List Value} {xs : List α} {C : World → Prop}
    (J : List α → World → Prop) (Jx : Exit → List α → World → Prop)
    (hf : ev e f = .func (.func g) #[] cap) (hg : callable P g = true) (it : IterC P g cap.toList enc xs C) (hps : ∀ x, (enc x).length = ps.size)
    (hJ : ∀ pre W W', J pre W → Chg (fun k => w.heap.size ≤ k ∧ k < w.heap.size + 2) W W' → J pre W') (hJx : ∀ x pre W W', Jx x pre W → Chg (fun k => w.heap.size ≤ k ∧ k < w.heap.size + 2) W W' → Jx x pre W') (hC : ∀ pre W, J pre W → C W) (h0 : J [] w)
    (hbody : ∀ l pre x W, l = w.heap.size + 1 → J pre W → pre ++ [x] <+: xs → w.heap.size + 2 ≤ W.heap.size → (∃ r, W.heap[l]? = some (.loop r)) → VCC P Γ n [] (some l) as (fun y e1 W1 => match y with
      | .normal => W1 = W ∧ ∀ W2, W2.heap.size = W.heap.size → Chg (fun k => k = l) W W2 → (∃ r, W2.heap[l]? = some (.loop r)) → VCC P Γ n [] (some l) body (roundQ (J (pre ++ [x])) (fun y => Jx y (pre ++ [x])) (keepB w.heap.size (w.heap.size + 2) W2)) e1 W2
      | _ => False) (setPs (upd e mark undef) (ps.toList.zip (enc x))) W)
    (hdone : ∀ D W, D = w.heap.size → J xs W → W.heap[D]? = some (.deferred (some [])) → Q .normal (upd e mark (pushD D (e mark))) W)
    (hstop : ∀ D W x pre, D = w.heap.size → Jx x pre W → W.heap[D]? = some (.deferred (some [])) → (match x with | .ret => Q .ret (upd e mark (pushD D (e mark))) W | .exit i => Q (.exit i) (upd e mark (pushD D (e mark))) W | _ => False)) :
    Piece P n ds none (.rangeFunc f ps as body) Q e w := by
  intro hok
  have hnm : n ≤ mark := by
    simp only [okC, Bool.and_eq_true] at hok
    exact Nat.le_of_ble_eq_true hok.2
  refine range_core (e' := upd e mark (pushD w.heap.size (e mark))) hG (w.heap.size + 1) [{ target := .collected w.heap.size, args := #[] }]
    (fun fn => (w.alloc (.deferred (some []))).alloc (.loop { state := .ready, pending := none, fn := fn, tmps := (ag n ds e).tmps, params := ps, assign := as, body := body, defers := w.heap.size })) w.heap.size (w.heap.size + 2)
    (fun fn => run_enterLoop_outer _ _ _ _ _) (fun fn => ?_) (fun fn => (Chg.alloc _ _ _).trans (Chg.alloc _ _ _)) (fun fn => by simp) (by omega) ?_ hf hg it hps J Jx hJ hJx hC h0 (fun pre x W a b c d => hbody _ pre x W rfl a b c d)
    (fun fn W a b => hdone _ W rfl a ?_) (fun fn W x pre a b => hstop _ W x pre rfl a ?_) hok
  · have := World.alloc_heap_new (w.alloc (.deferred (some []))) (.loop { state := .ready, pending := none, fn := fn, tmps := (ag n ds e).tmps, params := ps, assign := as, body := body, defers := w.heap.size })
    rwa [World.size_alloc] at this
  · have hu : upd e mark (pushD w.heap.size (e mark)) mark = pushD w.heap.size (e mark) := by simp only [upd, show Nat.beq mark mark = true from Nat.beq_refl mark, cond_true]
    simp only [ag, hu, dsOf, dsN_push, List.map_cons, List.cons_append, List.nil_append]
    congr 2
    refine List.map_congr_left fun t ht => ?_
    have : t < n := by simpa using ht
    simp only [upd, beqf (show ¬ t = mark by omega), cond_false]
  · rw [b w.heap.size (Nat.le_refl _) (by omega) (by omega)]
    exact (Below.heap_alloc _ _ _ (by simp)).trans (World.alloc_heap_new w _)
  · rw [b w.heap.size (Nat.le_refl _) (by omega) (by omega)]
    exact (Below.heap_alloc _ _ _ (by simp)).trans (World.alloc_heap_new w _)

/-- a range over a function within a round -/
theorem rangeG (hG : Agree P Γ) {α : Type} {f : Operand} {ps : Array Tmp} {as body : Code} {Q : Exit → Env → World → Prop} {e : Env} {w : World} {g : FuncId} {cap : Array Value} {enc : α → List Value} {xs : List α} {C : World → Prop} {l0 : Nat}
    (hl0 : ∃ r, w.heap[l0]? = some (.loop r)) (J : List α → World → Prop) (Jx : Exit → List α → World → Prop)
    (hf : ev e f = .func (.func g) #[] cap) (hg : callable P g = true) (it : IterC P g cap.toList enc xs C) (hps : ∀ x, (enc x).length = ps.size)
    (hJ : ∀ pre W W', J pre W → Chg (fun k => w.heap.size ≤ k ∧ k < w.heap.size + 1) W W' → J pre W') (hJx : ∀ x pre W W', Jx x pre W → Chg (fun k => w.heap.size ≤ k ∧ k < w.heap.size + 1) W W' → Jx x pre W') (hC : ∀ pre W, J pre W → C W) (h0 : J [] w)
    (hbody : ∀ l pre x W, l = w.heap.size → J pre W → pre ++ [x] <+: xs → w.heap.size + 1 ≤ W.heap.size → (∃ r, W.heap[l]? = some (.loop r)) → VCC P Γ n [] (some l) as (fun y e1 W1 => match y with
      | .normal => W1 = W ∧ ∀ W2, W2.heap.size = W.heap.size → Chg (fun k => k = l) W W2 → (∃ r, W2.heap[l]? = some (.loop r)) → VCC P Γ n [] (some l) body (roundQ (J (pre ++ [x])) (fun y => Jx y (pre ++ [x])) (keepB w.heap.size (w.heap.size + 1) W2)) e1 W2
      | _ => False) (setPs (upd e mark undef) (ps.toList.zip (enc x))) W)
    (hdone : ∀ W, J xs W → Q .normal e W)
    (hstop : ∀ W x pre, Jx x pre W → (match x with | .ret => Q .ret e W | .exit i => Q (.exit i) e W | _ => False)) :
    Piece P n ds (some l0) (.rangeFunc f ps as body) Q e w := by
  obtain ⟨r0, hr0⟩ := hl0
  refine range_core (e' := e) hG w.heap.size []
    (fun fn => w.alloc (.loop { state := .ready, pending := none, fn := fn, tmps := (ag n ds e).tmps, params := ps, assign := as, body := body, defers := r0.defers })) r0.defers (w.heap.size + 1)
    (fun fn => run_enterLoop_inner hr0 _ _ _ _ _) (fun fn => World.alloc_heap_new _ _) (fun fn => Chg.alloc _ _ _) (fun fn => by simp) (Nat.le_refl _) (by simp) hf hg it hps J Jx hJ hJx hC h0 (fun pre x W a b c d => hbody _ pre x W rfl a b c d)
    (fun fn W a b => hdone W a) (fun fn W x pre a b => hstop W x pre a)
end
end Go.Au
