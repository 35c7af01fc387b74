/- Own text of this workplace: a part of the proofs of this place's statements. -/
import Derived.Test.YtjibhchnhkjgkaaA3
set_option linter.unusedVariables false
set_option linter.unusedSimpArgs false
set_option linter.unusedSectionVars false
namespace Go.Au
open Go Go.RowKit

/-! ### the masks -/
theorem maskOf_bit {ms : List Nat} {j : Nat} : ∀ {es : List Edge}, (maskOf ms es).testBit j = true → ∃ e ∈ es, Region.binds .any e = true ∧ (j = e.on ∨ ((ms[e.on]?).getD 0).testBit j = true)
  | [], h => by simp [maskOf] at h
  | e :: r, h => by
    simp only [maskOf] at h
    cases hb : Region.binds .any e with
    | false =>
      rw [hb] at h
      obtain ⟨e', he, h'⟩ := maskOf_bit h
      exact ⟨e', List.mem_cons_of_mem _ he, h'⟩
    | true =>
      rw [hb] at h
      simp only [cond_true] at h
      change (((2 ^ e.on ||| (ms[e.on]?).getD 0) ||| maskOf ms r).testBit j) = true at h
      rw [Nat.testBit_or, Nat.testBit_or, Nat.testBit_two_pow, Bool.or_eq_true, Bool.or_eq_true] at h
      rcases h with (h | h) | h
      · exact ⟨e, List.mem_cons_self, hb, .inl (by simpa using (of_decide_eq_true h).symm)⟩
      · exact ⟨e, List.mem_cons_self, hb, .inr h⟩
      · obtain ⟨e', he, h'⟩ := maskOf_bit h
        exact ⟨e', List.mem_cons_of_mem _ he, h'⟩

theorem masksFrom_pre : ∀ (l : List Oper) (ms : List Nat) (i : Nat), i < ms.length → (masksFrom ms l)[i]? = ms[i]?
  | [], ms, i, h => rfl
  | o :: r, ms, i, h => by
    simp only [masksFrom]
    rw [masksFrom_pre r _ i (by simp; omega), List.getElem?_append_left h]

theorem masksFrom_get : ∀ (l : List Oper) (ms : List Nat) (i : Nat) (o : Oper), l[i]? = some o → ∃ ms', (masksFrom ms l)[ms.length + i]? = some (maskOf ms' o.after.toList) ∧ ∀ k, k < ms.length + i → ms'[k]? = (masksFrom ms l)[k]?
  | [], ms, i, o, h => by simp at h
  | p :: r, ms, 0, o, h => by
    simp at h
    subst h
    refine ⟨ms, ?_, fun k hk => ?_⟩
    · simp only [masksFrom]
      rw [masksFrom_pre r _ _ (by simp)]
      simp
    · simp only [masksFrom]
      rw [masksFrom_pre r _ k (by simp; omega), List.getElem?_append_left (by simpa using hk)]
  | p :: r, ms, i + 1, o, h => by
    obtain ⟨ms', h1, h2⟩ := masksFrom_get r (ms ++ [maskOf ms p.after.toList]) i o (by simpa using h)
    simp only [List.length_append, List.length_singleton] at h1 h2
    refine ⟨ms', ?_, fun k hk => ?_⟩
    · simp only [masksFrom]; rw [← h1]; congr 1; omega
    · simp only [masksFrom]; exact h2 k (by omega)

theorem mask_bit {ops : List Oper} {i j : Nat} {o : Oper} (ho : ops[i]? = some o) (hlt : ∀ e ∈ o.after.toList, Region.binds .any e = true → e.on < i) (h : (((masks ops)[i]?).getD 0).testBit j = true) :
    ∃ e ∈ o.after.toList, Region.binds .any e = true ∧ (j = e.on ∨ (((masks ops)[e.on]?).getD 0).testBit j = true) := by
  obtain ⟨ms', h1, h2⟩ := masksFrom_get ops [] i o ho
  simp only [List.length_nil, Nat.zero_add] at h1 h2
  unfold masks at h ⊢
  rw [h1] at h
  obtain ⟨e, he, hb, hj⟩ := maskOf_bit h
  refine ⟨e, he, hb, ?_⟩
  rw [h2 e.on (hlt e he hb)] at hj
  exact hj

/-! ### what is asked of a region -/
def okOrd (ops : List Oper) (ms : List Nat) (full : List (Nat × Oper)) : List (Nat × Oper) → List (Nat × Oper) → Bool
  | [], _ => true
  | (i, o) :: r, seen =>
    (seen.all fun p => !(Nat.beq p.1 i) && (match p.2.dst, o.dst with | some a, some b => !(Nat.beq a b) | _, _ => true)) &&
    ((looks ops o).all fun s => full.all fun p => (match p.2.dst with | some a => !(Nat.beq a s) | none => true) || (((ms[i]?).getD 0).testBit p.1 && seen.any fun q => Nat.beq q.1 p.1)) &&
    (isPure o.op || loudSem o.op || (seen.all fun p => ((ms[i]?).getD 0).testBit p.1)) && !(isSel o.op) && okOrd ops ms full r (seen ++ [(i, o)])

def nodes (ops : List Oper) (ord : List Nat) : List (Nat × Oper) := ord.map fun i => (i, (ops[i]?).getD default)

def edgesOk : List Oper → Nat → Bool
  | [], _ => true
  | o :: r, i => (o.after.toList.all fun e => !(Region.binds .any e) || Nat.blt e.on i) && edgesOk r (i + 1)

def tailOk (ms : List Nat) (i : Nat) : Nat → Bool
  | 0 => true
  | k + 1 => ((List.range i).all fun j => ((ms[i]?).getD 0).testBit j) && tailOk ms (i + 1) k

def regOk (ops : List Oper) (m : Nat) (ord : List Nat) : Bool :=
  Nat.ble m ops.length && Nat.beq ord.length m && (ord.all fun i => Nat.blt i m) && ((List.range m).all fun i => ord.contains i) && edgesOk ops 0 && tailOk (masks ops) m (ops.length - m) && okOrd ops (masks ops) (nodes ops ord) (nodes ops ord) []

theorem edgesOk_spec : ∀ {l : List Oper} {k : Nat}, edgesOk l k = true → ∀ {i : Nat} {o : Oper}, l[i]? = some o → ∀ e ∈ o.after.toList, Region.binds .any e = true → e.on < k + i
  | [], k, _, i, o, ho, e, he, hb => by simp at ho
  | p :: r, k, h, 0, o, ho, e, he, hb => by
    simp at ho
    subst ho
    simp only [edgesOk, Bool.and_eq_true, List.all_eq_true] at h
    have := h.1 e he
    rw [hb] at this
    simpa [Nat.blt_eq] using this
  | p :: r, k, h, i + 1, o, ho, e, he, hb => by
    simp only [edgesOk, Bool.and_eq_true] at h
    have := edgesOk_spec h.2 (i := i) (by simpa using ho) e he hb
    omega

theorem tailOk_spec {ms : List Nat} : ∀ {k i : Nat}, tailOk ms i k = true → ∀ t, i ≤ t → t < i + k → ∀ j, j < t → ((ms[t]?).getD 0).testBit j = true
  | 0, i, _, t, h1, h2, _, _ => by omega
  | k + 1, i, h, t, h1, h2, j, hj => by
    simp only [tailOk, Bool.and_eq_true, List.all_eq_true, List.mem_range] at h
    rcases Nat.eq_or_lt_of_le h1 with rfl | h1
    · exact h.1 j hj
    · exact tailOk_spec h.2 t h1 (by omega) j hj


theorem okOrd_spec {ops : List Oper} {ms : List Nat} {full : List (Nat × Oper)} : ∀ {r seen : List (Nat × Oper)}, okOrd ops ms full r seen = true → ∀ {A B : List (Nat × Oper)} {i : Nat} {o : Oper}, r = A ++ (i, o) :: B →
    (∀ p ∈ seen ++ A, p.1 ≠ i ∧ ∀ s, p.2.dst = some s → o.dst ≠ some s) ∧
    (∀ s ∈ looks ops o, ∀ p ∈ full, p.2.dst = some s → ((ms[i]?).getD 0).testBit p.1 = true ∧ ∃ q ∈ seen ++ A, q.1 = p.1) ∧
    (isPure o.op = true ∨ loudSem o.op = true ∨ ∀ p ∈ seen ++ A, ((ms[i]?).getD 0).testBit p.1 = true) ∧ isSel o.op = false
  | [], seen, _, A, B, i, o, h => by cases A <;> simp at h
  | (i0, o0) :: r, seen, h, [], B, i, o, hr => by
    simp only [List.nil_append, List.cons.injEq, Prod.mk.injEq] at hr
    obtain ⟨⟨rfl, rfl⟩, rfl⟩ := hr
    simp only [okOrd, Bool.and_eq_true, List.all_eq_true, Bool.or_eq_true, List.any_eq_true, Bool.not_eq_true'] at h
    obtain ⟨⟨⟨⟨h1, h2⟩, h3⟩, h4⟩, _⟩ := h
    rw [List.append_nil]
    refine ⟨fun p hp => ?_, fun s hs p hp hd => ?_, ?_, by simpa using h4⟩
    · obtain ⟨ha, hb⟩ := h1 p hp
      refine ⟨fun hc => (by rw [hc, show Nat.beq i0 i0 = true from Nat.beq_refl i0] at ha; cases ha), fun s hs hd => ?_⟩
      rw [hs, hd] at hb
      simp only [show Nat.beq s s = true from Nat.beq_refl s] at hb
      cases hb
    · rcases h2 s hs p hp with ha | ⟨ha, q, hq, hb⟩
      · rw [hd] at ha
        simp only [show Nat.beq s s = true from Nat.beq_refl s] at ha
        cases ha
      · exact ⟨ha, q, hq, Nat.eq_of_beq_eq_true hb⟩
    · rcases h3 with (h3 | h3) | h3
      · exact .inl h3
      · exact .inr (.inl h3)
      · exact .inr (.inr h3)
  | (i0, o0) :: r, seen, h, a :: A, B, i, o, hr => by
    simp only [List.cons_append, List.cons.injEq] at hr
    obtain ⟨rfl, hr⟩ := hr
    simp only [okOrd, Bool.and_eq_true] at h
    have := okOrd_spec h.2 hr
    simpa using this

section
variable {P : Program} {Γ : List (Nat × TI)} {n : Nat} {ds : List Deferred}

/-- among these the ways to an operation are closed -/
def Closed (ops : List Oper) (X : Nat → Prop) : Prop := ∀ i, X i → ∀ j, (((masks ops)[i]?).getD 0).testBit j = true → X j

theorem mask_lt {ops : List Oper} (he : edgesOk ops 0 = true) : ∀ i, i < ops.length → ∀ j, (((masks ops)[i]?).getD 0).testBit j = true → j < i := by
  intro i
  induction i using Nat.strongRecOn with
  | _ i ih =>
    intro hi j hj
    have ho : ops[i]? = some ops[i] := List.getElem?_eq_getElem hi
    obtain ⟨e, hm, hb, h⟩ := mask_bit ho (fun e hm hb => by have := edgesOk_spec he ho e hm hb; omega) hj
    have hlt := edgesOk_spec he ho e hm hb
    rcases h with rfl | h
    · omega
    · have := ih e.on (by omega) (by omega) j h
      omega

theorem ready_spec {ops : Array Oper} {listed : Array Bool} {i : Nat} (h : i ∈ Region.ready .any ops listed) :
    i < ops.size ∧ listed.getD i true = false ∧ ∀ o, ops[i]? = some o → ∀ e ∈ o.after.toList, Region.binds .any e = true → listed.getD e.on false = true := by
  unfold Region.ready at h
  simp only [List.mem_filter, List.mem_range, Bool.and_eq_true, Bool.not_eq_true'] at h
  obtain ⟨h1, h2, h3⟩ := h
  refine ⟨h1, h2, fun o ho e he hb => ?_⟩
  rw [ho] at h3
  simp only [Option.map_some, Option.getD_some, Array.all_eq_true_iff_forall_mem] at h3
  have := h3 e (by simpa using he)
  rw [hb] at this
  simpa using this

theorem mem_ready {ops : Array Oper} {listed : Array Bool} {i : Nat} (h1 : i < ops.size) (h2 : listed.getD i true = false) (h3 : ∀ o, ops[i]? = some o → ∀ e ∈ o.after.toList, Region.binds .any e = true → listed.getD e.on false = true) :
    i ∈ Region.ready .any ops listed := by
  unfold Region.ready
  simp only [List.mem_filter, List.mem_range, Bool.and_eq_true, Bool.not_eq_true']
  refine ⟨h1, h2, ?_⟩
  have ho : ops[i]? = some ops[i] := Array.getElem?_eq_getElem h1
  rw [ho]
  simp only [Option.map_some, Option.getD_some, Array.all_eq_true_iff_forall_mem]
  intro e he
  have := h3 _ ho e (by simpa using he)
  cases hb : Region.binds .any e with
  | false => rfl
  | true => simpa using this hb

theorem closed_ready {ops : Array Oper} {listed : Array Bool} (he : edgesOk ops.toList 0 = true) (hc : Closed ops.toList fun i => listed.getD i false = true) {i : Nat} (h : i ∈ Region.ready .any ops listed) :
    ∀ j, (((masks ops.toList)[i]?).getD 0).testBit j = true → listed.getD j false = true := by
  obtain ⟨h1, _, h3⟩ := ready_spec h
  have ho : ops.toList[i]? = some ops[i] := by simp [h1]
  intro j hj
  obtain ⟨e, hm, hb, hj⟩ := mask_bit ho (fun e hm hb => by have := edgesOk_spec he ho e hm hb; omega) hj
  have hl := h3 ops[i] (by simp [h1]) e hm hb
  rcases hj with rfl | hj
  · exact hl
  · exact hc _ hl _ hj

variable {rd : Option Nat}

/-- one operation, as the model asks for it -/
theorem wpOp_of (hG : Agree P Γ) {ops : Array Oper} (hok : okOps n ops.toList = true) {Q : Exit → Act → World → Prop} {K : Act → World → Prop} {i : Nat} {o : Oper} (ho : ops[i]? = some o) {e : Env} {w : World}
    {run : Value → World → Prop} {skip : Prop} (hsel : isSel o.op = false) (h : grd ops.toList e o (Does P (ev e) o w run) skip) (h1 : ∀ v w', run v w' → K (ag n ds (putE e o.dst v)) w') (h2 : skip → K (ag n ds (putE e o.dst undef)) w) :
    wpOpIn (fen rd) 0 P ops Q i K (ag n ds e) w := by
  have hm : o ∈ ops.toList := by simpa using Array.mem_of_getElem? ho
  obtain ⟨hk, hj⟩ := okOps_guard hok hm
  unfold wpOpIn
  simp only [ho]
  have hops : ops.toList.toArray = ops := by simp
  rcases grd_spec (n := n) (ds := ds) h hj with ⟨hw, hr⟩ | ⟨hw, hr⟩
  · rw [hops] at hw
    rw [if_pos hw]
    refine (hr.toAg (ds := ds) hk hsel).upon (okO_def hk) ?_
    intro v w' hv
    rw [ag_put _ _ _ _ (okO_dst hk)]
    exact h1 v w' hv
  · rw [hops] at hw
    rw [if_neg (by simp [hw]), ag_put _ _ _ _ (okO_dst hk)]
    exact ⟨fun _ _ => trivial, h2 hr⟩

theorem sel_of {ops : Array Oper} (hok : okOps n ops.toList = true) {i : Nat} {o : Oper} (ho : ops[i]? = some o) : isSel o.op = false := by
  have hm : o ∈ ops.toList := by simpa using Array.mem_of_getElem? ho
  have := (okOps_guard hok hm).1
  simp only [okO, Bool.and_eq_true, Bool.not_eq_true'] at this
  exact this.1.1.2

theorem phaseB (hG : Agree P Γ) {ops : Array Oper} (hok : okOps n ops.toList = true) (he : edgesOk ops.toList 0 = true) {m : Nat} (ht : tailOk (masks ops.toList) m (ops.toList.length - m) = true) {K : Exit → Env → World → Prop} :
    ∀ (k t : Nat) (listed : Array Bool) (E : Env) (W : World), t + k = ops.size → m ≤ t → listed.size = ops.size → (∀ i, i < ops.size → listed.getD i true = decide (i < t)) →
      VCl P Γ ops.toList (K .normal) (ops.toList.drop t) E W → wpAnyIn (fen rd) 0 P .any ops (lift n ds K) k listed (ag n ds E) W := by
  intro k
  induction k with
  | zero =>
    intro t listed E W htk hmt hsz hl h
    have hn : ops.toList.drop t = [] := List.drop_eq_nil_of_le (by simp; omega)
    rw [hn] at h
    refine ⟨?_, ⟨E, rfl, h⟩⟩
    refine List.eq_nil_iff_forall_not_mem.2 fun i hi => ?_
    obtain ⟨h1, h2, _⟩ := ready_spec hi
    rw [hl i h1] at h2
    simp at h2
    omega
  | succ k ih =>
    intro t listed E W htk hmt hsz hl h
    have htl : t < ops.size := by omega
    have hd : ops.toList.drop t = ops[t] :: ops.toList.drop (t + 1) := by
      rw [List.drop_eq_getElem_cons (by simpa using htl)]; simp
    have ho : ops[t]? = some ops[t] := Array.getElem?_eq_getElem htl
    have hoL : ops.toList[t]? = some ops[t] := by simp [htl]
    have hf : ∀ j, j < ops.size → listed.getD j false = decide (j < t) := fun j hj => by
      have := hl j hj
      rw [Array.getD_eq_getD_getElem?, Array.getElem?_eq_getElem (by omega)] at this ⊢
      exact this
    have hready : t ∈ Region.ready .any ops listed := mem_ready htl (by rw [hl t htl]; simp) fun o ho' e hm hb => by
      rw [ho] at ho'
      cases ho'
      have := edgesOk_spec he hoL e hm hb
      rw [hf e.on (by omega)]
      simp; omega
    have hc : Closed ops.toList fun i => listed.getD i false = true := by
      intro i hi j hj
      have hil : i < ops.size := by
        rcases Nat.lt_or_ge i ops.size with h' | h'
        · exact h'
        · rw [Array.getD_eq_getD_getElem?, Array.getElem?_eq_none (by omega)] at hi
          cases hi
      have := mask_lt he i (by simpa using hil) j hj
      rw [hf i hil] at hi
      rw [hf j (by omega)]
      simp at hi ⊢
      omega
    refine ⟨fun hn => by rw [hn] at hready; simp at hready, fun i hi => ?_⟩
    have hit : i = t := by
      obtain ⟨h1, h2, _⟩ := ready_spec hi
      rw [hl i h1] at h2
      have hge : t ≤ i := by simpa using h2
      rcases Nat.eq_or_lt_of_le hge with h' | h'
      · exact h'.symm
      · have := closed_ready he hc hi t (tailOk_spec ht i (by omega) (by simp; omega) t h')
        rw [hf t htl] at this
        simp at this
    subst hit
    rw [hd, VCl_cons] at h
    have hsel : isSel (ops[i]).op = false := sel_of hok ho
    refine wpOp_of hG hok ho hsel (grd_mono h (fun h => op1_does hG h) id) ?_ ?_
    · intro v w' hv
      exact ih (i + 1) _ _ _ (by omega) (by omega) (by simpa using hsz) (fun j hj => by
        rw [Array.getD_eq_getD_getElem?, Array.getElem?_setIfInBounds]
        have := hl j hj
        rw [Array.getD_eq_getD_getElem?] at this
        split
        · rename_i h'; subst h'; simp [htl, hsz]
        · rw [this]; simp; omega) hv
    · intro hv
      exact ih (i + 1) _ _ _ (by omega) (by omega) (by simpa using hsz) (fun j hj => by
        rw [Array.getD_eq_getD_getElem?, Array.getElem?_setIfInBounds]
        have := hl j hj
        rw [Array.getD_eq_getD_getElem?] at this
        split
        · rename_i h'; subst h'; simp [htl, hsz]
        · rw [this]; simp; omega) hv

theorem okOrd_pair {ops : List Oper} {ms : List Nat} {full : List (Nat × Oper)} : ∀ {r seen : List (Nat × Oper)}, okOrd ops ms full r seen = true → r.Pairwise fun a b => a.1 ≠ b.1 ∧ ∀ s, a.2.dst = some s → b.2.dst ≠ some s
  | [], _, _ => List.Pairwise.nil
  | (i, o) :: r, seen, h => by
    have h2 := h
    simp only [okOrd, Bool.and_eq_true] at h
    refine List.pairwise_cons.2 ⟨fun b hb => ?_, okOrd_pair h.2⟩
    obtain ⟨A, B, rfl⟩ := List.append_of_mem hb
    obtain ⟨j, p⟩ := b
    have := (okOrd_spec h2 (A := (i, o) :: A) (B := B) rfl).1 (i, o) (by simp)
    exact this

/-- where the walk through a drawn region stands -/
structure At (P : Program) (Γ : List (Nat × TI)) (S : World → World → Prop) (U : World → Prop) (x0 : Nat) (w0 : World) (ops : Array Oper) (m : Nat) (ord : List Nat) (Q : Env → List (Nat × DP) → Prop) (e0 : Env)
    (nds : List Nd) (listed : Array Bool) (W : World) : Prop where
  nd : nds.map (fun n => (n.1, n.2.1)) = nodes ops.toList ord
  vc : VCs P Γ S U x0 w0 ops.toList (masks ops.toList) Q nds [] e0
  chg : S w0 W
  done : ∀ n ∈ nds, (n.2.2.isSome = true ↔ listed.getD n.1 false = true)
  held : ∀ n ∈ nds, ∀ v D, n.2.2 = some (v, some D) → D W ∧ ∀ W W', D W → S W W' → D W'
  size : listed.size = ops.size
  tail : ∀ i, m ≤ i → listed.getD i false = false
  closed : Closed ops.toList fun i => listed.getD i false = true
  unx : listed.getD x0 false = false → U W

theorem At.next {ops : Array Oper} {m : Nat} {ord : List Nat} {Q : Env → List (Nat × DP) → Prop} {e0 : Env} {A B : List Nd} {i : Nat} {o : Oper} {listed : Array Bool} {W W' : World} {S : World → World → Prop} {U : World → Prop} {x0 : Nat} {w0 : World}
    (hS : Pre S) (h : At P Γ S U x0 w0 ops m ord Q e0 (A ++ (i, o, none) :: B) listed W) {v : Value} {od : Option DP} (hi : i < m) (hio : i < ops.size) (hc : S W W') (hux : Nat.beq i x0 = false → U W → U W')
    (hu : ∀ n ∈ A ++ B, n.1 ≠ i) (hr : ∀ j, (((masks ops.toList)[i]?).getD 0).testBit j = true → listed.getD j false = true)
    (hv : VCs P Γ S U x0 w0 ops.toList (masks ops.toList) Q (A ++ (i, o, some (v, od)) :: B) [] e0) (hd : ∀ D, od = some D → D W' ∧ ∀ W W', D W → S W W' → D W') :
    At P Γ S U x0 w0 ops m ord Q e0 (A ++ (i, o, some (v, od)) :: B) (listed.setIfInBounds i true) W' := by
  have hl : ∀ j, (listed.setIfInBounds i true).getD j false = if j = i then true else listed.getD j false := by
    intro j
    rw [Array.getD_eq_getD_getElem?, Array.getElem?_setIfInBounds, Array.getD_eq_getD_getElem?]
    by_cases hj : j = i
    · subst hj; simp [h.size, hio]
    · rw [if_neg (Ne.symm hj), if_neg hj]
  refine ⟨?_, hv, hS.trans h.chg hc, ?_, ?_, by simpa using h.size, ?_, ?_, ?_⟩
  · have := h.nd; simpa using this
  · intro n hn
    rw [hl]
    rcases List.mem_append.1 hn with hn | hn
    · rw [if_neg (hu n (List.mem_append_left _ hn))]
      exact h.done n (List.mem_append_left _ hn)
    · rcases List.mem_cons.1 hn with rfl | hn
      · simp
      · rw [if_neg (hu n (List.mem_append_right _ hn))]
        exact h.done n (List.mem_append_right _ (List.mem_cons_of_mem _ hn))
  · intro n hn v' D hD
    rcases List.mem_append.1 hn with hn | hn
    · obtain ⟨h1, h2⟩ := h.held n (List.mem_append_left _ hn) v' D hD
      exact ⟨h2 _ _ h1 hc, h2⟩
    · rcases List.mem_cons.1 hn with rfl | hn
      · simp only [Option.some.injEq, Prod.mk.injEq] at hD
        exact hd D hD.2
      · obtain ⟨h1, h2⟩ := h.held n (List.mem_append_right _ (List.mem_cons_of_mem _ hn)) v' D hD
        exact ⟨h2 _ _ h1 hc, h2⟩
  · intro j hj
    rw [hl, if_neg (by omega)]
    exact h.tail j hj
  · intro j hj k hk
    rw [hl] at hj ⊢
    by_cases hki : k = i
    · rw [if_pos hki]
    · rw [if_neg hki]
      by_cases hji : j = i
      · subst hji; exact hr k hk
      · rw [if_neg hji] at hj; exact h.closed j hj k hk
  · intro hx
    rw [hl] at hx
    split at hx
    · cases hx
    · rename_i hne
      exact hux (beqf (Ne.symm hne)) (h.unx hx)

theorem Once_of {ops : List Oper} {ms : List Nat} {full : List (Nat × Oper)} {r : List (Nat × Oper)} (h : okOrd ops ms full r [] = true) {nds : List Nd} (hn : nds.map (fun n => (n.1, n.2.1)) = r) : Once nds := by
  subst hn
  have := okOrd_pair h
  rw [List.pairwise_map] at this
  exact this.imp fun h s hs => h.2 s hs

theorem cnt_set {listed : Array Bool} {i : Nat} (hi : i < listed.size) (h : listed.getD i true = false) : (listed.setIfInBounds i true).toList.count false + 1 = listed.toList.count false := by
  rw [Array.getD_eq_getD_getElem?, Array.getElem?_eq_getElem hi] at h
  simp only [Option.getD_some] at h
  rw [Array.toList_setIfInBounds, List.count_set (by simpa using hi)]
  have hp : 0 < listed.toList.count false := List.count_pos_iff.2 (by rw [← h]; simp)
  have h' : listed.toList[i]'(by simpa using hi) = false := by simpa using h
  rw [h']
  simp only [beq_self_eq_true, if_true, show (true == false) = false from rfl, Bool.false_eq_true, if_false]
  omega

theorem ready_ne {ops : Array Oper} {listed : Array Bool} (he : edgesOk ops.toList 0 = true) (hs : listed.size = ops.size) (hc : 0 < listed.toList.count false) : Region.ready .any ops listed ≠ [] := by
  have hm : false ∈ listed.toList := List.count_pos_iff.1 hc
  obtain ⟨i0, hi0, h0⟩ := List.getElem_of_mem hm
  have hex : ∀ i, i < ops.size → listed.getD i true = false → ∃ t, t ∈ Region.ready .any ops listed := by
    intro i
    induction i using Nat.strongRecOn with
    | _ i ih =>
      intro hi h
      by_cases hall : ∀ o, ops[i]? = some o → ∀ e ∈ o.after.toList, Region.binds .any e = true → listed.getD e.on false = true
      · exact ⟨i, mem_ready hi h hall⟩
      · have ho : ops.toList[i]? = some ops[i] := by simp [hi]
        simp only [Array.getElem?_eq_getElem hi, Option.some.injEq] at hall
        obtain ⟨o, hall⟩ := Classical.not_forall.1 hall
        obtain ⟨rfl, hall⟩ := Classical.not_imp.1 hall
        obtain ⟨e, hall⟩ := Classical.not_forall.1 hall
        obtain ⟨hm, hall⟩ := Classical.not_imp.1 hall
        obtain ⟨hb, hall⟩ := Classical.not_imp.1 hall
        have hlt := edgesOk_spec he ho e hm hb
        refine ih e.on (by omega) (by omega) ?_
        rw [Array.getD_eq_getD_getElem?, Array.getElem?_eq_getElem (by omega)] at hall ⊢
        simpa using hall
  obtain ⟨t, ht⟩ := hex i0 (by rw [← hs]; simpa using hi0) (by
    rw [Array.getD_eq_getD_getElem?, Array.getElem?_eq_getElem (by simpa using hi0)]
    simpa using h0)
  intro hn
  rw [hn] at ht
  simp at ht

theorem phaseA (hG : Agree P Γ) {S : World → World → Prop} {U : World → Prop} {x0 : Nat} {w0 : World} (hS : Pre S) {ops : Array Oper} (hok : okOps n ops.toList = true) {m : Nat} {ord : List Nat} (hreg : regOk ops.toList m ord = true) {K : Exit → Env → World → Prop}
    {Q : Env → List (Nat × DP) → Prop} (hQ : ∀ E Ds, Q E Ds → ∀ W, S w0 W → (∀ j, getDs Ds j W) → VCl P Γ ops.toList (K .normal) (ops.toList.drop m) E W) {e0 : Env} :
    ∀ (k : Nat) (nds : List Nd) (listed : Array Bool) (W : World), At P Γ S U x0 w0 ops m ord Q e0 nds listed W → listed.toList.count false = k →
      wpAnyIn (fen rd) 0 P .any ops (lift n ds K) k listed (ag n ds (slotd nds e0)) W := by
  simp only [regOk, Bool.and_eq_true] at hreg
  obtain ⟨⟨⟨⟨⟨⟨hm, hlen⟩, hlt⟩, hall⟩, he⟩, ht⟩, hord⟩ := hreg
  have hm : m ≤ ops.size := by simpa [Nat.ble_eq] using hm
  have hlt : ∀ i ∈ ord, i < m := by simpa [Nat.blt_eq] using hlt
  have hall : ∀ i, i < m → i ∈ ord := by simpa using hall
  -- all is done: where it stands
  have fin : ∀ (nds : List Nd) (listed : Array Bool) (W : World), At P Γ S U x0 w0 ops m ord Q e0 nds listed W → (∀ j, j < m → listed.getD j false = true) →
      VCl P Γ ops.toList (K .normal) (ops.toList.drop m) (slotd nds e0) W := by
    intro nds listed W h hd
    obtain ⟨E, Es, hq, hE, hD⟩ := all_done nds [] e0 h.vc (Once_of hord h.nd) (fun n hn => (h.done n hn).2 (hd n.1 (by
      have : (n.1, n.2.1) ∈ nodes ops.toList ord := by rw [← h.nd]; exact List.mem_map.2 ⟨n, hn, rfl⟩
      unfold nodes at this
      obtain ⟨i, hi, heq⟩ := List.mem_map.1 this
      simp only [Prod.mk.injEq] at heq
      rw [← heq.1]
      exact hlt i hi))) (fun j => trivial) (fun n hn v D hv => (h.held n hn v D hv).1)
    have : E = slotd nds e0 := funext hE
    subst this
    exact hQ _ _ hq W h.chg hD
  intro k
  induction k with
  | zero =>
    intro nds listed W h hk
    have hno : ∀ j, j < ops.size → listed.getD j false = true := by
      intro j hj
      rw [List.count_eq_zero] at hk
      rw [Array.getD_eq_getD_getElem?, Array.getElem?_eq_getElem (by rw [h.size]; exact hj)]
      simp only [Option.getD_some]
      cases hb : listed[j]'(by rw [h.size]; exact hj) with
      | true => rfl
      | false => exact (hk (by rw [← hb]; simp)).elim
    have hmz : m = ops.size := by
      rcases Nat.lt_or_ge m ops.size with hl | hl
      · have := hno m hl
        rw [h.tail m (Nat.le_refl _)] at this
        cases this
      · omega
    refine ⟨List.eq_nil_iff_forall_not_mem.2 fun i hi => ?_, _, rfl, ?_⟩
    · obtain ⟨h1, h2, _⟩ := ready_spec hi
      have := hno i h1
      rw [Array.getD_eq_getD_getElem?, Array.getElem?_eq_getElem (by rw [h.size]; exact h1)] at this h2
      simp only [Option.getD_some] at this h2
      rw [h2] at this
      cases this
    · have := fin nds listed W h fun j hj => hno j (by omega)
      rw [List.drop_eq_nil_of_le (by simp; omega)] at this
      exact this
  | succ k ih =>
    intro nds listed W h hk
    refine ⟨fun hn => absurd hn (ready_ne he h.size (by omega)), fun i hi => ?_⟩
    obtain ⟨h1, h2, _⟩ := ready_spec hi
    have hcl := closed_ready he h.closed hi
    have hsz : i < listed.size := by rw [h.size]; exact h1
    have h2f : listed.getD i false = false := by
      rw [Array.getD_eq_getD_getElem?, Array.getElem?_eq_getElem hsz] at h2 ⊢
      exact h2
    have hcnt : (listed.setIfInBounds i true).toList.count false = k := by have := cnt_set hsz h2; omega
    have ho : ops[i]? = some ops[i] := Array.getElem?_eq_getElem h1
    have hux : pxOf (masks ops.toList) x0 i = true → U W := fun hp => h.unx (by
      unfold pxOf at hp
      rw [Bool.or_eq_true] at hp
      rcases hp with hp | hp
      · rw [← Nat.eq_of_beq_eq_true hp]; exact h2f
      · cases hb : listed.getD x0 false with
        | false => rfl
        | true => have := h.closed x0 hb i hp; exact absurd (h2f.symm.trans this) (by simp))
    by_cases him : i < m
    · -- among those in any order
      have hio : (i, ops[i]) ∈ nodes ops.toList ord := List.mem_map.2 ⟨i, hall i him, by simp [ho]⟩
      rw [← h.nd] at hio
      obtain ⟨nd, hnd, heq⟩ := List.mem_map.1 hio
      obtain ⟨i', o', d⟩ := nd
      simp only [Prod.mk.injEq] at heq
      obtain ⟨rfl, rfl⟩ := heq
      have hd : d = none := by
        cases d with
        | none => rfl
        | some d => have := (h.done _ hnd).1 rfl; simp only at this; rw [h2f] at this; cases this
      subst hd
      obtain ⟨A, B, rfl⟩ := List.append_of_mem hnd
      have hnd' := h.nd
      rw [List.map_append, List.map_cons] at hnd'
      obtain ⟨s1, s2, s3, s4⟩ := okOrd_spec hord hnd'.symm
      simp only [List.nil_append] at s1 s2 s3
      have honce := Once_of hord h.nd
      have hpair : (A ++ (i', ops[i'], none) :: B).Pairwise fun a b => a.1 ≠ b.1 := by
        have := okOrd_pair hord
        rw [← h.nd, List.pairwise_map] at this
        exact this.imp fun h => h.1
      have hu : ∀ n ∈ A ++ B, n.1 ≠ i' := by
        rw [List.pairwise_append, List.pairwise_cons] at hpair
        intro n hn
        rcases List.mem_append.1 hn with hn | hn
        · exact hpair.2.2 n hn _ List.mem_cons_self
        · exact Ne.symm (hpair.2.1.1 n hn)
      have hdone : ∀ n ∈ A, (((masks ops.toList)[i']?).getD 0).testBit n.1 = true → n.2.2.isSome = true := fun n hn hb =>
        (h.done n (List.mem_append_left _ hn)).2 (hcl _ hb)
      have hfull : ∀ n ∈ A ++ (i', ops[i'], none) :: B, (n.1, n.2.1) ∈ nodes ops.toList ord := fun n hn => by
        rw [← h.nd]; exact List.mem_map.2 ⟨n, hn, rfl⟩
      have hagr : Agr ops.toList A e0 (slotd (A ++ (i', ops[i'], none) :: B) e0) ops[i'] := by
        intro s hs
        rw [slotd_append A _ fun n hn hns => ?_]
        · exact slotv_slotd A fun n hn hns => hdone n hn (s2 s hs _ (hfull n (List.mem_append_left _ hn)) hns).1
        · obtain ⟨_, q, hq, hqe⟩ := s2 s hs _ (hfull n (List.mem_append_right _ hn)) hns
          obtain ⟨q', hq', rfl⟩ := List.mem_map.1 hq
          rw [List.pairwise_append] at hpair
          exact hpair.2.2 q' hq' n hn hqe
      have next : ∀ {v od W'}, S W W' → (Nat.beq i' x0 = false → U W → U W') → VCs P Γ S U x0 w0 ops.toList (masks ops.toList) Q (A ++ (i', ops[i'], some (v, od)) :: B) [] e0 → (∀ D, od = some D → D W' ∧ ∀ W W', D W → S W W' → D W') →
          wpAnyIn (fen rd) 0 P .any ops (lift n ds K) k (listed.setIfInBounds i' true) (ag n ds (putE (slotd (A ++ (i', ops[i'], none) :: B) e0) (ops[i']).dst v)) W' := by
        intro v od W' hc hx hv hD
        have := ih _ _ W' (At.next hS h him h1 hc hx hu hcl hv hD) hcnt
        have heq : slotd (A ++ (i', ops[i'], some (v, od)) :: B) e0 = putE (slotd (A ++ (i', ops[i'], none) :: B) e0) (ops[i']).dst v := funext fun s => slotd_done A honce
        rw [heq] at this
        exact this
      have sem : isPure (ops[i']).op = true ∨ loudSem (ops[i']).op = true → wpOpIn (fen rd) 0 P ops (lift n ds K) i' (wpAnyIn (fen rd) 0 P .any ops (lift n ds K) k (listed.setIfInBounds i' true)) (ag n ds (slotd (A ++ (i', ops[i'], none) :: B) e0)) W := by
        intro hs
        obtain ⟨v, od, W', hr, hx, hv⟩ := exec_sem hG hS (ρ := slotd (A ++ (i', ops[i'], none) :: B) e0) hs s4 h.chg hux A [] e0 (List.pairwise_append.1 honce).1 h.vc hagr (fun j _ => trivial) (fun n hn => by
          have h5 := h.held n (List.mem_append_left _ hn)
          have h6 := hdone n hn
          split
          · rename_i v' D hD; exact (h5 _ _ hD).1
          · trivial
          · rename_i hD
            rw [hD] at h6
            cases hb : (((masks ops.toList)[i']?).getD 0).testBit n.1 with
            | false => rfl
            | true => have := h6 hb; cases this)
        rcases hr with ⟨g1, g2, g3, g4⟩ | ⟨g1, g2, g3, g4⟩
        · refine wpOp_of (P := P) (run := fun v' W'' => v' = v ∧ W'' = W') hG hok ho s4 (grd_mono g1 (fun _ => g2.does ⟨rfl, rfl⟩) fun h => h) ?_ (fun h => h.elim)
          rintro _ _ ⟨rfl, rfl⟩
          refine next g3 hx hv ?_
          intro D hD
          rw [g4] at hD
          split at hD
          · cases hD
          · simp only [Option.some.injEq] at hD
            subst hD
            exact ⟨hS.refl _, fun W W' h k => hS.trans h k⟩
        · subst g2 g3 g4
          exact wpOp_of (P := P) (run := fun _ _ => False) hG hok ho s4 (grd_mono g1 (fun h => h.elim) id) (fun _ _ h => h.elim) fun _ => next (hS.refl _) (fun _ h => h) hv fun D hD => by cases hD
      rcases s3 with hp | hp | hcall
      · exact sem (.inl hp)
      · exact sem (.inr hp)
      · cases hpu : isPure (ops[i']).op with
        | true => exact sem (.inl hpu)
        | false =>
          rcases exec_call hG hS (ρ := slotd (A ++ (i', ops[i'], none) :: B) e0) hpu s4 h.chg hux A [] e0 (List.pairwise_append.1 honce).1 h.vc hagr (fun j _ => trivial) (fun n hn => by
            have h5 := h.held n (List.mem_append_left _ hn)
            have h6 := hdone n hn (hcall (n.1, n.2.1) (List.mem_map.2 ⟨n, hn, rfl⟩))
            split
            · rename_i v' D hD; exact (h5 _ _ hD).1
            · trivial
            · rename_i hD; rw [hD] at h6; cases h6) with ⟨g1, g2⟩ | ⟨g1, hv⟩
          · refine wpOp_of (P := P) hG hok ho s4 (grd_mono g1 (fun _ => g2) fun h => h) ?_ (fun h => h.elim)
            rintro v W' ⟨⟨hc, hx⟩, D, hst, hDW, hv⟩
            exact next hc hx hv fun D' hD' => by cases hD'; exact ⟨hDW, hst⟩
          · exact wpOp_of (P := P) (run := fun _ _ => False) hG hok ho s4 (grd_mono g1 (fun h => h.elim) id) (fun _ _ h => h.elim) fun _ => next (hS.refl _) (fun _ h => h) hv fun D hD => by cases hD
    · -- the row behind them
      have hmi : m ≤ i := by omega
      have him : i = m := by
        rcases Nat.eq_or_lt_of_le hmi with h' | h'
        · exact h'.symm
        · have := hcl m (tailOk_spec ht i hmi (by simp; omega) m h')
          rw [h.tail m (Nat.le_refl _)] at this
          cases this
      subst him
      have hdone : ∀ j, j < i → listed.getD j false = true := fun j hj => hcl j (tailOk_spec ht i (Nat.le_refl _) (by simp; omega) j hj)
      have hfin := fin nds listed W h hdone
      have hcount : i + (k + 1) = ops.size := by
        have hL : listed.toList = List.replicate i true ++ List.replicate (ops.size - i) false := by
          apply List.ext_getElem?
          intro j
          rw [List.getElem?_append]
          simp only [List.length_replicate, List.getElem?_replicate]
          have hs := h.size
          by_cases hj : j < i
          · rw [if_pos hj, if_pos hj]
            have := hdone j hj
            rw [Array.getD_eq_getD_getElem?, Array.getElem?_eq_getElem (by omega)] at this
            rw [Array.getElem?_toList, Array.getElem?_eq_getElem (by omega)]
            simpa using this
          · rw [if_neg hj]
            by_cases hj2 : j < ops.size
            · rw [if_pos (by omega)]
              have := h.tail j (by omega)
              rw [Array.getD_eq_getD_getElem?, Array.getElem?_eq_getElem (by omega)] at this
              rw [Array.getElem?_toList, Array.getElem?_eq_getElem (by omega)]
              simpa using this
            · rw [if_neg (by omega), Array.getElem?_toList, Array.getElem?_eq_none (by omega)]
        rw [hL, List.count_append, List.count_replicate, List.count_replicate] at hk
        simp at hk
        omega
      have := phaseB (ds := ds) (rd := rd) hG hok he (m := i) ht (k + 1) i listed (slotd nds e0) W hcount (Nat.le_refl _) h.size (fun j hj => by
        rcases Nat.lt_or_ge j i with hji | hji
        · have := hdone j hji
          rw [Array.getD_eq_getD_getElem?, Array.getElem?_eq_getElem (by rw [h.size]; exact hj)] at this ⊢
          simpa [hji] using this
        · have := h.tail j hji
          rw [Array.getD_eq_getD_getElem?, Array.getElem?_eq_getElem (by rw [h.size]; exact hj)] at this ⊢
          simp at this ⊢
          rw [this]
          simp; omega) hfin
      exact this.2 i hi

/-- A REGION IN WHATEVER ORDER. -/
theorem drawnV (hG : Agree P Γ) (hm : P.follows .mixedOrders = true) {id : Nat} {ops : Array Oper} (m : Nat) (ord : List Nat) (hreg : regOk ops.toList m ord = true) (S : World → World → Prop) (hS : Pre S) (U : World → Prop) (x0 : Nat) {K : Exit → Env → World → Prop} {e : Env} {w : World} (hU : U w.drew)
    (h : VCs P Γ S U x0 w ops.toList (masks ops.toList) (fun E Ds => ∀ W, S w W → (∀ j, getDs Ds j W) → VCl P Γ ops.toList (K .normal) (ops.toList.drop m) E W) ((nodes ops.toList ord).map fun p => (p.1, p.2, none)) [] e) :
    Piece P n ds rd (.region id ops true) K e w := by
  intro hok
  simp only [okC] at hok
  refine wpIn_region_any hm ?_
  have hno : ∀ n ∈ (nodes ops.toList ord).map (fun p => ((p.1, p.2, none) : Nd)), n.2.2 = none := by
    intro n hn
    obtain ⟨p, _, rfl⟩ := List.mem_map.1 hn
    rfl
  have hl : ∀ i, (Array.replicate ops.size false).getD i false = false := by
    intro i
    rw [Array.getD_eq_getD_getElem?, Array.getElem?_replicate]
    split <;> rfl
  have hat : At P Γ S U x0 w ops m ord (fun E Ds => ∀ W, S w W → (∀ j, getDs Ds j W) → VCl P Γ ops.toList (K .normal) (ops.toList.drop m) E W) e ((nodes ops.toList ord).map fun p => (p.1, p.2, none)) (Array.replicate ops.size false) w.drew := by
    refine ⟨by rw [List.map_map]; exact List.map_id' _, h, hS.kp (Chg.refl _ w).drew, ?_, ?_, by simp, fun i _ => hl i, ?_, fun _ => hU⟩
    · intro n hn; rw [hno n hn, hl]; simp
    · intro n hn v D hv; rw [hno n hn] at hv; cases hv
    · intro i hi; rw [hl] at hi; cases hi
  have := phaseA (ds := ds) (rd := rd) hG hS hok hreg (K := K) (fun E Ds hq => hq) ops.size _ _ _ hat (by simp)
  have hs : slotd ((nodes ops.toList ord).map fun p => ((p.1, p.2, none) : Nd)) e = e := by
    have : ∀ (l : List Nd), (∀ n ∈ l, n.2.2 = none) → slotd l e = e := by
      intro l
      induction l with
      | nil => intro _; rfl
      | cons a l ih =>
        intro h
        obtain ⟨i, o, d⟩ := a
        have := h _ List.mem_cons_self
        simp only at this
        subst this
        funext s
        simp only [slotd]
        rw [ih fun n hn => h n (List.mem_cons_of_mem _ hn)]
    exact this _ hno
  rw [hs] at this
  exact this

theorem drawnS (hG : Agree P Γ) (hm : P.follows .mixedOrders = true) {id : Nat} {ops : Array Oper} (m : Nat) (ord : List Nat) (hreg : regOk ops.toList m ord = true) (S : World → World → Prop) (hS : Pre S) {K : Exit → Env → World → Prop} {e : Env} {w : World}
    (h : VCs P Γ S (fun _ => True) 0 w ops.toList (masks ops.toList) (fun E Ds => ∀ W, S w W → (∀ j, getDs Ds j W) → VCl P Γ ops.toList (K .normal) (ops.toList.drop m) E W) ((nodes ops.toList ord).map fun p => (p.1, p.2, none)) [] e) :
    Piece P n ds rd (.region id ops true) K e w := drawnV hG hm m ord hreg S hS (fun _ => True) 0 trivial h

/-- in the order in which they stand, up to the m-th -/
noncomputable def VCn (P : Program) (Γ : List (Nat × TI)) (S : World → World → Prop) (w0 : World) (ops : List Oper) (ms : List Nat) (m : Nat) (Q : Env → List (Nat × DP) → Prop) (l : List Oper) : Nat → List (Nat × DP) → Env → Prop :=
  List.rec (motive := fun _ => Nat → List (Nat × DP) → Env → Prop) (fun _ Ds e => Q e Ds)
    (fun o _ ih i Ds e => cond (Nat.beq i m) (Q e Ds) (grd ops e o (opr P Γ S w0 (DnF ((ms[i]?).getD 0) Ds) e o fun v D => ih (Nat.succ i) (addD Ds i D) (putE e o.dst v)) (ih (Nat.succ i) Ds (putE e o.dst undef)))) l

def nodesFrom (m : Nat) : List Oper → Nat → List (Nat × Oper)
  | [], _ => []
  | o :: r, i => cond (Nat.beq i m) [] ((i, o) :: nodesFrom m r (i + 1))

theorem nodesFrom_eq (ops : List Oper) (m : Nat) (hm : m ≤ ops.length) : ∀ (k i : Nat), i + k = m → nodesFrom m (ops.drop i) i = (List.range' i k).map fun i => (i, (ops[i]?).getD default)
  | 0, i, h => by
    have : i = m := by omega
    subst this
    cases ops.drop i with
    | nil => rfl
    | cons o r => simp only [nodesFrom, show Nat.beq i i = true from Nat.beq_refl i]; rfl
  | k + 1, i, h => by
    have hi : i < ops.length := by omega
    rw [List.drop_eq_getElem_cons hi]
    simp only [nodesFrom, beqf (show ¬ i = m by omega), cond_false, List.range'_succ, List.map_cons]
    rw [nodesFrom_eq ops m hm k (i + 1) (by omega)]
    simp [hi]

theorem VCn_to (hG : Agree P Γ) {S : World → World → Prop} {w0 : World} {ops : List Oper} {ms : List Nat} {m : Nat} {Q : Env → List (Nat × DP) → Prop} : ∀ (l : List Oper) (i : Nat) (Ds : List (Nat × DP)) (e : Env), VCn P Γ S w0 ops ms m Q l i Ds e → VCs P Γ S (fun _ => True) 0 w0 ops ms Q ((nodesFrom m l i).map fun p => (p.1, p.2, none)) Ds e
  | [], i, Ds, e, h => h
  | o :: r, i, Ds, e, h => by
    change cond (Nat.beq i m) (Q e Ds) (grd ops e o (opr P Γ S w0 (DnF ((ms[i]?).getD 0) Ds) e o fun v D => VCn P Γ S w0 ops ms m Q r (i + 1) (addD Ds i D) (putE e o.dst v)) (VCn P Γ S w0 ops ms m Q r (i + 1) Ds (putE e o.dst undef))) at h
    simp only [nodesFrom]
    cases hb : Nat.beq i m with
    | true => rw [hb] at h; exact h
    | false =>
      rw [hb] at h
      simp only [cond_false, List.map_cons] at h ⊢
      simp only [VCs]
      refine grd_mono h ?_ (fun h => VCn_to hG r _ _ _ h)
      intro h
      unfold opr at h
      split at h
      · rename_i hi
        rcases opP_spec (P := P) hG h with h | ⟨v, hk, hp⟩
        · exact h.elim
        · exact .inl ⟨hi, v, hp, VCn_to hG r _ _ _ hk⟩
      · rename_i hi
        exact .inr ⟨hi, (h.mono fun v D h => VCn_to hG r _ _ _ h).toU hG⟩

/-- A REGION IN WHATEVER ORDER, walked in the order in which it stands: the first m at will, the rest in a row. -/
theorem drawnR (hG : Agree P Γ) (hm : P.follows .mixedOrders = true) {id : Nat} {ops : Array Oper} (m : Nat) (hreg : regOk ops.toList m (List.range m) = true) (S : World → World → Prop) (hS : Pre S) {K : Exit → Env → World → Prop} {e : Env} {w : World}
    (h : VCn P Γ S w ops.toList (masks ops.toList) m (fun E Ds => ∀ W, S w W → (∀ j, getDs Ds j W) → VCl P Γ ops.toList (K .normal) (ops.toList.drop m) E W) ops.toList 0 [] e) :
    Piece P n ds rd (.region id ops true) K e w := by
  refine drawnS hG hm m (List.range m) hreg S hS ?_
  have hle : m ≤ ops.toList.length := by
    simp only [regOk, Bool.and_eq_true] at hreg
    exact Nat.le_of_ble_eq_true hreg.1.1.1.1.1.1
  have := VCn_to hG _ _ _ _ h
  rw [show nodesFrom m ops.toList 0 = nodesFrom m (ops.toList.drop 0) 0 from rfl, nodesFrom_eq ops.toList m hle m 0 (by omega), ← List.range_eq_range'] at this
  exact this

/-- the same, with a set of blocks that may turn -/
theorem drawn0 (hG : Agree P Γ) (hm : P.follows .mixedOrders = true) {id : Nat} {ops : Array Oper} (m : Nat) (hreg : regOk ops.toList m (List.range m) = true) (S : Nat → Prop) {K : Exit → Env → World → Prop} {e : Env} {w : World}
    (h : VCn P Γ (Chg S) w ops.toList (masks ops.toList) m (fun E Ds => ∀ W, Chg S w W → (∀ j, getDs Ds j W) → VCl P Γ ops.toList (K .normal) (ops.toList.drop m) E W) ops.toList 0 [] e) :
    Piece P n ds rd (.region id ops true) K e w := drawnR hG hm m hreg (Chg S) (preChg S) h

end
end Go.Au
