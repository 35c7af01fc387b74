/- Own text of this workplace: a part of the proofs of this place's statements. -/
import Derived.Test.YtjibhchnhkjgkaaA13
import Derived.Deep.DeepAppendRoom
set_option linter.unusedVariables false
set_option linter.unusedSimpArgs false
set_option linter.unusedSectionVars false
namespace Go.Au
open Go Go.RowKit

/-! ### rows that are lent: a copy, with marks behind -/
section
variable {P : Program} {Γ : List (Nat × TI)} {w w' : World} {lo hi size n m k : Nat} {v : Value} {t el : TypeId} {ti tj : TI} {α : Type} {f : α → List Value} {xs : List α} {marks : List Value}

theorem ownsRow_range {base b cap : Nat} {cs : List Value} (h : w.ownsRow base el size (.slice (some ⟨b, 0, none⟩) n cap) n cs) : w.rangeAt b 0 cs := by
  intro j u hu
  have := h.cells (g := b) rfl j u hu
  simpa [Addr.add, Nat.zero_add] using (show w.cell? ⟨b, 0 + j, none⟩ = some u by
    simp only [Addr.add] at this
    split at this
    · rename_i h0; subst h0; exact this
    · exact this)
theorem ownsRow_some {base : Nat} {cs : List Value} (h : w.ownsRow base el size v n cs) (hn : 0 < n) : ∃ b cap, v = .slice (some ⟨b, 0, none⟩) n cap ∧ base ≤ b ∧ b < w.heap.size ∧ n ≤ cap ∧ cap ≤ maxLen := by
  rcases h.2 with ⟨_, h0⟩ | ⟨g, cap, cur, rfl, h1, h2, h3, h4, _⟩
  · omega
  · exact ⟨g, cap, rfl, h1, lt_of_heap h2, h3, h4⟩

/-- nothing is appended -/
theorem run_app0 (hG : Agree P Γ) (hl : look Γ t = some ti) (hd : ti.desc = .slice el) (hj : look Γ el = some tj) {base c : Nat} {cs : List Value} (hown : w.ownsRow base el size v n cs) (ty : TypeId) :
    (Builtin.append_ #[t, t] ty #[v, .slice none 0 c]).run P w = .ok v w := by
  have hu := (hG.look hl).1
  simp only [hd] at hu
  have hsz := run_size (hG.look hj) w
  obtain ⟨a, cap, rfl, hle⟩ : ∃ a cap, v = .slice a n cap ∧ n ≤ cap := by
    rcases hown.2 with ⟨rfl, rfl⟩ | ⟨g, cap, cur, rfl, h1, h2, h3, h4, _⟩
    · exact ⟨_, _, rfl, Nat.le_refl _⟩
    · exact ⟨_, cap, rfl, h3⟩
  cases a with
  | none => simp [Builtin.append_, run_underlying hu, hsz, Builtin.lenOf, Builtin.firstCells, hle, Result.andThen]
  | some a => simp [Builtin.append_, run_underlying hu, hsz, Builtin.lenOf, Builtin.firstCells, hle, Result.andThen, storeCells]

theorem row_news (hf : ∀ x, (f x).length = size) (hpos : 0 < size) {a : Addr} {cap : Nat} (hr : RowE (fun _ c x => c = f x) size lo hi w (.slice (some a) xs.length cap) xs) : ∀ (j : Nat) (u : Value), (xs.flatMap f)[j]? = some u → w.cell? (a.add j) = some u := by
  obtain ⟨a', cap', he, hcap, hx'⟩ := hr
  cases he
  intro j u hu'
  have hj' := (List.getElem?_eq_some_iff.1 hu').1
  rw [flat_len hf] at hj'
  have hdiv : j / size < xs.length := Nat.div_lt_of_lt_mul (by rw [Nat.mul_comm]; exact hj')
  obtain ⟨b, o, hab, -, -, c, hc, hrd, rfl⟩ := hx' (j / size) xs[j / size] (List.getElem?_eq_getElem hdiv)
  cases hab
  have hmod : j % size < size := Nat.mod_lt _ hpos
  have hg := flat_get hf xs (j / size) xs[j / size] (List.getElem?_eq_getElem hdiv) (j % size) hmod
  have hjj : j / size * size + j % size = j := by rw [Nat.mul_comm]; exact Nat.div_add_mod j size
  rw [hjj, hu'] at hg
  have := hrd (j % size) u hg.symm
  rw [Nat.add_assoc, hjj] at this
  rw [Addr.add_mid]
  exact this
/-- an append of a row, where there is room -/
theorem apR (hG : Agree P Γ) {ρ : Operand → Value} {op : Oper} {s x : Operand} {base g cap : Nat} {cs : List Value} {u : Value} {K : Value → World → Prop} (ho : op.op = .call { callee := .builtin .append, args := #[s, x], argTypes := #[t, t] }) (hs : ρ s = .slice (some ⟨g, 0, none⟩) n cap) (hx : ρ x = u)
    (hl : look Γ t = some ti) (hd : ti.desc = .slice el) (hj : look Γ el = some tj) (hsz : tj.size = size) (hpos : 0 < size) (hown : w.ownsRow base el size (.slice (some ⟨g, 0, none⟩) n cap) n cs) (hf : ∀ x, (f x).length = size)
    (hr : RowE (fun _ c x => c = f x) size lo hi w u xs) (h1 : ∀ x, (f x).all (·.oneCell') = true) (hroom : n + xs.length ≤ cap)
    (hk : ∀ w', w'.heap.size = w.heap.size → w'.ownsRow base el size (.slice (some ⟨g, 0, none⟩) (n + xs.length) cap) (n + xs.length) (cs ++ xs.flatMap f) → Chg (fun k => k = g) w w' → K (.slice (some ⟨g, 0, none⟩) (n + xs.length) cap) w') : Raw P ρ op w K := by
  have hr0 := hr
  obtain ⟨a, cap2, rfl, hcap, hx'⟩ := hr
  have key : ∀ w', (Builtin.append_ #[t, t] op.type #[.slice (some ⟨g, 0, none⟩) n cap, .slice a xs.length cap2]).run P w = .ok (.slice (some ⟨g, 0, none⟩) (n + xs.length) cap) w' → K (.slice (some ⟨g, 0, none⟩) (n + xs.length) cap) w' → Raw P ρ op w K := fun w' hrun hk => by
    refine ⟨_, w', ?_, hk⟩
    unfold execOp
    simp only [ho, resolve, invoke, builtin, Sem.run_bind, Sem.run_pure, Result.andThen_ok, List.map_toArray, List.map_cons, List.map_nil, hs, hx, hrun]
  have hu := (hG.look hl).1
  simp only [hd] at hu
  have hok := hG.look hj
  obtain ⟨i, hi', hz, hs', hbt⟩ := hok.info
  cases a with
  | none =>
    have hys : xs = [] := by
      cases xs with
      | nil => rfl
      | cons y r => obtain ⟨b, o, hb, _⟩ := hx' 0 y rfl; cases hb
    subst hys
    exact key w (run_app0 hG hl hd hj hown op.type) (hk w rfl (by simpa using hown) (Chg.refl _ _))
  | some a =>
    have hnews := row_news hf hpos hr0
    rcases hown.2 with ⟨h0, _⟩ | ⟨g', cap', cur, hv, hbg, hg, hnc, hcm, hcs, htake⟩
    · cases h0
    · cases hv
      have hlf := flat_len hf xs
      have hfit : n * i.size + (xs.flatMap f).length ≤ cur.size := by rw [hlf, hcs, hs', hsz, ← Nat.add_mul]; exact Nat.mul_le_mul_right _ hroom
      have hrun := run_append_room (P := P) w t op.type el i hu hi' g n cap cur hg a xs.length cap2 (xs.flatMap f) (by rw [hs', hsz]; exact hlf) hnews (fun u hu => by
        obtain ⟨x, -, hxu⟩ := List.mem_flatMap.1 hu
        exact List.all_eq_true.1 (h1 x) u hxu) hroom hfit
      obtain ⟨c1, c2⟩ := setRow_chg (c' := (cur.toList.take (n * i.size) ++ xs.flatMap f ++ cur.toList.drop (n * i.size + (xs.flatMap f).length)).toArray) hg
      refine key _ hrun (hk _ (by simp) ⟨by rw [List.length_append, hown.1, hlf, Nat.add_mul], .inr ⟨g, cap, _, rfl, hbg, c2, hroom, hcm, ?_, ?_⟩⟩ c1)
      · rw [hs', hsz] at hfit ⊢
        simp only [List.size_toArray, List.length_append, List.length_take, List.length_drop, Array.length_toList]
        omega
      · rw [hs', hsz, htake, ← show (cs ++ xs.flatMap f).length = (n + xs.length) * size by rw [List.length_append, hown.1, hlf, Nat.add_mul]]
        exact List.take_left

/-- an append of a row -/
theorem apV (hG : Agree P Γ) {ρ : Operand → Value} {op : Oper} {s x : Operand} {base : Nat} {cs : List Value} {u : Value} {K : Value → World → Prop} {ys : List α} (ho : op.op = .call { callee := .builtin .append, args := #[s, x], argTypes := #[t, t] }) (hs : ρ s = v) (hx : ρ x = u)
    (hl : look Γ t = some ti) (hd : ti.desc = .slice el) (hj : look Γ el = some tj) (hsz : tj.size = size) (hpos : 0 < size) (hown : w.ownsRow base el size v n cs) (hf : ∀ x, (f x).length = size)
    (hr : RowE (fun _ c x => c = f x) size lo hi w u ys) (h1 : ∀ x, (f x).all (·.oneCell') = true) (h63 : n + ys.length ≤ maxLen) (hby : (n + ys.length) * tj.bytes ≤ 140737488355328) (hb : base ≤ w.heap.size)
    (hk : ∀ v' w', w'.ownsRow base el size v' (n + ys.length) (cs ++ ys.flatMap f) → Chg (fun k => some k = v.ownBlock) w w' → K v' w') : Raw P ρ op w K := by
  obtain ⟨a, cap, rfl, hcap, hx'⟩ := hr
  have key : ∀ v' w', (Builtin.append_ #[t, t] op.type #[v, .slice a ys.length cap]).run P w = .ok v' w' → K v' w' → Raw P ρ op w K := fun v' w' hrun hk => by
    refine ⟨v', w', ?_, hk⟩
    unfold execOp
    simp only [ho, resolve, invoke, builtin, Sem.run_bind, Sem.run_pure, Result.andThen_ok, List.map_toArray, List.map_cons, List.map_nil, hs, hx, hrun]
  have hu := (hG.look hl).1
  simp only [hd] at hu
  have hok := hG.look hj
  obtain ⟨i, hi', hz, hs', hbt⟩ := hok.info
  cases a with
  | none =>
    have hys : ys = [] := by
      cases ys with
      | nil => rfl
      | cons y r => obtain ⟨b, o, hb, _⟩ := hx' 0 y rfl; cases hb
    subst hys
    refine key v w (run_app0 hG hl hd hj hown op.type) (hk v w (by simpa using hown) (Chg.refl _ _))
  | some a =>
    have hnews : ∀ (j : Nat) (u : Value), (ys.flatMap f)[j]? = some u → w.cell? (a.add j) = some u := by
      intro j u hu'
      have hj' := (List.getElem?_eq_some_iff.1 hu').1
      rw [flat_len hf] at hj'
      have hdiv : j / size < ys.length := Nat.div_lt_of_lt_mul (by rw [Nat.mul_comm]; exact hj')
      obtain ⟨b, o, hab, -, -, c, hc, hrd, rfl⟩ := hx' (j / size) ys[j / size] (List.getElem?_eq_getElem hdiv)
      cases hab
      have hmod : j % size < size := Nat.mod_lt _ hpos
      have hg := flat_get hf ys (j / size) ys[j / size] (List.getElem?_eq_getElem hdiv) (j % size) hmod
      have hjj : j / size * size + j % size = j := by rw [Nat.mul_comm]; exact Nat.div_add_mod j size
      rw [hjj, hu'] at hg
      have := hrd (j % size) u hg.symm
      rw [Nat.add_assoc, hjj] at this
      rw [Addr.add_mid]
      exact this
    obtain ⟨v', w', h, h2, h3, _⟩ := run_append_own (P := P) w base t op.type el i tj.zero size tj.bytes hu hi' hz (hs'.trans hsz) hbt (hok.2.2.trans hsz) hpos v n cs hown a ys.length cap (ys.flatMap f) (flat_len hf ys) hnews
      (fun u hu => by
        obtain ⟨x, -, hxu⟩ := List.mem_flatMap.1 hu
        exact List.all_eq_true.1 (h1 x) u hxu) h63 hby hb
    exact key v' w' h (hk v' w' h2 (grown_chg h3))

/-- what is lent: its own elements and marks behind -/
def Lent (el : TypeId) (f : α → List Value) (marks : List Value) (k lo hi : Nat) (w : World) (v : Value) (xs : List α) : Prop :=
  ∃ b, v = .slice (some ⟨b, 0, none⟩) xs.length (xs.length + k) ∧ lo ≤ b ∧ b < hi ∧ Own w b el (xs.flatMap f ++ marks)
theorem Lent.chg {S : Nat → Prop} (h : Lent el f marks k lo hi w v xs) (hc : Chg S w w') (hs : ∀ b, lo ≤ b → b < hi → ¬ S b) : Lent el f marks k lo hi w' v xs := by
  obtain ⟨b, hv, h1, h2, ho⟩ := h
  exact ⟨b, hv, h1, h2, hc.own ho (hs b h1 h2)⟩
theorem Lent.chgT {S : Nat → Prop} (h : Lent el f marks k lo hi w v xs) (hc : Chg S w w') (hs : ∀ b cs, Own w b el cs → ¬ S b) : Lent el f marks k lo hi w' v xs := by
  obtain ⟨b, hv, h1, h2, ho⟩ := h
  exact ⟨b, hv, h1, h2, hc.own ho (hs b _ ho)⟩
theorem Lent.mono {lo' hi' : Nat} (h : Lent el f marks k lo hi w v xs) (h1 : lo' ≤ lo) (h2 : hi ≤ hi') : Lent el f marks k lo' hi' w v xs := by
  obtain ⟨b, hv, h3, h4, ho⟩ := h
  exact ⟨b, hv, by omega, by omega, ho⟩
theorem Own.all {cs : List Value} {b : Nat} (h : Own w b t cs) : w.rangeAt b 0 cs := Own.at_ h (by rw [List.drop_zero, List.take_of_length_le (Nat.le_refl _)])
theorem flat_range {cs : List Value} {b i : Nat} {x : α} (hf : ∀ x, (f x).length = size) (hx : xs[i]? = some x) (ho : w.rangeAt b 0 (xs.flatMap f ++ cs)) : w.rangeAt b (0 + i * size) (f x) := by
  rw [Nat.zero_add]
  intro j u hu
  have hj := (List.getElem?_eq_some_iff.1 hu).1
  rw [hf] at hj
  have hg := flat_get hf xs i x hx j hj
  rw [hu] at hg
  have := ho (i * size + j) u (by rw [List.getElem?_append_left (List.getElem?_eq_some_iff.1 hg).1, hg])
  simpa using this
/-- its elements, as a row -/
theorem Lent.row (h : Lent el f marks k lo hi w v xs) (hf : ∀ x, (f x).length = size) : RowE (fun _ cs x => cs = f x) size lo hi w v xs := by
  obtain ⟨b, rfl, h1, h2, ho⟩ := h
  exact ⟨_, _, rfl, by omega, fun i x hx => ⟨b, 0, rfl, h1, h2, f x, hf x, flat_range hf hx (Own.all ho), rfl⟩⟩
/-- a mark behind -/
theorem lent_mark {b : Nat} (ho : Own w b el (xs.flatMap f ++ marks)) (hf : ∀ x, (f x).length = size) (j : Nat) {ms : List Value} (hm : (marks.drop (j * size)).take ms.length = ms) : w.rangeAt b (0 + (xs.length + j) * size) ms := by
  rw [Nat.zero_add]
  refine Own.at_ ho ?_
  rw [List.drop_append, List.drop_of_length_le (by rw [flat_len hf, Nat.add_mul]; omega), List.nil_append, flat_len hf, Nat.add_mul, Nat.add_sub_cancel_left]
  exact hm
/-- a row that is full -/
theorem ownsRow_full {base b n : Nat} {cs : List Value} (h : w.ownsRow base el size (.slice (some ⟨b, 0, none⟩) n n) n cs) : Own w b el cs ∧ base ≤ b := by
  rcases h.2 with ⟨h, _⟩ | ⟨g, cap', cur, h, h1, h2, h3, h4, h5, h6⟩
  · cases h
  · cases h
    have : cur = cs.toArray := by rw [← h6, List.take_of_length_le (by simp [h5])]
    rw [this] at h2
    exact ⟨h2, h1⟩

/-- a block that can be written over -/
def Well (el : TypeId) (size lo hi : Nat) (w : World) (v : Value) (n : Nat) : Prop :=
  ∃ b cap cur, v = .slice (some ⟨b, 0, none⟩) n cap ∧ lo ≤ b ∧ b < hi ∧ n ≤ cap ∧ cap < 4611686018427387904 ∧ Own w b el cur ∧ cur.length = cap * size
theorem Lent.well (h : Lent el f marks k lo hi w v xs) (hf : ∀ x, (f x).length = size) (hm : marks.length = k * size) (hl : xs.length + k < 4611686018427387904) : Well el size lo hi w v xs.length := by
  obtain ⟨b, rfl, h1, h2, ho⟩ := h
  exact ⟨b, _, _, rfl, h1, h2, by omega, hl, ho, by rw [List.length_append, flat_len hf, hm, Nat.add_mul]⟩
theorem Well.chg {S : Nat → Prop} (h : Well el size lo hi w v n) (hc : Chg S w w') (hs : ∀ b, lo ≤ b → b < hi → ¬ S b) : Well el size lo hi w' v n := by
  obtain ⟨b, cap, cur, hv, h1, h2, h3, h4, h5, h6⟩ := h
  exact ⟨b, cap, cur, hv, h1, h2, h3, h4, hc.heap h5 (hs b h1 h2), h6⟩
theorem lay_take : ∀ (vs : List Value) (cs : List Value) (o : Nat), o + vs.length ≤ cs.length → (lay cs o vs).take (o + vs.length) = cs.take o ++ vs
  | [], cs, o, _ => by simp [lay]
  | u :: r, cs, o, h => by
    simp only [List.length_cons] at h
    simp only [lay, List.length_cons]
    rw [show o + (r.length + 1) = o + 1 + r.length by omega, lay_take r (cs.set o u) (o + 1) (by simp; omega)]
    rw [List.take_succ_eq_append_getElem (by simp; omega)]
    simp [List.take_set_of_le]

/-- blocks keep their kind, their size and what their cells are -/
def Shp (Ty : TypeId → List Value → Prop) (w w' : World) : Prop := ∀ b t cs, Own w b t cs → Ty t cs → ∃ cs', Own w' b t cs' ∧ cs'.length = cs.length ∧ Ty t cs'
variable {Ty : TypeId → List Value → Prop}
theorem Shp.refl (w : World) : Shp Ty w w := fun _ _ cs h hT => ⟨cs, h, rfl, hT⟩
theorem Shp.trans {a b c : World} (h : Shp Ty a b) (k : Shp Ty b c) : Shp Ty a c := fun x t cs ho hT => by
  obtain ⟨c1, h1, l1, t1⟩ := h x t cs ho hT
  obtain ⟨c2, h2, l2, t2⟩ := k x t c1 h1 t1
  exact ⟨c2, h2, by omega, t2⟩
theorem Chg.shp (h : Kp w w') : Shp Ty w w' := fun _ _ cs ho hT => ⟨cs, h.own ho id, rfl, hT⟩
theorem shp_of {b : Nat} {cur cur' : List Value} (h : Chg (fun k => k = b) w w') (ho : Own w b el cur) (ho' : Own w' b el cur') (hl : cur'.length = cur.length) (hT : Ty el cur') : Shp Ty w w' := fun x t cs hx hTx => by
  by_cases hb : x = b
  · subst hb
    have := Option.some.inj ((show w.heap[x]? = _ from ho).symm.trans hx)
    injection this with h1 h2 h3
    subst h2
    exact ⟨cur', ho', by rw [hl]; simpa using congrArg Array.size h1, hT⟩
  · exact ⟨cs, h.own hx hb, rfl, hTx⟩
/-- .. and whose cells are of their kind -/
def WellT (Ty : TypeId → List Value → Prop) (el : TypeId) (size lo hi : Nat) (w : World) (v : Value) (n : Nat) : Prop :=
  ∃ b cap cur, v = .slice (some ⟨b, 0, none⟩) n cap ∧ lo ≤ b ∧ b < hi ∧ n ≤ cap ∧ cap < 4611686018427387904 ∧ Own w b el cur ∧ cur.length = cap * size ∧ Ty el cur
theorem WellT.well (h : WellT Ty el size lo hi w v n) : Well el size lo hi w v n := by
  obtain ⟨b, cap, cur, hv, h1, h2, h3, h4, h5, h6, h7⟩ := h
  exact ⟨b, cap, cur, hv, h1, h2, h3, h4, h5, h6⟩
theorem WellT.shp (h : WellT Ty el size lo hi w v n) (hs : Shp Ty w w') : WellT Ty el size lo hi w' v n := by
  obtain ⟨b, cap, cur, hv, h1, h2, h3, h4, h5, h6, h7⟩ := h
  obtain ⟨c', g1, g2, g3⟩ := hs b el cur h5 h7
  exact ⟨b, cap, c', hv, h1, h2, h3, h4, g1, by omega, g3⟩
theorem WellT.chg {S : Nat → Prop} (h : WellT Ty el size lo hi w v n) (hc : Chg S w w') (hs : ∀ b, lo ≤ b → b < hi → ¬ S b) : WellT Ty el size lo hi w' v n := by
  obtain ⟨b, cap, cur, hv, h1, h2, h3, h4, h5, h6, h7⟩ := h
  exact ⟨b, cap, cur, hv, h1, h2, h3, h4, hc.heap h5 (hs b h1 h2), h6, h7⟩
theorem Lent.wellT (h : Lent el f marks k lo hi w v xs) (hf : ∀ x, (f x).length = size) (hm : marks.length = k * size) (hl : xs.length + k < 4611686018427387904) (hT : Ty el (xs.flatMap f ++ marks)) : WellT Ty el size lo hi w v xs.length := by
  obtain ⟨b, rfl, h1, h2, ho⟩ := h
  exact ⟨b, _, _, rfl, h1, h2, by omega, hl, ho, by rw [List.length_append, flat_len hf, hm, Nat.add_mul], hT⟩
/-- what it holds then, as a row -/
theorem WellT.row (h : WellT Ty el size lo hi w v n) (hf : ∀ x, (f x).length = size) (hpos : 0 < size) {Q : α → Prop} (hT : ∀ cs, Ty el cs → ∃ ys : List α, cs = ys.flatMap f ∧ ∀ y ∈ ys, Q y) : ∃ ys : List α, ys.length = n ∧ (∀ y ∈ ys, Q y) ∧ RowE (fun _ cs x => cs = f x) size lo hi w v ys := by
  obtain ⟨b, cap, cur, rfl, h1, h2, h3, h4, h5, h6, h7⟩ := h
  obtain ⟨ys, rfl, hQ⟩ := hT cur h7
  rw [flat_len hf] at h6
  have hlen : ys.length = cap := Nat.eq_of_mul_eq_mul_right hpos h6
  refine ⟨ys.take n, by simp; omega, fun y hy => hQ y (List.mem_of_mem_take hy), _, cap, by simp; omega, by simp; omega, fun i x hx => ⟨b, 0, rfl, h1, h2, f x, hf x, ?_, rfl⟩⟩
  have hx' : ys[i]? = some x := by
    rw [List.getElem?_take] at hx
    split at hx
    · exact hx
    · cases hx
  exact flat_range (cs := []) hf hx' (by rw [List.append_nil]; exact Own.all h5)
end
end Go.Au
namespace Go.Au
open Go Go.RowKit
theorem RowE.lo1 {α : Type} {E : World → List Value → α → Prop} {size lo hi q n c : Nat} {w : World} {xs : List α} (h : RowE E size lo hi w (.slice (some ⟨q, 0, none⟩) n c) xs) {lo' : Nat} (hq : lo' ≤ q) : RowE E size lo' hi w (.slice (some ⟨q, 0, none⟩) n c) xs := by
  obtain ⟨a, cap, hv, hcap, hx⟩ := h
  refine ⟨a, cap, hv, hcap, fun i x hi => ?_⟩
  obtain ⟨b, o, rfl, h1, h2, h3⟩ := hx i x hi
  cases hv
  exact ⟨q, 0, rfl, hq, h2, h3⟩
end Go.Au
