/- Own text of this workplace: a part of the proofs of this place's statements. -/
import Derived.Test.YtjibhchnhkjgkaaA8
set_option linter.unusedVariables false
set_option linter.unusedSimpArgs false
set_option linter.unusedSectionVars false
namespace Go.Au
open Go Go.RowKit Go.MapKept
open Go.Maps (Keyed)

section
variable {P : Program} {Γ : List (Nat × TI)} {w w' : World} {base size n m c b o : Nat} {v : Value} {xs news : List Value} {t el : TypeId} {ti tj : TI}

theorem run_app (hG : Agree P Γ) (hl : look Γ t = some ti) (hd : ti.desc = .slice el) (hj : look Γ el = some tj) (hsz : tj.size = size) (hpos : 0 < size) (hown : w.ownsRow base el size v n xs)
    (hn : news.length = m * size) (hr : w.rangeAt b o news) (h1 : news.all (·.oneCell') = true) (h63 : n + m ≤ maxLen) (hby : (n + m) * tj.bytes ≤ 140737488355328) (hb : base ≤ w.heap.size) (ty : TypeId) :
    ∃ v' w', (Builtin.append_ #[t, t] ty #[v, .slice (some ⟨b, o, none⟩) m c]).run P w = .ok v' w' ∧ w'.ownsRow base el size v' (n + m) (xs ++ news) ∧ w.grownBy w' v.ownBlock := by
  have hok := hG.look hj
  obtain ⟨i, hi, hz, hs, hbt⟩ := hok.info
  have hu := (hG.look hl).1
  simp only [hd] at hu
  obtain ⟨v', w', h, h2, h3, _⟩ := run_append_own (P := P) w base t ty el i tj.zero size tj.bytes hu hi hz (hs.trans hsz) hbt (hok.2.2.trans hsz) hpos v n xs hown ⟨b, o, none⟩ m c news hn (fun j u hu => by rw [Addr.add_mid]; exact hr j u hu) (fun u hu => by simpa using List.all_eq_true.1 h1 u hu) h63 hby hb
  exact ⟨v', w', h, h2, h3⟩

theorem grown_chg {row : Option Nat} (h : w.grownBy w' row) : Chg (fun k => some k = row) w w' := ⟨h.os, h.tape, h.output, h.size, fun k hk hs => h.block k hk hs⟩

/-- an append to a row of one's own -/
theorem ap (hG : Agree P Γ) {ρ : Operand → Value} {op : Oper} {s x : Operand} {K : Value → World → Prop} (ho : op.op = .call { callee := .builtin .append, args := #[s, x], argTypes := #[t, t] }) (hs : ρ s = v) (hx : ρ x = .slice (some ⟨b, o, none⟩) m c)
    (hl : look Γ t = some ti) (hd : ti.desc = .slice el) (hj : look Γ el = some tj) (hsz : tj.size = size) (hpos : 0 < size) (hown : w.ownsRow base el size v n xs)
    (hn : news.length = m * size) (hr : w.rangeAt b o news) (h1 : news.all (·.oneCell') = true) (h63 : n + m ≤ maxLen) (hby : (n + m) * tj.bytes ≤ 140737488355328) (hb : base ≤ w.heap.size)
    (hk : ∀ v' w', w'.ownsRow base el size v' (n + m) (xs ++ news) → Chg (fun k => some k = v.ownBlock) w w' → K v' w') : Raw P ρ op w K := by
  obtain ⟨v', w', hrun, h2, h3⟩ := run_app (c := c) hG hl hd hj hsz hpos hown hn hr h1 h63 hby hb op.type
  refine ⟨v', w', ?_, hk v' w' h2 (grown_chg h3)⟩
  unfold execOp
  simp only [ho, resolve, invoke, builtin, Sem.run_bind, Sem.run_pure, Result.andThen_ok, List.map_toArray, List.map_cons, List.map_nil, hs, hx, hrun]

def app1 (w : World) (v : Value) : Option Obj := v.ownBlock.bind fun g => w.heap[g]?
def lay2 (k : Nat) (news cur : List Value) : List Value := cur.take k ++ news ++ cur.drop (k + news.length)
def app2 (k : Nat) (news : List Value) : Option Obj → Option Obj
  | some (.cells cur e fr) => some (.cells (if k + news.length ≤ cur.size then (lay2 k news cur.toList).toArray else cur) e fr)
  | o => o
theorem lay2_lay2 {k : Nat} {news cur : List Value} (h : k + news.length ≤ cur.length) : lay2 k news (lay2 k news cur) = lay2 k news cur := by
  unfold lay2
  have h1 : (cur.take k ++ news ++ cur.drop (k + news.length)).take k = cur.take k := by
    rw [List.append_assoc, List.take_append_of_le_length (by simp; omega), List.take_take, Nat.min_self]
  have h2 : (cur.take k ++ news ++ cur.drop (k + news.length)).drop (k + news.length) = cur.drop (k + news.length) := by
    rw [List.drop_append, List.drop_of_length_le (by simp; omega), List.nil_append]
    simp only [List.length_append, List.length_take, List.drop_drop]
    rw [Nat.min_eq_left (by omega)]
    congr 1
    omega
  rw [h1, h2]

/-- beside one append to a row -/
structure AppR (w0 : World) (v : Value) (k : Nat) (news : List Value) (W W' : World) : Prop where
  chg : Chg (fun g => some g = v.ownBlock) W W'
  row : ∀ g, v.ownBlock = some g → g < W.heap.size → W'.heap[g]? = W.heap[g]? ∨ (W.heap[g]? = app1 w0 v ∧ W'.heap[g]? = app2 k news (app1 w0 v))

theorem preAppR (w0 : World) (v : Value) (k : Nat) (news : List Value) : Pre (AppR w0 v k news) :=
  ⟨fun h => ⟨h.mono fun _ hf => hf.elim, fun g _ hl => .inl (h.block g hl id)⟩, fun h g => ⟨h.chg.trans g.chg, fun x hx hl => by
    rcases h.row x hx hl with a | ⟨a, a'⟩ <;> rcases g.row x hx (Nat.lt_of_lt_of_le hl h.chg.size) with c | ⟨c, c'⟩
    · exact .inl (c.trans a)
    · exact .inr ⟨a ▸ c, c'⟩
    · exact .inr ⟨a, c.trans a'⟩
    · exact .inr ⟨a, c'⟩⟩⟩

theorem setRow_chg {g : Nat} {cur c' : Array Value} {e : TypeId} (hg : w.heap[g]? = some (.cells cur e (0, 0))) : Chg (fun k => k = g) w (w.setRow g c') ∧ (w.setRow g c').heap[g]? = some (.cells c' e (0, 0)) :=
  ⟨⟨rfl, rfl, rfl, by simp, fun k _ hk => setRow_other w g k _ hk⟩, setRow_heap w g cur c' e _ hg⟩

theorem appR_run (hG : Agree P Γ) (hl : look Γ t = some ti) (hd : ti.desc = .slice el) (hj : look Γ el = some tj) (hsz : tj.size = size) (hpos : 0 < size) {w0 : World} (hown : w0.ownsRow base el size v n xs)
    (hn : news.length = m * size) (hWs : w0.heap.size ≤ w.heap.size) (hWr : ∀ g, v.ownBlock = some g → g < w0.heap.size → w.heap[g]? = w0.heap[g]? ∨ (w0.heap[g]? = app1 w0 v ∧ w.heap[g]? = app2 (n * size) news (app1 w0 v))) (hr : w.rangeAt b o news) (h1 : news.all (·.oneCell') = true) (h63 : n + m ≤ maxLen) (hby : (n + m) * tj.bytes ≤ 140737488355328) (hb : base ≤ w0.heap.size) (ty : TypeId) :
    ∃ v' w', (Builtin.append_ #[t, t] ty #[v, .slice (some ⟨b, o, none⟩) m c]).run P w = .ok v' w' ∧ AppR w0 v (n * size) news w w' ∧ w'.ownsRow base el size v' (n + m) (xs ++ news) ∧
      ∀ g, v'.ownBlock = some g → (v.ownBlock = some g ∧ w'.heap[g]? = app2 (n * size) news (app1 w0 v)) ∨ w0.heap.size ≤ g := by
  have hbw : base ≤ w.heap.size := Nat.le_trans hb hWs
  obtain ⟨hlen, hc⟩ := hown
  rcases hc with ⟨rfl, rfl⟩ | ⟨g, cap, cur, rfl, hbg, hg, hnc, hcm, hcs, htake⟩
  · have hx : xs = [] := List.eq_nil_of_length_eq_zero (by simpa using hlen)
    subst hx
    obtain ⟨v', w', hrun, h2, h3⟩ := run_app (w := w) (base := w.heap.size) (c := c) hG hl hd hj hsz hpos (World.ownsRow_nil w _ el size) hn hr h1 h63 hby (Nat.le_refl _) ty
    refine ⟨v', w', hrun, (preAppR _ _ _ _).kp ((grown_chg h3).mono fun k hk => by simp [Value.ownBlock] at hk), ?_, fun g hg => .inr ?_⟩
    · obtain ⟨q1, q2⟩ := h2
      exact ⟨q1, q2.imp id fun ⟨g, cap, cur, a1, a2, a3⟩ => ⟨g, cap, cur, a1, Nat.le_trans hbw a2, a3⟩⟩
    · exact Nat.le_trans hWs (h2.lt g hg).1
  · have hglt : g < w0.heap.size := (Array.getElem?_eq_some_iff.1 hg).1
    have ha1 : app1 w0 (.slice (some ⟨g, 0, none⟩) n cap) = some (.cells cur el (0, 0)) := hg
    have hfit : n * size + news.length ≤ cur.size ↔ n + m ≤ cap := by
      rw [hn, hcs, ← Nat.add_mul]
      exact Nat.mul_le_mul_right_iff hpos
    obtain ⟨cur', hg', hsz', hcur'⟩ : ∃ cur', w.heap[g]? = some (.cells cur' el (0, 0)) ∧ cur'.size = cur.size ∧ (cur' = cur ∨ (n + m ≤ cap ∧ cur' = (lay2 (n * size) news cur.toList).toArray)) := by
      rcases hWr g rfl hglt with h | ⟨_, h⟩
      · exact ⟨cur, h.trans hg, rfl, .inl rfl⟩
      · rw [ha1] at h
        simp only [app2] at h
        by_cases hf : n * size + news.length ≤ cur.size
        · rw [if_pos hf] at h
          refine ⟨_, h, ?_, .inr ⟨hfit.1 hf, rfl⟩⟩
          simp [lay2]
          omega
        · rw [if_neg hf] at h
          exact ⟨cur, h, rfl, .inl rfl⟩
    have htk : cur'.toList.take (n * size) = xs := by
      rcases hcur' with rfl | ⟨hf, rfl⟩
      · exact htake
      · have := hfit.2 hf
        rw [← htake]
        show (lay2 (n * size) news cur.toList).take (n * size) = _
        unfold lay2
        rw [List.append_assoc, List.take_append_of_le_length (by simp; omega), List.take_take, Nat.min_self]
    have hownw : w.ownsRow base el size (.slice (some ⟨g, 0, none⟩) n cap) n xs := ⟨hlen, .inr ⟨g, cap, cur', rfl, hbg, hg', hnc, hcm, by rw [hsz', hcs], htk⟩⟩
    obtain ⟨v', w', hrun, h2, h3⟩ := run_app (w := w) (c := c) hG hl hd hj hsz hpos hownw hn hr h1 h63 hby hbw ty
    have hu := (hG.look hl).1
    simp only [hd] at hu
    obtain ⟨i, hi, hz, hs, hbt⟩ := (hG.look hj).info
    by_cases hroom : n + m ≤ cap
    · have hrun2 := run_append_room (P := P) w t ty el i hu hi g n cap cur' hg' ⟨b, o, none⟩ m c news (by rw [hs, hsz]; exact hn) (fun j u hu => by rw [Addr.add_mid]; exact hr j u hu) (fun u hu => by simpa using List.all_eq_true.1 h1 u hu) hroom (by rw [hs, hsz, hsz']; exact hfit.2 hroom)
      rw [hrun] at hrun2
      simp only [Result.ok.injEq] at hrun2
      obtain ⟨rfl, rfl⟩ := hrun2
      have hfc := hfit.2 hroom
      rw [hs, hsz] at *
      obtain ⟨c1, c2⟩ := setRow_chg (c' := (cur'.toList.take (n * size) ++ news ++ cur'.toList.drop (n * size + news.length)).toArray) hg'
      have hnew : some (Obj.cells (cur'.toList.take (n * size) ++ news ++ cur'.toList.drop (n * size + news.length)).toArray el (0, 0)) = app2 (n * size) news (app1 w0 (.slice (some ⟨g, 0, none⟩) n cap)) := by
        rw [ha1]
        simp only [app2]
        rw [if_pos hfc]
        rcases hcur' with rfl | ⟨_, rfl⟩
        · rfl
        · congr 2
          exact congrArg List.toArray (lay2_lay2 (by simpa using hfc))
      refine ⟨_, _, hrun, ⟨c1.mono fun k hk => by simp [Value.ownBlock, hk], fun g2 hg2 hl2 => ?_⟩, h2, fun g2 hg2 => .inl ⟨hg2, ?_⟩⟩
      · simp only [Value.ownBlock, Option.some.injEq] at hg2
        subst hg2
        rcases hcur' with rfl | ⟨_, hcc⟩
        · exact .inr ⟨hg'.trans ha1.symm, c2.trans hnew⟩
        · left
          rw [c2, hnew, ha1, hg', hcc]
          simp only [app2]
          rw [if_pos hfc]
      · simp only [Value.ownBlock, Option.some.injEq] at hg2
        subst hg2
        rw [c2, hnew]
    · have hrun2 := run_append_grow (P := P) w t ty el i tj.zero hu hi hz ⟨g, 0, none⟩ n cap xs (by rw [hs, hsz]; exact hlen) (hownw.cells (g := g) rfl) ⟨b, o, none⟩ m c news (by rw [hs, hsz]; exact hn) (fun j u hu => by rw [Addr.add_mid]; exact hr j u hu) (by omega) (by simp only [maxLen] at h63; omega) (growslice_fits (by simp only [maxLen] at h63; omega) (by rw [hbt]; exact hby))
      rw [hrun] at hrun2
      simp only [Result.ok.injEq] at hrun2
      obtain ⟨rfl, rfl⟩ := hrun2
      refine ⟨_, _, hrun, (preAppR _ _ _ _).kp ?_, h2, fun g2 hg2 => .inr ?_⟩
      · exact (Chg.refl _ w).drew.trans (Chg.alloc _ _ _)
      · simp only [Value.ownBlock, Option.some.injEq] at hg2
        subst hg2
        exact hWs

/-- an append in whatever order -/
theorem apr (hG : Agree P Γ) {w0 : World} {e : Env} {Dn : World → Prop} {op : Oper} {s x : Operand} {K : Value → DP → Prop} (ho : op.op = .call { callee := .builtin .append, args := #[s, x], argTypes := #[t, t] }) (hs : ev e s = v) (hx : ev e x = .slice (some ⟨b, o, none⟩) m c)
    (hl : look Γ t = some ti) (hd : ti.desc = .slice el) (hj : look Γ el = some tj) (hsz : tj.size = size) (hpos : 0 < size) (hown : w0.ownsRow base el size v n xs)
    (hn : news.length = m * size) (hr : ∀ W, AppR w0 v (n * size) news w0 W → Dn W → W.rangeAt b o news) (h1 : news.all (·.oneCell') = true) (h63 : n + m ≤ maxLen) (hby : (n + m) * tj.bytes ≤ 140737488355328) (hb : base ≤ w0.heap.size)
    (hk : ∀ v' D, (∀ W, D W → W.ownsRow base el size v' (n + m) (xs ++ news) ∧ ∀ g, v'.ownBlock = some g → v.ownBlock = some g ∨ w0.heap.size ≤ g) → K v' D) : Mk (AppR w0 v (n * size) news) w0 Dn (op1 P Γ e op) K :=
  ⟨Value, ⟨undef⟩, id, fun v' W => W.ownsRow base el size v' (n + m) (xs ++ news) ∧ ∀ g, v'.ownBlock = some g → (v.ownBlock = some g ∧ W.heap[g]? = app2 (n * size) news (app1 w0 v)) ∨ w0.heap.size ≤ g, fun v' W W' ⟨q1, q2⟩ hR => by
      have key : ∀ g, v'.ownBlock = some g → W'.heap[g]? = W.heap[g]? := fun g hg => by
        have hlt := (q1.lt g hg).2
        rcases q2 g hg with ⟨a1, a2⟩ | a1
        · rcases hR.row g a1 hlt with h | ⟨_, h⟩
          · exact h
          · rw [h, a2]
        · exact hR.chg.block g hlt fun hc => by
            have := hown.lt g hc.symm
            omega
      refine ⟨?_, fun g hg => (q2 g hg).imp (fun ⟨a1, a2⟩ => ⟨a1, (key g hg).trans a2⟩) id⟩
      obtain ⟨p1, p2⟩ := q1
      refine ⟨p1, p2.imp id fun ⟨g, cap, cur, a1, a2, a3, a4⟩ => ⟨g, cap, cur, a1, a2, ?_, a4⟩⟩
      rw [key g (by rw [a1]; rfl)]
      exact a3, fun W h1' h2' => by
    unfold op1
    rw [ho]
    simp only [isPure]
    obtain ⟨v', W', hrun, q1, q2, q3⟩ := appR_run (c := c) hG hl hd hj hsz hpos hown hn h1'.chg.size h1'.row (hr W h1' h2') h1 h63 hby hb op.type
    refine ⟨v', W', ?_, q1, v', rfl, q2, q3⟩
    unfold execOp
    simp only [ho, resolve, invoke, builtin, Sem.run_bind, Sem.run_pure, Result.andThen_ok, List.map_toArray, List.map_cons, List.map_nil, hs, hx, hrun], fun v' D hD => hk v' D fun W hW => ⟨(hD W hW).1, fun g hg => ((hD W hW).2 g hg).imp (·.1) id⟩⟩

end
end Go.Au
