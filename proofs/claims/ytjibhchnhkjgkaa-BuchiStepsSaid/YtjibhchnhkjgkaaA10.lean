/- Own text of this workplace: a part of the proofs of this place's statements. -/
import Derived.Test.YtjibhchnhkjgkaaA9
import Derived.Laws.MakeOwn
set_option linter.unusedVariables false
set_option linter.unusedSimpArgs false
set_option linter.unusedSectionVars false
namespace Go.Au
open Go Go.RowKit Go.MapKept
open Go.Maps (Keyed)

section
variable {P : Program} {Γ : List (Nat × TI)} {w w' : World} {base size n m c b o : Nat} {v : Value} {xs news : List Value} {t el : TypeId} {ti tj : TI}

/-- a relation that bears an append -/
structure BearsApp (S : World → World → Prop) (w0 : World) (v : Value) (k : Nat) (news : List Value) : Prop where
  pre : Pre S
  row : ∀ W W', S W W' → ∀ g, v.ownBlock = some g → g < W.heap.size → W'.heap[g]? = W.heap[g]? ∨ (W.heap[g]? = app1 w0 v ∧ W'.heap[g]? = app2 k news (app1 w0 v))
  new : ∀ W W' g o, S W W' → w0.heap.size ≤ g → W.heap[g]? = some o → W'.heap[g]? = some o
  size : ∀ W W', S W W' → W.heap.size ≤ W'.heap.size
  of : ∀ W W', S w0 W → AppR w0 v k news W W' → S W W'

theorem aprS (hG : Agree P Γ) {S : World → World → Prop} {w0 : World} {e : Env} {Dn : World → Prop} {op : Oper} {s x : Operand} {K : Value → DP → Prop} (hS : BearsApp S w0 v (n * size) news) (ho : op.op = .call { callee := .builtin .append, args := #[s, x], argTypes := #[t, t] }) (hs : ev e s = v) (hx : ev e x = .slice (some ⟨b, o, none⟩) m c)
    (hl : look Γ t = some ti) (hd : ti.desc = .slice el) (hj : look Γ el = some tj) (hsz : tj.size = size) (hpos : 0 < size) (hown : w0.ownsRow base el size v n xs)
    (hn : news.length = m * size) (hr : ∀ W, S w0 W → Dn W → W.rangeAt b o news) (h1 : news.all (·.oneCell') = true) (h63 : n + m ≤ maxLen) (hby : (n + m) * tj.bytes ≤ 140737488355328) (hb : base ≤ w0.heap.size)
    (hk : ∀ v' D, (∀ W, D W → W.ownsRow base el size v' (n + m) (xs ++ news) ∧ ∀ g, v'.ownBlock = some g → v.ownBlock = some g ∨ w0.heap.size ≤ g) → K v' D) : Mk S w0 Dn (op1 P Γ e op) K :=
  ⟨Value, ⟨undef⟩, id, fun v' W => W.ownsRow base el size v' (n + m) (xs ++ news) ∧ ∀ g, v'.ownBlock = some g → (v.ownBlock = some g ∧ W.heap[g]? = app2 (n * size) news (app1 w0 v)) ∨ w0.heap.size ≤ g, fun v' W W' ⟨q1, q2⟩ hR => by
      have key : ∀ g, v'.ownBlock = some g → W'.heap[g]? = W.heap[g]? := fun g hg => by
        have hlt := (q1.lt g hg).2
        rcases q2 g hg with ⟨a1, a2⟩ | a1
        · rcases hS.row _ _ hR g a1 hlt with h | ⟨_, h⟩
          · exact h
          · rw [h, a2]
        · obtain ⟨ob, hob⟩ : ∃ ob, W.heap[g]? = some ob := ⟨_, Array.getElem?_eq_getElem hlt⟩
          rw [hS.new _ _ _ _ hR a1 hob, hob]
      refine ⟨?_, fun g hg => (q2 g hg).imp (fun ⟨a1, a2⟩ => ⟨a1, (key g hg).trans a2⟩) id⟩
      obtain ⟨p1, p2⟩ := q1
      refine ⟨p1, p2.imp id fun ⟨g, cap, cur, a1, a2, a3, a4⟩ => ⟨g, cap, cur, a1, a2, ?_, a4⟩⟩
      rw [key g (by rw [a1]; rfl)]
      exact a3, fun W h1' h2' => by
    unfold op1
    rw [ho]
    simp only [isPure]
    obtain ⟨v', W', hrun, q1, q2, q3⟩ := appR_run (c := c) hG hl hd hj hsz hpos hown hn (hS.size _ _ h1') (hS.row _ _ h1') (hr W h1' h2') h1 h63 hby hb op.type
    refine ⟨v', W', ?_, hS.of _ _ h1' q1, v', rfl, q2, q3⟩
    unfold execOp
    simp only [ho, resolve, invoke, builtin, Sem.run_bind, Sem.run_pure, Result.andThen_ok, List.map_toArray, List.map_cons, List.map_nil, hs, hx, hrun], fun v' D hD => hk v' D fun W hW => ⟨(hD W hW).1, fun g hg => ((hD W hW).2 g hg).imp (·.1) id⟩⟩

theorem bearsAppR {w0 : World} {k : Nat} (hv : ∀ g, v.ownBlock = some g → g < w0.heap.size) : BearsApp (AppR w0 v k news) w0 v k news :=
  ⟨preAppR _ _ _ _, fun _ _ h => h.row, fun _ _ g o h hg ho => h.chg.heap ho fun hc => by have := hv g hc.symm; omega, fun _ _ h => h.chg.size, fun _ _ _ h => h⟩
end

section
variable {α β : Type} [DecidableEq α] {P : Program} {Γ : List (Nat × TI)} {k : TypeId} {ek : α → Value} {ev' : β → Value} {w w' : World} {m : Nat} {xs : List (α × β)}

theorem MapE.ne {b : Nat} {t : TypeId} {cs : List Value} (h : MapE P k ek ev' w m xs) (ho : Own w b t cs) : b ≠ m := by
  rintro rfl
  obtain ⟨es, clock, hb, _⟩ := h.h
  rw [show w.heap[b]? = _ from ho] at hb
  cases hb
/-- a relation that bears a change of one entry -/
structure BearsMap (P : Program) (k : TypeId) (ek : α → Value) (ev' : β → Value) (z : β) (m : Nat) (a : α) (S : World → World → Prop) (w0 : World) : Prop where
  pre : Pre S
  map : ∀ W W', S W W' → ∀ xs, MapE P k ek ev' W m xs → ∃ xs', MapE P k ek ev' W' m xs' ∧ Ext z a xs xs'
  ent : ∀ W W', S W W' → ∀ xs s, EntE P k ek ev' W m xs a s → ∃ xs', EntE P k ek ev' W' m xs' a s ∧ Ext z a xs xs'
  of : ∀ W W', S w0 W → MapR P k ek ev' z m a W W' → S W W'

variable {t el : TypeId} {ti tj : TI}

theorem entry_mapR (hG : Agree P Γ) (K : Keyed P k) (ht : look Γ t = some ti) (hd : ti.desc = .map k el) (hel : look Γ el = some tj) {z : β} (hz : tj.zero = ev' z) {a : α} (hm1 : MapE P k ek ev' w m xs) (hk : ∃ lit, keyOf P k (ek a) = some lit) :
    ∃ (W' : World) (s : Nat), (Instr.mapEntry t (.map (some m)) (ek a)).run P w = .ok (.tuple #[ev' (aget xs z a), goInt s]) W' ∧ EntE P k ek ev' W' m (aput xs a (aget xs z a)) a s ∧ MapR P k ek ev' z m a w W' := by
  obtain ⟨W', s, hrun, hent, hsz, hc⟩ := MapE.entry hG K ht hd hel hz hm1 a hk
  refine ⟨W', s, hrun, hent, hc, fun x2 hm2 => ?_, fun x2 s2 hm2 => ?_⟩
  · obtain ⟨W2, s2, hrun2, hent2, _, _⟩ := MapE.entry hG K ht hd hel hz hm2 a hk
    rw [hrun] at hrun2
    simp only [Result.ok.injEq] at hrun2
    rw [← hrun2.2] at hent2
    exact ⟨_, hent2.mapE, .inr rfl⟩
  · obtain ⟨v2, W2, hrun2, hent2⟩ := EntE.entry hG K ht hd hm2 hk
    rw [hrun] at hrun2
    simp only [Result.ok.injEq] at hrun2
    rw [← hrun2.2] at hent2
    exact ⟨_, hent2, .inl rfl⟩

/-- an entry is taken hold of, in whatever order -/
theorem enrS (hG : Agree P Γ) (K : Keyed P k) {S : World → World → Prop} {z : β} {a : α} {e : Env} {w0 : World} {Dn : World → Prop} {op : Oper} {KK : Value → DP → Prop} {x y : Operand} (hS : BearsMap P k ek ev' z m a S w0) (ho : op.op = .mapEntry t x y) (hx : ev e x = .map (some m)) (hy : ev e y = ek a)
    (ht : look Γ t = some ti) (hd : ti.desc = .map k el) (hel : look Γ el = some tj) (hz : tj.zero = ev' z) (h : MapE P k ek ev' w0 m xs) (hk : ∃ lit, keyOf P k (ek a) = some lit)
    (hK : ∀ (s : Nat) D, (∀ W, D W → ∃ xs', EntE P k ek ev' W m xs' a s ∧ Ext z a xs xs') → KK (.tuple #[ev' (aget xs z a), .int .i64 s]) D) : Mk S w0 Dn (op1 P Γ e op) KK :=
  ⟨Nat, ⟨0⟩, fun s => .tuple #[ev' (aget xs z a), .int .i64 s], fun s W => ∃ xs', EntE P k ek ev' W m xs' a s ∧ Ext z a xs xs', fun s W W' ⟨x1, h1, e1⟩ hr => by
      obtain ⟨x2, h2, e2⟩ := hS.ent _ _ hr x1 s h1
      exact ⟨x2, h2, e1.trans e2⟩, fun W h1 h2 => by
    unfold op1
    rw [ho]
    simp only [isPure]
    rw [hx, hy]
    obtain ⟨x1, hm1, e1⟩ := hS.map _ _ h1 xs h
    obtain ⟨W', s, hrun, hent, hc⟩ := entry_mapR hG K ht hd hel hz hm1 hk
    have hg : aget x1 z a = aget xs z a := e1.get a
    refine ⟨_, W', hrun, hS.of _ _ h1 hc, s, ?_, ?_⟩
    · show Value.tuple #[ev' (aget x1 z a), goInt s] = _
      rw [hg]; rfl
    · exact ⟨_, hent, e1.trans (.inr rfl)⟩, hK⟩

/-- beside m[a] = append(m[a], ..) -/
structure MapAppR (P : Program) (k : TypeId) (ek : α → Value) (ev' : β → Value) (z : β) (m : Nat) (a : α) (w0 : World) (v : Value) (kk : Nat) (news : List Value) (W W' : World) : Prop where
  chg : Chg (fun b => b = m ∨ some b = v.ownBlock) W W'
  map : ∀ xs, MapE P k ek ev' W m xs → ∃ xs', MapE P k ek ev' W' m xs' ∧ Ext z a xs xs'
  ent : ∀ xs s, EntE P k ek ev' W m xs a s → ∃ xs', EntE P k ek ev' W' m xs' a s ∧ Ext z a xs xs'
  row : ∀ g, v.ownBlock = some g → g < W.heap.size → W'.heap[g]? = W.heap[g]? ∨ (W.heap[g]? = app1 w0 v ∧ W'.heap[g]? = app2 kk news (app1 w0 v))

theorem preMapAppR (P : Program) (k : TypeId) (ek : α → Value) (ev' : β → Value) (z : β) (m : Nat) (a : α) (w0 : World) (v : Value) (kk : Nat) (news : List Value) : Pre (MapAppR P k ek ev' z m a w0 v kk news) :=
  ⟨fun h => ⟨h.mono fun _ hf => hf.elim, fun xs hx => ⟨xs, hx.chg h id, .inl rfl⟩, fun xs s hx => ⟨xs, hx.chg h id, .inl rfl⟩, fun g _ hl => .inl (h.block g hl id)⟩,
   fun h g => ⟨h.chg.trans g.chg, fun xs hx => by
      obtain ⟨x1, h1, e1⟩ := h.map xs hx
      obtain ⟨x2, h2, e2⟩ := g.map x1 h1
      exact ⟨x2, h2, e1.trans e2⟩, fun xs s hx => by
      obtain ⟨x1, h1, e1⟩ := h.ent xs s hx
      obtain ⟨x2, h2, e2⟩ := g.ent x1 s h1
      exact ⟨x2, h2, e1.trans e2⟩, fun x hx hl => by
    rcases h.row x hx hl with a | ⟨a, a'⟩ <;> rcases g.row x hx (Nat.lt_of_lt_of_le hl h.chg.size) with c | ⟨c, c'⟩
    · exact .inl (c.trans a)
    · exact .inr ⟨a ▸ c, c'⟩
    · exact .inr ⟨a, c.trans a'⟩
    · exact .inr ⟨a, c'⟩⟩⟩

theorem MapAppR.bearsMap {z : β} {a : α} {w0 : World} {v : Value} {kk : Nat} {news : List Value} (hm : m < w0.heap.size) (hne : v.ownBlock ≠ some m) : BearsMap P k ek ev' z m a (MapAppR P k ek ev' z m a w0 v kk news) w0 :=
  ⟨preMapAppR _ _ _ _ _ _ _ _ _ _ _, fun _ _ h => h.map, fun _ _ h => h.ent, fun W W' h0 h => ⟨h.chg.mono fun _ => .inl, h.map, h.ent, fun g hg hl => .inl (h.chg.block g hl fun hc => hne (hg.trans (by rw [hc])))⟩⟩
theorem MapAppR.bearsApp {z : β} {a : α} {w0 : World} {v : Value} {kk : Nat} {news : List Value} (hm : m < w0.heap.size) (hne : v.ownBlock ≠ some m) (hv : ∀ g, v.ownBlock = some g → g < w0.heap.size) : BearsApp (MapAppR P k ek ev' z m a w0 v kk news) w0 v kk news :=
  ⟨preMapAppR _ _ _ _ _ _ _ _ _ _ _, fun _ _ h => h.row, fun _ _ g o h hg ho => h.chg.heap ho fun hc => hc.elim (fun hc => by omega) fun hc => by have := hv g hc.symm; omega, fun _ _ h => h.chg.size,
    fun W W' h0 h => ⟨h.chg.mono fun _ => .inr, fun xs hx => ⟨xs, hx.chg h.chg fun hc => hne hc.symm, .inl rfl⟩, fun xs s hx => ⟨xs, hx.chg h.chg fun hc => hne hc.symm, .inl rfl⟩, h.row⟩⟩
end

/-! ### rows of one's own, no two in one block -/
structure Bag (w : World) (base : Nat) (el : TypeId) (size : Nat) (L : List (Value × List Value)) : Prop where
  own : ∀ x ∈ L, ∃ n, w.ownsRow base el size x.1 n x.2
  sep : L.Pairwise fun x y => ∀ b, x.1.ownBlock = some b → y.1.ownBlock ≠ some b

section
variable {w w' : World} {base size : Nat} {el : TypeId} {L : List (Value × List Value)} {S : Nat → Prop}

theorem ownsRow_chg {v : Value} {n : Nat} {xs : List Value} (h : w.ownsRow base el size v n xs) (hc : Chg S w w') (hs : ∀ b, v.ownBlock = some b → ¬ S b) : w'.ownsRow base el size v n xs := by
  refine ⟨h.1, h.2.imp id fun ⟨g, cap, cur, a1, a2, a3, a4⟩ => ⟨g, cap, cur, a1, a2, hc.heap a3 (hs g (by rw [a1]; rfl)), a4⟩⟩
theorem ownsRow_n {v : Value} {n n' : Nat} {xs xs' : List Value} (h : w.ownsRow base el size v n xs) (h' : w.ownsRow base el size v n' xs') : n = n' := by
  rcases h.2 with ⟨rfl, rfl⟩ | ⟨g, cap, cur, rfl, _⟩ <;> rcases h'.2 with ⟨h2, rfl⟩ | ⟨g', cap', cur', h2, _⟩ <;> simp at h2 <;> first | rfl | exact h2.2.1
theorem ownsRow_low {v : Value} {n base' : Nat} {xs : List Value} (h : w.ownsRow base el size v n xs) (hb : base' ≤ base) : w.ownsRow base' el size v n xs :=
  ⟨h.1, h.2.imp id fun ⟨g, cap, cur, a1, a2, a3⟩ => ⟨g, cap, cur, a1, Nat.le_trans hb a2, a3⟩⟩
/-- another kind of block is none of these -/
theorem ownsRow_ne {v : Value} {n : Nat} {xs : List Value} (h : w.ownsRow base el size v n xs) {b : Nat} {o : Obj} (ho : w.heap[b]? = some o) (hk : ∀ cs fr, o ≠ .cells cs el fr) : v.ownBlock ≠ some b := by
  rcases h.2 with ⟨rfl, _⟩ | ⟨g, cap, cur, rfl, a2, a3, _⟩
  · simp [Value.ownBlock]
  · intro he
    simp only [Value.ownBlock, Option.some.injEq] at he
    subst he
    rw [ho] at a3
    exact hk _ _ (Option.some.inj a3)

theorem Chg.newT {w0 w1 w2 : World} {S T : Nat → Prop} (h : Chg S w0 w1) (k : Chg T w1 w2) (hT : ∀ i, T i → S i ∨ w0.heap.size ≤ i) : Chg S w0 w2 :=
  ⟨k.os.trans h.os, k.tape.trans h.tape, k.output.trans h.output, Nat.le_trans h.size k.size, fun i hi hs => (k.block i (Nat.lt_of_lt_of_le hi h.size) (fun ht => by rcases hT i ht with h1 | h1; exact hs h1; omega)).trans (h.block i hi hs)⟩
theorem own_ne {b b' : Nat} {t t' : TypeId} {cs cs' : List Value} (h : Own w b t cs) (h' : Own w b' t' cs') (ht : t ≠ t') : b ≠ b' := by
  rintro rfl
  have := Option.some.inj ((show w.heap[b]? = _ from h).symm.trans h')
  injection this with _ h2
  exact ht h2
theorem ownsRow_form {v : Value} {n : Nat} {xs : List Value} (h : w.ownsRow base el size v n xs) : ∃ a c, v = .slice a n c := by
  rcases h.2 with ⟨rfl, rfl⟩ | ⟨g, cap, cur, rfl, _⟩
  · exact ⟨_, _, rfl⟩
  · exact ⟨_, _, rfl⟩
theorem Bag.nil : Bag w base el size [] := ⟨fun _ h => by simp at h, .nil⟩
theorem Bag.chg (h : Bag w base el size L) (hc : Chg S w w') (hs : ∀ x ∈ L, ∀ b, x.1.ownBlock = some b → ¬ S b) : Bag w' base el size L :=
  ⟨fun x hx => (h.own x hx).imp fun n hn => ownsRow_chg hn hc (hs x hx), h.sep⟩
theorem Bag.kp (h : Bag w base el size L) (hc : Kp w w') : Bag w' base el size L := h.chg hc fun _ _ _ _ => id
theorem Bag.ne (h : Bag w base el size L) {b : Nat} {o : Obj} (ho : w.heap[b]? = some o) (hk : ∀ cs fr, o ≠ .cells cs el fr) : ∀ x ∈ L, x.1.ownBlock ≠ some b :=
  fun x hx => by obtain ⟨n, hn⟩ := h.own x hx; exact ownsRow_ne hn ho hk
theorem Bag.lt (h : Bag w base el size L) : ∀ x ∈ L, ∀ b, x.1.ownBlock = some b → base ≤ b ∧ b < w.heap.size :=
  fun x hx b hb => by obtain ⟨n, hn⟩ := h.own x hx; exact hn.lt b hb
theorem Bag.perm {L' : List (Value × List Value)} (h : Bag w base el size L) (hp : L.Perm L') : Bag w base el size L' :=
  ⟨fun x hx => h.own x (hp.mem_iff.2 hx), (hp.pairwise_iff (fun {x y} hxy b hb he => hxy b he hb)).1 h.sep⟩
/-- one more -/
theorem Bag.cons (h : Bag w base el size L) {v : Value} {n : Nat} {xs : List Value} (hv : w.ownsRow base el size v n xs) (hn : ∀ b, v.ownBlock = some b → ∀ x ∈ L, x.1.ownBlock ≠ some b) : Bag w base el size ((v, xs) :: L) :=
  ⟨fun x hx => by
    rcases List.mem_cons.1 hx with rfl | hx
    · exact ⟨n, hv⟩
    · exact h.own x hx, List.pairwise_cons.2 ⟨fun y hy b hb => hn b hb y hy, h.sep⟩⟩
theorem Bag.consNil (h : Bag w base el size L) : Bag w base el size ((.slice none 0 0, []) :: L) :=
  h.cons (World.ownsRow_nil _ _ _ _) fun b hb => by simp [Value.ownBlock] at hb
/-- the first one is written, grown or made anew -/
theorem Bag.head {v v' : Value} {xs xs' : List Value} {n' : Nat} (h : Bag w base el size ((v, xs) :: L)) (hc : Chg S w w') (hS : ∀ b, S b → some b = v.ownBlock ∨ ∀ x ∈ L, x.1.ownBlock ≠ some b) (hv : w'.ownsRow base el size v' n' xs')
    (hn : ∀ g, v'.ownBlock = some g → v.ownBlock = some g ∨ w.heap.size ≤ g) : Bag w' base el size ((v', xs') :: L) := by
  have hp := List.pairwise_cons.1 h.sep
  have hL : Bag w base el size L := ⟨fun x hx => h.own x (List.mem_cons_of_mem _ hx), hp.2⟩
  refine (hL.chg hc fun x hx b hb hs => ?_).cons hv fun b hb x hx he => ?_
  · rcases hS b hs with h1 | h1
    · exact hp.1 x hx b h1.symm hb
    · exact h1 x hx hb
  · rcases hn b hb with h1 | h1
    · exact hp.1 x hx b h1 he
    · have := (hL.lt x hx b he).2
      omega
theorem Bag.tail {x : Value × List Value} (h : Bag w base el size (x :: L)) : Bag w base el size L := ⟨fun y hy => h.own y (List.mem_cons_of_mem _ hy), (List.pairwise_cons.1 h.sep).2⟩

theorem flat_len {α : Type} {f : α → List Value} (hf : ∀ x, (f x).length = size) : ∀ l : List α, (l.flatMap f).length = l.length * size
  | [] => by simp
  | a :: r => by simp [hf, flat_len hf r, Nat.add_mul, Nat.add_comm]
theorem flat_get {α : Type} {f : α → List Value} (hf : ∀ x, (f x).length = size) : ∀ (l : List α) (i : Nat) (x : α), l[i]? = some x → ∀ j, j < size → (l.flatMap f)[i * size + j]? = (f x)[j]?
  | [], i, x, h, j, hj => by simp at h
  | a :: r, 0, x, h, j, hj => by
    simp at h
    subst h
    rw [List.flatMap_cons, Nat.zero_mul, Nat.zero_add, List.getElem?_append_left (by rw [hf]; exact hj)]
  | a :: r, i + 1, x, h, j, hj => by
    rw [List.flatMap_cons, List.getElem?_append_right (by rw [hf, Nat.add_mul]; omega), hf, show (i + 1) * size + j - size = i * size + j by rw [Nat.add_mul]; omega]
    exact flat_get hf r i x (by simpa using h) j hj
/-- what it holds can be read -/
theorem ownsRow_row {α : Type} {v : Value} {n : Nat} {f : α → List Value} {l : List α} (hf : ∀ x, (f x).length = size) (h : w.ownsRow base el size v n (l.flatMap f)) (hpos : 0 < size) : RowE (fun _ cs x => cs = f x) size base w.heap.size w v l := by
  have hlen := flat_len hf l
  have hn : l.length = n := by
    have := h.1
    rw [hlen] at this
    exact Nat.eq_of_mul_eq_mul_right hpos this
  rcases h.2 with ⟨rfl, h0⟩ | ⟨g, cap, cur, rfl, a2, a3, a4, a5, a6, a7⟩
  · have hl : l = [] := List.eq_nil_of_length_eq_zero (by omega)
    subst hl
    exact ⟨none, 0, rfl, Nat.le_refl _, fun i x hx => by simp at hx⟩
  · subst hn
    refine ⟨_, cap, rfl, a4, fun i x hx => ⟨g, 0, rfl, a2, lt_of_heap a3, f x, hf x, ?_, rfl⟩⟩
    intro j u hu
    rw [cell_of_row w g _ cur el (0, 0) a3]
    have hj := (List.getElem?_eq_some_iff.1 hu).1
    rw [hf] at hj
    have hi := (List.getElem?_eq_some_iff.1 hx).1
    have hget := flat_get hf l i x hx j hj
    rw [hu, ← a7, List.getElem?_take] at hget
    split at hget
    · simpa using hget
    · cases hget
end
end Go.Au
