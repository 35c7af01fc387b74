/- Own text of this workplace: a part of the proofs of this place's statements. -/
import Derived.Test.YtjibhchnhkjgkaaA7
set_option linter.unusedVariables false
set_option linter.unusedSimpArgs false
set_option linter.unusedSectionVars false
namespace Go.Au
open Go Go.RowKit Go.MapKept
open Go.Maps (Keyed)

section
variable {α β : Type} [DecidableEq α]
theorem aput_aput {l : List (α × β)} {x : α} {v u : β} : aput (aput l x v) x u = aput l x u := by
  induction l with
  | nil => simp [aput]
  | cons p r ih =>
    obtain ⟨a, b⟩ := p
    simp only [aput]
    by_cases h : a = x
    · rw [if_pos h, if_pos h]; simp [aput]
    · rw [if_neg h, if_neg h]; simp only [aput]; rw [if_neg h, ih]

/-- what is read under a key -/
def aget (l : List (α × β)) (z : β) (x : α) : β := (alook l x).getD z
theorem aget_aput {l : List (α × β)} {z : β} {x y : α} {v : β} : aget (aput l x v) z y = if x = y then v else aget l z y := by
  unfold aget
  rw [alook_aput]
  split <;> rfl
/-- an entry has come in at most -/
def Ext (z : β) (a : α) (l l' : List (α × β)) : Prop := l' = l ∨ l' = aput l a (aget l z a)
theorem Ext.get {z : β} {a : α} {l l' : List (α × β)} (h : Ext z a l l') (x : α) : aget l' z x = aget l z x := by
  rcases h with rfl | rfl
  · rfl
  · rw [aget_aput]; split
    · rename_i h; rw [h]
    · rfl
theorem Ext.trans {z : β} {a : α} {l l' l'' : List (α × β)} (h : Ext z a l l') (k : Ext z a l' l'') : Ext z a l l'' := by
  rcases k with rfl | rfl
  · exact h
  · rw [h.get]
    rcases h with rfl | rfl
    · exact .inr rfl
    · rw [aput_aput]; exact .inr rfl
theorem Ext.put {z : β} {a : α} {l l' : List (α × β)} (h : Ext z a l l') (v : β) : aput l' a v = aput l a v := by
  rcases h with rfl | rfl
  · rfl
  · rw [aput_aput]
end

section
variable {α β : Type} [DecidableEq α] {P : Program} {Γ : List (Nat × TI)} {k : TypeId} {ek : α → Value} {ev' : β → Value} {w w' : World} {m : Nat} {xs : List (α × β)}

/-- beside a change of one entry of a map -/
structure MapR (P : Program) (k : TypeId) (ek : α → Value) (ev' : β → Value) (z : β) (m : Nat) (a : α) (W W' : World) : Prop where
  chg : Chg (fun b => b = m) W W'
  map : ∀ xs, MapE P k ek ev' W m xs → ∃ xs', MapE P k ek ev' W' m xs' ∧ Ext z a xs xs'
  ent : ∀ xs s, EntE P k ek ev' W m xs a s → ∃ xs', EntE P k ek ev' W' m xs' a s ∧ Ext z a xs xs'

theorem preMapR (P : Program) (k : TypeId) (ek : α → Value) (ev' : β → Value) (z : β) (m : Nat) (a : α) : Pre (MapR P k ek ev' z m a) :=
  ⟨fun h => ⟨h.mono fun _ hf => hf.elim, fun xs hx => ⟨xs, hx.chg h id, .inl rfl⟩, fun xs s hx => ⟨xs, hx.chg h id, .inl rfl⟩⟩,
   fun h g => ⟨h.chg.trans g.chg, fun xs hx => by
      obtain ⟨x1, h1, e1⟩ := h.map xs hx
      obtain ⟨x2, h2, e2⟩ := g.map x1 h1
      exact ⟨x2, h2, e1.trans e2⟩, fun xs s hx => by
      obtain ⟨x1, h1, e1⟩ := h.ent xs s hx
      obtain ⟨x2, h2, e2⟩ := g.ent x1 s h1
      exact ⟨x2, h2, e1.trans e2⟩⟩⟩

/-- an operation in whatever order whose answer is known, and which turns nothing -/
theorem runr {S : World → World → Prop} (hS : Pre S) {e : Env} {w0 : World} {Dn : World → Prop} {op : Oper} {K : Value → DP → Prop} {v : Value} (h : ∀ W, S w0 W → Dn W → op1 P Γ e op W (fun v' W' => v' = v ∧ W' = W)) (hm : ∀ W {R R' : Value → World → Prop}, op1 P Γ e op W R → (∀ v w, R v w → R' v w) → op1 P Γ e op W R') (hk : ∀ D, K v D) : Mk S w0 Dn (op1 P Γ e op) K :=
  ⟨Unit, ⟨()⟩, fun _ => v, fun _ _ => True, fun _ _ _ _ _ => trivial, fun W h1 h2 => hm W (h W h1 h2) fun v' W' ⟨a, b⟩ => by subst b; exact ⟨hS.refl _, (), a, trivial⟩, fun _ D _ => hk D⟩

/-- a look into a map in whatever order -/
theorem lkr {S : World → World → Prop} (hS : Pre S) {e : Env} {w0 : World} {Dn : World → Prop} {op : Oper} {K : Value → DP → Prop} {t : TypeId} {x y : Operand} {c : Bool} {v : Value} (ho : op.op = .lookup t x y c)
    (h : ∀ W, S w0 W → Dn W → (Instr.lookup t (ev e x) (ev e y) c).run P W = .ok v W) (hk : ∀ D, K v D) : Mk S w0 Dn (op1 P Γ e op) K :=
  ⟨Unit, ⟨()⟩, fun _ => v, fun _ _ => True, fun _ _ _ _ _ => trivial, fun W h1 h2 => by
    unfold op1
    rw [ho]
    exact ⟨v, W, h W h1 h2, hS.refl _, (), rfl, trivial⟩, fun _ D _ => hk D⟩

variable {t el : TypeId} {ti tj : TI}

theorem MapE.get (hG : Agree P Γ) (K : Keyed P k) (ht : look Γ t = some ti) (hd : ti.desc = .map k el) (hel : look Γ el = some tj) {z : β} (hz : tj.zero = ev' z) (h : MapE P k ek ev' w m xs) (a : α) (hk : ∃ lit, keyOf P k (ek a) = some lit) :
    (Instr.lookup t (.map (some m)) (ek a) false).run P w = .ok (ev' (aget xs z a)) w := by
  rw [MapE.lookup hG K ht hd hel h a hk false]
  unfold aget
  cases alook xs a with
  | none => simp [hz]
  | some v => rfl

/-- an entry is taken hold of again -/
theorem EntE.entry (hG : Agree P Γ) (K : Keyed P k) (ht : look Γ t = some ti) (hd : ti.desc = .map k el) {a : α} {s : Nat} (h : EntE P k ek ev' w m xs a s) (hk : ∃ lit, keyOf P k (ek a) = some lit) :
    ∃ v w', (Instr.mapEntry t (.map (some m)) (ek a)).run P w = .ok v w' ∧ EntE P k ek ev' w' m xs a s := by
  have hu := (hG.look ht).1
  simp only [hd] at hu
  have hin := h.inj
  have hM := h.mapE
  obtain ⟨lit, hl⟩ := hk
  obtain ⟨es, clock, j, e, v, hb, hm, hst, hks, hj, hbn, hx, hke⟩ := h.h
  have hlt := lt_of_heap hb
  have hc := K.check w false hl
  have hs := K.stays w hl
  rcases K.find w hl es.toList hks with ⟨h1, h2⟩ | ⟨j', e', h1, h2, h3⟩
  · exact absurd hke (h2 e (by simpa using List.mem_of_getElem? (l := es.toList) (by simpa using hj)))
  · have h2' : es[j']? = some e' := by simpa using h2
    have hjj : j' = j := by
      have hkn := hst.2.2
      rw [List.nodup_iff_pairwise_ne, List.pairwise_map] at hkn
      have l1 := (Array.getElem?_eq_some_iff.1 hj)
      have l2 := (Array.getElem?_eq_some_iff.1 h2')
      obtain ⟨l1, g1⟩ := l1
      obtain ⟨l2, g2⟩ := l2
      rcases Nat.lt_trichotomy j' j with hlt' | he | hlt'
      · have := List.pairwise_iff_getElem.1 hkn j' j (by simpa using l2) (by simpa using l1) hlt'
        simp only [Array.getElem_toList, g1, g2] at this
        exact absurd (h3.trans hke.symm) this
      · exact he
      · have := List.pairwise_iff_getElem.1 hkn j j' (by simpa using l1) (by simpa using l2) hlt'
        simp only [Array.getElem_toList, g1, g2] at this
        exact absurd (hke.trans h3.symm) this
    subst hjj
    rw [hj] at h2'
    cases h2'
    have hp := putB_obj (w := w) (o := .map (es.modify j' fun e' => { e' with key := ek a }) clock) hlt
    refine ⟨.tuple #[e.val, goInt e.born], _, ?_, ⟨⟨_, _, j', { e with key := ek a }, v, hp.here, ?_, stamped_modify hst j' _ (fun _ _ => rfl) fun e' _ he' => ?_, ?_, ?_, hbn, hx, rfl⟩, hin⟩⟩
    · simp [Instr.mapEntry, run_underlying hu, MapKept.run_getObj_map hb, hc, h1, hj, h3, hs, MapKept.run_setObj_map _ hb, Result.andThen]
    · rw [modify_set hj, List.map_set, hm]
      have hxs : (xs.map fun p => (ek p.1, ev' p.2))[j']? = some (ek a, ev' v) := by simp [hx]
      have : e.val = ev' v := by
        have := congrArg (fun l => l[j']?) hm
        simp only [List.getElem?_map, Array.getElem?_toList, hj, Option.map_some, hx, Option.some.injEq, Prod.mk.injEq] at this
        exact this.2
      rw [this]
      apply List.ext_getElem?
      intro i
      rw [List.getElem?_set]
      by_cases hij : j' = i
      · subst hij
        rw [if_pos rfl, if_pos (List.getElem?_eq_some_iff.1 hxs).1, hxs]
      · rw [if_neg hij]
    · rw [hj] at he'; cases he'; exact h3.symm
    · intro x hx'
      rw [modify_set hj] at hx'
      rcases List.mem_or_eq_of_mem_set hx' with hx' | rfl
      · exact hks x hx'
      · exact ⟨lit, hl⟩
    · rw [← Array.getElem?_toList, modify_set hj, List.getElem?_set_self (by simpa using (Array.getElem?_eq_some_iff.1 hj).1)]

/-- an entry is taken hold of, in whatever order -/
theorem enr (hG : Agree P Γ) (K : Keyed P k) {z : β} {a : α} {e : Env} {w0 : World} {Dn : World → Prop} {op : Oper} {KK : Value → DP → Prop} {x y : Operand} (ho : op.op = .mapEntry t x y) (hx : ev e x = .map (some m)) (hy : ev e y = ek a)
    (ht : look Γ t = some ti) (hd : ti.desc = .map k el) (hel : look Γ el = some tj) (hz : tj.zero = ev' z) (h : MapE P k ek ev' w0 m xs) (hk : ∃ lit, keyOf P k (ek a) = some lit)
    (hK : ∀ (s : Nat) D, (∀ W, D W → ∃ xs', EntE P k ek ev' W m xs' a s ∧ Ext z a xs xs') → KK (.tuple #[ev' (aget xs z a), .int .i64 s]) D) : Mk (MapR P k ek ev' z m a) w0 Dn (op1 P Γ e op) KK :=
  ⟨Nat, ⟨0⟩, fun s => .tuple #[ev' (aget xs z a), .int .i64 s], fun s W => ∃ xs', EntE P k ek ev' W m xs' a s ∧ Ext z a xs xs', fun s W W' ⟨x1, h1, e1⟩ hr => by
      obtain ⟨x2, h2, e2⟩ := hr.ent x1 s h1
      exact ⟨x2, h2, e1.trans e2⟩, fun W h1 h2 => by
    unfold op1
    rw [ho]
    simp only [isPure]
    rw [hx, hy]
    obtain ⟨x1, hm1, e1⟩ := h1.map xs h
    obtain ⟨W', s, hrun, hent, hsz, hc⟩ := MapE.entry hG K ht hd hel hz hm1 a hk
    have hg : aget x1 z a = aget xs z a := e1.get a
    refine ⟨_, W', hrun, ?_, s, ?_, ?_⟩
    · refine ⟨hc, fun x2 hm2 => ?_, fun x2 s2 hm2 => ?_⟩
      · obtain ⟨W2, s2, hrun2, hent2, _, _⟩ := MapE.entry hG K ht hd hel hz hm2 a hk
        rw [hrun] at hrun2
        simp only [Result.ok.injEq] at hrun2
        rw [← hrun2.2] at hent2
        exact ⟨_, hent2.mapE, .inr rfl⟩
      · obtain ⟨v2, W2, hrun2, hent2⟩ := EntE.entry hG K ht hd hm2 hk
        rw [hrun] at hrun2
        simp only [Result.ok.injEq] at hrun2
        rw [← hrun2.2] at hent2
        exact ⟨_, hent2, .inl rfl⟩
    · show Value.tuple #[ev' (aget x1 z a), goInt s] = _
      rw [hg]; rfl
    · exact ⟨_, hent, e1.trans (.inr rfl)⟩, hK⟩

end
end Go.Au
