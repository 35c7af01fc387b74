/- Own text of this workplace: a part of the proofs of this place's statements. -/
import Derived.Test.YtjibhchnhkjgkaaA5
import Derived.Maps.Keyed
import Derived.DeepKeys4
set_option linter.unusedVariables false
set_option linter.unusedSimpArgs false
set_option linter.unusedSectionVars false
namespace Go.Au
open Go Go.RowKit Go.MapKept
open Go.Maps (Keyed)

/-! ### lists of pairs, by their first parts -/
section
variable {α β : Type} [DecidableEq α]
def alook : List (α × β) → α → Option β
  | [], _ => none
  | (a, b) :: r, x => if a = x then some b else alook r x
def aput : List (α × β) → α → β → List (α × β)
  | [], x, v => [(x, v)]
  | (a, b) :: r, x, v => if a = x then (x, v) :: r else (a, b) :: aput r x v

theorem alook_none {l : List (α × β)} {x : α} (h : ∀ p ∈ l, p.1 ≠ x) : alook l x = none := by
  induction l with
  | nil => rfl
  | cons p r ih =>
    obtain ⟨a, b⟩ := p
    simp only [alook]
    rw [if_neg (h _ List.mem_cons_self)]
    exact ih fun p hp => h p (List.mem_cons_of_mem _ hp)
theorem alook_mem {l : List (α × β)} {x : α} {v : β} (hn : (l.map (·.1)).Nodup) (h : (x, v) ∈ l) : alook l x = some v := by
  induction l with
  | nil => simp at h
  | cons p r ih =>
    obtain ⟨a, b⟩ := p
    simp only [List.map_cons, List.nodup_cons] at hn
    simp only [alook]
    rcases List.mem_cons.1 h with h | h
    · simp only [Prod.mk.injEq] at h
      rw [if_pos h.1.symm, h.2]
    · rw [if_neg fun he => hn.1 (List.mem_map.2 ⟨_, h, he.symm⟩)]
      exact ih hn.2 h
theorem aput_new {l : List (α × β)} {x : α} {v : β} (h : ∀ p ∈ l, p.1 ≠ x) : aput l x v = l ++ [(x, v)] := by
  induction l with
  | nil => rfl
  | cons p r ih =>
    obtain ⟨a, b⟩ := p
    simp only [aput]
    rw [if_neg (h _ List.mem_cons_self), ih fun p hp => h p (List.mem_cons_of_mem _ hp)]
    rfl
theorem aput_set {l : List (α × β)} {x : α} {v : β} (hn : (l.map (·.1)).Nodup) {i : Nat} {u : β} (h : l[i]? = some (x, u)) : aput l x v = l.set i (x, v) := by
  induction l generalizing i with
  | nil => simp at h
  | cons p r ih =>
    obtain ⟨a, b⟩ := p
    simp only [List.map_cons, List.nodup_cons] at hn
    cases i with
    | zero =>
      simp at h
      simp [aput, h.1]
    | succ i =>
      simp at h
      simp only [aput]
      rw [if_neg fun he => hn.1 (List.mem_map.2 ⟨_, List.mem_of_getElem? h, he.symm⟩), ih hn.2 h]
      rfl
theorem alook_aput {l : List (α × β)} {x y : α} {v : β} : alook (aput l x v) y = if x = y then some v else alook l y := by
  induction l with
  | nil => simp [aput, alook]
  | cons p r ih =>
    obtain ⟨a, b⟩ := p
    simp only [aput]
    by_cases ha : a = x
    · subst ha
      rw [if_pos rfl]
      simp only [alook]
      split <;> rfl
    · rw [if_neg ha]
      simp only [alook, ih]
      by_cases hy : a = y
      · subst hy
        rw [if_pos rfl, if_neg (Ne.symm ha), if_pos rfl]
      · rw [if_neg hy, if_neg hy]
theorem aput_length {l : List (α × β)} {x : α} {v : β} : (aput l x v).length = if (alook l x).isSome then l.length else l.length + 1 := by
  induction l with
  | nil => rfl
  | cons p r ih =>
    obtain ⟨a, b⟩ := p
    simp only [aput, alook]
    by_cases ha : a = x
    · simp [ha]
    · simp only [if_neg ha, List.length_cons, ih]
      split <;> simp
theorem aput_le {l : List (α × β)} {x : α} {v : β} : (aput l x v).length ≤ l.length + 1 := by rw [aput_length]; split <;> omega
end

/-- a block that is a map with these entries -/
structure MapE {α β : Type} (P : Program) (k : TypeId) (ek : α → Value) (ev : β → Value) (w : World) (b : Nat) (xs : List (α × β)) : Prop where
  h : ∃ es clock, w.heap[b]? = some (.map es clock) ∧ es.toList.map (fun e => (e.key, e.val)) = xs.map (fun p => (ek p.1, ev p.2)) ∧ Stamped es clock ∧ ∀ e ∈ es.toList, ∃ lit, keyOf P k e.key = some lit
  inj : ∀ x y, ek x = ek y → x = y

section
variable {α β : Type} [DecidableEq α] {P : Program} {Γ : List (Nat × TI)} {k : TypeId} {ek : α → Value} {ev : β → Value} {w w' : World} {b : Nat} {xs : List (α × β)}

theorem MapE.lt (h : MapE P k ek ev w b xs) : b < w.heap.size := by
  obtain ⟨es, clock, hb, _⟩ := h.h
  exact lt_of_heap hb
theorem MapE.chg {S : Nat → Prop} (h : MapE P k ek ev w b xs) (hc : Chg S w w') (hs : ¬ S b) : MapE P k ek ev w' b xs := by
  obtain ⟨es, clock, hb, h1⟩ := h.h
  exact ⟨⟨es, clock, hc.heap hb hs, h1⟩, h.inj⟩
theorem MapE.made (h : w.heap[b]? = some (.map #[] 0)) (hi : ∀ x y, ek x = ek y → x = y) : MapE (β := β) P k ek ev w b [] :=
  ⟨⟨#[], 0, h, rfl, stamped_empty 0, by simp⟩, hi⟩

theorem MapE.nodup (h : MapE P k ek ev w b xs) : (xs.map (·.1)).Nodup := by
  obtain ⟨es, clock, hb, hm, hst, hk⟩ := h.h
  have h1 : (es.toList.map (·.key)) = xs.map (fun p => ek p.1) := by
    have := congrArg (List.map (·.1)) hm
    simpa [Function.comp_def] using this
  have h2 := hst.2.2
  rw [h1] at h2
  have h3 : xs.map (fun p => ek p.1) = (xs.map (·.1)).map ek := by simp [Function.comp_def]
  rw [h3] at h2
  exact List.Pairwise.of_map ek (fun x y hxy he => hxy (by rw [he])) h2

/-- where a key is -/
theorem MapE.find (K : Keyed P k) (h : MapE P k ek ev w b xs) {a : α} (hk : ∃ lit, keyOf P k (ek a) = some lit) :
    ∃ es clock, w.heap[b]? = some (.map es clock) ∧ es.toList.map (fun e => (e.key, e.val)) = xs.map (fun p => (ek p.1, ev p.2)) ∧ Stamped es clock ∧ (∀ e ∈ es.toList, ∃ lit, keyOf P k e.key = some lit) ∧
      (∀ em, (Instr.checkKey em 10000 k (ek a)).run P w = .ok () w) ∧ (Instr.keyThatStays (ek a) (ek a)).run P w = .ok (ek a) w ∧
      (((Instr.findKey k (ek a) es.toList).run P w = .ok none w ∧ (∀ e ∈ es.toList, e.key ≠ ek a) ∧ ∀ p ∈ xs, p.1 ≠ a) ∨
      ∃ j e v, (Instr.findKey k (ek a) es.toList).run P w = .ok (some (j, ev v)) w ∧ es[j]? = some e ∧ e.key = ek a ∧ e.val = ev v ∧ xs[j]? = some (a, v)) := by
  obtain ⟨es, clock, hb, hm, hst, hks⟩ := h.h
  obtain ⟨lit, hl⟩ := hk
  refine ⟨es, clock, hb, hm, hst, hks, fun em => K.check w em hl, K.stays w hl, ?_⟩
  rcases K.find w hl es.toList hks with ⟨h1, h2⟩ | ⟨j, e, h1, h2, h3⟩
  · refine .inl ⟨h1, h2, fun p hp he => ?_⟩
    have : (ek p.1, ev p.2) ∈ xs.map (fun p => (ek p.1, ev p.2)) := List.mem_map.2 ⟨p, hp, rfl⟩
    rw [← hm] at this
    obtain ⟨e, hme, heq⟩ := List.mem_map.1 this
    simp only [Prod.mk.injEq] at heq
    exact h2 e hme (by rw [heq.1, he])
  · have hj := congrArg (fun l => l[j]?) hm
    simp only [List.getElem?_map, h2, Option.map_some] at hj
    cases hx : xs[j]? with
    | none => rw [hx] at hj; cases hj
    | some p =>
      obtain ⟨a', v⟩ := p
      rw [hx] at hj
      simp only [Option.map_some, Option.some.injEq, Prod.mk.injEq] at hj
      obtain ⟨hj1, hj2⟩ := hj
      have : a' = a := h.inj _ _ (by rw [← hj1, h3])
      subst this
      exact .inr ⟨j, e, v, by rw [← hj2]; exact h1, by simpa using h2, h3, hj2, hx⟩

variable {t el : TypeId} {ti tj : TI}

theorem MapE.lookup (hG : Agree P Γ) (K : Keyed P k) (ht : look Γ t = some ti) (hd : ti.desc = .map k el) (hel : look Γ el = some tj) (h : MapE P k ek ev w b xs) (a : α) (hk : ∃ lit, keyOf P k (ek a) = some lit) (c : Bool) :
    (Instr.lookup t (.map (some b)) (ek a) c).run P w = .ok (match alook xs a with
      | some v => if c then .tuple #[ev v, .bool true] else ev v
      | none => if c then .tuple #[tj.zero, .bool false] else tj.zero) w := by
  obtain ⟨es, clock, hb, hm, hst, hks, hc, hs, hf⟩ := h.find K hk
  have hu := (hG.look ht).1
  simp only [hd] at hu
  have hz := run_zero (hG.look hel) w
  rcases hf with ⟨h1, h2, h3⟩ | ⟨j, e, v, h1, h2, h3, h4, h5⟩
  · rw [alook_none h3]
    simp [Instr.lookup, run_underlying hu, MapKept.run_getObj_map hb, hc, h1, hz, Result.andThen]
  · rw [alook_mem h.nodup (List.mem_of_getElem? h5)]
    simp [Instr.lookup, run_underlying hu, MapKept.run_getObj_map hb, hc, h1, Result.andThen]

theorem putB_obj {o : Obj} (hb : b < w.heap.size) : PutB w b o { w with heap := w.heap.setIfInBounds b o } :=
  ⟨by simp [hb], fun k hk => by simp [Array.getElem?_setIfInBounds, Ne.symm hk], by simp, rfl, rfl, rfl⟩

theorem modify_set {es : Array MapEntry} {j : Nat} {e : MapEntry} (h : es[j]? = some e) (f : MapEntry → MapEntry) : (es.modify j f).toList = es.toList.set j (f e) := by
  apply List.ext_getElem?
  intro i
  simp only [Array.getElem?_toList, Array.getElem?_modify, List.getElem?_set]
  by_cases hij : j = i
  · subst hij
    rw [if_pos rfl, if_pos rfl, h]
    have : j < es.toList.length := by simpa using (Array.getElem?_eq_some_iff.1 h).1
    rw [if_pos this]; rfl
  · rw [if_neg hij, if_neg hij]
    try rfl

theorem MapE.update (hG : Agree P Γ) (K : Keyed P k) (ht : look Γ t = some ti) (hd : ti.desc = .map k el) (h : MapE P k ek ev w b xs) (a : α) (v : β) (hk : ∃ lit, keyOf P k (ek a) = some lit) :
    ∃ w', (Instr.mapUpdate t (.map (some b)) (ek a) (ev v)).run P w = .ok () w' ∧ MapE P k ek ev w' b (aput xs a v) ∧ w'.heap.size = w.heap.size ∧ Chg (fun k => k = b) w w' := by
  obtain ⟨es, clock, hb, hm, hst, hks, hc, hs, hf⟩ := h.find K hk
  have hu := (hG.look ht).1
  simp only [hd] at hu
  have hlt := lt_of_heap hb
  rcases hf with ⟨h1, h2, h3⟩ | ⟨j, e, v', h1, h2, h3, h4, h5⟩
  · have hp := putB_obj (w := w) (o := .map (es.push { key := ek a, val := ev v, born := clock }) (clock + 1)) hlt
    refine ⟨_, ?_, ⟨⟨_, _, hp.here, ?_, stamped_push hst h2, ?_⟩, h.inj⟩, hp.size, hp.chg⟩
    · simp [Instr.mapUpdate, run_underlying hu, MapKept.run_getObj_map hb, hc, h1, MapKept.run_setObj_map _ hb, Result.andThen]
    · rw [aput_new h3, Array.toList_push, List.map_append, hm]
      simp
    · intro x hx
      simp only [Array.toList_push, List.mem_append, List.mem_singleton] at hx
      rcases hx with hx | rfl
      · exact hks x hx
      · exact hk
  · have hp := putB_obj (w := w) (o := .map (es.modify j fun e' => { e' with key := ek a, val := ev v }) clock) hlt
    refine ⟨_, ?_, ⟨⟨_, _, hp.here, ?_, stamped_modify hst j _ (fun _ _ => rfl) fun e' _ he' => ?_, ?_⟩, h.inj⟩, hp.size, hp.chg⟩
    · simp [Instr.mapUpdate, run_underlying hu, MapKept.run_getObj_map hb, hc, h1, h2, h3, hs, MapKept.run_setObj_map _ hb, Result.andThen]
    · rw [aput_set h.nodup h5, modify_set h2, List.map_set, hm, List.map_set]
    · rw [h2] at he'; cases he'; exact h3.symm
    · intro x hx
      rw [modify_set h2] at hx
      rcases List.mem_or_eq_of_mem_set hx with hx | rfl
      · exact hks x hx
      · exact hk

/-- an entry that has been taken hold of -/
structure EntE {α β : Type} (P : Program) (k : TypeId) (ek : α → Value) (ev : β → Value) (w : World) (b : Nat) (xs : List (α × β)) (a : α) (stamp : Nat) : Prop where
  h : ∃ (es : Array MapEntry) (clock j : Nat) (e : MapEntry) (v : β), w.heap[b]? = some (.map es clock) ∧ es.toList.map (fun e => (e.key, e.val)) = xs.map (fun p => (ek p.1, ev p.2)) ∧ Stamped es clock ∧ (∀ e ∈ es.toList, ∃ lit, keyOf P k e.key = some lit) ∧ es[j]? = some e ∧ e.born = stamp ∧ xs[j]? = some (a, v) ∧ e.key = ek a
  inj : ∀ x y, ek x = ek y → x = y

theorem EntE.chg {S : Nat → Prop} {a : α} {s : Nat} (h : EntE P k ek ev w b xs a s) (hc : Chg S w w') (hs : ¬ S b) : EntE P k ek ev w' b xs a s := by
  obtain ⟨es, clock, j, e, v, hb, h1⟩ := h.h
  exact ⟨⟨es, clock, j, e, v, hc.heap hb hs, h1⟩, h.inj⟩
theorem EntE.mapE {a : α} {s : Nat} (h : EntE P k ek ev w b xs a s) : MapE P k ek ev w b xs := by
  obtain ⟨es, clock, j, e, v, hb, h1, h2, h3, _⟩ := h.h
  exact ⟨⟨es, clock, hb, h1, h2, h3⟩, h.inj⟩

/-- what is read where an entry is taken hold of; z: the zero value -/
theorem MapE.entry (hG : Agree P Γ) (K : Keyed P k) (ht : look Γ t = some ti) (hd : ti.desc = .map k el) (hel : look Γ el = some tj) {z : β} (hz : tj.zero = ev z) (h : MapE P k ek ev w b xs) (a : α) (hk : ∃ lit, keyOf P k (ek a) = some lit) :
    ∃ (w' : World) (s : Nat), (Instr.mapEntry t (.map (some b)) (ek a)).run P w = .ok (.tuple #[ev ((alook xs a).getD z), goInt s]) w' ∧ EntE P k ek ev w' b (aput xs a ((alook xs a).getD z)) a s ∧ w'.heap.size = w.heap.size ∧ Chg (fun k => k = b) w w' := by
  obtain ⟨es, clock, hb, hm, hst, hks, hc, hs, hf⟩ := h.find K hk
  have hu := (hG.look ht).1
  simp only [hd] at hu
  have hlt := lt_of_heap hb
  have hzr := run_zero (hG.look hel) w
  rcases hf with ⟨h1, h2, h3⟩ | ⟨j, e, v', h1, h2, h3, h4, h5⟩
  · have hp := putB_obj (w := w) (o := .map (es.push { key := ek a, val := ev z, born := clock }) (clock + 1)) hlt
    have hn := alook_none h3
    refine ⟨_, clock, ?_, ⟨⟨_, _, es.size, { key := ek a, val := ev z, born := clock }, z, hp.here, ?_, stamped_push hst h2, ?_, by simp, rfl, ?_, rfl⟩, h.inj⟩, hp.size, hp.chg⟩
    · rw [hn]
      simp [Instr.mapEntry, run_underlying hu, MapKept.run_getObj_map hb, hc, h1, hzr, hz, MapKept.run_setObj_map _ hb, Result.andThen]
    · rw [hn, aput_new h3, Array.toList_push, List.map_append, hm]
      simp
    · intro x hx
      simp only [Array.toList_push, List.mem_append, List.mem_singleton] at hx
      rcases hx with hx | rfl
      · exact hks x hx
      · exact hk
    · have hl := congrArg List.length hm
      simp at hl
      rw [hn, aput_new h3, hl]
      simp
  · have hp := putB_obj (w := w) (o := .map (es.modify j fun e' => { e' with key := ek a }) clock) hlt
    have hn := alook_mem h.nodup (List.mem_of_getElem? h5)
    refine ⟨_, e.born, ?_, ⟨⟨_, _, j, { e with key := ek a }, v', hp.here, ?_, stamped_modify hst j _ (fun _ _ => rfl) fun e' _ he' => ?_, ?_, ?_, rfl, ?_, rfl⟩, h.inj⟩, hp.size, hp.chg⟩
    · rw [hn]
      simp [Instr.mapEntry, run_underlying hu, MapKept.run_getObj_map hb, hc, h1, h2, h3, hs, MapKept.run_setObj_map _ hb, Result.andThen]
    · rw [hn, Option.getD_some, aput_set h.nodup h5, modify_set h2, List.map_set, hm, List.map_set, h4]
    · rw [h2] at he'; cases he'; exact h3.symm
    · intro x hx
      rw [modify_set h2] at hx
      rcases List.mem_or_eq_of_mem_set hx with hx | rfl
      · exact hks x hx
      · exact hk
    · rw [← Array.getElem?_toList, modify_set h2, List.getElem?_set_self (by simpa using (Array.getElem?_eq_some_iff.1 h2).1)]
    · rw [hn, Option.getD_some, aput_set h.nodup h5, List.getElem?_set_self (List.getElem?_eq_some_iff.1 h5).1]

theorem EntE.store {a : α} {s : Nat} (h : EntE P k ek ev w b xs a s) (v : β) :
    ∃ w', (Instr.entryStore t (.map (some b)) (goInt s) (ev v)).run P w = .ok () w' ∧ MapE P k ek ev w' b (aput xs a v) ∧ w'.heap.size = w.heap.size ∧ Chg (fun k => k = b) w w' := by
  have hnd := h.mapE.nodup
  obtain ⟨es, clock, j, e, v0, hb, hm, hst, hks, hj, hbn, hx, hke⟩ := h.h
  have hlt := lt_of_heap hb
  have hp := putB_obj (w := w) (o := .map (es.modify j fun e' => { e' with val := ev v }) clock) hlt
  have hfi : es.findIdx? (fun e => (e.born : Int) == (s : Int)) = some j := by
    have hjl := (Array.getElem?_eq_some_iff.1 hj)
    obtain ⟨hjl, hje⟩ := hjl
    rw [Array.findIdx?_eq_some_iff_getElem]
    refine ⟨hjl, by rw [hje, hbn]; simp, fun i hij => ?_⟩
    have hb2 := hst.2.1
    rw [List.nodup_iff_pairwise_ne, List.pairwise_map] at hb2
    have := List.pairwise_iff_getElem.1 hb2 i j (by simp; omega) (by simpa using hjl) hij
    simp only [Array.getElem_toList] at this
    rw [hje, hbn] at this
    simp; omega
  refine ⟨_, ?_, ⟨⟨_, _, hp.here, ?_, stamped_modify hst j _ (fun _ _ => rfl) fun e' _ _ => rfl, ?_⟩, h.inj⟩, hp.size, hp.chg⟩
  · simp [Instr.entryStore, MapKept.run_getObj_map hb, goInt, asInt, asIntOf, hfi, MapKept.run_setObj_map _ hb, Result.andThen]
  · rw [aput_set hnd hx, modify_set hj, List.map_set, hm, List.map_set, hke]
  · intro x hx'
    rw [modify_set hj] at hx'
    rcases List.mem_or_eq_of_mem_set hx' with hx' | rfl
    · exact hks x hx'
    · exact hks e (by simpa using List.mem_of_getElem? (l := es.toList) (by simpa using hj))
end
end Go.Au
