/- Own text of this workplace: a part of the proofs of this place's statements. -/
import Derived.Test.YtjibhchnhkjgkaaA6
import Derived.StringKeys
set_option linter.unusedVariables false
set_option linter.unusedSimpArgs false
set_option linter.unusedSectionVars false
namespace Go.Au
open Go Go.RowKit Go.MapKept
open Go.Maps (Keyed)
section
variable {P : Program} {Γ : List (Nat × TI)} {w : World} {S : Nat → Prop} {t : TypeId}

def isStr (Γ : List (Nat × TI)) (t : TypeId) : Bool := match look Γ t with
  | some ti => match ti.desc with
    | .string => true
    | _ => false
  | none => false
theorem isStr_spec (hG : Agree P Γ) (h : isStr Γ t = true) : P.underlying t = some .string := by
  unfold isStr at h
  split at h
  · rename_i ti hl
    have := (hG.look hl).1
    split at h
    · rename_i hd; simp only [hd] at this; exact this
    · cases h
  · cases h

/-- a byte of a string -/
theorem ixS (hG : Agree P Γ) {ρ : Operand → Value} {o : Oper} {x i : Operand} {s : ByteArray} {k : IntKind} {j : Nat} {K : Value → Prop} (ho : o.op = .index t x i) (ht : isStr Γ t = true) (hx : ρ x = .string s) (hi : ρ i = .int k j) (h1 : j < s.size)
    (hk : K (.int .u8 (s[j]'h1).toNat)) : PR P ρ o K := by
  refine ⟨_, fun w => ?_, hk⟩
  unfold execOp
  rw [ho]
  simp only [hx, hi]
  have hu := isStr_spec hG ht
  simp [Instr.index, asIntOf, run_underlying hu, h1, Result.andThen]

/-- a look into a map -/
theorem lk {s : Sem Value} {v : Value} {K : Value → World → Prop} (h : s.run P w = .ok v w) (hk : K v w) : Run P s w K := ⟨v, w, h, hk⟩
theorem mu {s : Sem Unit} {R : World → Prop} {K : World → Prop} (h : ∃ w', s.run P w = .ok () w' ∧ R w') (hk : ∀ w', R w' → K w') : RunU P s w K := by
  obtain ⟨w', h1, h2⟩ := h
  exact ⟨w', h1, hk w' h2⟩
theorem rawOf {ρ : Operand → Value} {o : Oper} {v : Value} {w' : World} {K : Value → World → Prop} (h : (execOp ρ o).run P w = .ok (.value v) w') (hk : K v w') : Raw P ρ o w K := ⟨v, w', h, hk⟩

/-- a row of single cells, at the head of a block -/
theorem row1 {α : Type} {f : α → Value} {b lo hi cap n : Nat} {cs : List Value} {xs : List α} {fr : Nat × Nat} (h : w.heap[b]? = some (.cells cs.toArray t fr)) (hp : cs.take xs.length = xs.map f) (hn : n = xs.length) (hc : n ≤ cap) (h1 : lo ≤ b) (h2 : b < hi) :
    RowE (fun _ c x => c = [f x]) 1 lo hi w (.slice (some ⟨b, 0, none⟩) n cap) xs := by
  subst hn
  refine ⟨_, cap, rfl, hc, fun i x hx => ⟨b, 0, rfl, h1, h2, [f x], rfl, ?_, rfl⟩⟩
  intro j v hv
  cases j with
  | succ j => simp at hv
  | zero =>
    simp at hv
    subst hv
    rw [cell_of_row w b _ _ t _ h]
    have hi := (List.getElem?_eq_some_iff.1 hx).1
    have := congrArg (fun l => l[i]?) hp
    simp only [List.getElem?_take, if_pos hi, List.getElem?_map, hx, Option.map_some] at this
    simpa using this

/-- a row of single cells, each of which is told -/
theorem row1R {α : Type} {E : World → List Value → α → Prop} {b lo hi cap n : Nat} {cs : List Value} {xs : List α} {fr : Nat × Nat} (h : w.heap[b]? = some (.cells cs.toArray t fr)) (hp : ∀ (i : Nat) (x : α), xs[i]? = some x → ∃ u, cs[i]? = some u ∧ E w [u] x) (hn : n = xs.length) (hc : n ≤ cap) (h1 : lo ≤ b) (h2 : b < hi) :
    RowE E 1 lo hi w (.slice (some ⟨b, 0, none⟩) n cap) xs := by
  subst hn
  refine ⟨_, cap, rfl, hc, fun i x hx => ?_⟩
  obtain ⟨u, hu, he⟩ := hp i x hx
  refine ⟨b, 0, rfl, h1, h2, [u], rfl, ?_, he⟩
  intro j v hv
  cases j with
  | succ j => simp at hv
  | zero =>
    simp at hv
    subst hv
    rw [cell_of_row w b _ _ t _ h]
    simpa using hu

end
end Go.Au
