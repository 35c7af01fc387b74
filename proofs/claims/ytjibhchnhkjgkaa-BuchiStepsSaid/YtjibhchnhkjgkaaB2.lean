/- Own text of this workplace: a part of the proofs of this place's statements. -/
import Derived.Test.YtjibhchnhkjgkaaB1
import Derived.Test.YtjibhchnhkjgkaaA7
set_option linter.unusedVariables false
set_option linter.unusedSimpArgs false
set_option linter.unusedSectionVars false
namespace Go.Au
open Go Go.RowKit Go.MapKept
open Go.Maps (Keyed)

abbrev Strs := RowE (fun _ cs (x : ByteArray) => cs = [.string x]) 1
def badByte (c : UInt8) : Bool := decide ((c.toNat : Int) < 32) || decide (126 < (c.toNat : Int)) || decide ((c.toNat : Int) = 34) || decide ((c.toNat : Int) = 92)
def nameOk (s : ByteArray) : Bool := decide (1 ≤ s.size) && decide (s.size ≤ 32) && s.data.toList.all fun c => !badByte c
def namesOk (l : List ByteArray) : Bool := decide l.Nodup && l.all nameOk && decide (l.length ≤ 8)

theorem strKeyed : Keyed Proofs.Try.prog 9 := Maps.string_keyed Proofs.Try.underlying9
theorem strKey {s : ByteArray} (h : s.size ≤ 32) : ∃ lit, keyOf Proofs.Try.prog 9 (.string s) = some lit := ⟨_, WideMaps.keyOf_string_mk Proofs.Try.underlying9 (by simp only [maxLen]; omega)⟩

theorem alook_ones {l : List ByteArray} {s : ByteArray} (h : s ∈ l) : alook (l.map fun s => (s, (1 : Int))) s = some 1 := by
  induction l with
  | nil => simp at h
  | cons a r ih =>
    simp only [List.map_cons, alook]
    by_cases h' : a = s
    · rw [if_pos h']
    · rw [if_neg h', ih ((List.mem_cons.1 h).resolve_left (Ne.symm h'))]
theorem alook_zeros {l : List ByteArray} {s : ByteArray} (h : s ∉ l) : alook (l.map fun s => (s, (1 : Int))) s = none :=
  alook_none fun p hp he => by
    obtain ⟨x, hx, rfl⟩ := List.mem_map.1 hp
    exact h (he ▸ hx)

theorem isNames_c {w : World} {lo hi : Nat} {v : Value} {l : List ByteArray} (h : Strs lo hi w v l) (hl : l.length < 4611686018427387904) :
    Calls Proofs.Try.prog 50 [v].toArray w (Ret fun r w' => r = .bool (namesOk l) ∧ Kp w w') := by
  obtain ⟨a, cap, rfl, hcap, hx⟩ := h
  refine call agree Proofs.Try.func50 rfl Proofs.Try.ntmps50 (by kernel_rfl) ?_
  refine nd fun m w1 e1 e2 k1 hm => ?_
  refine loop agree (σ := Nat) (fun i => [(0, .slice a l.length cap), (3, .map (some m)), (8, .slice a l.length cap), (9, .int .i64 l.length), (10, .int .i64 i)])
    (fun i w' => Chg (fun b => b = m) w1 w' ∧ i ≤ l.length ∧ (l.take i).Nodup ∧ (l.take i).all nameOk = true ∧ MapE Proofs.Try.prog 9 (fun s => .string s) (fun n : Int => .int .i64 n) w' m ((l.take i).map fun s => (s, (1 : Int)))) (fun i => l.length - i) 0
    ⟨rfl, rfl, rfl, rfl, rfl, trivial⟩ ⟨Chg.refl _ _, by omega, by simp, by simp, MapE.made hm fun x y h => by injection h⟩ ?_
  rintro i e0 w2 ⟨hk, hi, hnd, hall, hme⟩
  have hkp : Kp w w2 := ⟨hk.os.trans k1.os, hk.tape.trans k1.tape, hk.output.trans k1.output, Nat.le_trans k1.size hk.size, fun b hb _ => (hk.block b (by have := k1.size; omega) (by omega)).trans (k1.block b hb id)⟩
  refine sp (fun h1 => ?_) (fun h1 => ?_)
  · have hi' : i < l.length := by omega
    obtain ⟨b, o, rfl, -, hhi, cs, hcs, hrd, rfl⟩ := hx i l[i] (by simp)
    have htk : l.take (i + 1) = l.take i ++ [l[i]] := by simp
    refine ne ⟨by omega, h1⟩ ?_
    refine ld agree (hkp.range hrd id) rfl ?_
    have bad : nameOk l[i] = false → namesOk l = false := fun hb => by
      simp only [namesOk, Bool.and_eq_false_iff]
      refine .inl (.inr ?_)
      rw [List.all_eq_false]
      exact ⟨l[i], by simp, by simp [hb]⟩
    refine sp (fun h2 => ?_) (fun h2 => ?_)
    · exact ⟨congrArg Value.bool (bad (by simp only [nameOk]; rw [decide_eq_false (by omega)]; rfl)).symm, hkp⟩
    · refine sp (fun h3 => ?_) (fun h3 => ?_)
      · exact ⟨congrArg Value.bool (bad (by simp only [nameOk]; rw [decide_eq_false (p := l[i].size ≤ 32) (by omega)]; simp)).symm, hkp⟩
      · have hlk := MapE.lookup agree strKeyed (t := 120) rfl rfl rfl hme l[i] (strKey (by omega)) false
        by_cases hin : l[i] ∈ l.take i
        · rw [alook_ones hin] at hlk
          refine lk hlk ?_
          refine spT (by decide) ?_
          refine ⟨congrArg Value.bool ?_, hkp⟩
          simp only [namesOk]
          rw [decide_eq_false]
          · rfl
          · intro hn
            have hn' : (l.take (i + 1)).Nodup := hn.sublist (List.take_sublist _ _)
            rw [htk, List.nodup_append] at hn'
            exact hn'.2.2 _ hin _ (by simp) rfl
        · rw [alook_zeros hin] at hlk
          refine lk hlk ?_
          refine spF (by decide) ?_
          refine lk hlk ?_
          refine ar ?_
          refine mu (MapE.update agree strKeyed (t := 120) rfl rfl hme l[i] 1 (strKey (by omega))) ?_
          rintro w3 ⟨hme3, hs3, hc3⟩
          rw [aput_new (fun p hp he => by
            obtain ⟨s, hs, rfl⟩ := List.mem_map.1 hp
            exact hin (he ▸ hs)), show (l.take i).map (fun s => (s, (1 : Int))) ++ [(l[i], 1)] = (l.take (i + 1)).map fun s => (s, (1 : Int)) by rw [htk, List.map_append]; rfl] at hme3
          have hk3 := hk.trans hc3
          have hkp3 : Kp w w3 := ⟨hc3.os.trans hkp.os, hc3.tape.trans hkp.tape, hc3.output.trans hkp.output, Nat.le_trans hkp.size hc3.size, fun b hb _ => (hc3.block b (by have := hkp.size; omega) (by omega)).trans (hkp.block b hb id)⟩
          refine loop agree (σ := Nat) (fun j => [(0, .slice (some ⟨b, o, none⟩) l.length cap), (3, .map (some m)), (5, .string l[i]), (8, .slice (some ⟨b, o, none⟩) l.length cap), (9, .int .i64 l.length), (10, .int .i64 i), (33, .int .i64 l[i].size), (34, .int .i64 j)])
            (fun j w' => w' = w3 ∧ j ≤ l[i].size ∧ (l[i].data.toList.take j).all (fun c => !badByte c) = true) (fun j => l[i].size - j) 0 ⟨rfl, rfl, rfl, rfl, rfl, rfl, rfl, rfl, trivial⟩ ⟨rfl, by omega, by simp⟩ ?_
          rintro j e1 w4 ⟨rfl, hj, hja⟩
          refine sp (fun h4 => ?_) (fun h4 => ?_)
          · have hj' : j < l[i].size := by omega
            have hjt : l[i].data.toList.take (j + 1) = l[i].data.toList.take j ++ [l[i][j]] := by
              rw [List.take_succ_eq_append_getElem (by simpa using hj')]
              rfl
            have badb : badByte l[i][j] = true → namesOk l = false := fun hb => bad (by
              simp only [nameOk, Bool.and_eq_false_iff]
              refine .inr ?_
              rw [List.all_eq_false]
              exact ⟨l[i][j], by
                have : l[i][j] ∈ l[i].data.toList.take (j + 1) := by rw [hjt]; simp
                exact List.mem_of_mem_take this, by simp [hb]⟩)
            refine ixS agree rfl rfl rfl rfl hj' ?_
            refine sp (fun h5 => ?_) (fun h5 => ?_)
            · exact ⟨congrArg Value.bool (badb (by simp [badByte, h5])).symm, hkp3⟩
            refine ixS agree rfl rfl rfl rfl hj' ?_
            refine sp (fun h6 => ?_) (fun h6 => ?_)
            · exact ⟨congrArg Value.bool (badb (by simp [badByte, h6])).symm, hkp3⟩
            refine ixS agree rfl rfl rfl rfl hj' ?_
            refine sp (fun h7 => ?_) (fun h7 => ?_)
            · exact ⟨congrArg Value.bool (badb (by simp [badByte, h7])).symm, hkp3⟩
            refine ixS agree rfl rfl rfl rfl hj' ?_
            refine sp (fun h8 => ?_) (fun h8 => ?_)
            · exact ⟨congrArg Value.bool (badb (by simp [badByte, h8])).symm, hkp3⟩
            refine aw (by omega) (by omega) ?_
            refine again (j + 1) ⟨rfl, rfl, rfl, rfl, rfl, rfl, rfl, rfl, trivial⟩ ⟨rfl, by omega, ?_⟩ (by omega)
            rw [hjt, List.all_append, hja]
            simp [badByte, h5, h6, h7, h8]
          · refine aw (by omega) (by omega) ?_
            refine again (i + 1) ⟨rfl, rfl, rfl, rfl, rfl, trivial⟩ ⟨hk3, by omega, ?_, ?_, hme3⟩ (by omega)
            · rw [htk, List.nodup_append]
              refine ⟨hnd, by simp, fun x hx y hy he => ?_⟩
              simp at hy
              exact hin (hy ▸ he ▸ hx)
            · rw [htk, List.all_append, hall]
              have : l[i].data.toList.take j = l[i].data.toList := List.take_of_length_le (by
                have : l[i].data.toList.length = l[i].size := Array.length_toList
                omega)
              rw [this] at hja
              simp only [List.all_cons, List.all_nil, Bool.and_true, Bool.true_and, nameOk, hja]
              rw [decide_eq_true (by omega), decide_eq_true (by omega)]
              rfl
  · have : l.take i = l := List.take_of_length_le (by omega)
    rw [this] at hnd hall
    refine sp (fun h2 => ?_) (fun h2 => ?_)
    · exact ⟨congrArg Value.bool (by unfold namesOk; rw [hall, decide_eq_true hnd, decide_eq_true (by omega)]; rfl), hkp⟩
    · exact ⟨congrArg Value.bool (by unfold namesOk; rw [hall, decide_eq_true hnd, decide_eq_false (by omega)]; rfl), hkp⟩
end Go.Au
