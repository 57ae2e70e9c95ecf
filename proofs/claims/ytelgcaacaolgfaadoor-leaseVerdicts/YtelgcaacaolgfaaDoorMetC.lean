/-
  A method: the code.
-/
import Derived.Test.YtelgcaacaolgfaaDoorMetR
namespace Go.Proofs.YtelgcaacaolgfaaDoor
open Go Go.CM
set_option maxRecDepth 100000
set_option maxHeartbeats 4000000

theorem upB_int (c : UInt8) : (if 97 ≤ (c.toNat : Int) ∧ (c.toNat : Int) ≤ 122 then (c.toNat : Int) - 32 else (c.toNat : Int)) = ((upB c).toNat : Int) := by
  by_cases h : 97 ≤ c.toNat ∧ c.toNat ≤ 122
  · rw [if_pos (by omega)]
    have := up_sub h
    simp only [List.flatMap_cons, List.flatMap_nil, byteC, List.append_nil, List.cons.injEq, V.int.injEq] at this
    exact this.1.2
  · rw [if_neg (by omega), upB, if_neg h]
theorem letterB_prog (c : UInt8) : CallsR Tryd.prog ncanon_letter [.int .u8 c.toNat] [] fun v => v = .tup [.int .u8 (upB c).toNat, .bool (decide (isL c))] := by
  have h := letter_prog c.toNat (by omega) (by have := UInt8.toNat_lt c; omega)
  rw [upB_int] at h
  have e : decide (65 ≤ (c.toNat : Int) ∧ (c.toNat : Int) ≤ 90 ∨ 97 ≤ (c.toNat : Int) ∧ (c.toNat : Int) ≤ 122) = decide (isL c) := by
    rw [decide_eq_decide]; omega
  rw [e] at h
  exact h
theorem method_prog (s : List UInt8) : CallsR Tryd.prog ncanon_Method [.str s] [] fun v => v = metV s := by
  refine scanon_Method fun H hh => ?_
  dsimp only [ccanon_Method]
  refine walk (k := ?_)
  repeat' first | refine And.intro ?_ ?_ | intro
  all_goals refine leaf ?_
  · rename_i he
    subst he
    exact doneR rfl
  · exact doneR (if_neg (by omega)).symm
  rename_i hne hle b _ hh
  have hp : 0 < s.length := List.length_pos_iff.2 hne
  refine loopM [0, 4, 16, 17] (fun m vs L => ∃ i : Nat, (∀ c ∈ s.take i, isL c) ∧ i ≤ s.length ∧ m = s.length - i ∧ vs = [.str s, BldV b, .int .i64 (s.length : Nat), .int .i64 i] ∧ BldO b ((s.take i).map upB) L)
    (Nx.intro (i := s.length) trivial ⟨0, by simp, Nat.zero_le _, rfl, rfl, .inl ⟨rfl, _, .inl rfl, rfl⟩⟩) ?_
  clear hh
  rintro m _ L e H ⟨i, ha, hi, rfl, rfl, hb⟩ hh
  simp only [puts]
  have hl := letterB_prog (s.getD i 0)
  have et : i < s.length → s.take (i + 1) = s.take i ++ [s.getD i 0] := fun h => by rw [List.take_add_one, List.getD_eq_getElem?_getD, List.getElem?_eq_getElem h]; rfl
  refine walk (k := ?_)
  repeat' first | refine And.intro ?_ ?_ | intro
  all_goals refine leaf ?_
  · by_cases hc : isL (s.getD i 0)
    · rw [decide_eq_true hc] at hl
      refine callE (hl) ?_
      refine walk1 (k := ?_)
      repeat' first | refine And.intro ?_ ?_ | intro
      all_goals refine leaf ?_
      refine callL (wb_prog b _ L (upB (s.getD i 0)) hb (by rw [List.length_map, List.length_take]; omega)) ?_
      rintro v L' H' ⟨rfl, hb'⟩ hh
      have et := et (by omega)
      have em : (s.take i).map upB ++ [upB (s.getD i 0)] = (s.take (i + 1)).map upB := by rw [et, List.map_append]; rfl
      rw [em] at hb'
      refine walk1 (k := ?_)
      repeat' first | refine And.intro ?_ ?_ | intro
      all_goals refine leaf ?_
      refine Nx.intro (i := s.length - (i + 1)) (by omega) ⟨i + 1, ?_, by omega, rfl, rfl, hb'⟩
      intro c h
      rw [et, List.mem_append, List.mem_singleton] at h
      rcases h with h | rfl
      · exact ha c h
      · exact hc
    · rw [decide_eq_false hc] at hl
      refine callE (hl) ?_
      refine walk1 (k := ?_)
      repeat' first | refine And.intro ?_ ?_ | intro
      all_goals refine leaf ?_
      refine doneR (if_neg ?_).symm
      rintro ⟨_, h⟩
      exact hc (h _ (by rw [List.getD_eq_getElem?_getD, List.getElem?_eq_getElem (by omega)]; exact List.getElem_mem _))
  · have ht : s.take i = s := List.take_of_length_le (by omega)
    rw [ht] at ha hb
    refine callL (str_prog b _ L hb (by rw [List.length_map]; omega)) ?_
    rintro v L' H' ⟨rfl, rfl⟩ hh
    refine walk1 (k := ?_)
    repeat' first | refine And.intro ?_ ?_ | intro
    all_goals refine leaf ?_
    exact doneR (if_pos ⟨by omega, ha⟩).symm
end Go.Proofs.YtelgcaacaolgfaaDoor
