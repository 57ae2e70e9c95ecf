/-
  Texts joined: A key: the reference. A key: the code. A digit. A letter, raised.
-/
import Derived.Test.YtjgcgepfidcihaaGreatDoorSignB
namespace Go.Proofs.YtjgcgepfidcihaaGreatDoor
open Go Go.CM
set_option maxRecDepth 100000
set_option maxHeartbeats 4000000

abbrev keySg (n : Nat) : Prop := srtI n = 2 ∨ srtI n = 3 ∨ n = 45 ∨ n = 95 ∨ n = 46
abbrev keyP (n : Nat) (l : List Nat) : Prop := (1 ≤ n ∧ n ≤ 24) ∧ ∀ x ∈ l, keySg x
theorem sgs_len (s : List UInt8) (p : Nat) : (sgs s p).length ≤ s.length - p := by
  by_cases h : p < s.length
  · rw [sgs_lt h, List.length_cons]
    have := sgs_len s (p + (firstS (s.drop p)).2)
    have := firstS_pos (s.drop p)
    omega
  · rw [sgs_ge (by omega)]; simp
termination_by s.length - p
decreasing_by (have := firstS_pos (s.drop p); omega)
theorem rkey_prog (s : List UInt8) (hs : s.length ≤ 1000000) : CallsR Tryz.prog nref05_Key [.str s] [] fun v => v = .bool (decide (keyP s.length ((sgs s 0).map (·.1)))) := by
  have h1 := signs_prog s hs
  have hl := sgs_len s 0
  generalize hS : sgs s 0 = S at *
  generalize hX : S.map (·.1) = X at *
  have hXl : X.length ≤ s.length := by rw [← hX, List.length_map]; omega
  refine sref05_Key fun H hh => ?_
  dsimp only [cref05_Key]
  refine walk (k := ?_)
  repeat' first | refine And.intro ?_ ?_ | intro
  all_goals refine leaf ?_
  · refine doneR (congrArg V.bool (decide_eq_false ?_).symm)
    omega
  · refine doneR (congrArg V.bool (decide_eq_false ?_).symm)
    omega
  refine callN (h1) ?_
  rintro v Lo H' ⟨a, b, rfl, rfl⟩ hh
  refine walk1 (k := ?_)
  repeat' first | refine And.intro ?_ ?_ | intro
  all_goals refine leaf ?_
  refine loopN [3, 5] X.length (fun i vs L => ((∀ x ∈ X, keySg x) ↔ ∀ x ∈ X.drop i, keySg x) ∧ vs = [.slice a 0 X.length 1, .int .i64 i] ∧ L = [(a, .cells true (X.flatMap natC)), (b, .cells true ((S.map (·.2)).flatMap natC))]) (Nx.here ⟨Iff.rfl, rfl, rfl⟩) ?_
  clear hh
  rintro i _ _ e H hi ⟨ho, rfl, rfl⟩ hh
  simp only [puts]
  refine walk1 (k := ?_)
  repeat' first | refine And.intro ?_ ?_ | intro
  all_goals refine leaf ?_
  by_cases hn : i < X.length
  · refine c_cond_t (by show V.bool _ = _; simp; omega) ?_
    have h2 := rsort_prog ((nth X i : Nat) : Int)
    refine walk1 (k := ?_)
    repeat' first | refine And.intro ?_ ?_ | intro
    all_goals refine leaf ?_
    refine callE (h2) ?_
    refine walk1 (k := ?_)
    repeat' first | refine And.intro ?_ ?_ | intro
    all_goals refine leaf ?_
    refine walk (k := ?_)
    repeat' first | refine And.intro ?_ ?_ | intro
    all_goals refine leaf ?_
    all_goals have hm : nth X i ∈ X := nth_mem hn
    · rename_i q1 q2 q3 q4 q5
      refine doneR (congrArg V.bool (decide_eq_false ?_).symm)
      rintro ⟨_, h⟩
      have := h _ hm
      omega
    all_goals
      have hk : keySg (nth X i) := by
        first
          | omega
          | (simp at *; omega)
      refine Nx.next (by omega) ⟨ho.trans ?_, rfl, rfl⟩
      rw [drop_getD hn, List.forall_mem_cons]
      exact ⟨fun h => h.2, fun h => ⟨hk, h⟩⟩
  · refine c_cond_f (by show V.bool _ = _; simp; omega) ?_
    refine walk1 (k := ?_)
    repeat' first | refine And.intro ?_ ?_ | intro
    all_goals refine leaf ?_
    refine doneR (congrArg V.bool (decide_eq_true ?_).symm)
    refine ⟨by omega, ho.2 ?_⟩
    rw [List.drop_of_length_le (by omega)]
    simp
end Go.Proofs.YtjgcgepfidcihaaGreatDoor

namespace Go.Proofs.YtjgcgepfidcihaaGreatDoor
open Go Go.CM
set_option maxRecDepth 100000
set_option maxHeartbeats 4000000

theorem key_prog (s : List UInt8) : CallsN Tryz.prog ncanon_Key [.str s] [] fun v _ => v = .bool (decide (keyP s.length ((sgs s 0).map (·.1)))) := by
  refine scanon_Key fun H hh => ?_
  dsimp only [ccanon_Key]
  refine walk (k := ?_)
  repeat' first | refine And.intro ?_ ?_ | intro
  all_goals refine leaf ?_
  · rename_i he
    subst he
    exact CEnds.mk hh ⟨[], congrArg V.bool (decide_eq_false (by rintro ⟨⟨h, _⟩, _⟩; exact absurd h (by decide))).symm, rfl⟩
  · exact CEnds.mk hh ⟨[], congrArg V.bool (decide_eq_false (by omega)).symm, rfl⟩
  rename_i hne hle it _ hh
  have hp : 0 < s.length := List.length_pos_iff.2 hne
  refine loopM [14] (fun m vs L => ∃ p : Nat, ((∀ x ∈ (sgs s 0).map (·.1), keySg x) ↔ ∀ x ∈ (sgs s p).map (·.1), keySg x) ∧ m = s.length - p ∧ vs = [.ptr it 0] ∧ L = [(it, .siter s p)])
    (Nx.intro (i := s.length) trivial ⟨0, Iff.rfl, rfl, rfl, rfl⟩) ?_
  clear hh
  rintro m _ _ e H ⟨p, ho, rfl, rfl, rfl⟩ hh
  simp only [puts]
  refine walk1 (k := ?_)
  repeat' first | refine And.intro ?_ ?_ | intro
  all_goals refine leaf ?_
  by_cases hn : p < s.length
  · refine wps_nextS hh rfl hn .here1 fun H' hh => ?_
    rw [decS_first hn] at hh ⊢
    rw [sgs_lt hn, List.map_cons, List.forall_mem_cons] at ho
    have h2 := sort_prog ((firstS (s.drop p)).1 : Nat)
    have h3 := firstS_pos (s.drop p)
    refine walk1 (k := ?_)
    repeat' first | refine And.intro ?_ ?_ | intro
    all_goals refine leaf ?_
    refine callE (h2) ?_
    refine walk1 (k := ?_)
    repeat' first | refine And.intro ?_ ?_ | intro
    all_goals refine leaf ?_
    refine walk (k := ?_)
    repeat' first | refine And.intro ?_ ?_ | intro
    all_goals refine leaf ?_
    all_goals first
      | (refine Nx.intro (i := s.length - (p + (firstS (s.drop p)).2)) (by omega) ⟨p + (firstS (s.drop p)).2, ho.trans ⟨fun h => h.2, fun h => ⟨?_, h⟩⟩, rfl, rfl, rfl⟩
         show keySg (firstS (s.drop p)).1
         first
           | omega
           | (simp at *; omega))
      | (refine CEnds.mk hh ⟨_, congrArg V.bool (decide_eq_false ?_).symm, (List.append_nil _).symm⟩
         rintro ⟨_, h⟩
         have : keySg (firstS (s.drop p)).1 := (ho.1 h).1
         omega)
  · refine wps_nextSn hh rfl (by omega) .here ?_
    refine walk1 (k := ?_)
    repeat' first | refine And.intro ?_ ?_ | intro
    all_goals refine leaf ?_
    refine CEnds.mk hh ⟨_, congrArg V.bool (decide_eq_true ⟨by omega, ho.2 ?_⟩).symm, (List.append_nil _).symm⟩
    rw [sgs_ge (by omega)]
    simp
end Go.Proofs.YtjgcgepfidcihaaGreatDoor

namespace Go.Proofs.YtjgcgepfidcihaaGreatDoor
open Go Go.CM
set_option maxRecDepth 100000
set_option maxHeartbeats 4000000

def digI (c : Int) : Int := if 48 ≤ c ∧ c ≤ 57 then c - 48 else if 65 ≤ c ∧ c ≤ 70 then c - 55 else if 97 ≤ c ∧ c ≤ 102 then c - 87 else -1
theorem rdigit_prog (c : Int) (h0 : 0 ≤ c) (h1 : c < 256) : CallsR Tryz.prog nref05_digit [.int .u8 c] [] fun v => v = .int .i64 (digI c) := by
  unfold digI
  refine sref05_digit fun H hh => ?_
  dsimp only [cref05_digit]
  refine walk (k := ?_)
  repeat' first | refine And.intro ?_ ?_ | intro
  all_goals refine leaf ?_
  all_goals refine doneR (congrArg (V.int .i64) ?_)
  all_goals repeat' split
  all_goals omega
end Go.Proofs.YtjgcgepfidcihaaGreatDoor

namespace Go.Proofs.YtjgcgepfidcihaaGreatDoor
open Go Go.CM
set_option maxRecDepth 100000
set_option maxHeartbeats 4000000

theorem V2 {a a' : Int} {b b' : Bool} (h1 : a = a') (h2 : b = b') : V.tup [.int .u8 a, .bool b] = V.tup [.int .u8 a', .bool b'] := by rw [h1, h2]
theorem letter_prog (c : Int) (h0 : 0 ≤ c) (h1 : c < 256) : CallsR Tryz.prog ncanon_letter [.int .u8 c] [] fun v => v = .tup [.int .u8 (if 97 ≤ c ∧ c ≤ 122 then c - 32 else c), .bool (decide (65 ≤ c ∧ c ≤ 90 ∨ 97 ≤ c ∧ c ≤ 122))] := by
  refine scanon_letter fun H hh => ?_
  dsimp only [ccanon_letter]
  refine walk (k := ?_)
  repeat' first | refine And.intro ?_ ?_ | intro
  all_goals refine leaf ?_
  all_goals refine doneR (V2 ?_ ?_)
  all_goals first
    | (rw [Bool.eq_iff_iff]; simp; omega)
    | (split <;> omega)
    | omega
end Go.Proofs.YtjgcgepfidcihaaGreatDoor
