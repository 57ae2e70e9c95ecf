/-
  Texts joined: A key: the reference. A key: the code. A digit. A letter, raised.
-/
import Derived.Test.YtjgcgepfidcihaaGreatDoorSignB
namespace Go.Proofs.YtjgcgepfidcihaaGreatDoor
open Go Go.CM
set_option maxRecDepth 100000
set_option maxHeartbeats 4000000

abbrev keySg (n : Nat) : Prop := srtI n = 2 ∨ srtI n = 3 ∨ n = 45 ∨ n = 95 ∨ n = 46
abbrev keyP (n : Nat) (l : List Nat) : Prop := (1 ≤ n ∧ n ≤ 24) ∧ ∀ x ∈ l, keySg x
end Go.Proofs.YtjgcgepfidcihaaGreatDoor

namespace Go.Proofs.YtjgcgepfidcihaaGreatDoor
open Go Go.CM
set_option maxRecDepth 100000
set_option maxHeartbeats 4000000

theorem key_prog (s : List UInt8) : CallsN Tryz.prog ncanon_Key [.str s] [] fun v _ => v = .bool (decide (keyP s.length ((sgs s 0).map (·.1)))) := by
  refine scanon_Key fun H hh => ?_
  dsimp only [ccanon_Key]
  refine walk (k := ?_)
  repeat' first | refine And.intro ?_ ?_ | intro
  all_goals refine leaf ?_
  · rename_i he
    subst he
    exact CEnds.mk hh ⟨[], congrArg V.bool (decide_eq_false (by rintro ⟨⟨h, _⟩, _⟩; exact absurd h (by decide))).symm, rfl⟩
  · exact CEnds.mk hh ⟨[], congrArg V.bool (decide_eq_false (by omega)).symm, rfl⟩
  rename_i hne hle it _ hh
  have hp : 0 < s.length := List.length_pos_iff.2 hne
  refine loopM [14] (fun m vs L => ∃ p : Nat, ((∀ x ∈ (sgs s 0).map (·.1), keySg x) ↔ ∀ x ∈ (sgs s p).map (·.1), keySg x) ∧ m = s.length - p ∧ vs = [.ptr it 0] ∧ L = [(it, .siter s p)])
    (Nx.intro (i := s.length) trivial ⟨0, Iff.rfl, rfl, rfl, rfl⟩) ?_
  clear hh
  rintro m _ _ e H ⟨p, ho, rfl, rfl, rfl⟩ hh
  simp only [puts]
  refine walk1 (k := ?_)
  repeat' first | refine And.intro ?_ ?_ | intro
  all_goals refine leaf ?_
  by_cases hn : p < s.length
  · refine wps_nextS hh rfl hn .here1 fun H' hh => ?_
    rw [decS_first hn] at hh ⊢
    rw [sgs_lt hn, List.map_cons, List.forall_mem_cons] at ho
    have h2 := sort_prog ((firstS (s.drop p)).1 : Nat)
    have h3 := firstS_pos (s.drop p)
    refine walk1 (k := ?_)
    repeat' first | refine And.intro ?_ ?_ | intro
    all_goals refine leaf ?_
    refine callE (h2) ?_
    refine walk1 (k := ?_)
    repeat' first | refine And.intro ?_ ?_ | intro
    all_goals refine leaf ?_
    refine walk (k := ?_)
    repeat' first | refine And.intro ?_ ?_ | intro
    all_goals refine leaf ?_
    all_goals first
      | (refine Nx.intro (i := s.length - (p + (firstS (s.drop p)).2)) (by omega) ⟨p + (firstS (s.drop p)).2, ho.trans ⟨fun h => h.2, fun h => ⟨?_, h⟩⟩, rfl, rfl, rfl⟩
         show keySg (firstS (s.drop p)).1
         first
           | omega
           | (simp at *; omega))
      | (refine CEnds.mk hh ⟨_, congrArg V.bool (decide_eq_false ?_).symm, (List.append_nil _).symm⟩
         rintro ⟨_, h⟩
         have : keySg (firstS (s.drop p)).1 := (ho.1 h).1
         omega)
  · refine wps_nextSn hh rfl (by omega) .here ?_
    refine walk1 (k := ?_)
    repeat' first | refine And.intro ?_ ?_ | intro
    all_goals refine leaf ?_
    refine CEnds.mk hh ⟨_, congrArg V.bool (decide_eq_true ⟨by omega, ho.2 ?_⟩).symm, (List.append_nil _).symm⟩
    rw [sgs_ge (by omega)]
    simp
end Go.Proofs.YtjgcgepfidcihaaGreatDoor

namespace Go.Proofs.YtjgcgepfidcihaaGreatDoor
open Go Go.CM
set_option maxRecDepth 100000
set_option maxHeartbeats 4000000

def digI (c : Int) : Int := if 48 ≤ c ∧ c ≤ 57 then c - 48 else if 65 ≤ c ∧ c ≤ 70 then c - 55 else if 97 ≤ c ∧ c ≤ 102 then c - 87 else -1
end Go.Proofs.YtjgcgepfidcihaaGreatDoor

namespace Go.Proofs.YtjgcgepfidcihaaGreatDoor
open Go Go.CM
set_option maxRecDepth 100000
set_option maxHeartbeats 4000000

theorem V2 {a a' : Int} {b b' : Bool} (h1 : a = a') (h2 : b = b') : V.tup [.int .u8 a, .bool b] = V.tup [.int .u8 a', .bool b'] := by rw [h1, h2]
theorem letter_prog (c : Int) (h0 : 0 ≤ c) (h1 : c < 256) : CallsR Tryz.prog ncanon_letter [.int .u8 c] [] fun v => v = .tup [.int .u8 (if 97 ≤ c ∧ c ≤ 122 then c - 32 else c), .bool (decide (65 ≤ c ∧ c ≤ 90 ∨ 97 ≤ c ∧ c ≤ 122))] := by
  refine scanon_letter fun H hh => ?_
  dsimp only [ccanon_letter]
  refine walk (k := ?_)
  repeat' first | refine And.intro ?_ ?_ | intro
  all_goals refine leaf ?_
  all_goals refine doneR (V2 ?_ ?_)
  all_goals first
    | (rw [Bool.eq_iff_iff]; simp; omega)
    | (split <;> omega)
    | omega
end Go.Proofs.YtjgcgepfidcihaaGreatDoor
