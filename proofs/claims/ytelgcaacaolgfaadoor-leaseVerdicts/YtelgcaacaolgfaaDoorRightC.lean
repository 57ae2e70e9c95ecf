/-
  A right text: the code.
-/
import Derived.Test.YtelgcaacaolgfaaDoorDigC
namespace Go.Proofs.YtelgcaacaolgfaaDoor
open Go Go.CM
set_option maxRecDepth 100000
set_option maxHeartbeats 4000000

theorem sright_prog (s : List UInt8) (most : Nat) : CallsN Tryd.prog nsign_Right [.str s, .int .i64 most] [] fun v _ => v = .bool (decide (rightP s.length most ((sgs s 0).map (·.1)))) := by
  refine ssign_Right fun H hh => ?_
  dsimp only [csign_Right]
  refine walk (k := ?_)
  repeat' first | refine And.intro ?_ ?_ | intro
  all_goals refine leaf ?_
  · rename_i he
    subst he
    exact CEnds.mk hh ⟨[], congrArg V.bool (decide_eq_false (by rintro ⟨⟨h, _⟩, _⟩; exact absurd h (by decide))).symm, rfl⟩
  · exact CEnds.mk hh ⟨[], congrArg V.bool (decide_eq_false (by omega)).symm, rfl⟩
  rename_i hne hle it _ hh
  have hp : 0 < s.length := List.length_pos_iff.2 hne
  refine loopM [16] (fun m vs L => ∃ p : Nat, ((∀ x : Nat, x ∈ (sgs s 0).map (·.1) → srtI x ≠ 0) ↔ ∀ x : Nat, x ∈ (sgs s p).map (·.1) → srtI x ≠ 0) ∧ m = s.length - p ∧ vs = [.ptr it 0] ∧ L = [(it, .siter s p)])
    (Nx.intro (i := s.length) trivial ⟨0, Iff.rfl, rfl, rfl, rfl⟩) ?_
  clear hh
  rintro m _ _ e H ⟨p, ho, rfl, rfl, rfl⟩ hh
  simp only [puts]
  refine walk1 (k := ?_)
  repeat' first | refine And.intro ?_ ?_ | intro
  all_goals refine leaf ?_
  by_cases hn : p < s.length
  · refine wps_nextS hh rfl hn .here1 fun H' hh => ?_
    rw [decS_first hn] at hh ⊢
    rw [sgs_lt hn, List.map_cons, List.forall_mem_cons] at ho
    have h2 := sort_prog ((firstS (s.drop p)).1 : Nat)
    have h3 := firstS_pos (s.drop p)
    refine walk1 (k := ?_)
    repeat' first | refine And.intro ?_ ?_ | intro
    all_goals refine leaf ?_
    refine callE (h2) ?_
    refine walk1 (k := ?_)
    repeat' first | refine And.intro ?_ ?_ | intro
    all_goals refine leaf ?_
    refine walk (k := ?_)
    repeat' first | refine And.intro ?_ ?_ | intro
    all_goals refine leaf ?_
    · refine CEnds.mk hh ⟨_, congrArg V.bool (decide_eq_false ?_).symm, (List.append_nil _).symm⟩
      rintro ⟨_, h⟩
      exact (ho.1 h).1 (by assumption)
    · exact Nx.intro (i := s.length - (p + (firstS (s.drop p)).2)) (by omega) ⟨p + (firstS (s.drop p)).2, ho.trans ⟨fun h => h.2, fun h => ⟨by assumption, h⟩⟩, rfl, rfl, rfl⟩
  · refine wps_nextSn hh rfl (by omega) .here ?_
    refine walk1 (k := ?_)
    repeat' first | refine And.intro ?_ ?_ | intro
    all_goals refine leaf ?_
    refine CEnds.mk hh ⟨_, congrArg V.bool (decide_eq_true ⟨by omega, ho.2 ?_⟩).symm, (List.append_nil _).symm⟩
    rw [sgs_ge (by omega)]
    simp
end Go.Proofs.YtelgcaacaolgfaaDoor
