/-
  A part's bytes: the code.
-/
import Derived.Test.YtelgcaacaolgfaaDoorRightC
namespace Go.Proofs.YtelgcaacaolgfaaDoor
open Go Go.CM
set_option maxRecDepth 100000
set_option maxHeartbeats 4000000

theorem ne37 {c : UInt8} (h : ¬ ((c.toNat : Nat) : Int) = 37) : c ≠ 37 := fun e => h (by rw [e]; rfl)
theorem eq37 {c : UInt8} (h : ((c.toNat : Nat) : Int) = 37) : c = 37 := UInt8.toNat_inj.1 (by show c.toNat = 37; omega)
theorem readV_none {s : List UInt8} (h : readP s 0 = none) : readV s = .tup [.str [], .bool false] := by rw [readV, h]
theorem readV_some {s o : List UInt8} (h : readP s 0 = some o) : readV s = .tup [.str o, .bool (decide (okL o))] := by rw [readV, h]
theorem shl4 : ∀ n : Nat, n < 16 → IntKind.i64.wrap ((n : Int) * 2 ^ min (Int.toNat 4) IntKind.i64.bits) = ((n * 16 : Nat) : Int) := by decide +kernel
theorem or16 : ∀ a : Nat, a < 16 → ∀ b : Nat, b < 16 → IntKind.u8.wrap (IntKind.i64.wrap (BitVec.ofInt IntKind.i64.bits ((a * 16 : Nat) : Int) ||| BitVec.ofInt IntKind.i64.bits (b : Int)).toNat) = ((UInt8.ofNat (a * 16 + b)).toNat : Nat) := by decide +kernel
theorem read_prog (s : List UInt8) (hs : s.length ≤ 1000000) : CallsN Tryd.prog ncanon_read [.str s] [] fun v _ => v = readV s := by
  refine scanon_read fun H hh => ?_
  dsimp only [ccanon_read]
  refine walk (k := ?_)
  repeat' first | refine And.intro ?_ ?_ | intro
  all_goals refine leaf ?_
  rename_i b _ hh
  refine loopM [0, 4, 5] (fun m vs L => ∃ (i : Nat) (out : List UInt8), readP s 0 = (readP s i).map (out ++ ·) ∧ out.length ≤ i ∧ i ≤ s.length ∧ m = s.length - i ∧ vs = [.str s, BldV b, .int .i64 (i : Nat)] ∧ BldO b out L)
    (Nx.intro (i := s.length) trivial ⟨0, [], by cases readP s 0 <;> rfl, Nat.le_refl _, Nat.zero_le _, rfl, rfl, .inl ⟨rfl, _, .inl rfl, rfl⟩⟩) ?_
  clear hh
  rintro m _ L e H ⟨i, out, ho, hl, hi, rfl, rfl, hb⟩ hh
  simp only [puts]
  refine walk (k := ?_)
  repeat' first | refine And.intro ?_ ?_ | intro
  all_goals refine leaf ?_
  · refine callL (wb_prog b out L (s.getD i 0) hb (by omega)) ?_
    rintro v L' H' ⟨rfl, hb'⟩ hh
    refine walk1 (k := ?_)
    repeat' first | refine And.intro ?_ ?_ | intro
    all_goals refine leaf ?_
    exact Nx.intro (i := s.length - (i + 1)) (by omega) ⟨i + 1, out ++ [s.getD i 0], by rw [ho, readP_at (by omega) (ne37 ‹_›), map_cat], by simp; omega, by omega, rfl, rfl, hb'⟩
  · rename_i h1 h2 h3
    refine CEnds.mk hh ⟨_, (readV_none ?_).symm, (List.append_nil _).symm⟩
    rw [ho, readP_bad (by omega) (eq37 h2) (by omega)]
    rfl
  · rename_i h1 h2 h3
    have d1 := cdigit_prog (s.getD (i + 1) 0)
    have d2 := cdigit_prog (s.getD (i + 2) 0)
    refine callE (d1) ?_
    refine walk (k := ?_)
    repeat' first | refine And.intro ?_ ?_ | intro
    all_goals refine leaf ?_
    · refine CEnds.mk hh ⟨_, (readV_none ?_).symm, (List.append_nil _).symm⟩
      rw [ho, readP_bad (by omega) (eq37 h2) (by omega)]
      rfl
    refine callE (d2) ?_
    refine walk (k := ?_)
    repeat' first | refine And.intro ?_ ?_ | intro
    all_goals refine leaf ?_
    · refine CEnds.mk hh ⟨_, (readV_none ?_).symm, (List.append_nil _).symm⟩
      rw [ho, readP_bad (by omega) (eq37 h2) (by omega)]
      rfl
    rename_i g1 g2
    obtain ⟨n1, e1⟩ : ∃ n : Nat, digI (s.getD (i + 1) 0).toNat = n := ⟨_, (Int.toNat_of_nonneg (by omega)).symm⟩
    obtain ⟨n2, e2⟩ : ∃ n : Nat, digI (s.getD (i + 2) 0).toNat = n := ⟨_, (Int.toNat_of_nonneg (by omega)).symm⟩
    have b1 := digI_le (s.getD (i + 1) 0).toNat
    have b2 := digI_le (s.getD (i + 2) 0).toNat
    have ep : pairB (s.getD (i + 1) 0) (s.getD (i + 2) 0) = UInt8.ofNat (n1 * 16 + n2) := by rw [pairB, e1, e2]; rfl
    have er := readP_hex (p := i) (by omega) (eq37 h2) (by omega) (by omega)
    rw [e1] at d1 b1
    rw [e2] at d2 b2
    refine callE (d1) ?_
    refine walk1 (k := ?_)
    repeat' first | refine And.intro ?_ ?_ | intro
    all_goals refine leaf ?_
    refine wps_slot (s := 47) (v := .int .i64 (n1 * 16 : Nat)) (congrArg (V.int .i64) (shl4 n1 (by omega))) ?_
    refine callE (d2) ?_
    refine walk1 (k := ?_)
    repeat' first | refine And.intro ?_ ?_ | intro
    all_goals refine leaf ?_
    refine wps_slot (s := 54) (v := .int .u8 ((UInt8.ofNat (n1 * 16 + n2)).toNat : Nat)) (congrArg (V.int .u8) (or16 n1 (by omega) n2 (by omega))) ?_
    refine callL (wb_prog b out L (UInt8.ofNat (n1 * 16 + n2)) hb (by omega)) ?_
    rintro v L' H' ⟨rfl, hb'⟩ hh
    refine walk1 (k := ?_)
    repeat' first | refine And.intro ?_ ?_ | intro
    all_goals refine leaf ?_
    exact Nx.intro (i := s.length - (i + 3)) (by omega) ⟨i + 3, out ++ [UInt8.ofNat (n1 * 16 + n2)], by rw [ho, er, map_cat, ep], by simp; omega, by omega, rfl, rfl, hb'⟩
  · have ho : readP s 0 = some out := by rw [ho, readP_end (by omega)]; simp
    have hv := readV_some ho
    rw [hv]
    refine callL (str_prog b out L hb (by omega)) ?_
    rintro v L' H' ⟨rfl, rfl⟩ hh
    refine walk (k := ?_)
    repeat' first | refine And.intro ?_ ?_ | intro
    all_goals refine leaf ?_
    · rename_i he
      subst he
      exact CEnds.mk hh ⟨[], congrArg (fun b => V.tup [.str [], .bool b]) (decide_eq_true (Or.inl rfl)).symm, rfl⟩
    · rename_i he
      refine callN ((sright_prog out 60)) ?_
      rintro v Lo H' rfl hh
      refine walk1 (k := ?_)
      repeat' first | refine And.intro ?_ ?_ | intro
      all_goals refine leaf ?_
      refine CEnds.mk hh ⟨Lo, congrArg (fun b => V.tup [.str out, .bool b]) ?_, rfl⟩
      rw [decide_eq_decide]
      exact ⟨Or.inr, fun h => h.resolve_left he⟩
end Go.Proofs.YtelgcaacaolgfaaDoor
