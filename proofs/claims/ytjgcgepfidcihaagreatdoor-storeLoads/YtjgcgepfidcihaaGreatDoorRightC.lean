/-
  Texts joined: A right text: the code. A part's bytes: the code. A part's form: the code.
-/
import Derived.Test.YtjgcgepfidcihaaGreatDoorMetR
namespace Go.Proofs.YtjgcgepfidcihaaGreatDoor
open Go Go.CM
set_option maxRecDepth 100000
set_option maxHeartbeats 4000000

theorem sright_prog (s : List UInt8) (most : Nat) : CallsN Tryz.prog nsign_Right [.str s, .int .i64 most] [] fun v _ => v = .bool (decide (rightP s.length most ((sgs s 0).map (·.1)))) := by
  refine ssign_Right fun H hh => ?_
  dsimp only [csign_Right]
  refine walk (k := ?_)
  repeat' first | refine And.intro ?_ ?_ | intro
  all_goals refine leaf ?_
  · rename_i he
    subst he
    exact CEnds.mk hh ⟨[], congrArg V.bool (decide_eq_false (by rintro ⟨⟨h, _⟩, _⟩; exact absurd h (by decide))).symm, rfl⟩
  · exact CEnds.mk hh ⟨[], congrArg V.bool (decide_eq_false (by omega)).symm, rfl⟩
  rename_i hne hle it _ hh
  have hp : 0 < s.length := List.length_pos_iff.2 hne
  refine loopM [16] (fun m vs L => ∃ p : Nat, ((∀ x : Nat, x ∈ (sgs s 0).map (·.1) → srtI x ≠ 0) ↔ ∀ x : Nat, x ∈ (sgs s p).map (·.1) → srtI x ≠ 0) ∧ m = s.length - p ∧ vs = [.ptr it 0] ∧ L = [(it, .siter s p)])
    (Nx.intro (i := s.length) trivial ⟨0, Iff.rfl, rfl, rfl, rfl⟩) ?_
  clear hh
  rintro m _ _ e H ⟨p, ho, rfl, rfl, rfl⟩ hh
  simp only [puts]
  refine walk1 (k := ?_)
  repeat' first | refine And.intro ?_ ?_ | intro
  all_goals refine leaf ?_
  by_cases hn : p < s.length
  · refine wps_nextS hh rfl hn .here1 fun H' hh => ?_
    rw [decS_first hn] at hh ⊢
    rw [sgs_lt hn, List.map_cons, List.forall_mem_cons] at ho
    have h2 := sort_prog ((firstS (s.drop p)).1 : Nat)
    have h3 := firstS_pos (s.drop p)
    refine walk1 (k := ?_)
    repeat' first | refine And.intro ?_ ?_ | intro
    all_goals refine leaf ?_
    refine callE (h2) ?_
    refine walk1 (k := ?_)
    repeat' first | refine And.intro ?_ ?_ | intro
    all_goals refine leaf ?_
    refine walk (k := ?_)
    repeat' first | refine And.intro ?_ ?_ | intro
    all_goals refine leaf ?_
    · refine CEnds.mk hh ⟨_, congrArg V.bool (decide_eq_false ?_).symm, (List.append_nil _).symm⟩
      rintro ⟨_, h⟩
      exact (ho.1 h).1 (by assumption)
    · exact Nx.intro (i := s.length - (p + (firstS (s.drop p)).2)) (by omega) ⟨p + (firstS (s.drop p)).2, ho.trans ⟨fun h => h.2, fun h => ⟨by assumption, h⟩⟩, rfl, rfl, rfl⟩
  · refine wps_nextSn hh rfl (by omega) .here ?_
    refine walk1 (k := ?_)
    repeat' first | refine And.intro ?_ ?_ | intro
    all_goals refine leaf ?_
    refine CEnds.mk hh ⟨_, congrArg V.bool (decide_eq_true ⟨by omega, ho.2 ?_⟩).symm, (List.append_nil _).symm⟩
    rw [sgs_ge (by omega)]
    simp
end Go.Proofs.YtjgcgepfidcihaaGreatDoor

namespace Go.Proofs.YtjgcgepfidcihaaGreatDoor
open Go Go.CM
set_option maxRecDepth 100000
set_option maxHeartbeats 4000000

theorem ne37 {c : UInt8} (h : ¬ ((c.toNat : Nat) : Int) = 37) : c ≠ 37 := fun e => h (by rw [e]; rfl)
theorem eq37 {c : UInt8} (h : ((c.toNat : Nat) : Int) = 37) : c = 37 := UInt8.toNat_inj.1 (by show c.toNat = 37; omega)
theorem readV_none {s : List UInt8} (h : readP s 0 = none) : readV s = .tup [.str [], .bool false] := by rw [readV, h]
theorem readV_some {s o : List UInt8} (h : readP s 0 = some o) : readV s = .tup [.str o, .bool (decide (okL o))] := by rw [readV, h]
theorem shl4 : ∀ n : Nat, n < 16 → IntKind.i64.wrap ((n : Int) * 2 ^ min (Int.toNat 4) IntKind.i64.bits) = ((n * 16 : Nat) : Int) := by decide +kernel
theorem or16 : ∀ a : Nat, a < 16 → ∀ b : Nat, b < 16 → IntKind.u8.wrap (IntKind.i64.wrap (BitVec.ofInt IntKind.i64.bits ((a * 16 : Nat) : Int) ||| BitVec.ofInt IntKind.i64.bits (b : Int)).toNat) = ((UInt8.ofNat (a * 16 + b)).toNat : Nat) := by decide +kernel
theorem read_prog (s : List UInt8) (hs : s.length ≤ 1000000) : CallsN Tryz.prog ncanon_read [.str s] [] fun v _ => v = readV s := by
  refine scanon_read fun H hh => ?_
  dsimp only [ccanon_read]
  refine walk (k := ?_)
  repeat' first | refine And.intro ?_ ?_ | intro
  all_goals refine leaf ?_
  rename_i b _ hh
  refine loopM [0, 4, 5] (fun m vs L => ∃ (i : Nat) (out : List UInt8), readP s 0 = (readP s i).map (out ++ ·) ∧ out.length ≤ i ∧ i ≤ s.length ∧ m = s.length - i ∧ vs = [.str s, BldV b, .int .i64 (i : Nat)] ∧ BldO b out L)
    (Nx.intro (i := s.length) trivial ⟨0, [], by cases readP s 0 <;> rfl, Nat.le_refl _, Nat.zero_le _, rfl, rfl, .inl ⟨rfl, _, .inl rfl, rfl⟩⟩) ?_
  clear hh
  rintro m _ L e H ⟨i, out, ho, hl, hi, rfl, rfl, hb⟩ hh
  simp only [puts]
  refine walk (k := ?_)
  repeat' first | refine And.intro ?_ ?_ | intro
  all_goals refine leaf ?_
  · refine callL (wb_prog b out L (s.getD i 0) hb (by omega)) ?_
    rintro v L' H' ⟨rfl, hb'⟩ hh
    refine walk1 (k := ?_)
    repeat' first | refine And.intro ?_ ?_ | intro
    all_goals refine leaf ?_
    exact Nx.intro (i := s.length - (i + 1)) (by omega) ⟨i + 1, out ++ [s.getD i 0], by rw [ho, readP_at (by omega) (ne37 ‹_›), map_cat], by simp; omega, by omega, rfl, rfl, hb'⟩
  · rename_i h1 h2 h3
    refine CEnds.mk hh ⟨_, (readV_none ?_).symm, (List.append_nil _).symm⟩
    rw [ho, readP_bad (by omega) (eq37 h2) (by omega)]
    rfl
  · rename_i h1 h2 h3
    have d1 := cdigit_prog (s.getD (i + 1) 0)
    have d2 := cdigit_prog (s.getD (i + 2) 0)
    refine callE (d1) ?_
    refine walk (k := ?_)
    repeat' first | refine And.intro ?_ ?_ | intro
    all_goals refine leaf ?_
    · refine CEnds.mk hh ⟨_, (readV_none ?_).symm, (List.append_nil _).symm⟩
      rw [ho, readP_bad (by omega) (eq37 h2) (by omega)]
      rfl
    refine callE (d2) ?_
    refine walk (k := ?_)
    repeat' first | refine And.intro ?_ ?_ | intro
    all_goals refine leaf ?_
    · refine CEnds.mk hh ⟨_, (readV_none ?_).symm, (List.append_nil _).symm⟩
      rw [ho, readP_bad (by omega) (eq37 h2) (by omega)]
      rfl
    rename_i g1 g2
    obtain ⟨n1, e1⟩ : ∃ n : Nat, digI (s.getD (i + 1) 0).toNat = n := ⟨_, (Int.toNat_of_nonneg (by omega)).symm⟩
    obtain ⟨n2, e2⟩ : ∃ n : Nat, digI (s.getD (i + 2) 0).toNat = n := ⟨_, (Int.toNat_of_nonneg (by omega)).symm⟩
    have b1 := digI_le (s.getD (i + 1) 0).toNat
    have b2 := digI_le (s.getD (i + 2) 0).toNat
    have ep : pairB (s.getD (i + 1) 0) (s.getD (i + 2) 0) = UInt8.ofNat (n1 * 16 + n2) := by rw [pairB, e1, e2]; rfl
    have er := readP_hex (p := i) (by omega) (eq37 h2) (by omega) (by omega)
    rw [e1] at d1 b1
    rw [e2] at d2 b2
    refine callE (d1) ?_
    refine walk1 (k := ?_)
    repeat' first | refine And.intro ?_ ?_ | intro
    all_goals refine leaf ?_
    refine wps_slot (s := 47) (v := .int .i64 (n1 * 16 : Nat)) (congrArg (V.int .i64) (shl4 n1 (by omega))) ?_
    refine callE (d2) ?_
    refine walk1 (k := ?_)
    repeat' first | refine And.intro ?_ ?_ | intro
    all_goals refine leaf ?_
    refine wps_slot (s := 54) (v := .int .u8 ((UInt8.ofNat (n1 * 16 + n2)).toNat : Nat)) (congrArg (V.int .u8) (or16 n1 (by omega) n2 (by omega))) ?_
    refine callL (wb_prog b out L (UInt8.ofNat (n1 * 16 + n2)) hb (by omega)) ?_
    rintro v L' H' ⟨rfl, hb'⟩ hh
    refine walk1 (k := ?_)
    repeat' first | refine And.intro ?_ ?_ | intro
    all_goals refine leaf ?_
    exact Nx.intro (i := s.length - (i + 3)) (by omega) ⟨i + 3, out ++ [UInt8.ofNat (n1 * 16 + n2)], by rw [ho, er, map_cat, ep], by simp; omega, by omega, rfl, rfl, hb'⟩
  · have ho : readP s 0 = some out := by rw [ho, readP_end (by omega)]; simp
    have hv := readV_some ho
    rw [hv]
    refine callL (str_prog b out L hb (by omega)) ?_
    rintro v L' H' ⟨rfl, rfl⟩ hh
    refine walk (k := ?_)
    repeat' first | refine And.intro ?_ ?_ | intro
    all_goals refine leaf ?_
    · rename_i he
      subst he
      exact CEnds.mk hh ⟨[], congrArg (fun b => V.tup [.str [], .bool b]) (decide_eq_true (Or.inl rfl)).symm, rfl⟩
    · rename_i he
      refine callN ((sright_prog out 60)) ?_
      rintro v Lo H' rfl hh
      refine walk1 (k := ?_)
      repeat' first | refine And.intro ?_ ?_ | intro
      all_goals refine leaf ?_
      refine CEnds.mk hh ⟨Lo, congrArg (fun b => V.tup [.str out, .bool b]) ?_, rfl⟩
      rw [decide_eq_decide]
      exact ⟨Or.inr, fun h => h.resolve_left he⟩
end Go.Proofs.YtjgcgepfidcihaaGreatDoor

namespace Go.Proofs.YtjgcgepfidcihaaGreatDoor
open Go Go.CM
set_option maxRecDepth 100000
set_option maxHeartbeats 4000000

theorem putB_len (c : UInt8) : (putB c).length ≤ 3 := by
  unfold putB
  split <;> simp
theorem write_len : ∀ s : List UInt8, (writeL s).length ≤ 3 * s.length
  | [] => Nat.le_refl _
  | c :: r => by
    have := write_len r
    have := putB_len c
    unfold writeL at *
    rw [List.flatMap_cons, List.length_append, List.length_cons]
    omega
theorem take_len3 (s : List UInt8) (i : Nat) : (writeL (s.take i)).length ≤ 3 * s.length := by
  have := write_len (s.take i)
  rw [List.length_take] at this
  omega
theorem write_next {s : List UInt8} {i : Nat} (h : i < s.length) : writeL (s.take (i + 1)) = writeL (s.take i) ++ putB (s.getD i 0) := by
  unfold writeL
  have et : s.take (i + 1) = s.take i ++ [s.getD i 0] := by rw [List.take_add_one, List.getD_eq_getElem?_getD, List.getElem?_eq_getElem h]; rfl
  rw [et, List.flatMap_append, List.flatMap_cons, List.flatMap_nil, List.append_nil]
theorem shr4 : ∀ n : Nat, n < 256 → ((n : Int).fdiv (2 ^ min (Int.toNat 4) IntKind.u8.bits)) = ((n / 16 : Nat) : Int) := by decide +kernel
theorem and15 : ∀ n : Nat, n < 256 → IntKind.u8.wrap (BitVec.ofInt IntKind.u8.bits (n : Int) &&& BitVec.ofInt IntKind.u8.bits 15).toNat = ((n % 16 : Nat) : Int) := by decide +kernel
theorem great_hex : ∀ n : Nat, n < 16 → great.getD n 0 = hexB n := by decide +kernel
theorem write_prog (s : List UInt8) (hs : s.length ≤ 100000) : CallsR Tryz.prog ncanon_write [.str s] [] fun v => v = .str (writeL s) := by
  refine scanon_write fun H hh => ?_
  dsimp only [ccanon_write]
  refine walk (k := ?_)
  repeat' first | refine And.intro ?_ ?_ | intro
  all_goals refine leaf ?_
  rename_i b _ hh
  refine loopN [0, 3, 6, 7] s.length (fun i vs L => vs = [.str s, BldV b, .int .i64 (s.length : Nat), .int .i64 (i : Nat)] ∧ BldO b (writeL (s.take i)) L)
    (Nx.here ⟨rfl, .inl ⟨rfl, _, .inl rfl, rfl⟩⟩) ?_
  clear hh
  rintro i _ L e H hi ⟨rfl, hb⟩ hh
  simp only [puts]
  have hl := plain_prog (s.getD i 0)
  have h3 := take_len3 s i
  refine walk (k := ?_)
  repeat' first | refine And.intro ?_ ?_ | intro
  all_goals refine leaf ?_
  · rename_i hn
    have hn : i < s.length := by omega
    have en := write_next hn
    by_cases hc : plP (s.getD i 0)
    · rw [decide_eq_true hc] at hl
      refine callE (hl) ?_
      refine walk1 (k := ?_)
      repeat' first | refine And.intro ?_ ?_ | intro
      all_goals refine leaf ?_
      refine callL (wb_prog b _ L (s.getD i 0) hb (by omega)) ?_
      rintro v L' H' ⟨rfl, hb'⟩ hh
      refine walk1 (k := ?_)
      repeat' first | refine And.intro ?_ ?_ | intro
      all_goals refine leaf ?_
      have hb2 : BldO b (writeL (s.take (i + 1))) L' := by rw [en, putB, if_pos hc]; exact hb'
      exact Nx.next (by omega) ⟨rfl, hb2⟩
    · rw [decide_eq_false hc] at hl
      refine callE (hl) ?_
      refine walk1 (k := ?_)
      repeat' first | refine And.intro ?_ ?_ | intro
      all_goals refine leaf ?_
      refine callL (wb_prog b _ L 37 hb (by omega)) ?_
      rintro v L' H' ⟨rfl, hb'⟩ hh
      refine walk1 (k := ?_)
      repeat' first | refine And.intro ?_ ?_ | intro
      all_goals refine leaf ?_
      have hx := UInt8.toNat_lt (s.getD i 0)
      refine wps_slot (s := 22) (v := .int .u8 ((s.getD i 0).toNat / 16 : Nat)) (congrArg (V.int .u8) (shr4 _ hx)) ?_
      refine walk1 (k := ?_)
      repeat' first | refine And.intro ?_ ?_ | intro
      all_goals refine leaf ?_
      refine callL (wb_prog b _ L' (great.getD ((s.getD i 0).toNat / 16) 0) hb' (by rw [List.length_append]; show _ + 1 ≤ _; omega)) ?_
      rintro v L2 H' ⟨rfl, hb2⟩ hh
      refine walk1 (k := ?_)
      repeat' first | refine And.intro ?_ ?_ | intro
      all_goals refine leaf ?_
      refine wps_slot (s := 28) (v := .int .u8 ((s.getD i 0).toNat % 16 : Nat)) (congrArg (V.int .u8) (and15 _ hx)) ?_
      refine walk1 (k := ?_)
      repeat' first | refine And.intro ?_ ?_ | intro
      all_goals refine leaf ?_
      refine callL (wb_prog b _ L2 (great.getD ((s.getD i 0).toNat % 16) 0) hb2 (by rw [List.length_append, List.length_append]; show _ + 1 + 1 ≤ _; omega)) ?_
      rintro v L3 H' ⟨rfl, hb3⟩ hh
      refine walk1 (k := ?_)
      repeat' first | refine And.intro ?_ ?_ | intro
      all_goals refine leaf ?_
      have hb4 : BldO b (writeL (s.take (i + 1))) L3 := by
        rw [great_hex _ (by omega), great_hex _ (by omega)] at hb3
        rw [en, putB, if_neg hc]
        simpa using hb3
      exact Nx.next (by omega) ⟨rfl, hb4⟩
  · have et : s.take i = s := List.take_of_length_le (by omega)
    rw [et] at hb
    have := write_len s
    refine callL (str_prog b _ L hb (by omega)) ?_
    rintro v L' H' ⟨rfl, rfl⟩ hh
    refine walk1 (k := ?_)
    repeat' first | refine And.intro ?_ ?_ | intro
    all_goals refine leaf ?_
    exact doneR rfl
end Go.Proofs.YtjgcgepfidcihaaGreatDoor
