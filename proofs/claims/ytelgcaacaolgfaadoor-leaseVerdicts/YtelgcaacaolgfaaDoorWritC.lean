/-
  A part's form: the code.
-/
import Derived.Test.YtelgcaacaolgfaaDoorReadC
namespace Go.Proofs.YtelgcaacaolgfaaDoor
open Go Go.CM
set_option maxRecDepth 100000
set_option maxHeartbeats 4000000

theorem putB_len (c : UInt8) : (putB c).length ≤ 3 := by
  unfold putB
  split <;> simp
theorem write_len : ∀ s : List UInt8, (writeL s).length ≤ 3 * s.length
  | [] => Nat.le_refl _
  | c :: r => by
    have := write_len r
    have := putB_len c
    unfold writeL at *
    rw [List.flatMap_cons, List.length_append, List.length_cons]
    omega
theorem take_len3 (s : List UInt8) (i : Nat) : (writeL (s.take i)).length ≤ 3 * s.length := by
  have := write_len (s.take i)
  rw [List.length_take] at this
  omega
theorem write_next {s : List UInt8} {i : Nat} (h : i < s.length) : writeL (s.take (i + 1)) = writeL (s.take i) ++ putB (s.getD i 0) := by
  unfold writeL
  have et : s.take (i + 1) = s.take i ++ [s.getD i 0] := by rw [List.take_add_one, List.getD_eq_getElem?_getD, List.getElem?_eq_getElem h]; rfl
  rw [et, List.flatMap_append, List.flatMap_cons, List.flatMap_nil, List.append_nil]
theorem shr4 : ∀ n : Nat, n < 256 → ((n : Int).fdiv (2 ^ min (Int.toNat 4) IntKind.u8.bits)) = ((n / 16 : Nat) : Int) := by decide +kernel
theorem and15 : ∀ n : Nat, n < 256 → IntKind.u8.wrap (BitVec.ofInt IntKind.u8.bits (n : Int) &&& BitVec.ofInt IntKind.u8.bits 15).toNat = ((n % 16 : Nat) : Int) := by decide +kernel
theorem great_hex : ∀ n : Nat, n < 16 → great.getD n 0 = hexB n := by decide +kernel
theorem write_prog (s : List UInt8) (hs : s.length ≤ 100000) : CallsR Tryd.prog ncanon_write [.str s] [] fun v => v = .str (writeL s) := by
  refine scanon_write fun H hh => ?_
  dsimp only [ccanon_write]
  refine walk (k := ?_)
  repeat' first | refine And.intro ?_ ?_ | intro
  all_goals refine leaf ?_
  rename_i b _ hh
  refine loopN [0, 3, 6, 7] s.length (fun i vs L => vs = [.str s, BldV b, .int .i64 (s.length : Nat), .int .i64 (i : Nat)] ∧ BldO b (writeL (s.take i)) L)
    (Nx.here ⟨rfl, .inl ⟨rfl, _, .inl rfl, rfl⟩⟩) ?_
  clear hh
  rintro i _ L e H hi ⟨rfl, hb⟩ hh
  simp only [puts]
  have hl := plain_prog (s.getD i 0)
  have h3 := take_len3 s i
  refine walk (k := ?_)
  repeat' first | refine And.intro ?_ ?_ | intro
  all_goals refine leaf ?_
  · rename_i hn
    have hn : i < s.length := by omega
    have en := write_next hn
    by_cases hc : plP (s.getD i 0)
    · rw [decide_eq_true hc] at hl
      refine callE (hl) ?_
      refine walk1 (k := ?_)
      repeat' first | refine And.intro ?_ ?_ | intro
      all_goals refine leaf ?_
      refine callL (wb_prog b _ L (s.getD i 0) hb (by omega)) ?_
      rintro v L' H' ⟨rfl, hb'⟩ hh
      refine walk1 (k := ?_)
      repeat' first | refine And.intro ?_ ?_ | intro
      all_goals refine leaf ?_
      have hb2 : BldO b (writeL (s.take (i + 1))) L' := by rw [en, putB, if_pos hc]; exact hb'
      exact Nx.next (by omega) ⟨rfl, hb2⟩
    · rw [decide_eq_false hc] at hl
      refine callE (hl) ?_
      refine walk1 (k := ?_)
      repeat' first | refine And.intro ?_ ?_ | intro
      all_goals refine leaf ?_
      refine callL (wb_prog b _ L 37 hb (by omega)) ?_
      rintro v L' H' ⟨rfl, hb'⟩ hh
      refine walk1 (k := ?_)
      repeat' first | refine And.intro ?_ ?_ | intro
      all_goals refine leaf ?_
      have hx := UInt8.toNat_lt (s.getD i 0)
      refine wps_slot (s := 22) (v := .int .u8 ((s.getD i 0).toNat / 16 : Nat)) (congrArg (V.int .u8) (shr4 _ hx)) ?_
      refine walk1 (k := ?_)
      repeat' first | refine And.intro ?_ ?_ | intro
      all_goals refine leaf ?_
      refine callL (wb_prog b _ L' (great.getD ((s.getD i 0).toNat / 16) 0) hb' (by rw [List.length_append]; show _ + 1 ≤ _; omega)) ?_
      rintro v L2 H' ⟨rfl, hb2⟩ hh
      refine walk1 (k := ?_)
      repeat' first | refine And.intro ?_ ?_ | intro
      all_goals refine leaf ?_
      refine wps_slot (s := 28) (v := .int .u8 ((s.getD i 0).toNat % 16 : Nat)) (congrArg (V.int .u8) (and15 _ hx)) ?_
      refine walk1 (k := ?_)
      repeat' first | refine And.intro ?_ ?_ | intro
      all_goals refine leaf ?_
      refine callL (wb_prog b _ L2 (great.getD ((s.getD i 0).toNat % 16) 0) hb2 (by rw [List.length_append, List.length_append]; show _ + 1 + 1 ≤ _; omega)) ?_
      rintro v L3 H' ⟨rfl, hb3⟩ hh
      refine walk1 (k := ?_)
      repeat' first | refine And.intro ?_ ?_ | intro
      all_goals refine leaf ?_
      have hb4 : BldO b (writeL (s.take (i + 1))) L3 := by
        rw [great_hex _ (by omega), great_hex _ (by omega)] at hb3
        rw [en, putB, if_neg hc]
        simpa using hb3
      exact Nx.next (by omega) ⟨rfl, hb4⟩
  · have et : s.take i = s := List.take_of_length_le (by omega)
    rw [et] at hb
    have := write_len s
    refine callL (str_prog b _ L hb (by omega)) ?_
    rintro v L' H' ⟨rfl, rfl⟩ hh
    refine walk1 (k := ?_)
    repeat' first | refine And.intro ?_ ?_ | intro
    all_goals refine leaf ?_
    exact doneR rfl
end Go.Proofs.YtelgcaacaolgfaaDoor
