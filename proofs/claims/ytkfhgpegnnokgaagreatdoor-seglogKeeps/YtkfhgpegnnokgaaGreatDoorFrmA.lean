/-
  Frames: contents that are whole, or it is told.
-/
import Derived.Test.YtkfhgpegnnokgaaGreatDoorCrcA
import Derived.Test.YtkfhgpegnnokgaaGreatDoorKeyS
namespace Go.Proofs.YtkfhgpegnnokgaaGreatDoor
open Go Go.CM
set_option maxRecDepth 100000
set_option maxHeartbeats 4000000

def hdT (n : Nat) : Tx := [UInt8.ofNat (n / 256), UInt8.ofNat n]
def makeT (s : Tx) : Tx := sealT (hdT s.length) ++ sealT s
theorem make_len (s : Tx) : (makeT s).length = s.length + 10 := by
  rw [makeT, List.length_append, seal_len, seal_len]
  show 2 + 4 + _ = _
  omega
theorem hd_row (n : Nat) : [V.int .u8 (IntKind.u8.wrap ((n : Int).fdiv (2 ^ min (Int.toNat 8) IntKind.i64.bits))), V.int .u8 (IntKind.u8.wrap (n : Int))] = (hdT n).flatMap byteC := by
  have e : (2 : Int) ^ min (Int.toNat 8) IntKind.i64.bits = 256 := by decide
  have h1 : (UInt8.ofNat (n / 256)).toNat = n / 256 % 256 := UInt8.toNat_ofNat'
  have h2 : (UInt8.ofNat n).toNat = n % 256 := UInt8.toNat_ofNat'
  have e1 : IntKind.u8.wrap ((n : Int).fdiv (2 ^ min (Int.toNat 8) IntKind.i64.bits)) = ((UInt8.ofNat (n / 256)).toNat : Nat) := by
    rw [e, wrap_u8, h1, Int.fdiv_eq_ediv_of_nonneg _ (by decide)]; omega
  have e2 : IntKind.u8.wrap (n : Int) = ((UInt8.ofNat n).toNat : Nat) := by rw [wrap_u8, h2]; omega
  rw [e1, e2]; rfl
theorem or_two (a b : UInt8) : IntKind.i64.wrap ((BitVec.ofInt IntKind.i64.bits (IntKind.i64.wrap (IntKind.i64.wrap ((a.toNat : Nat) : Int) * 2 ^ min (Int.toNat 8) IntKind.i64.bits)) ||| BitVec.ofInt IntKind.i64.bits (IntKind.i64.wrap ((b.toNat : Nat) : Int))).toNat : Nat) = ((a.toNat * 256 + b.toNat : Nat) : Int) := by
  have ha := a.toNat_lt
  have hb := b.toNat_lt
  have e : (2 : Int) ^ min (Int.toNat 8) IntKind.i64.bits = 256 := by decide
  have w1 : IntKind.i64.wrap ((a.toNat : Nat) : Int) = (a.toNat : Nat) := by rw [IntKind.wrap_i64]; omega
  have w2 : IntKind.i64.wrap ((b.toNat : Nat) : Int) = (b.toNat : Nat) := by rw [IntKind.wrap_i64]; omega
  have w3 : IntKind.i64.wrap (((a.toNat : Nat) : Int) * 256) = ((a.toNat * 256 : Nat) : Int) := by rw [IntKind.wrap_i64]; omega
  rw [e, w1, w2, w3, BitVec.ofInt_natCast, BitVec.ofInt_natCast, BitVec.toNat_or, BitVec.toNat_ofNat, BitVec.toNat_ofNat]
  have hm1 : a.toNat * 256 % 2 ^ IntKind.i64.bits = a.toNat * 256 := Nat.mod_eq_of_lt (by show _ < 18446744073709551616; omega)
  have hm2 : b.toNat % 2 ^ IntKind.i64.bits = b.toNat := Nat.mod_eq_of_lt (by show _ < 18446744073709551616; omega)
  rw [hm1, hm2]
  have ho := Nat.shiftLeft_add_eq_or_of_lt (b := b.toNat) (i := 8) hb a.toNat
  rw [Nat.shiftLeft_eq] at ho
  rw [show a.toNat * 256 = a.toNat * 2 ^ 8 from rfl, ← ho, IntKind.wrap_i64]
  have : a.toNat * 2 ^ 8 = a.toNat * 256 := rfl
  rw [this]
  omega
theorem fmake_prog (s : Tx) : CallsR Tryz.prog nframe_Make [.str s] [] fun v => v = if 2000 < s.length then .tup [.str [], .int .i64 5] else .tup [.str (makeT s), .int .i64 0] := by
  by_cases h : 2000 < s.length
  · rw [if_pos h]
    refine sframe_Make fun H hh => ?_
    dsimp only [cframe_Make]
    refine walk (k := ?_)
    repeat' first | refine And.intro ?_ ?_ | intro
    all_goals refine leaf ?_
    · exact doneR rfl
    · exact absurd h (by omega)
  · rw [if_neg h]
    refine sframe_Make fun H hh => ?_
    dsimp only [cframe_Make]
    refine walk (k := ?_)
    repeat' first | refine And.intro ?_ ?_ | intro
    all_goals refine leaf ?_
    · exact absurd h (by omega)
    rename_i q H' hh
    rw [hd_row s.length] at hh
    have h1 := seal_prog (hdT s.length) (by show 2 ≤ _; omega)
    have h2 := seal_prog s (by omega)
    refine wps_b2s hh (l := hdT s.length) (by rfl) .here ?_
    refine walk1 (k := ?_)
    repeat' first | refine And.intro ?_ ?_ | intro
    all_goals refine leaf ?_
    refine callE (h1) ?_
    refine walk1 (k := ?_)
    repeat' first | refine And.intro ?_ ?_ | intro
    all_goals refine leaf ?_
    refine callE (h2) ?_
    refine walk1 (k := ?_)
    repeat' first | refine And.intro ?_ ?_ | intro
    all_goals refine leaf ?_
    refine wps_rd (v := .str (makeT s)) (catC (by rw [seal_len, seal_len]; show 2 + 4 + _ ≤ _; omega)) ?_
    refine walk1 (k := ?_)
    repeat' first | refine And.intro ?_ ?_ | intro
    all_goals refine leaf ?_
    exact doneR rfl
def firstT (s : Tx) : Tx × Nat × Int :=
  if s.length < 6 then ([], 0, 3) else
  match openT (s.take 6) with
  | none => ([], 0, 4)
  | some h =>
    if 2000 < (h.getD 0 0).toNat * 256 + (h.getD 1 0).toNat then ([], 0, 5) else
    if s.length < (h.getD 0 0).toNat * 256 + (h.getD 1 0).toNat + 10 then ([], 0, 3) else
    match openT ((s.take ((h.getD 0 0).toNat * 256 + (h.getD 1 0).toNat + 10)).drop 6) with
    | none => ([], 0, 4)
    | some c => (c, (h.getD 0 0).toNat * 256 + (h.getD 1 0).toNat + 10, 0)
theorem fsize_prog (n : Nat) (h : n ≤ 2000) : CallsR Tryz.prog nframe_Size [.int .i64 (n : Nat)] [] fun v => v = .int .i64 ((n + 10 : Nat) : Int) := by
  refine sframe_Size fun H hh => ?_
  dsimp only [cframe_Size]
  refine walk (k := ?_)
  repeat' first | refine And.intro ?_ ?_ | intro
  all_goals refine leaf ?_
  all_goals first
    | exact doneR rfl
    | exact absurd h (by omega)
theorem open_len {s h : Tx} (e : openT s = some h) : h = s.take (s.length - 4) ∧ 4 ≤ s.length := by
  unfold openT at e
  split at e
  · cases e
  · split at e
    · cases e; exact ⟨rfl, by omega⟩
    · cases e
theorem ffirst_prog (s : Tx) (hs : s.length ≤ 1000000) : CallsR Tryz.prog nframe_First [.str s] [] fun v => v = .tup [.str (firstT s).1, .int .i64 ((firstT s).2.1 : Nat), .int .i64 (firstT s).2.2] := by
  unfold firstT
  by_cases h6 : s.length < 6
  · rw [if_pos h6]
    refine sframe_First fun H hh => ?_
    dsimp only [cframe_First]
    refine walk (k := ?_)
    repeat' first | refine And.intro ?_ ?_ | intro
    all_goals refine leaf ?_
    · exact doneR rfl
    all_goals exact absurd h6 (by omega)
  rw [if_neg h6]
  have h1 := copen_prog (s.take 6) (by rw [List.length_take]; omega)
  cases ho : openT (s.take 6) with
  | none =>
    rw [ho] at h1
    refine sframe_First fun H hh => ?_
    dsimp only [cframe_First]
    refine walk1 (k := ?_)
    repeat' first | refine And.intro ?_ ?_ | intro
    all_goals refine leaf ?_
    refine c_cond_f (by show V.bool _ = _; simp; omega) ?_
    refine walk1 (k := ?_)
    repeat' first | refine And.intro ?_ ?_ | intro
    all_goals refine leaf ?_
    refine callE (h1) ?_
    refine walk1 (k := ?_)
    repeat' first | refine And.intro ?_ ?_ | intro
    all_goals refine leaf ?_
    exact doneR rfl
  | some h =>
    rw [ho] at h1
    have hl2 : h.length = 2 := by
      rw [(open_len ho).1, List.length_take, List.length_take]; omega
    refine sframe_First fun H hh => ?_
    dsimp only [cframe_First]
    refine walk1 (k := ?_)
    repeat' first | refine And.intro ?_ ?_ | intro
    all_goals refine leaf ?_
    refine c_cond_f (by show V.bool _ = _; simp; omega) ?_
    refine walk1 (k := ?_)
    repeat' first | refine And.intro ?_ ?_ | intro
    all_goals refine leaf ?_
    refine callE (h1) ?_
    refine walk1 (k := ?_)
    repeat' first | refine And.intro ?_ ?_ | intro
    all_goals refine leaf ?_
    have hot := or_two (h.getD 0 0) (h.getD 1 0)
    show C.wp _ _ _ _ _
    generalize (h.getD 0 0).toNat * 256 + (h.getD 1 0).toNat = n at *
    refine c_slot (s := 7) (v := .int .i64 (n : Nat)) (by show V.int _ _ = _; rw [hot]) ?_
    by_cases h2 : 2000 < n
    · rw [if_pos h2]
      refine c_cond_t (by show V.bool _ = _; rw [hot, decide_eq_true (by omega)]) ?_
      refine walk1 (k := ?_)
      repeat' first | refine And.intro ?_ ?_ | intro
      all_goals refine leaf ?_
      exact doneR rfl
    rw [if_neg h2]
    refine c_cond_f (by show V.bool _ = _; rw [hot, decide_eq_false (by omega)]) ?_
    refine walk1 (k := ?_)
    repeat' first | refine And.intro ?_ ?_ | intro
    all_goals refine leaf ?_
    refine callE ((fsize_prog n (by omega))) ?_
    refine walk1 (k := ?_)
    repeat' first | refine And.intro ?_ ?_ | intro
    all_goals refine leaf ?_
    by_cases h3 : s.length < n + 10
    · rw [if_pos h3]
      refine c_cond_t (by show V.bool _ = _; simp; omega) ?_
      refine walk1 (k := ?_)
      repeat' first | refine And.intro ?_ ?_ | intro
      all_goals refine leaf ?_
      exact doneR rfl
    rw [if_neg h3]
    refine c_cond_f (by show V.bool _ = _; simp; omega) ?_
    refine walk1 (k := ?_)
    repeat' first | refine And.intro ?_ ?_ | intro
    all_goals refine leaf ?_
    have h5 := copen_prog (List.drop 6 (s.take (n + 10))) (by rw [List.length_drop, List.length_take]; omega)
    cases ho2 : openT (List.drop 6 (s.take (n + 10))) with
    | none =>
      rw [ho2] at h5
      refine callE (h5) ?_
      refine walk1 (k := ?_)
      repeat' first | refine And.intro ?_ ?_ | intro
      all_goals refine leaf ?_
      exact doneR rfl
    | some c =>
      rw [ho2] at h5
      refine callE (h5) ?_
      refine walk1 (k := ?_)
      repeat' first | refine And.intro ?_ ?_ | intro
      all_goals refine leaf ?_
      exact doneR rfl
end Go.Proofs.YtkfhgpegnnokgaaGreatDoor
