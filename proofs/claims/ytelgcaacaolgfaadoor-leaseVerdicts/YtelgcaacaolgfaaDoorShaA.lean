/-
  Digests: turning words.
-/
import Derived.Test.YtelgcaacaolgfaaDoorBldA
namespace Go.Proofs.YtelgcaacaolgfaaDoor
open Go Go.CM
set_option maxRecDepth 100000
set_option maxHeartbeats 4000000

abbrev wv (a : Wd) : V := .int .u32 (a.toNat : Nat)
def wdC (a : Wd) : List V := [wv a]
/-- A word, turned to the right. -/
def rr (x : Wd) (n : Nat) : Wd := x >>> n ||| x <<< (32 - n)
theorem or_comm' (a b : Wd) : a ||| b = b ||| a := BitVec.or_comm a b
theorem rot_amt : ∀ n : Nat, n < 32 → IntKind.u64.wrap (BitVec.ofInt IntKind.u64.bits (IntKind.u64.wrap (IntKind.i64.wrap (0 - (n : Int)))) &&& BitVec.ofInt IntKind.u64.bits 31).toNat = (((32 - n) % 32 : Nat) : Int) := by decide +kernel
theorem shl_amt (x : Wd) (n : Nat) (hn : n ≤ 32) : ∀ S : Int, S = (n : Nat) → IntKind.u32.wrap (((x.toNat : Nat) : Int) * 2 ^ min S.toNat IntKind.u32.bits) = ((x <<< n).toNat : Nat) := by
  rintro _ rfl
  have h := wd_shl x .u64 n hn
  simp only [binV] at h
  rw [if_neg (by omega)] at h
  injection h with h
  injection h
theorem rotl_prog (x : Wd) (n : Nat) (h0 : 0 < n) (h1 : n < 32) : CallsR Tryd.prog nbits_RotateLeft32 [wv x, .int .i64 (IntKind.i64.wrap (0 - (n : Int)))] [] fun v => v = wv (rr x n) := by
  have hr := rot_amt n h1
  rw [Nat.mod_eq_of_lt (by omega)] at hr
  have hk : x <<< (32 - n) ||| x >>> n = rr x n := or_comm' _ _
  refine sbits_RotateLeft32 fun H hh => ?_
  dsimp only [cbits_RotateLeft32]
  refine walk1 (k := ?_)
  repeat' first | refine And.intro ?_ ?_ | intro
  all_goals refine leaf ?_
  refine wps_slot (s := 14) (v := .int .u64 (n : Nat)) (by show V.int .u64 (32 - _) = _; rw [hr]; congr 1; omega) ?_
  refine wps_slot (s := 11) (v := wv (x <<< (32 - n))) (congrArg (V.int .u32) (shl_amt x (32 - n) (by omega) _ hr)) ?_
  refine walk1 (k := ?_)
  repeat' first | refine And.intro ?_ ?_ | intro
  all_goals refine leaf ?_
  exact doneR (by rw [hk])
theorem right_prog (x : Wd) (n : Nat) (h0 : 0 < n) (h1 : n < 32) : CallsR Tryd.prog nsha_right [wv x, .int .i64 (n : Nat)] [] fun v => v = wv (rr x n) := by
  have h := rotl_prog x n h0 h1
  refine ssha_right fun H hh => ?_
  dsimp only [csha_right]
  refine walk1 (k := ?_)
  repeat' first | refine And.intro ?_ ?_ | intro
  all_goals refine leaf ?_
  refine callE (h) ?_
  refine walk1 (k := ?_)
  repeat' first | refine And.intro ?_ ?_ | intro
  all_goals refine leaf ?_
  exact doneR rfl
end Go.Proofs.YtelgcaacaolgfaaDoor
