/-
  Digests: what came so far.
-/
import Derived.Test.YtelgcaacaolgfaaDoorShaD
namespace Go.Proofs.YtelgcaacaolgfaaDoor
open Go Go.CM
set_option maxRecDepth 100000
set_option maxHeartbeats 4000000

theorem catV {a b : List UInt8} (h : a.length + b.length ≤ 1000000000) : binV .add (.str a) (.str b) = some (.str (a ++ b)) := if_neg (show ¬ ((a.length + b.length : Nat) : Int) > 9223372036854775807 by omega)
def eat (v : List Wd) (r : List UInt8) : List Wd × List UInt8 := if 64 ≤ r.length then eat (stepL v (r.take 64)) (r.drop 64) else (v, r)
termination_by r.length
decreasing_by (rw [List.length_drop]; omega)
theorem eat_more {v : List Wd} {r : List UInt8} (h : 64 ≤ r.length) : eat v r = eat (stepL v (r.take 64)) (r.drop 64) := by rw [eat, if_pos h]
theorem eat_end {v : List Wd} {r : List UInt8} (h : r.length < 64) : eat v r = (v, r) := by rw [eat, if_neg (by omega)]
def hO (v : List Wd) (r : List UInt8) (n : Nat) : List V := [wv (nth v 0), wv (nth v 1), wv (nth v 2), wv (nth v 3), wv (nth v 4), wv (nth v 5), wv (nth v 6), wv (nth v 7), .str r, .int .i64 (n : Nat)]
theorem hwrite_prog (h : Nat) (v : List Wd) (r s : List UInt8) (n : Nat) (hv : v.length = 8) (hr : r.length + s.length ≤ 100000000) (hn : n ≤ 100000000) : CallsL Tryd.prog nsha_Hash_Write [.ptr h 0, .str s] [(h, .cells true (hO v r n))] fun u L' => u = .tup [] ∧ L' = [(h, .cells true (hO (eat v (r ++ s)).1 (eat v (r ++ s)).2 (n + s.length)))] := by
  unfold hO
  refine ssha_Hash_Write fun H hh => ?_
  dsimp only [csha_Hash_Write]
  refine walk1 (k := ?_)
  repeat' first | refine And.intro ?_ ?_ | intro
  all_goals refine leaf ?_
  refine wps_rd (catV (by omega)) ?_
  refine walk1 (k := ?_)
  repeat' first | refine And.intro ?_ ?_ | intro
  all_goals refine leaf ?_
  refine loopM [0] (fun m vs L => ∃ (v' : List Wd) (r' : List UInt8), eat v (r ++ s) = eat v' r' ∧ v'.length = 8 ∧ m = r'.length ∧ vs = [.ptr h 0] ∧ L = [(h, .cells true (hO v' r' (n + s.length)))])
    (Nx.intro (i := (r ++ s).length) trivial ⟨v, r ++ s, rfl, hv, rfl, rfl, rfl⟩) ?_
  clear hh
  rintro m _ _ env H ⟨v', r', he, hv', rfl, rfl, rfl⟩ hh
  simp only [puts]
  unfold hO at hh
  have hs := step_prog v' (r'.take 64) hv'
  refine walk (k := ?_)
  repeat' first | refine And.intro ?_ ?_ | intro
  all_goals refine leaf ?_
  · rename_i hl
    have hs := hs (by rw [List.length_take]; omega)
    have hsl := stepL_len hv' (r'.take 64)
    rw [← wv8_eq hv', ← wv8_eq hsl] at hs
    unfold wv8 at hs
    refine callE (hs) ?_
    refine walk1 (k := ?_)
    repeat' first | refine And.intro ?_ ?_ | intro
    all_goals refine leaf ?_
    rename_i hh
    replace hh : Has _ [(h, .cells true (hO (stepL v' (r'.take 64)) (r'.drop 64) (n + s.length)))] := hh
    exact Nx.intro (i := (r'.drop 64).length) (by rw [List.length_drop]; exact Nat.sub_lt_self (by decide) (by omega)) ⟨stepL v' (r'.take 64), r'.drop 64, by rw [he, eat_more (by omega)], hsl, rfl, rfl, rfl⟩
  · rw [eat_end (v := v') (r := r') (by omega)] at he
    rw [he]
    exact done ⟨rfl, rfl⟩
/-- What comes behind all. -/
def zrs (n : Nat) : Nat := (119 - n % 64) % 64
def be8 (n : Nat) : List UInt8 := (List.range 8).map fun j => UInt8.ofNat (n / 256 ^ (7 - j))
def endL (n : Nat) : List UInt8 := (128 :: List.replicate (zrs n) 0) ++ be8 (n * 8)
theorem be8_next (n : Nat) {j : Nat} (h : j < 8) : (be8 n).take (j + 1) = (be8 n).take j ++ [UInt8.ofNat (n / 256 ^ (7 - j))] := by
  rw [take_getD (by simp [be8]; exact h), nth_of (a := UInt8.ofNat (n / 256 ^ (7 - j)))]
  simp [be8, h]
theorem be8_all (n : Nat) : (be8 n).take 8 = be8 n := List.take_of_length_le (by simp [be8])
theorem shr8 (N k : Nat) (b : Int) (hb : b = 8 * (k : Nat)) (hk : k ≤ 7) : binV .shr (.int .u64 (N : Nat)) (.int .i64 b) = some (.int .u64 ((N / 256 ^ k : Nat) : Int)) := by
  subst hb
  show (if (8 * (k : Nat) : Int) < 0 then none else some (V.int .u64 ((N : Int).fdiv (2 ^ min (8 * (k : Nat) : Int).toNat IntKind.u64.bits)))) = _
  rw [if_neg (by omega), show (8 * (k : Nat) : Int).toNat = 8 * k by omega, Nat.min_eq_left (show 8 * k ≤ IntKind.u64.bits from (by omega : 8 * k ≤ 64))]
  have : (2 ^ (8 * k) : Int) = ((256 ^ k : Nat) : Int) := by
    rw [show (256 : Nat) = 2 ^ 8 from rfl, ← Nat.pow_mul, Int.natCast_pow]
    rfl
  rw [this]
  exact congrArg (fun n => some (V.int .u64 n)) (Int.ofNat_fdiv _ _).symm
theorem wps_u8 {P : Program} {env : Env} {H : Heap} {K : Env → Heap → Prop} {d : Option Nat} {x : Kx} {is : List I} {y : X} {kk : IntKind} {n : Nat} (hy : y.ev env = .int kk (n : Nat)) (k : CM.wpOps P is (env.put d (.int .u8 ((UInt8.ofNat n).toNat : Nat))) H K) : CM.wpOps P (⟨d, .rd (.toInt .u8 y), none, x⟩ :: is) env H K := by
  refine wps_rd ?_ k
  simp only [R.ev, hy]
  rw [wrap_u8, UInt8.toNat_ofNat']
  exact congrArg (fun n => some (V.int .u8 n)) (by omega)
theorem rep_next {α : Type} (x : α) (n : Nat) : List.replicate (n + 1) x = List.replicate n x ++ [x] := List.replicate_succ'
theorem l3 {a b c a' b' c' : V} (h1 : a = a') (h2 : b = b') (h3 : c = c') : [a, b, c] = [a', b', c'] := by rw [h1, h2, h3]
theorem hend_prog (h : Nat) (v : List Wd) (r : List UInt8) (n : Nat) (hr : r.length = n % 64) (hn : n ≤ 100000000) : CallsR Tryd.prog nsha_Hash_end [.ptr h 0] [(h, .cells true (hO v r n))] fun u => u = .str (endL n) := by
  unfold hO
  have hzl : zrs n < 64 := Nat.mod_lt _ (by decide)
  have hzd : zrs n = (119 - n % 64) % 64 := rfl
  refine ssha_Hash_end fun H hh => ?_
  dsimp only [csha_Hash_end]
  refine walk1 (k := ?_)
  repeat' first | refine And.intro ?_ ?_ | intro
  all_goals refine leaf ?_
  refine loopM [0, 3] (fun m vs L => ∃ (a j : Nat), j ≤ zrs n ∧ m = zrs n - j ∧ vs = [.ptr h 0, .slice a 0 (128 :: List.replicate j (0 : UInt8)).length 1] ∧ L = [(a, .cells true ((128 :: List.replicate j (0 : UInt8)).flatMap byteC)), (h, .cells true (hO v r n))])
    (Nx.intro (i := zrs n) trivial ⟨_, 0, Nat.zero_le _, rfl, rfl, rfl⟩) ?_
  clear hh
  rintro m _ _ env H ⟨a, j, hj, rfl, rfl, rfl⟩ hh
  simp only [puts]
  unfold hO at hh
  have hint : Hint byteC (0 : UInt8) := trivial
  have hll : (128 :: List.replicate j (0 : UInt8)).length = j + 1 := by simp
  refine walk (k := ?_)
  repeat' first | refine And.intro ?_ ?_ | intro
  all_goals refine leaf ?_
  · rename_i hne _ _ _ hh
    rw [show 128 :: List.replicate j (0 : UInt8) ++ [0] = 128 :: List.replicate (j + 1) 0 by rw [rep_next]; rfl] at hh ⊢
    exact Nx.intro (i := zrs n - (j + 1)) (by omega) ⟨_, j + 1, by omega, rfl, rfl, rfl⟩
  · rename_i he
    have ej : j = zrs n := by omega
    subst ej
    have hZl : (128 :: List.replicate (zrs n) (0 : UInt8)).length ≤ 100 := by omega
    generalize hZ : (128 :: List.replicate (zrs n) (0 : UInt8)) = Z at *
    have e8 : ((n : Nat) : Int) * 8 = ((n * 8 : Nat) : Int) := by omega
    refine c_slot (s := 4) (v := .int .u64 (n * 8 : Nat)) (congrArg (V.int .u64) e8) ?_
    refine loopM [3, 4, 5] (fun m vs L => ∃ (a j : Nat), j ≤ 8 ∧ m = 8 - j ∧ vs = [.slice a 0 (Z ++ (be8 (n * 8)).take j).length 1, .int .u64 (n * 8 : Nat), .int .i64 (7 - (j : Nat))] ∧ L = [(a, .cells true ((Z ++ (be8 (n * 8)).take j).flatMap byteC)), (h, .cells true (hO v r n))])
      (Nx.intro (i := 8) trivial ⟨a, 0, Nat.zero_le _, rfl, by rw [List.take_zero, List.append_nil]; rfl, by rw [List.take_zero, List.append_nil]⟩) ?_
    clear hh
    rintro m _ _ env H ⟨a, j, hj, rfl, rfl, rfl⟩ hh
    simp only [puts]
    have htl : ((be8 (n * 8)).take j).length ≤ 8 := by rw [List.length_take]; omega
    have htz : (Z ++ (be8 (n * 8)).take j).length ≤ 108 := by rw [List.length_append]; omega
    have hint : Hint byteC (UInt8.ofNat (n * 8 / 256 ^ (7 - j))) := trivial
    refine walk (k := ?_)
    repeat' first | refine And.intro ?_ ?_ | intro
    all_goals refine leaf ?_
    · rename_i hge
      have en := be8_next (n * 8) (j := j) (by omega)
      refine wps_rd (shr8 (n * 8) (7 - j) _ (by omega) (by omega)) ?_
      refine wps_u8 rfl ?_
      refine walk1 (k := ?_)
      repeat' first | refine And.intro ?_ ?_ | intro
      all_goals refine leaf ?_
      rename_i hh
      rw [List.append_assoc, ← en] at hh ⊢
      exact Nx.intro (i := 8 - (j + 1)) (by omega) ⟨_, j + 1, by omega, rfl, l3 rfl rfl (congrArg (V.int .i64) (by omega)), rfl⟩
    · have ej : j = 8 := by omega
      subst ej
      rw [be8_all] at hh ⊢
      exact doneR (by rw [← hZ]; rfl)
end Go.Proofs.YtelgcaacaolgfaaDoor
