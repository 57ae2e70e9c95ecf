/-
  Texts joined: Short texts as bytes: the code. Numbers as bytes, whichever: the code.
-/
import Derived.Test.YtjgcgepfidcihaaGreatDoorEntD
import Derived.Test.YtjgcgepfidcihaaGreatDoorBldA
namespace Go.Proofs.YtjgcgepfidcihaaGreatDoor
open Go Go.CM
set_option maxRecDepth 100000
set_option maxHeartbeats 4000000

def PakO (p : Nat) (l : List UInt8) (L : List Ob) : Prop :=
  (l = [] ∧ L = [(p, .cells true [.nils, .bool false])]) ∨
  (l ≠ [] ∧ ∃ r, L = [(p, .cells true [.slice r 0 l.length 1, .bool false]), (r, .cells true (l.flatMap byteC))])
theorem raw_prog (p : Nat) (l s : List UInt8) (L : List Ob) (hne : l ≠ []) (hL : PakO p l L) (hl : l.length + s.length ≤ 1000000) : CallsL Tryz.prog npack_Packer_Raw [.ptr p 0, .str s] L fun v L' => v = .ptr p 0 ∧ PakO p (l ++ s) L' := by
  rcases hL with ⟨rfl, rfl⟩ | ⟨_, r, rfl⟩
  · exact absurd rfl hne
  · skip
    refine spack_Packer_Raw fun H hh => ?_
    dsimp only [cpack_Packer_Raw]
    refine walk (k := ?_)
    repeat' first | refine And.intro ?_ ?_ | intro
    all_goals refine leaf ?_
    refine wps_appstr hh (l := l) (us := s) (L' := fun id' => [(p, .cells true [.slice r 0 l.length 1, .bool false]), (id', .cells true ((l ++ s).flatMap byteC))]) rfl rfl (fun _ => .there .here1) (by omega) fun r2 H' hh => ?_
    refine walk1 (k := ?_)
    repeat' first | refine And.intro ?_ ?_ | intro
    all_goals refine leaf ?_
    exact done ⟨rfl, .inr ⟨by simp [hne], r2, rfl⟩⟩
def txtL (s : List UInt8) : List UInt8 := UInt8.ofNat s.length :: s
theorem pstring_prog (p : Nat) (l : List UInt8) (L : List Ob) (hL : PakO p l L) : CallsR Tryz.prog npack_Packer_String [.ptr p 0] L fun v => v = .str l := by
  rcases hL with ⟨rfl, rfl⟩ | ⟨_, r, rfl⟩
  · have hok : CallsR Tryz.prog npack_Packer_OK [.ptr p 0] [(p, .cells true [.nils, .bool false])] fun v => v = .bool true := by
      refine spack_Packer_OK fun H hh => ?_
      dsimp only [cpack_Packer_OK]
      refine walk1 (k := ?_)
      repeat' first | refine And.intro ?_ ?_ | intro
      all_goals refine leaf ?_
      exact doneR rfl
    refine spack_Packer_String fun H hh => ?_
    dsimp only [cpack_Packer_String]
    refine walk1 (k := ?_)
    repeat' first | refine And.intro ?_ ?_ | intro
    all_goals refine leaf ?_
    refine callE (hok) ?_
    refine walk1 (k := ?_)
    repeat' first | refine And.intro ?_ ?_ | intro
    all_goals refine leaf ?_
    exact doneR rfl
  · have hok : CallsR Tryz.prog npack_Packer_OK [.ptr p 0] [(p, .cells true [.slice r 0 l.length 1, .bool false]), (r, .cells true (l.flatMap byteC))] fun v => v = .bool true := by
      refine spack_Packer_OK fun H hh => ?_
      dsimp only [cpack_Packer_OK]
      refine walk1 (k := ?_)
      repeat' first | refine And.intro ?_ ?_ | intro
      all_goals refine leaf ?_
      exact doneR rfl
    refine spack_Packer_String fun H hh => ?_
    dsimp only [cpack_Packer_String]
    refine walk1 (k := ?_)
    repeat' first | refine And.intro ?_ ?_ | intro
    all_goals refine leaf ?_
    refine callE (hok) ?_
    refine walk1 (k := ?_)
    repeat' first | refine And.intro ?_ ?_ | intro
    all_goals refine leaf ?_
    exact doneR rfl
end Go.Proofs.YtjgcgepfidcihaaGreatDoor

namespace Go.Proofs.YtjgcgepfidcihaaGreatDoor
open Go Go.CM
set_option maxRecDepth 100000
set_option maxHeartbeats 4000000

def numK (n : Nat) : Nat := if h : n < 128 then 0 else numK (n / 128) + 1
termination_by n
decreasing_by omega
def numB (n : Nat) : Nat → List UInt8
  | 0 => [UInt8.ofNat (n % 128)]
  | k + 1 => UInt8.ofNat (n / 128 ^ (k + 1) % 128 + 128) :: numB n k
def numL (n : Nat) : List UInt8 := numB n (numK n)
theorem numB_len (n : Nat) : ∀ k, (numB n k).length = k + 1
  | 0 => rfl
  | k + 1 => by rw [numB, List.length_cons, numB_len n k]
theorem numK_lt : ∀ (k n : Nat), k < numK n ↔ 128 ^ (k + 1) ≤ n
  | 0, n => by
    rw [numK]
    split <;> omega
  | k + 1, n => by
    rw [numK]
    split
    · rename_i h
      refine ⟨fun h => absurd h (by omega), fun h' => ?_⟩
      have : 128 ^ 1 ≤ 128 ^ (k + 1 + 1) := Nat.pow_le_pow_right (by decide) (by omega)
      omega
    · rename_i h
      rw [Nat.add_lt_add_iff_right, numK_lt k (n / 128), Nat.le_div_iff_mul_le (by decide), Nat.pow_succ 128 (k + 1)]
theorem numK_le {n : Nat} (h : n ≤ 4611686018427387904) : numK n ≤ 8 := by
  have h1 := numK_lt 8 n
  have : (128 : Nat) ^ (8 + 1) = 9223372036854775808 := by decide
  omega
theorem numL_le {n : Nat} (h : n ≤ 4611686018427387904) : (numL n).length ≤ 9 := by
  have := numK_le h
  rw [numL, numB_len]; omega
theorem numL_short {n : Nat} (h : n < 128) : numL n = [UInt8.ofNat n] := by
  have : numK n = 0 := by rw [numK, dif_pos h]
  rw [numL, this, numB, Nat.mod_eq_of_lt h]
theorem and127r : ∀ n : Nat, n < 256 → IntKind.u8.wrap (BitVec.ofInt IntKind.u8.bits (n : Int) &&& BitVec.ofInt IntKind.u8.bits 127).toNat = ((UInt8.ofNat (n % 128)).toNat : Nat) := by decide +kernel
theorem or128r : ∀ n : Nat, n < 256 → IntKind.u8.wrap (BitVec.ofInt IntKind.u8.bits (IntKind.u8.wrap (BitVec.ofInt IntKind.u8.bits (n : Int) &&& BitVec.ofInt IntKind.u8.bits 127).toNat) ||| BitVec.ofInt IntKind.u8.bits 128).toNat = ((UInt8.ofNat (n % 128 + 128)).toNat : Nat) := by decide +kernel
theorem wrap8 (n : Nat) : IntKind.u8.wrap (n : Int) = ((n % 256 : Nat) : Int) := by
  rw [wrap_u8]; omega
theorem shr_pow {n k : Nat} (hk : k ≤ 9) : ((n : Int).fdiv (2 ^ min (Int.toNat (7 * (k : Int))) IntKind.i64.bits)) = ((n / 128 ^ k : Nat) : Int) := by
  have e : min (Int.toNat (7 * (k : Int))) IntKind.i64.bits = 7 * k := by
    show min _ 64 = _
    omega
  have e2 : (2 : Int) ^ (7 * k) = ((128 ^ k : Nat) : Int) := by
    rw [show (128 : Nat) = 2 ^ 7 from rfl, ← Nat.pow_mul, Int.natCast_pow]; rfl
  rw [e, e2, Int.fdiv_eq_ediv_of_nonneg _ (Int.natCast_nonneg _), Int.natCast_ediv]
theorem PakO.one {p : Nat} {l : List UInt8} {L : List Ob} (h : PakO p l L) : ∃ c, L = (p, .cells true [c, .bool false]) :: L.tail := by
  rcases h with ⟨_, rfl⟩ | ⟨_, r, rfl⟩
  · exact ⟨_, rfl⟩
  · exact ⟨_, rfl⟩
theorem num_prog (p : Nat) (l : List UInt8) (L : List Ob) (n : Nat) (hn : n ≤ 4611686018427387904) (hL : PakO p l L) (hl : l.length ≤ 1000000) : CallsL Tryz.prog npack_Packer_Num [.ptr p 0, .int .i64 (n : Nat)] L fun v L' => v = .ptr p 0 ∧ PakO p (l ++ numL n) L' := by
  have hK := numK_le hn
  refine spack_Packer_Num fun H hh => ?_
  dsimp only [cpack_Packer_Num]
  refine walk (k := ?_)
  repeat' first | refine And.intro ?_ ?_ | intro
  all_goals refine leaf ?_
  · exfalso; omega
  refine loopN [0, 1, 5] (numK n) (fun i vs L' => L' = L ∧ vs = [.ptr p 0, .int .i64 (n : Nat), .int .i64 (i : Nat)]) (Nx.here ⟨rfl, rfl⟩) ?_
  clear hh
  rintro k _ _ env H hk ⟨rfl, rfl⟩ hh
  simp only [puts]
  have hs : (n : Int).fdiv (2 ^ min (Int.toNat (7 * ((k : Int) + 1))) IntKind.i64.bits) = ((n / 128 ^ (k + 1) : Nat) : Int) := shr_pow (n := n) (k := k + 1) (by omega)
  have hlt := numK_lt k n
  have hpos : 0 < 128 ^ (k + 1) := Nat.pow_pos (by decide)
  by_cases hc : k < numK n
  · have hq := Nat.div_pos (hlt.1 hc) hpos
    refine walk1 (k := ?_)
    repeat' first | refine And.intro ?_ ?_ | intro
    all_goals refine leaf ?_
    refine c_cond_t (congrArg V.bool (decide_eq_true (by show (0 : Int) < _; rw [hs]; omega))) ?_
    refine walk1 (k := ?_)
    repeat' first | refine And.intro ?_ ?_ | intro
    all_goals refine leaf ?_
    exact Nx.next hc ⟨rfl, rfl⟩
  · have hq : n / 128 ^ (k + 1) = 0 := Nat.div_eq_of_lt (by omega)
    refine walk1 (k := ?_)
    repeat' first | refine And.intro ?_ ?_ | intro
    all_goals refine leaf ?_
    refine c_cond_f (congrArg V.bool (decide_eq_false (by show ¬ (0 : Int) < _; rw [hs, hq]; omega))) ?_
    refine walk1 (k := ?_)
    repeat' first | refine And.intro ?_ ?_ | intro
    all_goals refine leaf ?_
    have hkK : k = numK n := by omega
    clear hq hpos hlt hs hc
    refine loopM [0, 1, 5] (fun m vs L' => ∃ l', m ≤ 8 ∧ l' ++ numB n m = l ++ numL n ∧ PakO p l' L' ∧ vs = [.ptr p 0, .int .i64 (n : Nat), .int .i64 (m : Nat)])
      (Nx.intro (i := k) trivial ⟨l, by omega, by rw [hkK]; rfl, hL, rfl⟩) ?_
    clear hh
    rintro m _ _ env H ⟨l', hm, he, hP, rfl⟩ hh
    simp only [puts]
    have hle : l'.length ≤ 1000010 := by
      have := congrArg List.length he
      have h9 := numL_le hn
      rw [List.length_append, List.length_append] at this; omega
    cases m with
    | zero =>
      have hb : IntKind.u8.wrap (BitVec.ofInt IntKind.u8.bits (IntKind.u8.wrap (n : Int)) &&& BitVec.ofInt IntKind.u8.bits 127).toNat = ((UInt8.ofNat (n % 128)).toNat : Nat) := by
        rw [wrap8 n, and127r _ (Nat.mod_lt _ (by decide)), show n % 256 % 128 = n % 128 by omega]
      rw [← he]
      rcases hP with ⟨rfl, rfl⟩ | ⟨hne, r, rfl⟩
      · skip
        refine walk1 (k := ?_)
        repeat' first | refine And.intro ?_ ?_ | intro
        all_goals refine leaf ?_
        rename_i t _ hh
        rw [hb] at hh
        refine wps_app_nil (m := 0) hh rfl (src_slice (esz := 0) hh .here rfl) (by decide) fun r H' hh => ?_
        refine walk1 (k := ?_)
        repeat' first | refine And.intro ?_ ?_ | intro
        all_goals refine leaf ?_
        exact done ⟨rfl, .inr ⟨by simp [numB], r, rfl⟩⟩
      · skip
        refine walk1 (k := ?_)
        repeat' first | refine And.intro ?_ ?_ | intro
        all_goals refine leaf ?_
        rename_i t _ hh
        rw [hb] at hh
        refine wps_approw hh [UInt8.ofNat (n % 128)] (enc := byteC) (m := 0) (t := t) (b := true) (L' := fun id' => [(t, .cells true ([UInt8.ofNat (n % 128)].flatMap byteC)), (p, .cells true [.slice r 0 l'.length 1, .bool false]), (id', .cells true ((l' ++ [UInt8.ofNat (n % 128)]).flatMap byteC))]) rfl rfl .here (fun _ => rfl) (fun _ => .there (.there .here1)) (by show (_ + 1) * 1 ≤ _; omega) fun r2 H' hh => ?_
        refine walk1 (k := ?_)
        repeat' first | refine And.intro ?_ ?_ | intro
        all_goals refine leaf ?_
        exact done ⟨rfl, .inr ⟨by simp [numB], r2, rfl⟩⟩
    | succ m =>
      have hs : (n : Int).fdiv (2 ^ min (Int.toNat (7 * ((m + 1 : Nat) : Int))) IntKind.i64.bits) = ((n / 128 ^ (m + 1) : Nat) : Int) := shr_pow (n := n) (k := m + 1) (by omega)
      have hb : IntKind.u8.wrap (BitVec.ofInt IntKind.u8.bits (IntKind.u8.wrap (BitVec.ofInt IntKind.u8.bits (IntKind.u8.wrap ((n / 128 ^ (m + 1) : Nat) : Int)) &&& BitVec.ofInt IntKind.u8.bits 127).toNat) ||| BitVec.ofInt IntKind.u8.bits 128).toNat = ((UInt8.ofNat (n / 128 ^ (m + 1) % 128 + 128)).toNat : Nat) := by
        rw [wrap8 (n / 128 ^ (m + 1)), or128r _ (Nat.mod_lt _ (by decide)), show n / 128 ^ (m + 1) % 256 % 128 = n / 128 ^ (m + 1) % 128 by omega]
      have he' : (l' ++ [UInt8.ofNat (n / 128 ^ (m + 1) % 128 + 128)]) ++ numB n m = l ++ numL n := by rw [← he, numB, List.append_assoc]; rfl
      refine walk1 (k := ?_)
      repeat' first | refine And.intro ?_ ?_ | intro
      all_goals refine leaf ?_
      refine c_cond_t (congrArg V.bool (decide_eq_true (by show (0 : Int) < _; omega))) ?_
      generalize UInt8.ofNat (n / 128 ^ (m + 1) % 128 + 128) = by_ at *
      rcases hP with ⟨rfl, rfl⟩ | ⟨hne, r, rfl⟩
      · skip
        refine walk1 (k := ?_)
        repeat' first | refine And.intro ?_ ?_ | intro
        all_goals refine leaf ?_
        rename_i t _ hh
        rw [hs, hb] at hh
        refine wps_app_nil (m := 0) hh rfl (src_slice (esz := 0) hh .here rfl) (by decide) fun r H' hh => ?_
        refine walk1 (k := ?_)
        repeat' first | refine And.intro ?_ ?_ | intro
        all_goals refine leaf ?_
        refine Nx.intro (i := m) (by omega) ⟨[by_], by omega, he', .inr ⟨by simp, r, rfl⟩, (by show [V.ptr p 0, V.int .i64 (n : Nat), V.int .i64 (((m + 1 : Nat) : Int) - 1)] = _; rw [show (((m + 1 : Nat) : Int) - 1) = m by omega])⟩
      · skip
        refine walk1 (k := ?_)
        repeat' first | refine And.intro ?_ ?_ | intro
        all_goals refine leaf ?_
        rename_i t _ hh
        rw [hs, hb] at hh
        refine wps_approw hh [by_] (enc := byteC) (m := 0) (t := t) (b := true) (L' := fun id' => [(t, .cells true ([by_].flatMap byteC)), (p, .cells true [.slice r 0 l'.length 1, .bool false]), (id', .cells true ((l' ++ [by_]).flatMap byteC))]) rfl rfl .here (fun _ => rfl) (fun _ => .there (.there .here1)) (by show (_ + 1) * 1 ≤ _; omega) fun r2 H' hh => ?_
        refine walk1 (k := ?_)
        repeat' first | refine And.intro ?_ ?_ | intro
        all_goals refine leaf ?_
        refine Nx.intro (i := m) (by omega) ⟨l' ++ [by_], by omega, he', .inr ⟨by simp, r2, rfl⟩, (by show [V.ptr p 0, V.int .i64 (n : Nat), V.int .i64 (((m + 1 : Nat) : Int) - 1)] = _; rw [show (((m + 1 : Nat) : Int) - 1) = m by omega])⟩
end Go.Proofs.YtjgcgepfidcihaaGreatDoor
