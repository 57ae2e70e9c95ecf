/-
  Short texts as bytes: the code.
-/
import Derived.Test.YtelgcaacaolgfaaGreatDoorEntD
import Derived.Test.YtelgcaacaolgfaaGreatDoorBldA
namespace Go.Proofs.YtelgcaacaolgfaaGreatDoor
open Go Go.CM
set_option maxRecDepth 100000
set_option maxHeartbeats 4000000

def PakO (p : Nat) (l : List UInt8) (L : List Ob) : Prop :=
  (l = [] ∧ L = [(p, .cells true [.nils, .bool false])]) ∨
  (l ≠ [] ∧ ∃ r, L = [(p, .cells true [.slice r 0 l.length 1, .bool false]), (r, .cells true (l.flatMap byteC))])
theorem and127 : ∀ n : Nat, n < 128 → IntKind.u8.wrap (BitVec.ofInt IntKind.u8.bits (n : Int) &&& BitVec.ofInt IntKind.u8.bits 127).toNat = ((UInt8.ofNat n).toNat : Nat) := by decide +kernel
theorem shr7 : ∀ n : Nat, n < 128 → ((n : Int).fdiv (2 ^ min (Int.toNat 7) IntKind.i64.bits)) = 0 := by decide +kernel
theorem num1_prog (p : Nat) (l : List UInt8) (L : List Ob) (n : Nat) (hn : n < 128) (hL : PakO p l L) (hl : l.length ≤ 1000000) : CallsL Tryz.prog npack_Packer_Num [.ptr p 0, .int .i64 (n : Nat)] L fun v L' => v = .ptr p 0 ∧ PakO p (l ++ [UInt8.ofNat n]) L' := by
  have h7 := shr7 n hn
  have h127 := and127 n hn
  rcases hL with ⟨rfl, rfl⟩ | ⟨hne, r, rfl⟩
  · skip
    refine spack_Packer_Num fun H hh => ?_
    dsimp only [cpack_Packer_Num]
    refine walk (k := ?_)
    repeat' first | refine And.intro ?_ ?_ | intro
    all_goals refine leaf ?_
    · exfalso; omega
    refine loopM [0, 1, 5] (fun m vs L => m = 0 ∧ vs = [.ptr p 0, .int .i64 (n : Nat), .int .i64 0] ∧ L = [(p, .cells true [.nils, .bool false])])
      (Nx.intro (i := 0) trivial ⟨rfl, rfl, rfl⟩) ?_
    clear hh
    rintro m _ _ env H ⟨rfl, rfl, rfl⟩ hh
    simp only [puts]
    refine walk1 (k := ?_)
    repeat' first | refine And.intro ?_ ?_ | intro
    all_goals refine leaf ?_
    refine c_cond_f (congrArg V.bool (decide_eq_false (by show ¬ (0 < (n : Int).fdiv (2 ^ min (Int.toNat 7) IntKind.i64.bits)); rw [h7]; decide))) ?_
    refine walk1 (k := ?_)
    repeat' first | refine And.intro ?_ ?_ | intro
    all_goals refine leaf ?_
    refine loopM [0, 1, 5] (fun m vs L => m = 0 ∧ vs = [.ptr p 0, .int .i64 (n : Nat), .int .i64 0] ∧ L = [(p, .cells true [.nils, .bool false])])
      (Nx.intro (i := 0) trivial ⟨rfl, rfl, rfl⟩) ?_
    clear hh
    rintro m _ _ env H ⟨rfl, rfl, rfl⟩ hh
    simp only [puts]
    refine walk1 (k := ?_)
    repeat' first | refine And.intro ?_ ?_ | intro
    all_goals refine leaf ?_
    rename_i t _ hh
    rw [h127] at hh
    refine wps_app_nil (m := 0) hh rfl (src_slice (esz := 0) hh .here rfl) (by decide) fun r H' hh => ?_
    refine walk1 (k := ?_)
    repeat' first | refine And.intro ?_ ?_ | intro
    all_goals refine leaf ?_
    exact done ⟨rfl, .inr ⟨by simp, r, rfl⟩⟩
  · skip
    refine spack_Packer_Num fun H hh => ?_
    dsimp only [cpack_Packer_Num]
    refine walk (k := ?_)
    repeat' first | refine And.intro ?_ ?_ | intro
    all_goals refine leaf ?_
    · exfalso; omega
    refine loopM [0, 1, 5] (fun m vs L => m = 0 ∧ vs = [.ptr p 0, .int .i64 (n : Nat), .int .i64 0] ∧ L = [(p, .cells true [.slice r 0 l.length 1, .bool false]), (r, .cells true (l.flatMap byteC))])
      (Nx.intro (i := 0) trivial ⟨rfl, rfl, rfl⟩) ?_
    clear hh
    rintro m _ _ env H ⟨rfl, rfl, rfl⟩ hh
    simp only [puts]
    refine walk1 (k := ?_)
    repeat' first | refine And.intro ?_ ?_ | intro
    all_goals refine leaf ?_
    refine c_cond_f (congrArg V.bool (decide_eq_false (by show ¬ (0 < (n : Int).fdiv (2 ^ min (Int.toNat 7) IntKind.i64.bits)); rw [h7]; decide))) ?_
    refine walk1 (k := ?_)
    repeat' first | refine And.intro ?_ ?_ | intro
    all_goals refine leaf ?_
    refine loopM [0, 1, 5] (fun m vs L => m = 0 ∧ vs = [.ptr p 0, .int .i64 (n : Nat), .int .i64 0] ∧ L = [(p, .cells true [.slice r 0 l.length 1, .bool false]), (r, .cells true (l.flatMap byteC))])
      (Nx.intro (i := 0) trivial ⟨rfl, rfl, rfl⟩) ?_
    clear hh
    rintro m _ _ env H ⟨rfl, rfl, rfl⟩ hh
    simp only [puts]
    refine walk1 (k := ?_)
    repeat' first | refine And.intro ?_ ?_ | intro
    all_goals refine leaf ?_
    rename_i t _ hh
    rw [h127] at hh
    refine wps_approw hh [UInt8.ofNat n] (enc := byteC) (m := 0) (t := t) (b := true) (L' := fun id' => [(t, .cells true ([UInt8.ofNat n].flatMap byteC)), (p, .cells true [.slice r 0 l.length 1, .bool false]), (id', .cells true ((l ++ [UInt8.ofNat n]).flatMap byteC))]) rfl rfl .here (fun _ => rfl) (fun _ => .there (.there .here1)) (by show (_ + 1) * 1 ≤ _; omega) fun r2 H' hh => ?_
    refine walk1 (k := ?_)
    repeat' first | refine And.intro ?_ ?_ | intro
    all_goals refine leaf ?_
    exact done ⟨rfl, .inr ⟨by simp, r2, rfl⟩⟩
theorem raw_prog (p : Nat) (l s : List UInt8) (L : List Ob) (hne : l ≠ []) (hL : PakO p l L) (hl : l.length + s.length ≤ 1000000) : CallsL Tryz.prog npack_Packer_Raw [.ptr p 0, .str s] L fun v L' => v = .ptr p 0 ∧ PakO p (l ++ s) L' := by
  rcases hL with ⟨rfl, rfl⟩ | ⟨_, r, rfl⟩
  · exact absurd rfl hne
  · skip
    refine spack_Packer_Raw fun H hh => ?_
    dsimp only [cpack_Packer_Raw]
    refine walk (k := ?_)
    repeat' first | refine And.intro ?_ ?_ | intro
    all_goals refine leaf ?_
    refine wps_appstr hh (l := l) (us := s) (L' := fun id' => [(p, .cells true [.slice r 0 l.length 1, .bool false]), (id', .cells true ((l ++ s).flatMap byteC))]) rfl rfl (fun _ => .there .here1) (by omega) fun r2 H' hh => ?_
    refine walk1 (k := ?_)
    repeat' first | refine And.intro ?_ ?_ | intro
    all_goals refine leaf ?_
    exact done ⟨rfl, .inr ⟨by simp [hne], r2, rfl⟩⟩
def txtL (s : List UInt8) : List UInt8 := UInt8.ofNat s.length :: s
theorem text_prog (p : Nat) (l s : List UInt8) (L : List Ob) (hs : s.length < 128) (hL : PakO p l L) (hl : l.length ≤ 100000) : CallsL Tryz.prog npack_Packer_Text [.ptr p 0, .str s] L fun v L' => v = .ptr p 0 ∧ PakO p (l ++ txtL s) L' := by
  refine spack_Packer_Text fun H hh => ?_
  dsimp only [cpack_Packer_Text]
  refine walk1 (k := ?_)
  repeat' first | refine And.intro ?_ ?_ | intro
  all_goals refine leaf ?_
  refine callL ((num1_prog p l L s.length hs hL (by omega))) ?_
  rintro v L' H' ⟨rfl, h1⟩ hh
  refine walk1 (k := ?_)
  repeat' first | refine And.intro ?_ ?_ | intro
  all_goals refine leaf ?_
  refine callL ((raw_prog p (l ++ [UInt8.ofNat s.length]) s L' (by simp) h1 (by simp; omega))) ?_
  rintro v L2 H' ⟨rfl, h2⟩ hh
  refine walk1 (k := ?_)
  repeat' first | refine And.intro ?_ ?_ | intro
  all_goals refine leaf ?_
  rw [List.append_assoc] at h2
  exact done ⟨rfl, h2⟩
theorem pstring_prog (p : Nat) (l : List UInt8) (L : List Ob) (hL : PakO p l L) : CallsR Tryz.prog npack_Packer_String [.ptr p 0] L fun v => v = .str l := by
  rcases hL with ⟨rfl, rfl⟩ | ⟨_, r, rfl⟩
  · have hok : CallsR Tryz.prog npack_Packer_OK [.ptr p 0] [(p, .cells true [.nils, .bool false])] fun v => v = .bool true := by
      refine spack_Packer_OK fun H hh => ?_
      dsimp only [cpack_Packer_OK]
      refine walk1 (k := ?_)
      repeat' first | refine And.intro ?_ ?_ | intro
      all_goals refine leaf ?_
      exact doneR rfl
    refine spack_Packer_String fun H hh => ?_
    dsimp only [cpack_Packer_String]
    refine walk1 (k := ?_)
    repeat' first | refine And.intro ?_ ?_ | intro
    all_goals refine leaf ?_
    refine callE (hok) ?_
    refine walk1 (k := ?_)
    repeat' first | refine And.intro ?_ ?_ | intro
    all_goals refine leaf ?_
    exact doneR rfl
  · have hok : CallsR Tryz.prog npack_Packer_OK [.ptr p 0] [(p, .cells true [.slice r 0 l.length 1, .bool false]), (r, .cells true (l.flatMap byteC))] fun v => v = .bool true := by
      refine spack_Packer_OK fun H hh => ?_
      dsimp only [cpack_Packer_OK]
      refine walk1 (k := ?_)
      repeat' first | refine And.intro ?_ ?_ | intro
      all_goals refine leaf ?_
      exact doneR rfl
    refine spack_Packer_String fun H hh => ?_
    dsimp only [cpack_Packer_String]
    refine walk1 (k := ?_)
    repeat' first | refine And.intro ?_ ?_ | intro
    all_goals refine leaf ?_
    refine callE (hok) ?_
    refine walk1 (k := ?_)
    repeat' first | refine And.intro ?_ ?_ | intro
    all_goals refine leaf ?_
    exact doneR rfl
end Go.Proofs.YtelgcaacaolgfaaGreatDoor
