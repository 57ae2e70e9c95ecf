/-
  Short texts as bytes: the code.
-/
import Derived.Test.YtjgcgepfidcihaaGreatDoorEntD
import Derived.Test.YtjgcgepfidcihaaGreatDoorBldA
namespace Go.Proofs.YtjgcgepfidcihaaGreatDoor
open Go Go.CM
set_option maxRecDepth 100000
set_option maxHeartbeats 4000000

def PakO (p : Nat) (l : List UInt8) (L : List Ob) : Prop :=
  (l = [] ∧ L = [(p, .cells true [.nils, .bool false])]) ∨
  (l ≠ [] ∧ ∃ r, L = [(p, .cells true [.slice r 0 l.length 1, .bool false]), (r, .cells true (l.flatMap byteC))])
theorem raw_prog (p : Nat) (l s : List UInt8) (L : List Ob) (hne : l ≠ []) (hL : PakO p l L) (hl : l.length + s.length ≤ 1000000) : CallsL Tryz.prog npack_Packer_Raw [.ptr p 0, .str s] L fun v L' => v = .ptr p 0 ∧ PakO p (l ++ s) L' := by
  rcases hL with ⟨rfl, rfl⟩ | ⟨_, r, rfl⟩
  · exact absurd rfl hne
  · skip
    refine spack_Packer_Raw fun H hh => ?_
    dsimp only [cpack_Packer_Raw]
    refine walk (k := ?_)
    repeat' first | refine And.intro ?_ ?_ | intro
    all_goals refine leaf ?_
    refine wps_appstr hh (l := l) (us := s) (L' := fun id' => [(p, .cells true [.slice r 0 l.length 1, .bool false]), (id', .cells true ((l ++ s).flatMap byteC))]) rfl rfl (fun _ => .there .here1) (by omega) fun r2 H' hh => ?_
    refine walk1 (k := ?_)
    repeat' first | refine And.intro ?_ ?_ | intro
    all_goals refine leaf ?_
    exact done ⟨rfl, .inr ⟨by simp [hne], r2, rfl⟩⟩
def txtL (s : List UInt8) : List UInt8 := UInt8.ofNat s.length :: s
theorem pstring_prog (p : Nat) (l : List UInt8) (L : List Ob) (hL : PakO p l L) : CallsR Tryz.prog npack_Packer_String [.ptr p 0] L fun v => v = .str l := by
  rcases hL with ⟨rfl, rfl⟩ | ⟨_, r, rfl⟩
  · have hok : CallsR Tryz.prog npack_Packer_OK [.ptr p 0] [(p, .cells true [.nils, .bool false])] fun v => v = .bool true := by
      refine spack_Packer_OK fun H hh => ?_
      dsimp only [cpack_Packer_OK]
      refine walk1 (k := ?_)
      repeat' first | refine And.intro ?_ ?_ | intro
      all_goals refine leaf ?_
      exact doneR rfl
    refine spack_Packer_String fun H hh => ?_
    dsimp only [cpack_Packer_String]
    refine walk1 (k := ?_)
    repeat' first | refine And.intro ?_ ?_ | intro
    all_goals refine leaf ?_
    refine callE (hok) ?_
    refine walk1 (k := ?_)
    repeat' first | refine And.intro ?_ ?_ | intro
    all_goals refine leaf ?_
    exact doneR rfl
  · have hok : CallsR Tryz.prog npack_Packer_OK [.ptr p 0] [(p, .cells true [.slice r 0 l.length 1, .bool false]), (r, .cells true (l.flatMap byteC))] fun v => v = .bool true := by
      refine spack_Packer_OK fun H hh => ?_
      dsimp only [cpack_Packer_OK]
      refine walk1 (k := ?_)
      repeat' first | refine And.intro ?_ ?_ | intro
      all_goals refine leaf ?_
      exact doneR rfl
    refine spack_Packer_String fun H hh => ?_
    dsimp only [cpack_Packer_String]
    refine walk1 (k := ?_)
    repeat' first | refine And.intro ?_ ?_ | intro
    all_goals refine leaf ?_
    refine callE (hok) ?_
    refine walk1 (k := ?_)
    repeat' first | refine And.intro ?_ ?_ | intro
    all_goals refine leaf ?_
    exact doneR rfl
end Go.Proofs.YtjgcgepfidcihaaGreatDoor
