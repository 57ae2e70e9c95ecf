/-
  Nobody's disk has no files.
-/
import Derived.Test.YtkfhgpegnnokgaaGreatDoorFilC
import Derived.Test.YtkfhgpegnnokgaaGreatDoorSrt
import Derived.Test.YtkfhgpegnnokgaaGreatDoorCmX
import Derived.Test.YtkfhgpegnnokgaaGreatDoorCmG
namespace Go.Proofs.YtkfhgpegnnokgaaGreatDoor
open Go Go.CM
set_option maxRecDepth 100000
set_option maxHeartbeats 4000000

theorem sortI_is : Sort1 Tryz.prog nslices_Sort_int (Value.int .i64) fun l => l.mergeSort fun x y => decide (x ≤ y) :=
  ⟨⟨_, Tryz.sortI.f189, by kernel_rfl, by kernel_rfl⟩, fun blk off cap zs w h1 h2 h3 => Any.slices_Sort_int Tryz.sortI blk off cap zs w h1 h2 h3, fun p cap w => Any.slices_Sort_int_none Tryz.sortI p cap w, fun zs => List.length_mergeSort zs⟩
theorem isort_nil : CallsL Tryz.prog nslices_Sort_int [.nils] [] fun v L' => v = .tup [] ∧ L' = [] := by
  have h := sortInts sortI_is (s := 0) [] (by decide)
  have h2 := CallsL.nilArg (args' := [.slice 0 0 0 1]) (.cons (Wk.nils 0 1) .nil) h fun H hh => hh.ghost true (L := [])
  exact fun H hh => (h2 H hh).mono fun v H' ⟨L', ⟨e1, _⟩, h3⟩ => ⟨[], ⟨e1, rfl⟩, Has.nil _⟩
theorem names_nil : CallsR Tryz.prog ndisk_Disk_Names [.nilp] [] fun v => v = .nils := by
  refine sdisk_Disk_Names fun H hh => ?_
  dsimp only [cdisk_Disk_Names]
  refine walk1 (k := ?_)
  repeat' first | refine And.intro ?_ ?_ | intro
  all_goals refine leaf ?_
  exact doneR rfl
theorem all_nil (w : List UInt8) (e : Nat) : CallsR Tryz.prog nfiles_All [.nilp, .str w] (LO e) fun v => v = .nils := by
  refine sfiles_All fun H hh => ?_
  dsimp only [cfiles_All]
  refine walk1 (k := ?_)
  repeat' first | refine And.intro ?_ ?_ | intro
  all_goals refine leaf ?_
  refine callE (names_nil) ?_
  refine walk1 (k := ?_)
  repeat' first | refine And.intro ?_ ?_ | intro
  all_goals refine leaf ?_
  refine loopN [0, 1, 5, 12, 13] 0 (fun i vs L => vs = [.nilp, .str w, .nils, .int .i64 0, .int .i64 0] ∧ L = LO e) (Nx.here ⟨rfl, rfl⟩) ?_
  clear hh
  rintro i _ _ env H _ ⟨rfl, rfl⟩ hh
  simp only [puts]
  refine walk1 (k := ?_)
  repeat' first | refine And.intro ?_ ?_ | intro
  all_goals refine leaf ?_
  refine callL (isort_nil) ?_
  rintro _ _ H' ⟨rfl, rfl⟩ hh
  refine walk1 (k := ?_)
  repeat' first | refine And.intro ?_ ?_ | intro
  all_goals refine leaf ?_
  exact doneR rfl
end Go.Proofs.YtkfhgpegnnokgaaGreatDoor
