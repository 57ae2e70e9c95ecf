/-
  Nobody's disk has no files.
-/
import Derived.Test.YtdpnaneedjoboaaGreatDoorFilC
import Derived.Test.YtdpnaneedjoboaaGreatDoorSrt
import Derived.Test.YtdpnaneedjoboaaGreatDoorCmX
import Derived.Test.YtdpnaneedjoboaaGreatDoorCmG
namespace Go.Proofs.YtdpnaneedjoboaaGreatDoor
open Go Go.CM
set_option maxRecDepth 100000
set_option maxHeartbeats 4000000

theorem sortI_is : Sort1 Tryz.prog nslices_Sort_int (Value.int .i64) fun l => l.mergeSort fun x y => decide (x ≤ y) :=
  ⟨⟨_, Tryz.sortI.f189, by kernel_rfl, by kernel_rfl⟩, fun blk off cap zs w h1 h2 h3 => Any.slices_Sort_int Tryz.sortI blk off cap zs w h1 h2 h3, fun p cap w => Any.slices_Sort_int_none Tryz.sortI p cap w, fun zs => List.length_mergeSort zs⟩
theorem isort_nil : CallsL Tryz.prog nslices_Sort_int [.nils] [] fun v L' => v = .tup [] ∧ L' = [] := by
  have h := sortInts sortI_is (s := 0) [] (by decide)
  have h2 := CallsL.nilArg (args' := [.slice 0 0 0 1]) (.cons (Wk.nils 0 1) .nil) h fun H hh => hh.ghost true (L := [])
  exact fun H hh => (h2 H hh).mono fun v H' ⟨L', ⟨e1, _⟩, h3⟩ => ⟨[], ⟨e1, rfl⟩, Has.nil _⟩
theorem names_nil : CallsR Tryz.prog ndisk_Disk_Names [.nilp] [] fun v => v = .nils := by
  refine sdisk_Disk_Names fun H hh => ?_
  dsimp only [cdisk_Disk_Names]
  refine walk1 (k := ?_)
  repeat' first | refine And.intro ?_ ?_ | intro
  all_goals refine leaf ?_
  exact doneR rfl
theorem all_nil (w : List UInt8) (e : Nat) : CallsR Tryz.prog nfiles_All [.nilp, .str w] (LO e) fun v => v = .nils := by
  refine sfiles_All fun H hh => ?_
  dsimp only [cfiles_All]
  refine walk1 (k := ?_)
  repeat' first | refine And.intro ?_ ?_ | intro
  all_goals refine leaf ?_
  refine callE (names_nil) ?_
  refine walk1 (k := ?_)
  repeat' first | refine And.intro ?_ ?_ | intro
  all_goals refine leaf ?_
  refine loopN [0, 1, 5, 12, 13] 0 (fun i vs L => vs = [.nilp, .str w, .nils, .int .i64 0, .int .i64 0] ∧ L = LO e) (Nx.here ⟨rfl, rfl⟩) ?_
  clear hh
  rintro i _ _ env H _ ⟨rfl, rfl⟩ hh
  simp only [puts]
  refine walk1 (k := ?_)
  repeat' first | refine And.intro ?_ ?_ | intro
  all_goals refine leaf ?_
  refine callL (isort_nil) ?_
  rintro _ _ H' ⟨rfl, rfl⟩ hh
  refine walk1 (k := ?_)
  repeat' first | refine And.intro ?_ ?_ | intro
  all_goals refine leaf ?_
  exact doneR rfl
theorem last_nil (w : List UInt8) (e : Nat) : CallsR Tryz.prog nfiles_Last [.nilp, .str w] (LO e) fun v => v = .int .i64 0 := by
  refine sfiles_Last fun H hh => ?_
  dsimp only [cfiles_Last]
  refine walk1 (k := ?_)
  repeat' first | refine And.intro ?_ ?_ | intro
  all_goals refine leaf ?_
  refine callE ((all_nil w e)) ?_
  refine walk1 (k := ?_)
  repeat' first | refine And.intro ?_ ?_ | intro
  all_goals refine leaf ?_
  exact doneR rfl
theorem size_nil (w : List UInt8) (e : Nat) : CallsR Tryz.prog nfiles_Size [.nilp, .str w] (LO e) fun v => v = .int .i64 0 := by
  refine sfiles_Size fun H hh => ?_
  dsimp only [cfiles_Size]
  refine walk1 (k := ?_)
  repeat' first | refine And.intro ?_ ?_ | intro
  all_goals refine leaf ?_
  refine callE ((all_nil w e)) ?_
  refine walk1 (k := ?_)
  repeat' first | refine And.intro ?_ ?_ | intro
  all_goals refine leaf ?_
  refine loopN [0, 1, 5, 13, 14] 0 (fun i vs L => vs = [.nilp, .str w, .int .i64 0, .int .i64 0, .int .i64 0] ∧ L = LO e) (Nx.here ⟨rfl, rfl⟩) ?_
  clear hh
  rintro i _ _ env H _ ⟨rfl, rfl⟩ hh
  simp only [puts]
  refine walk1 (k := ?_)
  repeat' first | refine And.intro ?_ ?_ | intro
  all_goals refine leaf ?_
  exact doneR rfl
theorem clear_nil (w : List UInt8) (n : Int) (e : Nat) : CallsR Tryz.prog nfiles_Clear [.nilp, .str w, .int .i64 n] (LO e) fun v => v = .int .i64 0 := by
  refine sfiles_Clear fun H hh => ?_
  dsimp only [cfiles_Clear]
  refine walk1 (k := ?_)
  repeat' first | refine And.intro ?_ ?_ | intro
  all_goals refine leaf ?_
  refine callE ((all_nil w e)) ?_
  refine walk1 (k := ?_)
  repeat' first | refine And.intro ?_ ?_ | intro
  all_goals refine leaf ?_
  refine loopN [0, 1, 2, 7, 13, 14] 0 (fun i vs L => vs = [.nilp, .str w, .int .i64 n, .int .i64 0, .int .i64 0, .int .i64 0] ∧ L = LO e) (Nx.here ⟨rfl, rfl⟩) ?_
  clear hh
  rintro i _ _ env H _ ⟨rfl, rfl⟩ hh
  simp only [puts]
  refine walk1 (k := ?_)
  repeat' first | refine And.intro ?_ ?_ | intro
  all_goals refine leaf ?_
  exact doneR rfl
theorem nobody_prog (w : List UInt8) (n : Int) (e : Nat) : CallsR Tryz.prog nlaw08_FilesNobody [.str w, .int .i64 n] (LO e) fun v => v = .bool true := by
  refine slaw08_FilesNobody fun H hh => ?_
  dsimp only [claw08_FilesNobody]
  refine walk1 (k := ?_)
  repeat' first | refine And.intro ?_ ?_ | intro
  all_goals refine leaf ?_
  refine callE ((fawake_prog e)) ?_
  refine walk (k := ?_)
  repeat' first | refine And.intro ?_ ?_ | intro
  all_goals refine leaf ?_
  · exact doneR rfl
  refine callE ((all_nil w e)) ?_
  refine walk1 (k := ?_)
  repeat' first | refine And.intro ?_ ?_ | intro
  all_goals refine leaf ?_
  refine callE ((last_nil w e)) ?_
  refine walk1 (k := ?_)
  repeat' first | refine And.intro ?_ ?_ | intro
  all_goals refine leaf ?_
  refine callE ((size_nil w e)) ?_
  refine walk1 (k := ?_)
  repeat' first | refine And.intro ?_ ?_ | intro
  all_goals refine leaf ?_
  refine callE ((clear_nil w n e)) ?_
  refine walk1 (k := ?_)
  repeat' first | refine And.intro ?_ ?_ | intro
  all_goals refine leaf ?_
  exact doneR rfl
theorem walkFilesNobody (vs : List V) (H : Heap) (e : Nat) (hg : Givens H 1 [.one .s, .one (.i .i64)] vs) (hh : Has H (LO e)) : CallsC Tryz.prog nlaw08_FilesNobody vs H fun v _ => v = .bool true := by
  obtain ⟨_, vs, rfl, ⟨w, rfl, _⟩, hg1⟩ := hg.cons
  obtain ⟨_, vs, rfl, ⟨n, rfl, _⟩, hg3⟩ := hg1.cons
  obtain rfl := hg3.nil
  exact (CallsR.reads (R := []) (nobody_prog w n e) (by rwa [List.append_nil])).mono fun _ _ h => h.1
end Go.Proofs.YtdpnaneedjoboaaGreatDoor
