/-
  The wheel: the sort of timers.
-/
import Derived.Test.YtlnidffddidfaaaWheelB
import Derived.Test.YtlnidffddidfaaaSort
import Derived.Test.YtlnidffddidfaaaCmSort
import Derived.Test.YtlnidffddidfaaaCmMap
namespace Go.Proofs.Ytlnidffddidfaaa
open Go Go.CM
set_option maxRecDepth 100000
set_option maxHeartbeats 4000000

theorem tmr_inj : ∀ x y : Tmr, x.enc = y.enc → x = y := by
  rintro ⟨a, b⟩ ⟨a', b'⟩ h
  simp only [Tmr.enc, List.cons.injEq, V.int.injEq, true_and, and_true] at h
  obtain ⟨rfl, rfl⟩ := h
  rfl
theorem leT_trans {a b c : Tmr} (h : ¬ ltT a b) (h' : ¬ ltT b c) : ¬ ltT a c := by
  rw [ltT_iff] at *; omega
theorem ordT_cmp : Cmp ordT := ⟨ltT_irrefl, fun x y z h1 h2 => ltT_trans (a := x) (b := y) (c := z) h1 h2, fun x y z h1 h2 => leT_trans (a := x) (b := y) (c := z) h1 h2⟩
theorem sortT_prog (s : Nat) (l : List Tmr) (hn : l.length < 4611686018427387904) : CallsL Try.prog nslices_SortFunc_wheel_timer [.slice s 0 l.length 2, .func nwheel_Wheel_Tick_1 []] [TL s true l] fun v L' => ∃ l' : List Tmr, l'.Perm l ∧ l'.Pairwise (fun x y => ¬ ltT y x) ∧ v = .tup [] ∧ L' = [TL s true l'] :=
  sortL (k := 2) ⟨_, Try.func26, by kernel_rfl, by kernel_rfl⟩ (sortK_of Try.sortTmr Try.isAgg55 Try.sizeOf55) (sortK0_of Try.sortTmr) (by decide) tmr_inj (fun _ => rfl) ordT_cmp (fun a b => ordT_prog a b) l hn
end Go.Proofs.Ytlnidffddidfaaa
