/-
  The names of files: the law.
-/
import Derived.Test.YtdpnaneedjoboaaDoorFilB
namespace Go.Proofs.YtdpnaneedjoboaaDoor
open Go Go.CM
set_option maxRecDepth 100000
set_option maxHeartbeats 4000000

theorem fawake_prog (e : Nat) : CallsR Tryd.prog nlaw08_awake [] (LO e) fun v => v = .bool true := by
  have hw : rightW [108, 111, 103] = true := by decide
  have hd : Lib.decDigits 12 = [49, 50] := by rw [Lib.decDigits_two (by decide) (by decide)]; decide
  have hn : IsNum [108, 111, 103] [108, 111, 103, 46, 49, 50] 12 := ⟨hw, by decide, by decide, by show [108, 111, 103] ++ 46 :: Lib.decDigits 12 = _; rw [hd]; rfl⟩
  have h1 := fnumber_prog [108, 111, 103] [108, 111, 103, 46, 49, 50] (by decide) e
  rw [numOf_is hn] at h1
  have h2 := fname_prog [108, 111, 103] 12 e
  rw [hn.name.1] at h2
  refine slaw08_awake fun H hh => ?_
  dsimp only [claw08_awake]
  refine walk1 (k := ?_)
  repeat' first | refine And.intro ?_ ?_ | intro
  all_goals refine leaf ?_
  refine callE (h1) ?_
  refine walk1 (k := ?_)
  repeat' first | refine And.intro ?_ ?_ | intro
  all_goals refine leaf ?_
  refine callE (h2) ?_
  refine walk1 (k := ?_)
  repeat' first | refine And.intro ?_ ?_ | intro
  all_goals refine leaf ?_
  exact doneR rfl
theorem numOf_name (w : List UInt8) (n : Int) : (nameL w n = [] ∧ numOf w (nameL w n) = 0) ∨ (nameL w n ≠ [] ∧ numOf w (nameL w n) = n ∧ 1 ≤ n) := by
  by_cases h : nameL w n = []
  · refine .inl ⟨h, numOf_no fun m hm => hm.name.2 h⟩
  · have hn := isNum_of (w := w) (n := n) rfl h
    exact .inr ⟨h, numOf_is hn, hn.2.1⟩
theorem names_prog (w name : List UInt8) (n : Int) (e : Nat) : CallsR Tryd.prog nlaw08_FilesNames [.str w, .str name, .int .i64 n] (LO e) fun v => v = .bool true := by
  have hN := numOf_cases w name
  have hB := numOf_name w n
  refine slaw08_FilesNames fun H hh => ?_
  dsimp only [claw08_FilesNames]
  refine walk1 (k := ?_)
  repeat' first | refine And.intro ?_ ?_ | intro
  all_goals refine leaf ?_
  refine callE ((fawake_prog e)) ?_
  refine walk (k := ?_)
  repeat' first | refine And.intro ?_ ?_ | intro
  all_goals refine leaf ?_
  · exact doneR rfl
  · exact doneR rfl
  refine callE ((fnumber_prog w name (by omega) e)) ?_
  refine walk1 (k := ?_)
  repeat' first | refine And.intro ?_ ?_ | intro
  all_goals refine leaf ?_
  refine callE ((rnumber_prog w name (by omega) (by omega))) ?_
  refine walk1 (k := ?_)
  repeat' first | refine And.intro ?_ ?_ | intro
  all_goals refine leaf ?_
  refine callE ((fname_prog w n e)) ?_
  refine walk1 (k := ?_)
  repeat' first | refine And.intro ?_ ?_ | intro
  all_goals refine leaf ?_
  refine callE ((fnumber_prog w (nameL w n) (by omega) e)) ?_
  refine walk1 (k := ?_)
  repeat' first | refine And.intro ?_ ?_ | intro
  all_goals refine leaf ?_
  refine callE ((rname_prog w n (by omega))) ?_
  refine walk1 (k := ?_)
  repeat' first | refine And.intro ?_ ?_ | intro
  all_goals refine leaf ?_
  refine wps_slot (s := 46) (v := .bool true) (congrArg V.bool (beq_self_eq_true _)) ?_
  refine walk1 (k := ?_)
  repeat' first | refine And.intro ?_ ?_ | intro
  all_goals refine leaf ?_
  refine wps_slot (s := 51) (v := .bool true) (congrArg V.bool (beq_self_eq_true _)) ?_
  refine walk1 (k := ?_)
  repeat' first | refine And.intro ?_ ?_ | intro
  all_goals refine leaf ?_
  refine wps_slot (s := 57) (v := .bool true) (congrArg V.bool (beq_self_eq_true _)) ?_
  refine walk1 (k := ?_)
  repeat' first | refine And.intro ?_ ?_ | intro
  all_goals refine leaf ?_
  rcases hB with ⟨b1, b2⟩ | ⟨b1, b2, b3⟩
  · rw [b1, show numOf w [] = 0 by rw [← b1]; exact b2]
    refine wps_slot (s := 63) (v := .bool true) (by rfl) ?_
    refine walk1 (k := ?_)
    repeat' first | refine And.intro ?_ ?_ | intro
    all_goals refine leaf ?_
    exact doneR rfl
  · have e1 : decide (0 < numOf w (nameL w n)) = true := decide_eq_true (by omega)
    have e2 : (!nameL w n == []) = true := by simpa using b1
    rw [e1, e2]
    refine wps_slot (s := 63) (v := .bool true) (by rfl) ?_
    refine walk1 (k := ?_)
    repeat' first | refine And.intro ?_ ?_ | intro
    all_goals refine leaf ?_
    exact doneR (by rw [b2, beq_self_eq_true])
theorem walkFilesNames (vs : List V) (H : Heap) (e : Nat) (hg : Givens H 1 [.one .s, .one .s, .one (.i .i64)] vs) (hh : Has H (LO e)) : CallsC Tryd.prog nlaw08_FilesNames vs H fun v _ => v = .bool true := by
  obtain ⟨_, vs, rfl, ⟨w, rfl, _⟩, hg1⟩ := hg.cons
  obtain ⟨_, vs, rfl, ⟨name, rfl, _⟩, hg2⟩ := hg1.cons
  obtain ⟨_, vs, rfl, ⟨n, rfl, _⟩, hg3⟩ := hg2.cons
  obtain rfl := hg3.nil
  exact (CallsR.reads (R := []) (names_prog w name n e) (by rwa [List.append_nil])).mono fun _ _ h => h.1
end Go.Proofs.YtdpnaneedjoboaaDoor
