/-
  The wheel: timers in order, and their sort.
-/
import Derived.Test.YtlnidffddidfaaaWheelA
import Derived.Test.YtlnidffddidfaaaCmMap
namespace Go.Proofs.Ytlnidffddidfaaa
open Go Go.CM
set_option maxRecDepth 100000
set_option maxHeartbeats 4000000

def cmpI (a b : Int) : Int := if a < b then -1 else if b < a then 1 else 0
theorem isnanI_prog (a : Int) : CallsR Try.prog ncmp_isNaN_int [.int .i64 a] [] fun v => v = .bool false := by
  refine scmp_isNaN_int fun H hh => ?_
  dsimp only [ccmp_isNaN_int]
  refine walk (k := ?_)
  repeat' first | refine And.intro ?_ ?_ | intro
  all_goals refine leaf ?_
  exact doneR (by show V.bool _ = _; simp)
theorem cmpI_prog (a b : Int) : CallsR Try.prog ncmp_Compare_int [.int .i64 a, .int .i64 b] [] fun v => v = .int .i64 (cmpI a b) := by
  refine scmp_Compare_int fun H hh => ?_
  dsimp only [ccmp_Compare_int]
  refine walk (k := ?_)
  repeat' first | refine And.intro ?_ ?_ | intro
  all_goals refine leaf ?_
  refine callE (isnanI_prog a) ?_
  refine walk (k := ?_)
  repeat' first | refine And.intro ?_ ?_ | intro
  all_goals refine leaf ?_
  refine callE (isnanI_prog b) ?_
  refine walk (k := ?_)
  repeat' first | refine And.intro ?_ ?_ | intro
  all_goals refine leaf ?_
  · exact doneR (by rw [cmpI, if_pos ‹_›])
  · exact doneR (by rw [cmpI, if_neg ‹_›, if_pos ‹_›])
  · exact doneR (by rw [cmpI, if_neg ‹_›, if_neg ‹_›])
def orI : List Int → Int
  | [] => 0
  | x :: xs => if x ≠ 0 then x else orI xs
def intC (n : Int) : List V := [.int .i64 n]
theorem or_prog (t : Nat) (b : Bool) (l : List Int) (hl : l.length ≤ 1000) : CallsR Try.prog ncmp_Or_int [.slice t 0 l.length 1] [(t, .cells b (l.flatMap intC))] fun v => v = .int .i64 (orI l) := by
  refine scmp_Or_int fun H hh => ?_
  dsimp only [ccmp_Or_int]
  refine walk (k := ?_)
  repeat' first | refine And.intro ?_ ?_ | intro
  all_goals refine leaf ?_
  refine loopN [3, 6, 7, 8] l.length (fun i vs L => orI l = orI (l.drop i) ∧ vs = [.int .i64 0, .slice t 0 l.length 1, .int .i64 l.length, .int .i64 i] ∧ L = [(t, .cells b (l.flatMap intC))]) (Nx.here ⟨rfl, rfl, rfl⟩) ?_
  clear hh
  rintro i _ _ e H hi ⟨ho, rfl, rfl⟩ hh
  simp only [puts]
  refine walk (k := ?_)
  repeat' first | refine And.intro ?_ ?_ | intro
  all_goals refine leaf ?_
  · rename_i hc hne
    refine doneR ?_
    rw [ho, drop_getD (by omega), orI, if_pos hne]
  · rename_i hc hne
    rw [drop_getD (by omega), orI, if_neg (by simpa using hne)] at ho
    exact Nx.next (by omega) ⟨ho, rfl, rfl⟩
  · rename_i hc
    refine doneR ?_
    rw [ho, List.drop_of_length_le (by omega)]; rfl

structure Tmr where
  id : Int
  at_ : Int
  deriving Inhabited, DecidableEq
def Tmr.enc (d : Tmr) : List V := [.int .i64 d.id, .int .i64 d.at_]
abbrev TL (s : Nat) (b : Bool) (l : List Tmr) : Ob := (s, .cells b (l.flatMap Tmr.enc))
def ordT (a b : Tmr) : Int := orI [cmpI a.at_ b.at_, cmpI a.id b.id]
theorem ordT_prog (a b : Tmr) : CallsR Try.prog nwheel_Wheel_Tick_1 [.agg a.enc, .agg b.enc] [] fun v => v = .int .i64 (ordT a b) := by
  refine swheel_Wheel_Tick_1 fun H hh => ?_
  dsimp only [cwheel_Wheel_Tick_1]
  refine walk (k := ?_)
  repeat' first | refine And.intro ?_ ?_ | intro
  all_goals refine leaf ?_
  refine callE (cmpI_prog a.at_ b.at_) ?_
  refine walk (k := ?_)
  repeat' first | refine And.intro ?_ ?_ | intro
  all_goals refine leaf ?_
  refine callE (cmpI_prog a.id b.id) ?_
  refine walk (k := ?_)
  repeat' first | refine And.intro ?_ ?_ | intro
  all_goals refine leaf ?_
  rename_i t _ _
  refine callE (or_prog t true [cmpI a.at_ b.at_, cmpI a.id b.id] (Nat.le_of_ble_eq_true rfl)) ?_
  refine walk (k := ?_)
  repeat' first | refine And.intro ?_ ?_ | intro
  all_goals refine leaf ?_
  exact doneR rfl
theorem least1_prog (a b : Tmr) : CallsR Try.prog nwheel_least_1 [.agg a.enc, .agg b.enc] [] fun v => v = .int .i64 (cmpI a.at_ b.at_) := by
  refine swheel_least_1 fun H hh => ?_
  dsimp only [cwheel_least_1]
  refine walk (k := ?_)
  repeat' first | refine And.intro ?_ ?_ | intro
  all_goals refine leaf ?_
  refine callE (cmpI_prog a.at_ b.at_) ?_
  refine walk (k := ?_)
  repeat' first | refine And.intro ?_ ?_ | intro
  all_goals refine leaf ?_
  exact doneR rfl
def ltT (a b : Tmr) : Prop := ordT a b < 0
instance (a b : Tmr) : Decidable (ltT a b) := inferInstanceAs (Decidable (ordT a b < 0))
theorem ltT_iff {a b : Tmr} : ltT a b ↔ a.at_ < b.at_ ∨ (a.at_ = b.at_ ∧ a.id < b.id) := by
  unfold ltT ordT orI orI orI cmpI
  repeat' split
  all_goals omega
theorem ltT_irrefl (a : Tmr) : ¬ ltT a a := by rw [ltT_iff]; omega
theorem ltT_trans {a b c : Tmr} (h : ltT a b) (h' : ltT b c) : ltT a c := by
  rw [ltT_iff] at *; omega
theorem ltT_tri {a b : Tmr} (h : ¬ ltT a b) (h' : ¬ ltT b a) : a = b := by
  rw [ltT_iff] at *
  obtain ⟨i, t⟩ := a
  obtain ⟨j, u⟩ := b
  have : i = j ∧ t = u := by simp only at h h'; omega
  obtain ⟨rfl, rfl⟩ := this
  rfl
end Go.Proofs.Ytlnidffddidfaaa
