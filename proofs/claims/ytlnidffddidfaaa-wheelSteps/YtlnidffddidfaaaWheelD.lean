/-
  The wheel: the highest digit in which two times differ; the place of a time.
-/
import Derived.Test.YtlnidffddidfaaaWheelB
namespace Go.Proofs.Ytlnidffddidfaaa
open Go Go.CM
set_option maxRecDepth 100000
set_option maxHeartbeats 4000000

def dg (a k : Nat) : Nat := a / 2 ^ (6 * k) % 64
/-- The highest digit below k in which two times differ. -/
def hiB (a b : Nat) : Nat → Int
  | 0 => -1
  | k + 1 => if dg a k ≠ dg b k then (k : Int) else hiB a b k
theorem high_prog (a b : Nat) (ha : a ≤ 1099511627776) (hb : b ≤ 1099511627776) : CallsR Try.prog nwheel_high [.int .i64 a, .int .i64 b] [] fun v => v = .int .i64 (hiB a b 7) := by
  refine swheel_high fun H hh => ?_
  dsimp only [cwheel_high]
  refine walk (k := ?_)
  repeat' first | refine And.intro ?_ ?_ | intro
  all_goals refine leaf ?_
  refine loopN [0, 1, 5] 7 (fun i vs L => hiB a b 7 = hiB a b (7 - i) ∧ vs = [.int .i64 a, .int .i64 b, .int .i64 (6 - (i : Int))] ∧ L = []) (Nx.here ⟨rfl, rfl, rfl⟩) ?_
  clear hh
  rintro i _ _ e H hi ⟨hd, rfl, rfl⟩ hh
  simp only [puts]
  by_cases hn : i < 7
  · skip
    refine walk1 (k := ?_)
    repeat' first | refine And.intro ?_ ?_ | intro
    all_goals refine leaf ?_
    refine c_cond_t (by show V.bool _ = _; simp; omega) ?_
    have e6 : (6 - (i : Int)) = ((6 - i : Nat) : Int) := by omega
    rw [e6]
    refine walk1 (k := ?_)
    repeat' first | refine And.intro ?_ ?_ | intro
    all_goals refine leaf ?_
    refine callE (digit_prog a (6 - i) ha (by omega)) ?_
    refine walk1 (k := ?_)
    repeat' first | refine And.intro ?_ ?_ | intro
    all_goals refine leaf ?_
    refine callE (digit_prog b (6 - i) hb (by omega)) ?_
    refine walk1 (k := ?_)
    repeat' first | refine And.intro ?_ ?_ | intro
    all_goals refine leaf ?_
    have e7 : 7 - i = (6 - i) + 1 := by omega
    have es : hiB a b (6 - i + 1) = if dg a (6 - i) ≠ dg b (6 - i) then ((6 - i : Nat) : Int) else hiB a b (6 - i) := rfl
    rw [e7, es] at hd
    by_cases hne : dg a (6 - i) ≠ dg b (6 - i)
    · rw [if_pos hne] at hd
      refine c_cond_t (by show V.bool _ = _; simp only [dg] at hne; simp only [bne_iff_ne, ne_eq, V.bool.injEq]; exact fun h => hne (by exact_mod_cast h)) ?_
      refine walk1 (k := ?_)
      repeat' first | refine And.intro ?_ ?_ | intro
      all_goals refine leaf ?_
      exact doneR (by rw [hd])
    · rw [if_neg hne] at hd
      refine c_cond_f (by show V.bool _ = _; simp only [dg, ne_eq, Classical.not_not] at hne; rw [hne]; simp) ?_
      refine walk1 (k := ?_)
      repeat' first | refine And.intro ?_ ?_ | intro
      all_goals refine leaf ?_
      exact Nx.next hn ⟨by rw [hd]; congr 1; omega, by simp only [List.map]; congr 3; show V.int _ _ = _; congr 1; omega, rfl⟩
  · skip
    refine walk1 (k := ?_)
    repeat' first | refine And.intro ?_ ?_ | intro
    all_goals refine leaf ?_
    refine c_cond_f (by show V.bool _ = _; simp; omega) ?_
    refine walk1 (k := ?_)
    repeat' first | refine And.intro ?_ ?_ | intro
    all_goals refine leaf ?_
    have e7 : 7 - i = 0 := by omega
    rw [e7] at hd
    exact doneR (by rw [hd]; rfl)
end Go.Proofs.Ytlnidffddidfaaa
