/-
  The wheel: the place of a time.
-/
import Derived.Test.YtlnidffddidfaaaWheelD
namespace Go.Proofs.Ytlnidffddidfaaa
open Go Go.CM
set_option maxRecDepth 100000
set_option maxHeartbeats 4000000

theorem hiB_cases (a b : Nat) : ∀ k, (hiB a b k = -1 ∧ ∀ j, j < k → dg a j = dg b j) ∨ ∃ m, m < k ∧ hiB a b k = (m : Int) ∧ dg a m ≠ dg b m ∧ ∀ j, m < j → j < k → dg a j = dg b j
  | 0 => .inl ⟨rfl, fun j h => absurd h (Nat.not_lt_zero j)⟩
  | k + 1 => by
    by_cases h : dg a k ≠ dg b k
    · exact .inr ⟨k, Nat.lt_succ_self k, if_pos h, h, fun j h1 h2 => by omega⟩
    · have e : hiB a b (k + 1) = hiB a b k := if_neg h
      have h' : dg a k = dg b k := Classical.not_not.1 h
      rcases hiB_cases a b k with ⟨h1, h2⟩ | ⟨m, h1, h2, h3, h4⟩
      · refine .inl ⟨e.trans h1, fun j hj => ?_⟩
        by_cases hjk : j = k
        · subst hjk; exact h'
        · exact h2 j (by omega)
      · refine .inr ⟨m, by omega, e.trans h2, h3, fun j hj1 hj2 => ?_⟩
        by_cases hjk : j = k
        · subst hjk; exact h'
        · exact h4 j hj1 (by omega)
/-- A time's digits tell it. -/
theorem dg_all {a b : Nat} : ∀ k, (∀ j, j < k → dg a j = dg b j) → a % 2 ^ (6 * k) = b % 2 ^ (6 * k)
  | 0, _ => by simp [Nat.mod_one]
  | k + 1, h => by
    have ih := dg_all k fun j hj => h j (by omega)
    have hk := h k (Nat.lt_succ_self k)
    unfold dg at hk
    rw [show 6 * (k + 1) = 6 * k + 6 by omega, Nat.pow_add, Nat.mod_mul, Nat.mod_mul, ih, show (2 : Nat) ^ 6 = 64 from rfl, hk]
theorem hi_is {a b : Nat} (ha : a ≤ 1099511627776) (hb : b ≤ 1099511627776) (hne : a ≠ b) : ∃ m : Nat, m ≤ 6 ∧ hiB a b 7 = (m : Int) ∧ dg a m ≠ dg b m ∧ ∀ j : Nat, m < j → j ≤ 6 → dg a j = dg b j := by
  rcases hiB_cases a b 7 with ⟨_, h2⟩ | ⟨m, h1, h2, h3, h4⟩
  · have := dg_all 7 h2
    rw [Nat.mod_eq_of_lt (by omega), Nat.mod_eq_of_lt (by omega)] at this
    exact absurd this hne
  · exact ⟨m, by omega, h2, h3, fun j h5 h6 => h4 j h5 (by omega)⟩
abbrev WO (w : Nat) (now : Nat) (mi mb : Nat) : Ob := (w, .cells true [.int .i64 now, .map mi, .map mb])
/-- A place: a level, a slot. -/
def plc (now at_ : Nat) : Nat × Nat := if at_ ≤ now then (7, 0) else ((hiB at_ now 7).toNat, dg at_ (hiB at_ now 7).toNat)
def plC (p : Nat × Nat) : List V := [.int .i64 p.1, .int .i64 p.2]
theorem of_prog (w now mi mb at_ : Nat) (hn : now ≤ 1099511627776) (ha : at_ ≤ 1099511627776) : CallsR Try.prog nwheel_Wheel_of [.ptr w 0, .int .i64 at_] [WO w now mi mb] fun v => v = .agg (plC (plc now at_)) := by
  refine swheel_Wheel_of fun H hh => ?_
  dsimp only [cwheel_Wheel_of]
  refine walk (k := ?_)
  repeat' first | refine And.intro ?_ ?_ | intro
  all_goals refine leaf ?_
  · rename_i h
    have h' : at_ ≤ now := by omega
    refine doneR ?_
    rw [plc, if_pos h']; rfl
  · rename_i h
    have h' : ¬ at_ ≤ now := by omega
    obtain ⟨m, h1, h2, h3, h4⟩ := hi_is ha hn (by omega)
    have hp := high_prog at_ now ha hn
    rw [h2] at hp
    refine callE (hp) ?_
    refine walk1 (k := ?_)
    repeat' first | refine And.intro ?_ ?_ | intro
    all_goals refine leaf ?_
    refine callE (digit_prog at_ m ha h1) ?_
    refine walk1 (k := ?_)
    repeat' first | refine And.intro ?_ ?_ | intro
    all_goals refine leaf ?_
    refine doneR ?_
    rw [plc, if_neg h', h2, Int.toNat_natCast]; rfl
end Go.Proofs.Ytlnidffddidfaaa
