/-
  Digits and bytes that stay: the code.
-/
import Derived.Test.YtelgcaacaolgfaaDoorPlnA
namespace Go.Proofs.YtelgcaacaolgfaaDoor
open Go Go.CM
set_option maxRecDepth 100000
set_option maxHeartbeats 4000000

abbrev great : List UInt8 := [48, 49, 50, 51, 52, 53, 54, 55, 56, 57, 65, 66, 67, 68, 69, 70]
theorem all8 {p : Nat → Prop} (h : ∀ n < 256, p n) (c : UInt8) : p c.toNat := h _ (UInt8.toNat_lt c)
theorem great_dig (c : UInt8) : Lib.indexByte great (upB c) = digI c.toNat := by
  have h : ∀ n < 256, Lib.indexByte great (upB (UInt8.ofNat n)) = digI (UInt8.ofNat n).toNat := by decide +kernel
  have := h c.toNat (UInt8.toNat_lt c)
  rwa [show UInt8.ofNat c.toNat = c by simp] at this
theorem marks_ix (c : UInt8) : decide (0 ≤ Lib.indexByte [45, 46, 95, 126] c) = decide (c.toNat = 45 ∨ c.toNat = 46 ∨ c.toNat = 95 ∨ c.toNat = 126) := by
  have h : ∀ n < 256, decide (0 ≤ Lib.indexByte [45, 46, 95, 126] (UInt8.ofNat n)) = decide ((UInt8.ofNat n).toNat = 45 ∨ (UInt8.ofNat n).toNat = 46 ∨ (UInt8.ofNat n).toNat = 95 ∨ (UInt8.ofNat n).toNat = 126) := by decide +kernel
  have := h c.toNat (UInt8.toNat_lt c)
  rwa [show UInt8.ofNat c.toNat = c by simp] at this
theorem upB_not {c : UInt8} (h : ¬ isL c) : upB c = c := by rw [upB, if_neg (by omega)]
theorem cdigit_prog (c : UInt8) : CallsR Tryd.prog ncanon_digit [.int .u8 c.toNat] [] fun v => v = .int .i64 (digI c.toNat) := by
  have h1 := letterB_prog c
  have h2 := idxbyte_prog great ((upB c).toNat : Nat)
  rw [show (((upB c).toNat : Nat) : Int).toNat.toUInt8 = upB c by simp, great_dig] at h2
  refine scanon_digit fun H hh => ?_
  dsimp only [ccanon_digit]
  refine walk1 (k := ?_)
  repeat' first | refine And.intro ?_ ?_ | intro
  all_goals refine leaf ?_
  by_cases hc : isL c
  · rw [decide_eq_true hc] at h1
    refine callE (h1) ?_
    refine walk1 (k := ?_)
    repeat' first | refine And.intro ?_ ?_ | intro
    all_goals refine leaf ?_
    refine callE (h2) ?_
    refine walk1 (k := ?_)
    repeat' first | refine And.intro ?_ ?_ | intro
    all_goals refine leaf ?_
    exact doneR rfl
  · rw [decide_eq_false hc] at h1
    rw [upB_not hc] at h2
    refine callE (h1) ?_
    refine walk1 (k := ?_)
    repeat' first | refine And.intro ?_ ?_ | intro
    all_goals refine leaf ?_
    refine callE (h2) ?_
    refine walk1 (k := ?_)
    repeat' first | refine And.intro ?_ ?_ | intro
    all_goals refine leaf ?_
    exact doneR rfl
theorem plain_prog (c : UInt8) : CallsR Tryd.prog ncanon_plain [.int .u8 c.toNat] [] fun v => v = .bool (decide (plP c)) := by
  have h1 := letterB_prog c
  have h2 := idxbyte_prog [45, 46, 95, 126] (c.toNat : Nat)
  rw [show ((c.toNat : Nat) : Int).toNat.toUInt8 = c by simp] at h2
  have hm := marks_ix c
  refine scanon_plain fun H hh => ?_
  dsimp only [ccanon_plain]
  refine walk (k := ?_)
  repeat' first | refine And.intro ?_ ?_ | intro
  all_goals refine leaf ?_
  by_cases hc : isL c
  · rw [decide_eq_true hc] at h1
    refine callE (h1) ?_
    refine walk (k := ?_)
    repeat' first | refine And.intro ?_ ?_ | intro
    all_goals refine leaf ?_
    exact doneR (congrArg V.bool (decide_eq_true (Or.inl hc)).symm)
  · rw [decide_eq_false hc] at h1
    refine callE (h1) ?_
    refine walk (k := ?_)
    repeat' first | refine And.intro ?_ ?_ | intro
    all_goals refine leaf ?_
    all_goals first
      | exact doneR (congrArg V.bool (decide_eq_true (Or.inr (Or.inl (by omega)))).symm)
      | skip
    all_goals
      refine callE (h2) ?_
      refine walk (k := ?_)
      repeat' first | refine And.intro ?_ ?_ | intro
      all_goals refine leaf ?_
      refine doneR (congrArg V.bool ?_)
      rw [hm, Bool.eq_iff_iff, decide_eq_true_iff, decide_eq_true_iff]
      omega
end Go.Proofs.YtelgcaacaolgfaaDoor
