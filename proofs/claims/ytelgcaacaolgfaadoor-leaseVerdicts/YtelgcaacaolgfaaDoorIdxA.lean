/-
  The byte at which a text is cut: strings.IndexByte, strings.Index and strings.Count at one byte.
-/
import Derived.Test.YtelgcaacaolgfaaDoorMetC
import Derived.Test.YtelgcaacaolgfaaDoorCmG
namespace Go.Proofs.YtelgcaacaolgfaaDoor
open Go Go.CM
set_option maxRecDepth 100000
set_option maxHeartbeats 4000000

theorem slibyte_prog (s : List UInt8) (c : Int) : CallsR Tryd.prog nstringslite_IndexByte [.str s, .int .u8 c] [] fun v => v = .int .i64 (Lib.indexByte s c.toNat.toUInt8) := by
  refine sstringslite_IndexByte fun H hh => ?_
  dsimp only [cstringslite_IndexByte]
  refine walk1 (k := ?_)
  repeat' first | refine And.intro ?_ ?_ | intro
  all_goals refine leaf ?_
  refine wps_ext rfl (indexByte_at hfbytealg_IndexByteString (by kernel_rfl) (by kernel_rfl) (by kernel_rfl) (by kernel_rfl) s c) ?_
  refine walk1 (k := ?_)
  repeat' first | refine And.intro ?_ ?_ | intro
  all_goals refine leaf ?_
  exact doneR rfl
theorem idxbyte_prog (s : List UInt8) (c : Int) : CallsR Tryd.prog nstrings_IndexByte [.str s, .int .u8 c] [] fun v => v = .int .i64 (Lib.indexByte s c.toNat.toUInt8) := by
  have h1 := slibyte_prog s c
  refine sstrings_IndexByte fun H hh => ?_
  dsimp only [cstrings_IndexByte]
  refine walk1 (k := ?_)
  repeat' first | refine And.intro ?_ ?_ | intro
  all_goals refine leaf ?_
  refine callE (h1) ?_
  refine walk1 (k := ?_)
  repeat' first | refine And.intro ?_ ?_ | intro
  all_goals refine leaf ?_
  exact doneR rfl
theorem slindex_prog (s : List UInt8) (c : UInt8) : CallsR Tryd.prog nstringslite_Index [.str s, .str [c]] [] fun v => v = .int .i64 (Lib.indexByte s c) := by
  have h1 := slibyte_prog s (([c].getD 0 0).toNat : Nat)
  rw [show ((([c].getD 0 0).toNat : Nat) : Int).toNat.toUInt8 = c by show (c.toNat : Int).toNat.toUInt8 = c; simp] at h1
  refine sstringslite_Index fun H hh => ?_
  dsimp only [cstringslite_Index]
  refine walk (k := ?_)
  repeat' first | refine And.intro ?_ ?_ | intro
  all_goals refine leaf ?_
  · rename_i he
    subst he
    exact doneR (by simp [Lib.indexByte])
  refine callE (h1) ?_
  refine walk1 (k := ?_)
  repeat' first | refine And.intro ?_ ?_ | intro
  all_goals refine leaf ?_
  exact doneR rfl
theorem index_prog (s : List UInt8) (c : UInt8) : CallsR Tryd.prog nstrings_Index [.str s, .str [c]] [] fun v => v = .int .i64 (Lib.indexByte s c) := by
  have h1 := slindex_prog s c
  refine sstrings_Index fun H hh => ?_
  dsimp only [cstrings_Index]
  refine walk1 (k := ?_)
  repeat' first | refine And.intro ?_ ?_ | intro
  all_goals refine leaf ?_
  refine callE (h1) ?_
  refine walk1 (k := ?_)
  repeat' first | refine And.intro ?_ ?_ | intro
  all_goals refine leaf ?_
  exact doneR rfl
theorem count_prog (s : List UInt8) (c : UInt8) : CallsR Tryd.prog nstrings_Count [.str s, .str [c]] [] fun v => v = .int .i64 (Lib.countByte s c : Nat) := by
  have e : (c.toNat : Int).toNat.toUInt8 = c := by simp
  refine sstrings_Count fun H hh => ?_
  dsimp only [cstrings_Count]
  refine walk1 (k := ?_)
  repeat' first | refine And.intro ?_ ?_ | intro
  all_goals refine leaf ?_
  refine wps_ext (vs := [.str s, .int .u8 (([c].getD 0 0).toNat : Nat)]) rfl (countByte_at hfbytealg_CountString (by kernel_rfl) (by kernel_rfl) (by kernel_rfl) (by kernel_rfl) s (([c].getD 0 0).toNat : Nat)) ?_
  rw [show ((([c].getD 0 0).toNat : Nat) : Int).toNat.toUInt8 = c from e]
  refine walk1 (k := ?_)
  repeat' first | refine And.intro ?_ ?_ | intro
  all_goals refine leaf ?_
  exact doneR rfl
end Go.Proofs.YtelgcaacaolgfaaDoor
