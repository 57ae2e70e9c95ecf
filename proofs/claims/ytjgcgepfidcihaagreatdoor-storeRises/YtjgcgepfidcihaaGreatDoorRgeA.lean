/-
  The document's list of entries: what it has of a name.
-/
import Derived.Test.YtjgcgepfidcihaaGreatDoorBaseA
namespace Go.Proofs.YtjgcgepfidcihaaGreatDoor
open Go Go.CM
set_option maxRecDepth 100000
set_option maxHeartbeats 4000000

theorem rget_prog (s : Nat) (b : Bool) (l : List Entry) (n : Nm) (hl : l.length ≤ 100000) (hs : Srt l) : CallsR Tryz.prog nref15_Get [.slice s 0 l.length 14, .int .i64 n.1, .str n.2] [EL s b l] fun v => v = .tup [.agg ((getL l n).getD Entry.zero).enc, .bool (getL l n).isSome] := by
  rw [hs.getL_pl n]
  have hf := rplace_prog s b l n hl
  cases hb : isN l n with
  | true =>
    rw [hb] at hf
    have hlt := isN_lt hb
    refine sref15_Get fun H hh => ?_
    dsimp only [cref15_Get]
    refine walk (k := ?_)
    repeat' first | refine And.intro ?_ ?_ | intro
    all_goals refine leaf ?_
    refine callE (hf) ?_
    refine walk1 (k := ?_)
    repeat' first | refine And.intro ?_ ?_ | intro
    all_goals refine leaf ?_
    exact doneR rfl
  | false =>
    rw [hb] at hf
    refine sref15_Get fun H hh => ?_
    dsimp only [cref15_Get]
    refine walk (k := ?_)
    repeat' first | refine And.intro ?_ ?_ | intro
    all_goals refine leaf ?_
    refine callE (hf) ?_
    refine walk1 (k := ?_)
    repeat' first | refine And.intro ?_ ?_ | intro
    all_goals refine leaf ?_
    exact doneR rfl
end Go.Proofs.YtjgcgepfidcihaaGreatDoor
