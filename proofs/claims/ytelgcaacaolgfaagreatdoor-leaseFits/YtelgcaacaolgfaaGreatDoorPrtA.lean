/-
  A request's fingerprint: the code.
-/
import Derived.Test.YtelgcaacaolgfaaGreatDoorPakA
import Derived.Test.YtelgcaacaolgfaaGreatDoorShaD
namespace Go.Proofs.YtelgcaacaolgfaaGreatDoor
open Go Go.CM
set_option maxRecDepth 100000
set_option maxHeartbeats 4000000

def prtL (m p b : List UInt8) : List UInt8 := shaL (txtL m ++ txtL p ++ txtL b)
theorem print_prog (m p b : List UInt8) (hm : m.length < 128) (hp : p.length < 128) (hb : b.length < 128) : CallsR Tryz.prog ncanon_Print [.str m, .str p, .str b] [] fun v => v = .str (prtL m p b) := by
  refine scanon_Print fun H hh => ?_
  dsimp only [ccanon_Print]
  refine walk1 (k := ?_)
  repeat' first | refine And.intro ?_ ?_ | intro
  all_goals refine leaf ?_
  rename_i q _ hh
  refine callL ((text_prog q [] m _ hm (.inl ⟨rfl, rfl⟩) (by simp))) ?_
  rintro v L1 H' ⟨rfl, h1⟩ hh
  refine walk1 (k := ?_)
  repeat' first | refine And.intro ?_ ?_ | intro
  all_goals refine leaf ?_
  refine callL ((text_prog q _ p L1 hp h1 (by simp [txtL]; omega))) ?_
  rintro v L2 H' ⟨rfl, h2⟩ hh
  refine walk1 (k := ?_)
  repeat' first | refine And.intro ?_ ?_ | intro
  all_goals refine leaf ?_
  refine callL ((text_prog q _ b L2 hb h2 (by simp [txtL]; omega))) ?_
  rintro v L3 H' ⟨rfl, h3⟩ hh
  have hs := pstring_prog q _ L3 h3
  rw [List.nil_append] at hs
  have hsh := sha_prog (txtL m ++ txtL p ++ txtL b) (by simp [txtL]; omega)
  refine walk1 (k := ?_)
  repeat' first | refine And.intro ?_ ?_ | intro
  all_goals refine leaf ?_
  refine callE (hs) ?_
  refine walk1 (k := ?_)
  repeat' first | refine And.intro ?_ ?_ | intro
  all_goals refine leaf ?_
  refine callE (hsh) ?_
  refine walk1 (k := ?_)
  repeat' first | refine And.intro ?_ ?_ | intro
  all_goals refine leaf ?_
  exact doneR rfl
end Go.Proofs.YtelgcaacaolgfaaGreatDoor
