/-
  A method: the reference.
-/
import Derived.Test.YtelgcaacaolgfaaDoorLetA
namespace Go.Proofs.YtelgcaacaolgfaaDoor
open Go Go.CM
set_option maxRecDepth 100000
set_option maxHeartbeats 4000000

abbrev isL (c : UInt8) : Prop := 65 ≤ c.toNat ∧ c.toNat ≤ 90 ∨ 97 ≤ c.toNat ∧ c.toNat ≤ 122
def upB (c : UInt8) : UInt8 := if 97 ≤ c.toNat ∧ c.toNat ≤ 122 then c - 32 else c
abbrev metP (s : List UInt8) : Prop := (1 ≤ s.length ∧ s.length ≤ 8) ∧ ∀ c ∈ s, isL c
theorem up_sub {c : UInt8} (h : 97 ≤ c.toNat ∧ c.toNat ≤ 122) : [V.int .u8 ((c.toNat : Int) - 32)] = [upB c].flatMap byteC := by
  unfold upB
  rw [if_pos h]
  show _ = [V.int .u8 ((c - 32).toNat : Nat)]
  rw [UInt8.toNat_sub_of_le _ _ (UInt8.le_iff_toNat_le.2 (by show 32 ≤ _; omega))]
  show [V.int .u8 _] = [V.int .u8 ((c.toNat - 32 : Nat) : Int)]
  rw [Int.ofNat_sub (by omega)]
  rfl
theorem up_same {c : UInt8} (h : ¬(97 ≤ c.toNat ∧ c.toNat ≤ 122)) : [V.int .u8 (c.toNat : Int)] = [upB c].flatMap byteC := by
  unfold upB
  rw [if_neg h]
  rfl
theorem binV_cat {a b : List UInt8} (h : a.length + b.length ≤ 1000000000) : binV .add (.str a) (.str b) = some (.str (a ++ b)) := if_neg (show ¬ ((a.length + b.length : Nat) : Int) > 9223372036854775807 by omega)
def metV (s : List UInt8) : V := if metP s then .tup [.str (s.map upB), .bool true] else .tup [.str [], .bool false]
end Go.Proofs.YtelgcaacaolgfaaDoor
