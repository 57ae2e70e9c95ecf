/-
  Texts joined: Texts, sign by sign. The document's signs. All signs of a text; keys.
-/
import Derived.Test.YtjgcgepfidcihaaGreatDoorSignA
namespace Go.Proofs.YtjgcgepfidcihaaGreatDoor
open Go Go.CM
set_option maxRecDepth 100000
set_option maxHeartbeats 4000000

def b8 (l : List UInt8) (k : Nat) : Nat := (l.getD k 0).toNat
abbrev tlP (l : List UInt8) (k : Nat) : Prop := k < l.length ∧ 128 ≤ b8 l k ∧ b8 l k < 192
def n2 (l : List UInt8) : Nat := (b8 l 0 - 192) * 64 + (b8 l 1 - 128)
def n3 (l : List UInt8) : Nat := (b8 l 0 - 224) * 4096 + (b8 l 1 - 128) * 64 + (b8 l 2 - 128)
def n4 (l : List UInt8) : Nat := (b8 l 0 - 240) * 262144 + (b8 l 1 - 128) * 4096 + (b8 l 2 - 128) * 64 + (b8 l 3 - 128)
def firstS (l : List UInt8) : Nat × Nat :=
  if b8 l 0 < 128 then (b8 l 0, 1)
  else if 194 ≤ b8 l 0 ∧ b8 l 0 < 224 ∧ tlP l 1 then (n2 l, 2)
  else if (224 ≤ b8 l 0 ∧ b8 l 0 < 240 ∧ tlP l 1 ∧ tlP l 2) ∧ 2048 ≤ n3 l ∧ (n3 l < 55296 ∨ 57343 < n3 l) then (n3 l, 3)
  else if (240 ≤ b8 l 0 ∧ b8 l 0 < 245 ∧ tlP l 1 ∧ tlP l 2 ∧ tlP l 3) ∧ 65536 ≤ n4 l ∧ n4 l ≤ 1114111 then (n4 l, 4)
  else (65533, 1)
theorem b8_lt (l : List UInt8) (k : Nat) : b8 l k < 256 := UInt8.toNat_lt _
theorem get_b8 (s : List UInt8) (pos k : Nat) : ((⟨s.toArray⟩ : ByteArray).get! (pos + k)).toNat = b8 (s.drop pos) k := by
  unfold b8
  congr 1
  show (s.toArray)[pos + k]! = _
  simp only [List.getD_eq_getElem?_getD, getElem!_def, List.getElem?_drop, List.getElem?_toArray]
  cases s[pos + k]? <;> rfl
theorem valid_iff (c : Nat) : Utf8.valid (c : Int) = true ↔ c < 55296 ∨ (57344 ≤ c ∧ c ≤ 1114111) := by
  unfold Utf8.valid
  rw [Bool.or_eq_true, Bool.and_eq_true, Bool.and_eq_true, decide_eq_true_iff, decide_eq_true_iff, decide_eq_true_iff, decide_eq_true_iff]
  omega
theorem decS_first {s : List UInt8} {pos : Nat} (h : pos < s.length) : decS s pos = firstS (s.drop pos) := by
  have hl : (s.drop pos).length = s.length - pos := List.length_drop
  have hsz : (⟨s.toArray⟩ : ByteArray).size = s.length := by show s.toArray.size = _; simp
  have h0 := b8_lt (s.drop pos) 0
  have h1 := b8_lt (s.drop pos) 1
  have h2 := b8_lt (s.drop pos) 2
  have h3 := b8_lt (s.drop pos) 3
  have hd : decS s pos = (if b8 (s.drop pos) 0 < 128 then (b8 (s.drop pos) 0, 1)
    else if (b8 (s.drop pos) 0 / 32 = 6) ∧ (pos + 1 < s.length ∧ b8 (s.drop pos) 1 / 64 = 2) then
      (if (b8 (s.drop pos) 0 % 32) * 64 + b8 (s.drop pos) 1 % 64 ≥ 128 then ((b8 (s.drop pos) 0 % 32) * 64 + b8 (s.drop pos) 1 % 64, 2) else (65533, 1))
    else if ((b8 (s.drop pos) 0 / 16 = 14) ∧ (pos + 1 < s.length ∧ b8 (s.drop pos) 1 / 64 = 2)) ∧ (pos + 2 < s.length ∧ b8 (s.drop pos) 2 / 64 = 2) then
      (if (b8 (s.drop pos) 0 % 16) * 4096 + (b8 (s.drop pos) 1 % 64) * 64 + b8 (s.drop pos) 2 % 64 ≥ 2048 ∧ Utf8.valid (((b8 (s.drop pos) 0 % 16) * 4096 + (b8 (s.drop pos) 1 % 64) * 64 + b8 (s.drop pos) 2 % 64 : Nat) : Int) = true then ((b8 (s.drop pos) 0 % 16) * 4096 + (b8 (s.drop pos) 1 % 64) * 64 + b8 (s.drop pos) 2 % 64, 3) else (65533, 1))
    else if (((b8 (s.drop pos) 0 / 8 = 30) ∧ (pos + 1 < s.length ∧ b8 (s.drop pos) 1 / 64 = 2)) ∧ (pos + 2 < s.length ∧ b8 (s.drop pos) 2 / 64 = 2)) ∧ (pos + 3 < s.length ∧ b8 (s.drop pos) 3 / 64 = 2) then
      (if (b8 (s.drop pos) 0 % 8) * 262144 + (b8 (s.drop pos) 1 % 64) * 4096 + (b8 (s.drop pos) 2 % 64) * 64 + b8 (s.drop pos) 3 % 64 ≥ 65536 ∧ Utf8.valid (((b8 (s.drop pos) 0 % 8) * 262144 + (b8 (s.drop pos) 1 % 64) * 4096 + (b8 (s.drop pos) 2 % 64) * 64 + b8 (s.drop pos) 3 % 64 : Nat) : Int) = true then ((b8 (s.drop pos) 0 % 8) * 262144 + (b8 (s.drop pos) 1 % 64) * 4096 + (b8 (s.drop pos) 2 % 64) * 64 + b8 (s.drop pos) 3 % 64, 4) else (65533, 1))
    else (65533, 1)) := by
    unfold decS Utf8.decode
    simp only [get_b8, hsz, Bool.and_eq_true, decide_eq_true_eq, beq_iff_eq, Utf8.runeError]
  rw [hd]
  simp only [valid_iff]
  unfold firstS n2 n3 n4 tlP
  rw [hl]
  generalize b8 (s.drop pos) 0 = a at *
  generalize b8 (s.drop pos) 1 = b at *
  generalize b8 (s.drop pos) 2 = c at *
  generalize b8 (s.drop pos) 3 = d at *
  clear hd
  have et1 : (pos + 1 < s.length ∧ b / 64 = 2) ↔ (1 < s.length - pos ∧ 128 ≤ b ∧ b < 192) := by omega
  have et2 : (pos + 2 < s.length ∧ c / 64 = 2) ↔ (2 < s.length - pos ∧ 128 ≤ c ∧ c < 192) := by omega
  have et3 : (pos + 3 < s.length ∧ d / 64 = 2) ↔ (3 < s.length - pos ∧ 128 ≤ d ∧ d < 192) := by omega
  simp only [et1, et2, et3]
  clear et1 et2 et3
  by_cases c0 : a < 128
  · rw [if_pos c0, if_pos c0]
  rw [if_neg c0, if_neg c0]
  by_cases k1 : 1 < s.length - pos ∧ 128 ≤ b ∧ b < 192
  · have q1 := k1.2
    by_cases c1 : a / 32 = 6
    · conv => lhs; rw [if_pos ⟨c1, k1⟩]
      by_cases c2 : 194 ≤ a
      · conv => lhs; rw [if_pos (by omega)]
        conv => rhs; rw [if_pos ⟨c2, by omega, k1⟩]
        exact congrArg (·, 2) (by omega)
      · conv => lhs; rw [if_neg (by omega)]
        conv => rhs; rw [if_neg (fun h => c2 h.1), if_neg (fun h => by omega), if_neg (fun h => by omega)]
    · conv => lhs; rw [if_neg (fun h => c1 h.1)]
      conv => rhs; rw [if_neg (fun h => c1 (by omega))]
      by_cases k2 : 2 < s.length - pos ∧ 128 ≤ c ∧ c < 192
      · have q2 := k2.2
        by_cases c3 : a / 16 = 14
        · conv => lhs; rw [if_pos ⟨⟨c3, k1⟩, k2⟩]
          have e : a % 16 * 4096 + b % 64 * 64 + c % 64 = (a - 224) * 4096 + (b - 128) * 64 + (c - 128) := by omega
          rw [e]
          by_cases c4 : 2048 ≤ (a - 224) * 4096 + (b - 128) * 64 + (c - 128) ∧ ((a - 224) * 4096 + (b - 128) * 64 + (c - 128) < 55296 ∨ 57343 < (a - 224) * 4096 + (b - 128) * 64 + (c - 128))
          · conv => lhs; rw [if_pos ⟨c4.1, by omega⟩]
            conv => rhs; rw [if_pos ⟨⟨by omega, by omega, k1, k2⟩, c4⟩]
          · conv => lhs; rw [if_neg (fun h => c4 ⟨h.1, by omega⟩)]
            conv => rhs; rw [if_neg (fun h => c4 h.2), if_neg (fun h => by omega)]
        · conv => lhs; rw [if_neg (fun h => c3 h.1.1)]
          conv => rhs; rw [if_neg (fun h => c3 (by omega))]
          by_cases k3 : 3 < s.length - pos ∧ 128 ≤ d ∧ d < 192
          · have q3 := k3.2
            by_cases c5 : a / 8 = 30
            · conv => lhs; rw [if_pos ⟨⟨⟨c5, k1⟩, k2⟩, k3⟩]
              have e : a % 8 * 262144 + b % 64 * 4096 + c % 64 * 64 + d % 64 = (a - 240) * 262144 + (b - 128) * 4096 + (c - 128) * 64 + (d - 128) := by omega
              rw [e]
              by_cases c4 : 65536 ≤ (a - 240) * 262144 + (b - 128) * 4096 + (c - 128) * 64 + (d - 128) ∧ (a - 240) * 262144 + (b - 128) * 4096 + (c - 128) * 64 + (d - 128) ≤ 1114111
              · conv => lhs; rw [if_pos ⟨c4.1, by omega⟩]
                conv => rhs; rw [if_pos ⟨⟨by omega, by omega, k1, k2, k3⟩, c4⟩]
              · conv => lhs; rw [if_neg (fun h => c4 ⟨h.1, by omega⟩)]
                conv => rhs; rw [if_neg (fun h => c4 h.2)]
            · conv => lhs; rw [if_neg (fun h => c5 h.1.1.1)]
              conv => rhs; rw [if_neg (fun h => c5 (by omega))]
          · conv => lhs; rw [if_neg (fun h => k3 h.2)]
            conv => rhs; rw [if_neg (fun h => k3 h.1.2.2.2.2)]
      · conv => lhs; rw [if_neg (fun h => k2 h.2), if_neg (fun h => k2 h.1.2)]
        conv => rhs; rw [if_neg (fun h => k2 h.1.2.2.2), if_neg (fun h => k2 h.1.2.2.2.1)]
  · conv => lhs; rw [if_neg (fun h => k1 h.2), if_neg (fun h => k1 h.1.2), if_neg (fun h => k1 h.1.1.2)]
    conv => rhs; rw [if_neg (fun h => k1 h.2.2), if_neg (fun h => k1 h.1.2.2.1), if_neg (fun h => k1 h.1.2.2.1)]
end Go.Proofs.YtjgcgepfidcihaaGreatDoor

namespace Go.Proofs.YtjgcgepfidcihaaGreatDoor
open Go Go.CM
set_option maxRecDepth 100000
set_option maxHeartbeats 4000000

theorem firstS_pos (l : List UInt8) : 1 ≤ (firstS l).2 := by
  unfold firstS
  repeat' split
  all_goals (simp only; omega)
end Go.Proofs.YtjgcgepfidcihaaGreatDoor

namespace Go.Proofs.YtjgcgepfidcihaaGreatDoor
open Go Go.CM
set_option maxRecDepth 100000
set_option maxHeartbeats 4000000

def sgs (s : List UInt8) (p : Nat) : List (Nat × Nat) := if p < s.length then ((firstS (s.drop p)).1, p) :: sgs s (p + (firstS (s.drop p)).2) else []
termination_by s.length - p
decreasing_by (have := firstS_pos (s.drop p); omega)
theorem sgs_lt {s : List UInt8} {p : Nat} (h : p < s.length) : sgs s p = ((firstS (s.drop p)).1, p) :: sgs s (p + (firstS (s.drop p)).2) := by rw [sgs, if_pos h]
theorem sgs_ge {s : List UInt8} {p : Nat} (h : s.length ≤ p) : sgs s p = [] := by rw [sgs, if_neg (by omega)]
def natC (n : Nat) : List V := [.int .i64 (n : Nat)]
end Go.Proofs.YtjgcgepfidcihaaGreatDoor
