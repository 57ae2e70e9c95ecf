/-
  Paths, in plain words.
-/
import Derived.Test.YtelgcaacaolgfaaDoorIdxA
namespace Go.Proofs.YtelgcaacaolgfaaDoor
open Go Go.CM
set_option maxRecDepth 100000
set_option maxHeartbeats 4000000

def pairB (a b : UInt8) : UInt8 := UInt8.ofNat ((digI a.toNat).toNat * 16 + (digI b.toNat).toNat)
/-- A part's bytes. -/
def readP (s : List UInt8) (p : Nat) : Option (List UInt8) :=
  if p < s.length then
    if s.getD p 0 ≠ 37 then (readP s (p + 1)).map (s.getD p 0 :: ·)
    else if p + 2 < s.length ∧ 0 ≤ digI (s.getD (p + 1) 0).toNat ∧ 0 ≤ digI (s.getD (p + 2) 0).toNat then (readP s (p + 3)).map (pairB (s.getD (p + 1) 0) (s.getD (p + 2) 0) :: ·)
    else none
  else some []
termination_by s.length - p
abbrev rightP (n most : Nat) (l : List Nat) : Prop := (1 ≤ n ∧ n ≤ most) ∧ ∀ x ∈ l, srtI x ≠ 0
abbrev okL (o : List UInt8) : Prop := o = [] ∨ rightP o.length 60 ((sgs o 0).map (·.1))
def readV (s : List UInt8) : V := match readP s 0 with
  | none => .tup [.str [], .bool false]
  | some o => .tup [.str o, .bool (decide (okL o))]
def partL (s : List UInt8) : Option (List UInt8) := match readP s 0 with
  | none => none
  | some o => if okL o then some o else none
abbrev plP (c : UInt8) : Prop := isL c ∨ (48 ≤ c.toNat ∧ c.toNat ≤ 57) ∨ c.toNat = 45 ∨ c.toNat = 46 ∨ c.toNat = 95 ∨ c.toNat = 126
def hexB (n : Nat) : UInt8 := if n < 10 then UInt8.ofNat (48 + n) else UInt8.ofNat (55 + n)
def putB (c : UInt8) : List UInt8 := if plP c then [c] else [37, hexB (c.toNat / 16), hexB (c.toNat % 16)]
def writeL (s : List UInt8) : List UInt8 := s.flatMap putB
def splitL : List UInt8 → List (List UInt8)
  | [] => [[]]
  | c :: r => if c = 47 then [] :: splitL r else match splitL r with
    | [] => [[c]]
    | q :: qs => (c :: q) :: qs
def partsL (out : List (List UInt8)) : List (List UInt8) → Option (List (List UInt8))
  | [] => some out
  | p :: ps => match partL p with
    | none => none
    | some q => if q = [] ∨ q = [46] then partsL out ps else if q = [46, 46] then (if out = [] then none else partsL out.dropLast ps) else partsL (out ++ [q]) ps
def joinL (l : List (List UInt8)) : List UInt8 := l.flatMap fun p => 47 :: writeL p
def fullL (o : List UInt8) : List UInt8 := if o = [] then [47] else o
def pathL (s : List UInt8) : Option (List UInt8) :=
  if s = [] ∨ 60 < s.length ∨ (s.getD 0 0).toNat ≠ 47 then none else match partsL [] (splitL s) with
  | none => none
  | some l => if 60 < (fullL (joinL l)).length then none else some (fullL (joinL l))
def pathV (s : List UInt8) : V := match pathL s with
  | none => .tup [.str [], .bool false]
  | some o => .tup [.str o, .bool true]
theorem splitL_ne (s : List UInt8) : splitL s ≠ [] := by
  cases s with
  | nil => simp [splitL]
  | cons c r =>
    rw [splitL]
    split
    · simp
    · split <;> simp
theorem splitL_none : ∀ {s : List UInt8}, (∀ k < s.length, s.getD k 0 ≠ 47) → splitL s = [s]
  | [], _ => rfl
  | c :: r, h => by
    have h0 : c ≠ 47 := h 0 (by simp)
    rw [splitL, if_neg h0, splitL_none (s := r) fun k hk => by have := h (k + 1) (by simpa using hk); simpa using this]
theorem splitL_some : ∀ {s : List UInt8} {m : Nat}, (∀ k < m, s.getD k 0 ≠ 47) → m < s.length → s.getD m 0 = 47 → splitL s = s.take m :: splitL (s.drop (m + 1))
  | [], m, _, hm, _ => by simp at hm
  | c :: r, 0, _, _, h => by rw [splitL, if_pos (by simpa using h)]; simp
  | c :: r, m + 1, h, hm, he => by
    have h0 : c ≠ 47 := h 0 (by simp)
    rw [splitL, if_neg h0, splitL_some (s := r) (m := m) (fun k hk => by have := h (k + 1) (by omega); simpa using this) (by simpa using hm) (by simpa using he)]
    simp
theorem index_none {s : List UInt8} {c : UInt8} : Lib.indexByte s c = -1 → ∀ k < s.length, s.getD k 0 ≠ c := by
  induction s with
  | nil => intro _ k hk; simp at hk
  | cons b l ih =>
    intro h k hk
    rw [Lib.indexByte] at h
    split at h
    · omega
    · rename_i hb
      split at h
      · rename_i hi
        cases k with
        | zero => simpa using hb
        | succ k => have := ih (by simpa using hi) k (by simpa using hk); simpa using this
      · have := Lib.indexByte_ge l c; omega
theorem index_some {s : List UInt8} {c : UInt8} : Lib.indexByte s c ≠ -1 → ∃ m : Nat, Lib.indexByte s c = m ∧ m < s.length ∧ s.getD m 0 = c ∧ ∀ k < m, s.getD k 0 ≠ c := by
  induction s with
  | nil => intro h; exact absurd rfl h
  | cons b l ih =>
    intro h
    rw [Lib.indexByte] at h ⊢
    by_cases hb : (b == c) = true
    · rw [if_pos hb]
      exact ⟨0, rfl, by simp, by simpa using hb, fun k hk => by omega⟩
    · rw [if_neg hb] at h ⊢
      by_cases hi : (Lib.indexByte l c == -1) = true
      · rw [if_pos hi] at h; exact absurd rfl h
      · rw [if_neg hi]
        obtain ⟨m, h1, h2, h3, h4⟩ := ih (by simpa using hi)
        refine ⟨m + 1, by rw [h1]; rfl, by simp; omega, by simpa using h3, fun k hk => ?_⟩
        cases k with
        | zero => simpa using hb
        | succ k => have := h4 k (by omega); simpa using this
theorem splitL_len : ∀ s : List UInt8, (splitL s).length = Lib.countByte s 47 + 1
  | [] => rfl
  | c :: r => by
    have ih := splitL_len r
    unfold Lib.countByte at *
    rw [splitL, List.count_cons]
    split
    · rename_i h
      rw [List.length_cons, ih, if_pos (by simpa using h)]
    · rename_i h
      rw [if_neg (by simpa using h)]
      have := splitL_ne r
      cases hq : splitL r with
      | nil => exact absurd hq this
      | cons q qs => rw [hq] at ih; simpa using ih
theorem count_le (s : List UInt8) (c : UInt8) : Lib.countByte s c ≤ s.length := List.count_le_length
theorem readP_at {s : List UInt8} {p : Nat} (h : p < s.length) (h37 : s.getD p 0 ≠ 37) : readP s p = (readP s (p + 1)).map (s.getD p 0 :: ·) := by rw [readP, if_pos h, if_pos h37]
theorem readP_hex {s : List UInt8} {p : Nat} (h : p + 2 < s.length) (h37 : s.getD p 0 = 37) (h1 : 0 ≤ digI (s.getD (p + 1) 0).toNat) (h2 : 0 ≤ digI (s.getD (p + 2) 0).toNat) : readP s p = (readP s (p + 3)).map (pairB (s.getD (p + 1) 0) (s.getD (p + 2) 0) :: ·) := by
  rw [readP, if_pos (by omega), if_neg (fun h => h h37), if_pos ⟨h, h1, h2⟩]
theorem readP_bad {s : List UInt8} {p : Nat} (h : p < s.length) (h37 : s.getD p 0 = 37) (h2 : ¬ (p + 2 < s.length ∧ 0 ≤ digI (s.getD (p + 1) 0).toNat ∧ 0 ≤ digI (s.getD (p + 2) 0).toNat)) : readP s p = none := by
  rw [readP, if_pos h, if_neg (fun h => h h37), if_neg h2]
theorem readP_end {s : List UInt8} {p : Nat} (h : s.length ≤ p) : readP s p = some [] := by rw [readP, if_neg (by omega)]
theorem readP_len {s : List UInt8} (p : Nat) {o : List UInt8} (h : readP s p = some o) : o.length ≤ s.length - p := by
  by_cases hp : p < s.length
  · by_cases h37 : s.getD p 0 = 37
    · by_cases hh : p + 2 < s.length ∧ 0 ≤ digI (s.getD (p + 1) 0).toNat ∧ 0 ≤ digI (s.getD (p + 2) 0).toNat
      · rw [readP_hex hh.1 h37 hh.2.1 hh.2.2] at h
        obtain ⟨q, hq, rfl⟩ := Option.map_eq_some_iff.1 h
        have := readP_len (p + 3) hq
        simp only [List.length_cons]
        omega
      · rw [readP_bad hp h37 hh] at h; cases h
    · rw [readP_at hp h37] at h
      obtain ⟨q, hq, rfl⟩ := Option.map_eq_some_iff.1 h
      have := readP_len (p + 1) hq
      simp only [List.length_cons]
      omega
  · rw [readP_end (by omega)] at h
    cases h
    simp
termination_by s.length - p
theorem map_cat {o : Option (List UInt8)} (out : List UInt8) (c : UInt8) : (o.map (c :: ·)).map (out ++ ·) = o.map ((out ++ [c]) ++ ·) := by cases o <;> simp
theorem digI_le (c : Int) : digI c ≤ 15 := by
  unfold digI
  repeat' split
  all_goals omega
end Go.Proofs.YtelgcaacaolgfaaDoor
