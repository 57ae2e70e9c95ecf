/-
  Names of files, in plain words: a word, a point, a number.
-/
import Derived.Test.YtkfhgpegnnokgaaGreatDoorCmX
namespace Go.Proofs.YtkfhgpegnnokgaaGreatDoor
open Go Go.CM

def isLow (b : UInt8) : Bool := decide (97 ≤ b.toNat) && decide (b.toNat ≤ 122)
def rightW (w : List UInt8) : Bool := !w.isEmpty && decide (w.length ≤ 5) && w.all isLow
def nameL (w : List UInt8) (n : Int) : List UInt8 := if rightW w = true ∧ 1 ≤ n ∧ n ≤ 99999 then w ++ 46 :: Lib.decDigits n.toNat else []
def IsNum (w name : List UInt8) (n : Int) : Prop := rightW w = true ∧ 1 ≤ n ∧ n ≤ 99999 ∧ w ++ 46 :: Lib.decDigits n.toNat = name

theorem decFrom_app (l : List UInt8) (b : UInt8) : ∀ acc, Lib.decFrom acc (l ++ [b]) = (Lib.decFrom acc l).bind fun v => (Lib.digitVal b).map fun d => v * 10 + d := by
  induction l with
  | nil => intro acc; simp only [List.nil_append, Lib.decFrom, Option.bind_some]; cases Lib.digitVal b <;> rfl
  | cons a l ih =>
    intro acc
    simp only [List.cons_append, Lib.decFrom]
    cases Lib.digitVal a with
    | none => rfl
    | some d => exact ih _
theorem digitVal_of (d : Nat) (h : d < 10) : Lib.digitVal (UInt8.ofNat (48 + d)) = some d := by
  unfold Lib.digitVal
  have e : (UInt8.ofNat (48 + d)).toNat = 48 + d := by simp; omega
  rw [e, if_pos ⟨by omega, by omega⟩]
  congr 1; omega
theorem decFrom_digits : ∀ (u : Nat), Lib.decFrom 0 (Lib.decDigits u) = some u := by
  intro u
  induction u using Nat.strongRecOn with
  | _ u ih =>
    rw [Lib.decDigits]
    split
    · rename_i h
      simp only [Lib.decFrom, digitVal_of u h, Nat.zero_mul, Nat.zero_add]
    · rename_i h
      rw [decFrom_app, ih (u / 10) (by omega), digitVal_of (u % 10) (by omega)]
      simp only [Option.bind_some, Option.map_some]
      congr 1; omega
theorem decDigits_ne (u : Nat) : Lib.decDigits u ≠ [] := by
  rw [Lib.decDigits]; split <;> simp
theorem decDigits_len : ∀ (k u : Nat), u < 10 ^ k → 0 < k → (Lib.decDigits u).length ≤ k
  | 0, _, _, h => absurd h (Nat.lt_irrefl _)
  | k + 1, u, h, _ => by
    rw [Lib.decDigits]
    split
    · simp
    · rename_i h10
      have hk : 0 < k := by
        rcases Nat.eq_zero_or_pos k with rfl | hk
        · simp at h; omega
        · exact hk
      have := decDigits_len k (u / 10) (by rw [Nat.pow_succ] at h; omega) hk
      simp; omega
theorem decDigits_inj {a b : Nat} (h : Lib.decDigits a = Lib.decDigits b) : a = b := by
  have h1 := decFrom_digits a
  rw [h, decFrom_digits] at h1
  exact (Option.some.inj h1).symm
theorem digit_head {u : Nat} {b : UInt8} {l : List UInt8} (h : Lib.decDigits u = b :: l) : (b == 45) = false ∧ (b == 43) = false := by
  have h1 := decFrom_digits u
  rw [h] at h1
  simp only [Lib.decFrom] at h1
  cases hd : Lib.digitVal b with
  | none => rw [hd] at h1; cases h1
  | some d =>
    unfold Lib.digitVal at hd
    split at hd
    · rename_i h2
      constructor <;> · rw [beq_eq_false_iff_ne]; rintro rfl; revert h2; decide
    · cases hd
theorem atoi_digits (u : Nat) : Lib.atoi (Lib.decDigits u) = some (u : Int) := by
  have h1 := decFrom_digits u
  cases hl : Lib.decDigits u with
  | nil => exact absurd hl (decDigits_ne u)
  | cons b l =>
    obtain ⟨e1, e2⟩ := digit_head hl
    show (if (b == 45) = true then _ else if (b == 43) = true then _ else (Lib.decNat (b :: l)).map _) = _
    rw [e1, e2]
    simp only [Bool.false_eq_true, if_false, Lib.decNat, List.isEmpty_cons]
    rw [← hl, h1]
    rfl
theorem IsNum.uniq {w name : List UInt8} {n m : Int} (h : IsNum w name n) (k : IsNum w name m) : n = m := by
  obtain ⟨_, h1, h2, h3⟩ := h
  obtain ⟨_, k1, k2, k3⟩ := k
  rw [← k3] at h3
  have := decDigits_inj (List.cons.inj (List.append_cancel_left h3)).2
  omega
theorem IsNum.name {w name : List UInt8} {n : Int} (h : IsNum w name n) : nameL w n = name ∧ name ≠ [] := by
  obtain ⟨h0, h1, h2, h3⟩ := h
  refine ⟨by unfold nameL; rw [if_pos ⟨h0, h1, h2⟩]; exact h3, ?_⟩
  rw [← h3]; simp
theorem isNum_of {w name : List UInt8} {n : Int} (h : nameL w n = name) (h0 : name ≠ []) : IsNum w name n := by
  unfold nameL at h
  split at h
  · rename_i h1; exact ⟨h1.1, h1.2.1, h1.2.2, h⟩
  · exact absurd h.symm h0
open Classical in
noncomputable def numOf (w name : List UInt8) : Int := if h : ∃ n, IsNum w name n then h.choose else 0
theorem numOf_is {w name : List UInt8} {n : Int} (h : IsNum w name n) : numOf w name = n := by
  have hx : ∃ n, IsNum w name n := ⟨n, h⟩
  unfold numOf
  rw [dif_pos hx]
  exact hx.choose_spec.uniq h
theorem numOf_no {w name : List UInt8} (h : ∀ n, ¬ IsNum w name n) : numOf w name = 0 := by
  unfold numOf; rw [dif_neg fun ⟨n, hn⟩ => h n hn]
theorem IsNum.tail {w name : List UInt8} {n : Int} (h : IsNum w name n) : (w ++ [46]).isPrefixOf name = true ∧ name.drop (w.length + 1) = Lib.decDigits n.toNat ∧ (Lib.decDigits n.toNat).length ≤ 5 ∧ Lib.atoi (name.drop (w.length + 1)) = some n := by
  obtain ⟨_, h1, h2, h3⟩ := h
  have hd : name.drop (w.length + 1) = Lib.decDigits n.toNat := by
    rw [← h3, List.drop_append]
    simp
  refine ⟨?_, hd, decDigits_len 5 _ (by omega) (by decide), ?_⟩
  · rw [List.isPrefixOf_iff_prefix, ← h3]
    exact ⟨Lib.decDigits n.toNat, by simp⟩
  · rw [hd, atoi_digits]; congr 1; omega

/- the letters -/
def lowSet : List UInt8 := [97, 98, 99, 100, 101, 102, 103, 104, 105, 106, 107, 108, 109, 110, 111, 112, 113, 114, 115, 116, 117, 118, 119, 120, 121, 122]
theorem lowSet_is : ∀ b : UInt8, lowSet.contains b = isLow b := by
  have h : ∀ n : Fin 256, lowSet.contains (UInt8.ofNat n.val) = isLow (UInt8.ofNat n.val) := by decide +kernel
  intro b
  have := h ⟨b.toNat, b.toNat_lt⟩
  simpa using this
theorem dropWhile_nil {α : Type} {p : α → Bool} : ∀ {l : List α}, l.dropWhile p = [] ↔ l.all p = true
  | [] => by simp
  | a :: l => by
    simp only [List.dropWhile, List.all_cons, Bool.and_eq_true]
    cases h : p a with
    | false => simp
    | true => simpa using dropWhile_nil (l := l)
theorem dropWhile_head {α : Type} {p : α → Bool} : ∀ {l : List α} {a : α} {r : List α}, l.dropWhile p = a :: r → p a = false
  | [], _, _, h => by cases h
  | b :: l, a, r, h => by
    simp only [List.dropWhile] at h
    cases hb : p b with
    | true => rw [hb] at h; exact dropWhile_head h
    | false => rw [hb] at h; cases h; exact hb
theorem trimS_nil (l cs : List UInt8) : Lib.trimS l cs = [] ↔ l.all (cs.contains ·) = true := by
  unfold Lib.trimS Lib.trimLeftS Lib.trimRightS
  constructor
  · intro h
    rw [dropWhile_nil] at h
    cases hm : l.reverse.dropWhile (cs.contains ·) with
    | nil =>
      rw [dropWhile_nil] at hm
      simpa using hm
    | cons a r =>
      have h1 := dropWhile_head hm
      rw [hm] at h
      simp only [List.reverse_cons, List.all_append, List.all_cons, List.all_nil, Bool.and_true, Bool.and_eq_true] at h
      rw [h1] at h
      exact absurd h.2 (by simp)
  · intro h
    have : l.reverse.dropWhile (cs.contains ·) = [] := by rw [dropWhile_nil]; simpa using h
    rw [this]; rfl
end Go.Proofs.YtkfhgpegnnokgaaGreatDoor
