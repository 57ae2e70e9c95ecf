/-
  Texts in order; whole numbers and texts compared.
-/
import Derived.Test.YtebhddpildfgcaaC0
import Derived.Test.YtebhddpildfgcaaCmG
namespace Go.Proofs.Ytebhddpildfgcaa
open Go Go.CM
set_option maxRecDepth 100000
set_option maxHeartbeats 4000000

/-! Texts are in a strict order. -/
theorem u8_lt {a b : UInt8} : a < b ↔ a.toNat < b.toNat := UInt8.lt_iff_toNat_lt
theorem bl_irrefl : ∀ a : List UInt8, Op.bytesLess a a = false
  | [] => rfl
  | a :: x => by
    simp only [Op.bytesLess, bl_irrefl x, Bool.and_false, Bool.or_false]
    exact decide_eq_false (by rw [u8_lt]; omega)
theorem bl_cons {a b : UInt8} {x y : List UInt8} : Op.bytesLess (a :: x) (b :: y) = true ↔ a.toNat < b.toNat ∨ (a = b ∧ Op.bytesLess x y = true) := by
  simp only [Op.bytesLess, Bool.or_eq_true, Bool.and_eq_true, decide_eq_true_eq, beq_iff_eq, u8_lt]
theorem bl_trans : ∀ {a b c : List UInt8}, Op.bytesLess a b = true → Op.bytesLess b c = true → Op.bytesLess a c = true
  | _, [], _, h, _ => by simp [Op.bytesLess] at h
  | _, _ :: _, [], _, h => by simp [Op.bytesLess] at h
  | [], _ :: _, _ :: _, _, _ => rfl
  | a :: x, b :: y, c :: z, h, h' => by
    rw [bl_cons] at h h' ⊢
    rcases h with h | ⟨rfl, h⟩
    · rcases h' with h' | ⟨rfl, h'⟩
      · exact .inl (by omega)
      · exact .inl h
    · rcases h' with h' | ⟨rfl, h'⟩
      · exact .inl h'
      · exact .inr ⟨rfl, bl_trans h h'⟩
theorem bl_tri : ∀ {a b : List UInt8}, Op.bytesLess a b = false → Op.bytesLess b a = false → a = b
  | [], [], _, _ => rfl
  | [], _ :: _, h, _ => by simp [Op.bytesLess] at h
  | _ :: _, [], _, h => by simp [Op.bytesLess] at h
  | a :: x, b :: y, h, h' => by
    have h1 : ¬ (a.toNat < b.toNat ∨ (a = b ∧ Op.bytesLess x y = true)) := fun k => by rw [bl_cons.2 k] at h; cases h
    have h2 : ¬ (b.toNat < a.toNat ∨ (b = a ∧ Op.bytesLess y x = true)) := fun k => by rw [bl_cons.2 k] at h'; cases h'
    have e : a = b := UInt8.toNat_inj.1 (by omega)
    subst e
    have e1 : Op.bytesLess x y = false := Bool.eq_false_iff.2 fun k => h1 (.inr ⟨rfl, k⟩)
    have e2 : Op.bytesLess y x = false := Bool.eq_false_iff.2 fun k => h2 (.inr ⟨rfl, k⟩)
    rw [bl_tri e1 e2]
theorem bl_asymm {a b : List UInt8} (h : Op.bytesLess a b = true) : Op.bytesLess b a = false :=
  Bool.eq_false_iff.2 fun k => by have := bl_trans h k; rw [bl_irrefl] at this; cases this

def cmpI (a b : Int) : Int := if a < b then -1 else if b < a then 1 else 0
def cmpS (a b : List UInt8) : Int := if Op.bytesLess a b then -1 else if Op.bytesLess b a then 1 else 0
theorem isnanI_prog (a : Int) : CallsR Try.prog ncmp_isNaN_int [.int .i64 a] [] fun v => v = .bool false := by
  refine scmp_isNaN_int fun H hh => ?_
  dsimp only [ccmp_isNaN_int]
  refine walk (k := ?_)
  repeat' first | refine And.intro ?_ ?_ | intro
  all_goals refine leaf ?_
  exact doneR (by show V.bool _ = _; simp)
theorem isnanS_prog (a : List UInt8) : CallsR Try.prog ncmp_isNaN_string [.str a] [] fun v => v = .bool false := by
  refine scmp_isNaN_string fun H hh => ?_
  dsimp only [ccmp_isNaN_string]
  refine walk (k := ?_)
  repeat' first | refine And.intro ?_ ?_ | intro
  all_goals refine leaf ?_
  exact doneR (by show V.bool _ = _; simp)
theorem cmpI_prog (a b : Int) : CallsR Try.prog ncmp_Compare_int [.int .i64 a, .int .i64 b] [] fun v => v = .int .i64 (cmpI a b) := by
  refine scmp_Compare_int fun H hh => ?_
  dsimp only [ccmp_Compare_int]
  refine walk (k := ?_)
  repeat' first | refine And.intro ?_ ?_ | intro
  all_goals refine leaf ?_
  refine callE (isnanI_prog a) ?_
  refine walk (k := ?_)
  repeat' first | refine And.intro ?_ ?_ | intro
  all_goals refine leaf ?_
  refine callE (isnanI_prog b) ?_
  refine walk (k := ?_)
  repeat' first | refine And.intro ?_ ?_ | intro
  all_goals refine leaf ?_
  · exact doneR (by rw [cmpI, if_pos ‹_›])
  · exact doneR (by rw [cmpI, if_neg ‹_›, if_pos ‹_›])
  · exact doneR (by rw [cmpI, if_neg ‹_›, if_neg ‹_›])
theorem cmpS_prog (a b : List UInt8) : CallsR Try.prog ncmp_Compare_string [.str a, .str b] [] fun v => v = .int .i64 (cmpS a b) := by
  refine scmp_Compare_string fun H hh => ?_
  dsimp only [ccmp_Compare_string]
  refine walk (k := ?_)
  repeat' first | refine And.intro ?_ ?_ | intro
  all_goals refine leaf ?_
  refine callE (isnanS_prog a) ?_
  refine walk (k := ?_)
  repeat' first | refine And.intro ?_ ?_ | intro
  all_goals refine leaf ?_
  refine callE (isnanS_prog b) ?_
  refine walk (k := ?_)
  repeat' first | refine And.intro ?_ ?_ | intro
  all_goals refine leaf ?_
  · rename_i h
    exact doneR (by rw [cmpS, if_pos (show Op.bytesLess a b = true from h)])
  · rename_i h h'
    replace h : Op.bytesLess a b = false := h
    replace h' : (!(Op.bytesLess a b || a == b)) = true := h'
    refine doneR ?_
    rw [h] at h'
    simp at h'
    rw [cmpS, h, if_neg (by simp), if_pos]
    cases hb : Op.bytesLess b a with
    | true => rfl
    | false => exact absurd (bl_tri h hb) h'
  · rename_i h h'
    replace h : Op.bytesLess a b = false := h
    replace h' : (!(Op.bytesLess a b || a == b)) = false := h'
    refine doneR ?_
    rw [h] at h'
    simp at h'
    subst h'
    rw [cmpS, h]; rfl

def orI : List Int → Int
  | [] => 0
  | x :: xs => if x ≠ 0 then x else orI xs
def intC (n : Int) : List V := [.int .i64 n]
theorem or_prog (t : Nat) (b : Bool) (l : List Int) (hl : l.length ≤ 1000) : CallsR Try.prog ncmp_Or_int [.slice t 0 l.length 1] [(t, .cells b (l.flatMap intC))] fun v => v = .int .i64 (orI l) := by
  refine scmp_Or_int fun H hh => ?_
  dsimp only [ccmp_Or_int]
  refine walk (k := ?_)
  repeat' first | refine And.intro ?_ ?_ | intro
  all_goals refine leaf ?_
  refine loopN [3, 6, 7, 8] l.length (fun i vs L => orI l = orI (l.drop i) ∧ vs = [.int .i64 0, .slice t 0 l.length 1, .int .i64 l.length, .int .i64 i] ∧ L = [(t, .cells b (l.flatMap intC))]) (Nx.here ⟨rfl, rfl, rfl⟩) ?_
  clear hh
  rintro i _ _ e H hi ⟨ho, rfl, rfl⟩ hh
  simp only [puts]
  refine walk (k := ?_)
  repeat' first | refine And.intro ?_ ?_ | intro
  all_goals refine leaf ?_
  · rename_i hc hne
    refine doneR ?_
    rw [ho, drop_getD (by omega), orI, if_pos hne]
  · rename_i hc hne
    rw [drop_getD (by omega), orI, if_neg (by simpa using hne)] at ho
    exact Nx.next (by omega) ⟨ho, rfl, rfl⟩
  · rename_i hc
    refine doneR ?_
    rw [ho, List.drop_of_length_le (by omega)]; rfl

theorem cmpI_neg (a b : Int) : cmpI a b < 0 ↔ a < b := by
  unfold cmpI
  repeat' split
  all_goals omega
theorem cmpI_zero (a b : Int) : cmpI a b = 0 ↔ a = b := by
  unfold cmpI
  repeat' split
  all_goals omega

/-! Names: a number and a text. -/
abbrev Nm := Int × List UInt8
def nmC (n : Nm) : List V := [.int .i64 n.1, .str n.2]
/-- Does one stand ahead of another? -/
def ahd (a b : Nm) : Bool := decide (a.1 < b.1) || (a.1 == b.1 && Op.bytesLess a.2 b.2)
def ordN (a b : Nm) : Int := orI [cmpI a.1 b.1, cmpS a.2 b.2]
theorem ahd_iff {a b : Nm} : ahd a b = true ↔ a.1 < b.1 ∨ (a.1 = b.1 ∧ Op.bytesLess a.2 b.2 = true) := by
  simp only [ahd, Bool.or_eq_true, Bool.and_eq_true, decide_eq_true_eq, beq_iff_eq]
theorem ahd_irrefl (a : Nm) : ahd a a = false := Bool.eq_false_iff.2 fun h => by
  rw [ahd_iff, bl_irrefl] at h
  rcases h with h | ⟨_, h⟩
  · omega
  · cases h
theorem ahd_trans {a b c : Nm} (h : ahd a b = true) (h' : ahd b c = true) : ahd a c = true := by
  rw [ahd_iff] at *
  rcases h with h | ⟨h, h1⟩
  · rcases h' with h' | ⟨h', _⟩ <;> exact .inl (by omega)
  · rcases h' with h' | ⟨h', h2⟩
    · exact .inl (by omega)
    · exact .inr ⟨by omega, bl_trans h1 h2⟩
theorem ahd_tri {a b : Nm} (h : ahd a b = false) (h' : ahd b a = false) : a = b := by
  have h1 : ¬ _ := fun k => Bool.eq_false_iff.1 h (ahd_iff.2 k)
  have h2 : ¬ _ := fun k => Bool.eq_false_iff.1 h' (ahd_iff.2 k)
  have e1 : a.1 = b.1 := by omega
  have e2 : a.2 = b.2 := bl_tri (Bool.eq_false_iff.2 fun k => h1 (.inr ⟨e1, k⟩)) (Bool.eq_false_iff.2 fun k => h2 (.inr ⟨e1.symm, k⟩))
  exact Prod.ext e1 e2
theorem ahd_asymm {a b : Nm} (h : ahd a b = true) : ahd b a = false :=
  Bool.eq_false_iff.2 fun k => by have := ahd_trans h k; rw [ahd_irrefl] at this; cases this
theorem ahd_ne {a b : Nm} (h : ahd a b = true) : a ≠ b := fun e => by rw [e, ahd_irrefl] at h; cases h
/-- What isn't ahead of something that is ahead. -/
theorem nahd_trans {a b c : Nm} (h : ahd a b = false) (h' : ahd b c = false) : ahd a c = false := by
  refine Bool.eq_false_iff.2 fun k => ?_
  cases hc : ahd c b with
  | true => have := ahd_trans k hc; rw [h] at this; cases this
  | false => obtain rfl := ahd_tri h' hc; rw [h] at k; cases k
theorem ordN_neg (a b : Nm) : ordN a b < 0 ↔ ahd a b = true := by
  rw [ahd_iff]
  unfold ordN orI orI orI cmpI cmpS
  by_cases h3 : a.1 < b.1
  · simp [h3]
  · by_cases h4 : b.1 < a.1
    · simp [h3, h4]; omega
    · have e2 : a.1 = b.1 := by omega
      cases h5 : Op.bytesLess a.2 b.2 with
      | true => simp [e2]
      | false => cases h6 : Op.bytesLess b.2 a.2 <;> simp [e2]
theorem ordN_zero (a b : Nm) : ordN a b = 0 ↔ a = b := by
  constructor
  · intro h
    unfold ordN orI orI orI cmpI cmpS at h
    by_cases h3 : a.1 < b.1
    · simp [h3] at h
    · by_cases h4 : b.1 < a.1
      · simp [h3, h4] at h
      · have e2 : a.1 = b.1 := by omega
        refine Prod.ext e2 ?_
        cases h5 : Op.bytesLess a.2 b.2 with
        | true => simp [e2, h5] at h
        | false =>
          cases h6 : Op.bytesLess b.2 a.2 with
          | true => simp [e2, h5, h6] at h
          | false => exact bl_tri h5 h6
  · rintro rfl
    unfold ordN orI orI orI cmpI cmpS
    simp [bl_irrefl]
end Go.Proofs.Ytebhddpildfgcaa
