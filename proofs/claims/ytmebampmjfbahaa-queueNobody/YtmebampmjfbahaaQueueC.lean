/-
  The queue of what is due: the heap's ways up and down.
-/
import Derived.Test.YtmebampmjfbahaaQueueB
namespace Go.Proofs.Ytmebampmjfbahaa
open Go Go.CM
set_option maxRecDepth 100000
set_option maxHeartbeats 4000000

/-! The heap's order, without a program in sight. -/
abbrev Lt (its : Its) (a b : Nat) : Prop := lt (nth its a).2 (nth its b).2
def par (k : Nat) : Nat := (k - 1) / 2
def Heapy (its : Its) (n : Nat) : Prop := ∀ k, 0 < k → k < n → ¬ Lt its k (par k)
/-- A heap but for the place i. -/
structure Near (its : Its) (n i : Nat) : Prop where
  far : ∀ k, 0 < k → k < n → k ≠ i → par k ≠ i → ¬ Lt its k (par k)
  over : ∀ k, 0 < k → k < n → par k = i → 0 < i → ¬ Lt its k (par i)
/-- .. and for its children. -/
def Kids (its : Its) (n i : Nat) : Prop := ∀ k, 0 < k → k < n → par k = i → ¬ Lt its k i
theorem le_trans' {a b c : Due} (h : ¬ lt b a) (h' : ¬ lt c b) : ¬ lt c a := fun k => by
  by_cases h1 : lt b c
  · exact h (lt_trans h1 k)
  · have := lt_tri h' h1; subst this; exact h k

theorem Near.done {its : Its} {n i : Nat} (h : Near its n i) (hk : Kids its n i) (hi : i = 0 ∨ ¬ Lt its i (par i)) : Heapy its n := fun k h0 hn => by
  by_cases h1 : k = i
  · subst h1
    rcases hi with rfl | hi
    · omega
    · exact hi
  · by_cases h2 : par k = i
    · subst h2; exact hk k h0 hn rfl
    · exact h.far k h0 hn h1 h2
/-- One step up. -/
theorem Near.up {its : Its} {n i : Nat} (h : Near its n i) (hk : Kids its n i) (hi : 0 < i) (hin : i < n) (hn : n ≤ its.length) (hlt : Lt its i (par i)) : Near (swapL its (par i) i) n (par i) ∧ Kids (swapL its (par i) i) n (par i) := by
  have hp : par i < i := by unfold par; omega
  have get : ∀ k, k < n → nth (swapL its (par i) i) k = if k = par i then nth its i else if k = i then nth its (par i) else nth its k := fun k hk => nth_swapL (by omega) (by omega) (by omega)
  have gp : nth (swapL its (par i) i) (par i) = nth its i := by rw [get _ (by omega), if_pos rfl]
  have gi : nth (swapL its (par i) i) i = nth its (par i) := by rw [get _ hin, if_neg (by omega), if_pos rfl]
  have go : ∀ k, k < n → k ≠ par i → k ≠ i → nth (swapL its (par i) i) k = nth its k := fun k h1 h2 h3 => by rw [get k h1, if_neg h2, if_neg h3]
  refine ⟨⟨fun k h0 h1 h2 h3 => ?_, fun k h0 h1 h2 h3 => ?_⟩, fun k h0 h1 h2 => ?_⟩
  · have hki : k ≠ i := fun e => by subst e; exact h3 rfl
    have hpk : par k < k := by unfold par; omega
    unfold Lt
    by_cases h4 : par k = i
    · rw [h4, gi, go k h1 h2 hki]; exact h.over k h0 h1 h4 hi
    · rw [go k h1 h2 hki, go (par k) (by omega) h3 h4]; exact h.far k h0 h1 hki h4
  · unfold Lt
    have hpp : par (par i) < par i := by unfold par at *; omega
    rw [go (par (par i)) (by omega) (by omega) (by omega)]
    by_cases h4 : k = i
    · subst h4; rw [gi]; exact h.far (par k) h3 (by omega) (by omega) (by omega)
    · have hkp : k ≠ par i := fun e => by rw [e] at h2; omega
      rw [go k h1 hkp h4]
      have a1 := h.far (par i) h3 (by omega) (by omega) (by omega)
      have a2 := h.far k h0 h1 h4 (by omega)
      rw [h2] at a2
      exact le_trans' a1 a2
  · unfold Lt
    rw [gp]
    by_cases h4 : k = i
    · subst h4; rw [gi]; exact fun hx => lt_irrefl _ (lt_trans hlt hx)
    · have hkp : k ≠ par i := fun e => by unfold par at *; omega
      rw [go k h1 hkp h4]
      have a2 := h.far k h0 h1 h4 (by omega)
      rw [h2] at a2
      exact le_trans' (fun hx => lt_irrefl _ (lt_trans hlt hx)) a2
/-- One step down, to the child j that no other stands ahead of. -/
theorem Near.down {its : Its} {n i j : Nat} (h : Near its n i) (hj : j < n) (hp : par j = i) (h0 : 0 < j) (hn : n ≤ its.length) (hlt : Lt its j i) (hmin : ∀ k, 0 < k → k < n → par k = i → ¬ Lt its k j) :
    Near (swapL its i j) n j ∧ ¬ Lt (swapL its i j) j (par j) ∧ (i = 0 ∨ ¬ Lt (swapL its i j) i (par i)) ∧ ∀ k, 0 < k → k < n → k ≠ j → par k ≠ j → ¬ Lt (swapL its i j) k (par k) := by
  have hij : i < j := by rw [← hp]; unfold par; omega
  have get : ∀ k, k < n → nth (swapL its i j) k = if k = i then nth its j else if k = j then nth its i else nth its k := fun k hk => nth_swapL (by omega) (by omega) (by omega)
  have gi : nth (swapL its i j) i = nth its j := by rw [get _ (by omega), if_pos rfl]
  have gj : nth (swapL its i j) j = nth its i := by rw [get _ hj, if_neg (by omega), if_pos rfl]
  have go : ∀ k, k < n → k ≠ i → k ≠ j → nth (swapL its i j) k = nth its k := fun k h1 h2 h3 => by rw [get k h1, if_neg h2, if_neg h3]
  have top : 0 < i → ¬ Lt (swapL its i j) i (par i) := fun hi => by
    have : par i < i := by unfold par; omega
    unfold Lt
    rw [gi, go (par i) (by omega) (by omega) (by omega)]
    exact h.over j h0 hj hp hi
  have all : ∀ k, 0 < k → k < n → k ≠ j → par k ≠ j → ¬ Lt (swapL its i j) k (par k) := fun k k0 hk h1 h2 => by
    by_cases h3 : k = i
    · subst h3; exact top k0
    · have : par k < k := by unfold par; omega
      unfold Lt
      by_cases h4 : par k = i
      · rw [h4, gi, go k hk h3 h1]; exact hmin k k0 hk h4
      · rw [go k hk h3 h1, go (par k) (by omega) h4 h2]; exact h.far k k0 hk h3 h4
  refine ⟨⟨fun k k0 hk h1 h2 => all k k0 hk h1 h2, fun k k0 hk h1 _ => ?_⟩, ?_, ?_, all⟩
  · have : par k < k := by unfold par; omega
    unfold Lt
    rw [hp, gi, go k hk (by omega) (by omega)]
    have := h.far k k0 hk (by omega) (by omega)
    rwa [h1] at this
  · unfold Lt
    rw [hp, gi, gj]
    exact fun hx => lt_irrefl _ (lt_trans hlt hx)
  · rcases Nat.eq_zero_or_pos i with h1 | h1
    · exact .inl h1
    · exact .inr (top h1)
end Go.Proofs.Ytmebampmjfbahaa
