/-
  The wheel: digits and places, in plain words.
-/
import Derived.Test.YtlnidffddidfaaaWheelE
namespace Go.Proofs.Ytlnidffddidfaaa
open Go Go.CM
set_option maxRecDepth 100000
set_option maxHeartbeats 4000000

abbrev lim : Nat := 1099511627776
/-- Two times of which the digits from m on are the same. -/
theorem dg_up {a b : Nat} (ha : a ≤ lim) (hb : b ≤ lim) : ∀ (n m : Nat), n + m = 7 → (∀ j, m ≤ j → j ≤ 6 → dg a j = dg b j) → a / 2 ^ (6 * m) = b / 2 ^ (6 * m)
  | 0, m, h, _ => by
    have : m = 7 := by omega
    subst this
    have h1 : a / 2 ^ (6 * 7) = 0 := Nat.div_eq_of_lt (Nat.lt_of_le_of_lt ha (by decide))
    have h2 : b / 2 ^ (6 * 7) = 0 := Nat.div_eq_of_lt (Nat.lt_of_le_of_lt hb (by decide))
    rw [h1, h2]
  | n + 1, m, h, hd => by
    have ih := dg_up ha hb n (m + 1) (by omega) fun j h1 h2 => hd j (by omega) h2
    have h0 := hd m (Nat.le_refl _) (by omega)
    unfold dg at h0
    rw [show 6 * (m + 1) = 6 * m + 6 by omega, Nat.pow_add, ← Nat.div_div_eq_div_mul, ← Nat.div_div_eq_div_mul] at ih
    have e1 := Nat.div_add_mod (a / 2 ^ (6 * m)) 64
    have e2 := Nat.div_add_mod (b / 2 ^ (6 * m)) 64
    rw [show (2 : Nat) ^ 6 = 64 from rfl] at ih
    omega
/-- A time ahead of which another one is, by its highest digit that isn't the same. -/
structure Hi (now at_ m : Nat) : Prop where
  le : m ≤ 6
  lt : dg now m < dg at_ m
  up : ∀ j, m < j → j ≤ 6 → dg at_ j = dg now j
theorem Hi.less {now at_ m : Nat} (hn : now ≤ lim) (ha : at_ ≤ lim) (h : Hi now at_ m) : now < at_ := by
  have hm := h.le
  have e := dg_up ha hn (6 - m) (m + 1) (by omega) fun j h1 h2 => h.up j (by omega) h2
  rw [show 6 * (m + 1) = 6 * m + 6 by omega, Nat.pow_add, ← Nat.div_div_eq_div_mul, ← Nat.div_div_eq_div_mul, show (2 : Nat) ^ 6 = 64 from rfl] at e
  have e1 := Nat.div_add_mod (at_ / 2 ^ (6 * m)) 64
  have e2 := Nat.div_add_mod (now / 2 ^ (6 * m)) 64
  have hl := h.lt
  unfold dg at hl
  refine Nat.lt_of_not_le fun hle => ?_
  have := Nat.div_le_div_right (c := 2 ^ (6 * m)) hle
  omega
theorem Hi.uniq {now at_ m k : Nat} (h : Hi now at_ m) (hk : k ≤ 6) (hne : dg at_ k ≠ dg now k) (hup : ∀ j, k < j → j ≤ 6 → dg at_ j = dg now j) : k = m := by
  rcases Nat.lt_trichotomy k m with h1 | h1 | h1
  · have := hup m h1 h.le
    have := h.lt; omega
  · exact h1
  · exact absurd (h.up k h1 hk) hne
theorem Hi.of {now at_ : Nat} (hn : now ≤ lim) (ha : at_ ≤ lim) (h : now < at_) : ∃ m, Hi now at_ m ∧ hiB at_ now 7 = (m : Int) := by
  obtain ⟨m, h1, h2, h3, h4⟩ := hi_is ha hn (by omega)
  refine ⟨m, ⟨h1, ?_, h4⟩, h2⟩
  refine Nat.lt_of_not_le fun hle => ?_
  have : Hi at_ now m := ⟨h1, by omega, fun j g1 g2 => (h4 j g1 g2).symm⟩
  have := this.less ha hn
  omega
theorem Hi.hi {now at_ m : Nat} (hn : now ≤ lim) (ha : at_ ≤ lim) (h : Hi now at_ m) : hiB at_ now 7 = (m : Int) := by
  obtain ⟨k, h1, h2⟩ := Hi.of hn ha (h.less hn ha)
  have := h.uniq h1.le (by have := h1.lt; omega) h1.up
  rw [h2, this]
theorem Hi.plc {now at_ m : Nat} (hn : now ≤ lim) (ha : at_ ≤ lim) (h : Hi now at_ m) : plc now at_ = (m, dg at_ m) := by
  have := h.less hn ha
  rw [Proofs.Ytlnidffddidfaaa.plc, if_neg (by omega), h.hi hn ha, Int.toNat_natCast]
theorem plc_due {now at_ : Nat} (h : at_ ≤ now) : plc now at_ = (7, 0) := by rw [plc, if_pos h]
/-- The place is the last one: it is due. -/
theorem plc_last {now at_ : Nat} (hn : now ≤ lim) (ha : at_ ≤ lim) : (plc now at_).1 = 7 ↔ at_ ≤ now := by
  constructor
  · intro h
    refine Nat.le_of_not_lt fun h1 => ?_
    obtain ⟨m, h2, _⟩ := Hi.of hn ha h1
    rw [h2.plc hn ha] at h
    have := h2.le
    simp only at h; omega
  · intro h; rw [plc_due h]
theorem plc_hi {now at_ : Nat} (hn : now ≤ lim) (ha : at_ ≤ lim) {k s : Nat} (h : plc now at_ = (k, s)) (hk : k ≠ 7) : Hi now at_ k ∧ s = dg at_ k := by
  have h1 : now < at_ := Nat.lt_of_not_le fun hle => hk (by have := (plc_last hn ha).2 hle; rw [h] at this; exact this)
  obtain ⟨m, h2, _⟩ := Hi.of hn ha h1
  rw [h2.plc hn ha] at h
  cases h
  exact ⟨h2, rfl⟩
theorem dg_lt (a k : Nat) : dg a k < 64 := Nat.mod_lt _ (by decide)

/-- TIME GOES ON: what is due by then, and what stays where it is. -/
theorem tick_due {now t at_ top k s : Nat} (hn : now ≤ lim) (ht : t ≤ lim) (ha : at_ ≤ lim) (htop : Hi now t top) (h : plc now at_ = (k, s)) (hk : k ≠ 7) (hd : k < top ∨ (k = top ∧ s < dg t top)) : at_ ≤ t := by
  obtain ⟨h1, rfl⟩ := plc_hi hn ha h hk
  have : Hi at_ t top := by
    refine ⟨htop.le, ?_, fun j g1 g2 => ?_⟩
    · rcases hd with hd | ⟨rfl, hd⟩
      · rw [h1.up top hd htop.le]; exact htop.lt
      · exact hd
    · rw [htop.up j g1 g2, h1.up j (by omega) g2]
  have := this.less ha ht
  omega
theorem tick_stay {now t at_ top k s : Nat} (hn : now ≤ lim) (ht : t ≤ lim) (ha : at_ ≤ lim) (htop : Hi now t top) (h : plc now at_ = (k, s)) (hk : k ≠ 7) (hd : top < k ∨ (k = top ∧ dg t top < s)) : t < at_ ∧ plc t at_ = (k, s) := by
  obtain ⟨h1, rfl⟩ := plc_hi hn ha h hk
  have : Hi t at_ k := by
    refine ⟨h1.le, ?_, fun j g1 g2 => ?_⟩
    · rcases hd with hd | ⟨rfl, hd⟩
      · rw [htop.up k hd h1.le]; exact h1.lt
      · exact hd
    · rw [htop.up j (by omega) g2, h1.up j g1 g2]
  exact ⟨this.less ht ha, this.plc ht ha⟩
/-- Of two places the one ahead has the lesser times. -/
theorem plc_lt {now a b k s k' s' : Nat} (hn : now ≤ lim) (ha : a ≤ lim) (hb : b ≤ lim) (h : plc now a = (k, s)) (h' : plc now b = (k', s')) (hk : k ≠ 7) (hk' : k' ≠ 7) (hd : k < k' ∨ (k = k' ∧ s < s')) : a < b := by
  obtain ⟨h1, rfl⟩ := plc_hi hn ha h hk
  obtain ⟨h2, rfl⟩ := plc_hi hn hb h' hk'
  have : Hi a b k' := by
    refine ⟨h2.le, ?_, fun j g1 g2 => ?_⟩
    · rcases hd with hd | ⟨rfl, hd⟩
      · rw [h1.up k' hd h2.le]; exact h2.lt
      · exact hd
    · rw [h2.up j g1 g2, h1.up j (by omega) g2]
  exact this.less ha hb
end Go.Proofs.Ytlnidffddidfaaa
