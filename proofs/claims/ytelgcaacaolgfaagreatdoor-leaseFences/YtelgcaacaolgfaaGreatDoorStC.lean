/-
  Entries, deeds and configurations as a law's inputs.
-/
import Derived.Test.YtelgcaacaolgfaaGreatDoorNrmA
import Derived.Test.YtelgcaacaolgfaaGreatDoorCmE
namespace Go.Proofs.YtelgcaacaolgfaaGreatDoor
open Go Go.CM
set_option maxRecDepth 100000
set_option maxHeartbeats 4000000

theorem entOf {l : List V} (h : Fits [.i .i64, .s, .i .i64, .i .i64, .i .i64, .i .i64, .s, .i .i64, .i .i64, .i .i64, .s, .s, .s, .s] l) : ∃ e : Entry, l = e.enc := by
  obtain ⟨_, _, rfl, ⟨x0, rfl, w0⟩, h0⟩ := h.cons
  obtain ⟨_, _, rfl, ⟨x1, rfl, w1⟩, h1⟩ := h0.cons
  obtain ⟨_, _, rfl, ⟨x2, rfl, w2⟩, h2⟩ := h1.cons
  obtain ⟨_, _, rfl, ⟨x3, rfl, w3⟩, h3⟩ := h2.cons
  obtain ⟨_, _, rfl, ⟨x4, rfl, w4⟩, h4⟩ := h3.cons
  obtain ⟨_, _, rfl, ⟨x5, rfl, w5⟩, h5⟩ := h4.cons
  obtain ⟨_, _, rfl, ⟨x6, rfl, w6⟩, h6⟩ := h5.cons
  obtain ⟨_, _, rfl, ⟨x7, rfl, w7⟩, h7⟩ := h6.cons
  obtain ⟨_, _, rfl, ⟨x8, rfl, w8⟩, h8⟩ := h7.cons
  obtain ⟨_, _, rfl, ⟨x9, rfl, w9⟩, h9⟩ := h8.cons
  obtain ⟨_, _, rfl, ⟨x10, rfl, w10⟩, h10⟩ := h9.cons
  obtain ⟨_, _, rfl, ⟨x11, rfl, w11⟩, h11⟩ := h10.cons
  obtain ⟨_, _, rfl, ⟨x12, rfl, w12⟩, h12⟩ := h11.cons
  obtain ⟨_, _, rfl, ⟨x13, rfl, w13⟩, h13⟩ := h12.cons
  obtain rfl := h13.nil
  exact ⟨⟨x0, x1, x2, x3, x4, x5, x6, x7, x8, x9, x10, x11, x12, x13⟩, rfl⟩
theorem deedOf {l : List V} (h : Fits [.i .u8, .b, .i .i64, .i .i64, .i .i64, .s, .i .i64, .i .i64, .i .i64, .s, .s, .s, .s] l) : ∃ d : Deed, l = d.enc ∧ 0 ≤ d.kind ∧ d.kind ≤ 255 := by
  obtain ⟨_, _, rfl, ⟨x0, rfl, w0⟩, h0⟩ := h.cons
  obtain ⟨_, _, rfl, ⟨x1, rfl⟩, h1⟩ := h0.cons
  obtain ⟨_, _, rfl, ⟨x2, rfl, w2⟩, h2⟩ := h1.cons
  obtain ⟨_, _, rfl, ⟨x3, rfl, w3⟩, h3⟩ := h2.cons
  obtain ⟨_, _, rfl, ⟨x4, rfl, w4⟩, h4⟩ := h3.cons
  obtain ⟨_, _, rfl, ⟨x5, rfl, w5⟩, h5⟩ := h4.cons
  obtain ⟨_, _, rfl, ⟨x6, rfl, w6⟩, h6⟩ := h5.cons
  obtain ⟨_, _, rfl, ⟨x7, rfl, w7⟩, h7⟩ := h6.cons
  obtain ⟨_, _, rfl, ⟨x8, rfl, w8⟩, h8⟩ := h7.cons
  obtain ⟨_, _, rfl, ⟨x9, rfl, w9⟩, h9⟩ := h8.cons
  obtain ⟨_, _, rfl, ⟨x10, rfl, w10⟩, h10⟩ := h9.cons
  obtain ⟨_, _, rfl, ⟨x11, rfl, w11⟩, h11⟩ := h10.cons
  obtain ⟨_, _, rfl, ⟨x12, rfl, w12⟩, h12⟩ := h11.cons
  obtain rfl := h12.nil
  have hw : 0 ≤ x0 ∧ x0 ≤ 255 := by
    simp [Lit.wf, IntKind.min, IntKind.max, IntKind.signed, IntKind.bits] at w0
    omega
  exact ⟨⟨x0, x1, x2, x3, x4, x5, ⟨x6, x7, x8, x9, x10, x11, x12⟩⟩, rfl, hw⟩
theorem confOf {l : List V} (h : Fits [.i .i64, .i .i64, .i .i64, .i .i64, .i .i64, .i .i64] l) : ∃ c : Conf, l = c.enc := by
  obtain ⟨_, _, rfl, ⟨x0, rfl, w0⟩, h0⟩ := h.cons
  obtain ⟨_, _, rfl, ⟨x1, rfl, w1⟩, h1⟩ := h0.cons
  obtain ⟨_, _, rfl, ⟨x2, rfl, w2⟩, h2⟩ := h1.cons
  obtain ⟨_, _, rfl, ⟨x3, rfl, w3⟩, h3⟩ := h2.cons
  obtain ⟨_, _, rfl, ⟨x4, rfl, w4⟩, h4⟩ := h3.cons
  obtain ⟨_, _, rfl, ⟨x5, rfl, w5⟩, h5⟩ := h4.cons
  obtain rfl := h5.nil
  exact ⟨⟨x0, x1, x2, x3, x4, x5⟩, rfl⟩
end Go.Proofs.YtelgcaacaolgfaaGreatDoor
