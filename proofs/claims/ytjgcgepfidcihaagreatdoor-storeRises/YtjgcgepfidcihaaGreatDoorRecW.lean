/-
  Texts joined: Records as a law's inputs. Of each name the epoch never gets less: any inputs.
-/
import Derived.Test.YtjgcgepfidcihaaGreatDoorEntD
import Derived.Test.YtjgcgepfidcihaaGreatDoorCmE
import Derived.Test.YtjgcgepfidcihaaGreatDoorRisA
import Derived.Test.YtjgcgepfidcihaaGreatDoorCmG
namespace Go.Proofs.YtjgcgepfidcihaaGreatDoor
open Go Go.CM
set_option maxRecDepth 100000
set_option maxHeartbeats 4000000

theorem entOf {cs : List V} (h : Fits [.i .i64, .s, .i .i64, .i .i64, .i .i64, .i .i64, .s, .i .i64, .i .i64, .i .i64, .s, .s, .s, .s] cs) : ∃ j : Entry, cs = j.enc := by
  obtain ⟨_, _, rfl, ⟨xa, rfl, _⟩, h0⟩ := h.cons
  obtain ⟨_, _, rfl, ⟨xb, rfl, _⟩, h1⟩ := h0.cons
  obtain ⟨_, _, rfl, ⟨xc, rfl, _⟩, h2⟩ := h1.cons
  obtain ⟨_, _, rfl, ⟨xd, rfl, _⟩, h3⟩ := h2.cons
  obtain ⟨_, _, rfl, ⟨xe, rfl, _⟩, h4⟩ := h3.cons
  obtain ⟨_, _, rfl, ⟨xf, rfl, _⟩, h5⟩ := h4.cons
  obtain ⟨_, _, rfl, ⟨xg, rfl, _⟩, h6⟩ := h5.cons
  obtain ⟨_, _, rfl, ⟨xh, rfl, _⟩, h7⟩ := h6.cons
  obtain ⟨_, _, rfl, ⟨xi, rfl, _⟩, h8⟩ := h7.cons
  obtain ⟨_, _, rfl, ⟨xj, rfl, _⟩, h9⟩ := h8.cons
  obtain ⟨_, _, rfl, ⟨xk, rfl, _⟩, h10⟩ := h9.cons
  obtain ⟨_, _, rfl, ⟨xl, rfl, _⟩, h11⟩ := h10.cons
  obtain ⟨_, _, rfl, ⟨xm, rfl, _⟩, h12⟩ := h11.cons
  obtain ⟨_, _, rfl, ⟨xn, rfl, _⟩, h13⟩ := h12.cons
  obtain rfl := h13.nil
  exact ⟨⟨xa, xb, xc, xd, xe, xf, xg, xh, xi, xj, xk, xl, xm, xn⟩, rfl⟩
theorem recOf {cs : List V} (h : Fits [.i .i64, .i .i64, .s, .i .i64, .i .i64, .i .i64, .i .i64, .s, .i .i64, .i .i64, .i .i64, .s, .s, .s, .s] cs) : ∃ j : Rec, cs = j.enc := by
  obtain ⟨_, _, rfl, ⟨a, rfl, _⟩, h1⟩ := h.cons
  obtain ⟨e, rfl⟩ := entOf h1
  exact ⟨⟨a, e⟩, rfl⟩
end Go.Proofs.YtjgcgepfidcihaaGreatDoor

namespace Go.Proofs.YtjgcgepfidcihaaGreatDoor
open Go Go.CM
set_option maxRecDepth 100000
set_option maxHeartbeats 4000000

theorem walkStoreRises (vs : List V) (H : Heap) (hg : Givens H 1 [.one (.i .i64), .rows [.i .i64, .i .i64, .s, .i .i64, .i .i64, .i .i64, .i .i64, .s, .i .i64, .i .i64, .i .i64, .s, .s, .s, .s]] vs) (_ : ∀ id o, H id = some o → o.rw = false) : CallsC Tryz.prog nlaw18_StoreRises vs H fun v _ => v = .bool true := by
  obtain ⟨_, vs, rfl, ⟨most, rfl, _⟩, hg1⟩ := hg.cons
  obtain ⟨_, vs, rfl, ⟨rs, hf, hlen, hr⟩, hg2⟩ := hg1.cons
  obtain rfl := hg2.nil
  obtain ⟨l, rfl⟩ := rowsOf Rec.enc (fun r hr => recOf (hf r hr))
  obtain ⟨s, rfl, hs1, hs⟩ := givenRowsA hr
  have hh := hs [] (Has.nil H) (by simp)
  exact (CallsR.reads (R := []) (rises_prog most s false l) hh).mono fun _ _ h => h.1
end Go.Proofs.YtjgcgepfidcihaaGreatDoor
