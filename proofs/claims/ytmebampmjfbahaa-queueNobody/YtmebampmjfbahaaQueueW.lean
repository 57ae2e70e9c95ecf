/-
  The statement QueueSorts, over the inputs as they are given.
-/
import Derived.Test.YtmebampmjfbahaaQueueL
namespace Go.Proofs.Ytmebampmjfbahaa
open Go Go.CM
theorem dueOf {cs : List V} (h : Fits [.i .i64, .s, .i .i64] cs) : ∃ j : Due, cs = j.enc := by
  obtain ⟨_, _, rfl, ⟨a, rfl, _⟩, h1⟩ := h.cons
  obtain ⟨_, _, rfl, ⟨b, rfl, _⟩, h2⟩ := h1.cons
  obtain ⟨_, _, rfl, ⟨c, rfl, _⟩, h3⟩ := h2.cons
  obtain rfl := h3.nil
  exact ⟨⟨a, b, c⟩, rfl⟩
theorem walkQueueSorts (vs : List V) (H : Heap) (hg : Givens H 1 [.rows [.i .i64, .s, .i .i64]] vs) (_ : ∀ id o, H id = some o → o.rw = false) : CallsC Try.prog nlaw16_QueueSorts vs H fun v _ => v = .bool true := by
  obtain ⟨_, vs, rfl, ⟨rs, hf, hlen, hr⟩, hg2⟩ := hg.cons
  obtain rfl := hg2.nil
  obtain ⟨ds, rfl⟩ := rowsOf Due.enc (fun r hr => dueOf (hf r hr))
  obtain ⟨t, rfl, ht⟩ := givenRows hr
  rw [List.length_map]
  exact (CallsR.reads (R := []) (sorts_prog t false ds) ht).mono fun _ _ h => h.1
end Go.Proofs.Ytmebampmjfbahaa
