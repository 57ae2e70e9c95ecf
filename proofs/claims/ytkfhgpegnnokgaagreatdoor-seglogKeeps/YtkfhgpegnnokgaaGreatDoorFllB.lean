/-
  The law of files, in plain words: names that were taken, their places.
-/
import Derived.Test.YtkfhgpegnnokgaaGreatDoorFllA
namespace Go.Proofs.YtkfhgpegnnokgaaGreatDoor
open Go Go.CM
set_option maxRecDepth 100000
set_option maxHeartbeats 4000000

def zeroT (i : Nat) : Tx := List.replicate i 0
def dskK (K : List (Tx × Nat)) : Dsk := ⟨K.map fun x => (x.1, []), (K.filter fun x => decide (0 < x.2)).map fun x => (x.1, zeroT x.2), 60000, -1, false⟩
def takK (K : List (Tx × Nat)) (n : Tx) : Bool := rightN n && !hasT n K
def accK (names : List Tx) : Nat → List (Tx × Nat)
  | 0 => []
  | i + 1 => if takK (accK names i) (nth names i) = true then accK names i ++ [(nth names i, i)] else accK names i
structure KOk (K : List (Tx × Nat)) (i : Nat) : Prop where
  len : K.length ≤ i
  nd : (K.map (·.1)).Nodup
  lt : ∀ x ∈ K, x.2 < i
theorem KOk.acc (names : List Tx) : ∀ i, KOk (accK names i) i
  | 0 => ⟨Nat.le_refl _, List.nodup_nil, by simp [accK]⟩
  | i + 1 => by
    have h := KOk.acc names i
    unfold accK
    split
    · rename_i ht
      refine ⟨by rw [List.length_append, List.length_singleton]; have := h.len; omega, ?_, fun x hx => ?_⟩
      · rw [List.map_append]
        refine List.nodup_append.2 ⟨h.nd, by simp, fun a ha b hb => ?_⟩
        simp at hb; subst hb
        unfold takK at ht
        simp only [Bool.and_eq_true, Bool.not_eq_true'] at ht
        exact fun e => hasT_no.1 ht.2 (e ▸ ha)
      · rcases List.mem_append.1 hx with k | k
        · have := h.lt x k; omega
        · simp at k; subst k; exact Nat.lt_succ_self _
    · exact ⟨by have := h.len; omega, h.nd, fun x hx => by have := h.lt x hx; omega⟩
end Go.Proofs.YtkfhgpegnnokgaaGreatDoor
