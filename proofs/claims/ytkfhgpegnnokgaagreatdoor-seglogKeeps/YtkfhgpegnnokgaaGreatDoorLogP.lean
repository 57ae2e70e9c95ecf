/-
  Sums and frames, in plain words: what was sealed is opened; a byte that is turned is told.
-/
import Derived.Test.YtkfhgpegnnokgaaGreatDoorFrmB
namespace Go.Proofs.YtkfhgpegnnokgaaGreatDoor
open Go Go.CM
set_option maxRecDepth 100000
set_option maxHeartbeats 4000000

theorem open_seal (t : Tx) : openT (sealT t) = some t := by
  unfold openT
  have hl := seal_len t
  have ht : (sealT t).take ((sealT t).length - 4) = t := by
    rw [hl, Nat.add_sub_cancel, sealT, List.take_append_of_le_length (Nat.le_refl _), List.take_length]
  rw [if_neg (by omega), ht, if_pos rfl]
theorem hdT_sum (n : Nat) (h : n ≤ 2000) : ((hdT n).getD 0 0).toNat * 256 + ((hdT n).getD 1 0).toNat = n := by
  have h1 : ((hdT n).getD 0 0).toNat = n / 256 % 256 := UInt8.toNat_ofNat'
  have h2 : ((hdT n).getD 1 0).toNat = n % 256 := UInt8.toNat_ofNat'
  rw [h1, h2]; omega
theorem hd_len (n : Nat) : (hdT n).length = 2 := rfl
theorem take_app {a b : Tx} {n : Nat} (h : a.length = n) : (a ++ b).take n = a := by
  rw [List.take_append_of_le_length (by omega), List.take_of_length_le (by omega)]
theorem drop_app {a b : Tx} {n : Nat} (h : a.length = n) : (a ++ b).drop n = b := by
  subst h; exact List.drop_left
theorem firstT_make (r rest : Tx) (h : r.length ≤ 2000) : firstT (makeT r ++ rest) = (r, r.length + 10, 0) := by
  have h1 : (makeT r ++ rest).take 6 = sealT (hdT r.length) := by
    rw [makeT, List.append_assoc, take_app (by rw [seal_len, hd_len])]
  have hl : (makeT r ++ rest).length = r.length + 10 + rest.length := by rw [List.length_append, make_len]
  have h2 : ((makeT r ++ rest).take (r.length + 10)).drop 6 = sealT r := by
    rw [take_app (make_len r), makeT, drop_app (by rw [seal_len, hd_len])]
  unfold firstT
  rw [if_neg (by omega), h1, open_seal]
  dsimp only
  rw [hdT_sum _ h, if_neg (by omega), if_neg (by omega), h2, open_seal]
def framesT (l : List Tx) : Tx := l.flatMap makeT
theorem frames_cons (r : Tx) (l : List Tx) : framesT (r :: l) = makeT r ++ framesT l := List.flatMap_cons ..
theorem frames_app (a b : List Tx) : framesT (a ++ b) = framesT a ++ framesT b := List.flatMap_append ..
theorem make_ne (r rest : Tx) : makeT r ++ rest ≠ [] := fun h => by
  have := congrArg List.length h
  rw [List.length_append, make_len, List.length_nil] at this; omega
theorem split_frames : ∀ (l : List Tx) (tail : Tx), (∀ r ∈ l, r.length ≤ 2000) → splitT (framesT l ++ tail) = (l ++ (splitT tail).1, (framesT l).length + (splitT tail).2.1, (splitT tail).2.2)
  | [], tail, _ => by
    show splitT tail = _
    rw [show framesT [] = [] from rfl, List.length_nil, Nat.zero_add, List.nil_append]
  | r :: l, tail, h => by
    have h1 := firstT_make r (framesT l ++ tail) (h r (List.mem_cons_self ..))
    have ih := split_frames l tail fun x hx => h x (List.mem_cons_of_mem _ hx)
    rw [frames_cons, List.append_assoc, splitT_ok (make_ne _ _) (by rw [h1]), h1]
    dsimp only
    rw [drop_app (make_len r), ih, List.length_append, make_len]
    simp only [List.cons_append, Nat.add_assoc]

/- a byte that is turned -/
end Go.Proofs.YtkfhgpegnnokgaaGreatDoor
