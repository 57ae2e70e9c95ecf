/-
  Sums and frames, in plain words: what was sealed is opened; a byte that is turned is told.
-/
import Derived.Test.YtkfhgpegnnokgaaGreatDoorFrmB
namespace Go.Proofs.YtkfhgpegnnokgaaGreatDoor
open Go Go.CM
set_option maxRecDepth 100000
set_option maxHeartbeats 4000000

theorem open_seal (t : Tx) : openT (sealT t) = some t := by
  unfold openT
  have hl := seal_len t
  have ht : (sealT t).take ((sealT t).length - 4) = t := by
    rw [hl, Nat.add_sub_cancel, sealT, List.take_append_of_le_length (Nat.le_refl _), List.take_length]
  rw [if_neg (by omega), ht, if_pos rfl]
theorem hdT_sum (n : Nat) (h : n ≤ 2000) : ((hdT n).getD 0 0).toNat * 256 + ((hdT n).getD 1 0).toNat = n := by
  have h1 : ((hdT n).getD 0 0).toNat = n / 256 % 256 := UInt8.toNat_ofNat'
  have h2 : ((hdT n).getD 1 0).toNat = n % 256 := UInt8.toNat_ofNat'
  rw [h1, h2]; omega
theorem hd_len (n : Nat) : (hdT n).length = 2 := rfl
theorem take_app {a b : Tx} {n : Nat} (h : a.length = n) : (a ++ b).take n = a := by
  rw [List.take_append_of_le_length (by omega), List.take_of_length_le (by omega)]
theorem drop_app {a b : Tx} {n : Nat} (h : a.length = n) : (a ++ b).drop n = b := by
  subst h; exact List.drop_left
theorem firstT_make (r rest : Tx) (h : r.length ≤ 2000) : firstT (makeT r ++ rest) = (r, r.length + 10, 0) := by
  have h1 : (makeT r ++ rest).take 6 = sealT (hdT r.length) := by
    rw [makeT, List.append_assoc, take_app (by rw [seal_len, hd_len])]
  have hl : (makeT r ++ rest).length = r.length + 10 + rest.length := by rw [List.length_append, make_len]
  have h2 : ((makeT r ++ rest).take (r.length + 10)).drop 6 = sealT r := by
    rw [take_app (make_len r), makeT, drop_app (by rw [seal_len, hd_len])]
  unfold firstT
  rw [if_neg (by omega), h1, open_seal]
  dsimp only
  rw [hdT_sum _ h, if_neg (by omega), if_neg (by omega), h2, open_seal]
def framesT (l : List Tx) : Tx := l.flatMap makeT
theorem frames_cons (r : Tx) (l : List Tx) : framesT (r :: l) = makeT r ++ framesT l := List.flatMap_cons ..
theorem make_ne (r rest : Tx) : makeT r ++ rest ≠ [] := fun h => by
  have := congrArg List.length h
  rw [List.length_append, make_len, List.length_nil] at this; omega
theorem split_frames : ∀ (l : List Tx) (tail : Tx), (∀ r ∈ l, r.length ≤ 2000) → splitT (framesT l ++ tail) = (l ++ (splitT tail).1, (framesT l).length + (splitT tail).2.1, (splitT tail).2.2)
  | [], tail, _ => by
    show splitT tail = _
    rw [show framesT [] = [] from rfl, List.length_nil, Nat.zero_add, List.nil_append]
  | r :: l, tail, h => by
    have h1 := firstT_make r (framesT l ++ tail) (h r (List.mem_cons_self ..))
    have ih := split_frames l tail fun x hx => h x (List.mem_cons_of_mem _ hx)
    rw [frames_cons, List.append_assoc, splitT_ok (make_ne _ _) (by rw [h1]), h1]
    dsimp only
    rw [drop_app (make_len r), ih, List.length_append, make_len]
    simp only [List.cons_append, Nat.add_assoc]

/- a byte that is turned -/
theorem wd_bit (s : Wd) : s &&& 1 = 1 ↔ s.toNat % 2 = 1 := by
  have e : (s &&& 1).toNat = s.toNat % 2 := by
    rw [BitVec.toNat_and]
    exact Nat.and_one_is_mod s.toNat
  constructor
  · intro h
    rw [← e, h]; rfl
  · intro h
    apply BitVec.eq_of_toNat_eq
    rw [e, h]; rfl
theorem wd_half (s : Wd) : (s >>> 1).toNat = s.toNat / 2 := by
  rw [BitVec.toNat_ushiftRight, Nat.shiftRight_eq_div_pow]
theorem xor_back (x p : Wd) : x ^^^ (x ^^^ p) = p := by rw [← BitVec.xor_assoc, BitVec.xor_self, BitVec.zero_xor]
theorem poly_no (s t : Wd) : (s >>> 1) ^^^ 3988292384#32 ≠ t >>> 1 := by
  intro h
  have h1 : (s >>> 1) ^^^ (t >>> 1) = 3988292384#32 := by rw [← h, xor_back]
  have h2 := congrArg BitVec.toNat h1
  rw [BitVec.toNat_xor, wd_half, wd_half] at h2
  have h3 : s.toNat / 2 < 2 ^ 31 := by have := wd_lt s; omega
  have h4 : t.toNat / 2 < 2 ^ 31 := by have := wd_lt t; omega
  have h5 := Nat.xor_lt_two_pow h3 h4
  rw [h2] at h5
  exact absurd h5 (by decide)
theorem step_inj {s t : Wd} (h : stepC s = stepC t) : s = t := by
  have key : s >>> 1 = t >>> 1 → s.toNat % 2 = t.toNat % 2 → s = t := fun h1 h2 => by
    have h3 := congrArg BitVec.toNat h1
    rw [wd_half, wd_half] at h3
    apply BitVec.eq_of_toNat_eq
    omega
  unfold stepC at h
  by_cases hs : s &&& 1 = 1
  · rw [if_pos hs] at h
    by_cases ht : t &&& 1 = 1
    · rw [if_pos ht] at h
      refine key ?_ ?_
      · have := congrArg (fun x => 3988292384#32 ^^^ x) h
        rwa [BitVec.xor_comm (s >>> 1), BitVec.xor_comm (t >>> 1), xor_back, xor_back] at this
      · rw [wd_bit] at hs ht; omega
    · rw [if_neg ht] at h
      exact absurd h (poly_no s t)
  · rw [if_neg hs] at h
    by_cases ht : t &&& 1 = 1
    · rw [if_pos ht] at h
      exact absurd h.symm (poly_no t s)
    · rw [if_neg ht] at h
      refine key h ?_
      rw [wd_bit] at hs ht; omega
theorem steps_inj : ∀ (n : Nat) {s t : Wd}, stepsC n s = stepsC n t → s = t
  | 0, _, _, h => h
  | n + 1, _, _, h => steps_inj n (step_inj h)
theorem byteW_eq (s : Wd) (b : UInt8) : byteW s b = stepsC 8 (s ^^^ wdB b) := by unfold byteW; rfl
theorem byteW_inj {s t : Wd} {b : UInt8} (h : byteW s b = byteW t b) : s = t := by
  rw [byteW_eq, byteW_eq] at h
  have h1 := steps_inj 8 h
  have := congrArg (fun x => wdB b ^^^ x) h1
  rwa [BitVec.xor_comm s, BitVec.xor_comm t, xor_back, xor_back] at this
theorem byteW_ne {s : Wd} {a b : UInt8} (h : byteW s a = byteW s b) : a = b := by
  rw [byteW_eq, byteW_eq] at h
  have h1 := steps_inj 8 h
  have h2 := congrArg (fun x => s ^^^ x) h1
  rw [xor_back, xor_back] at h2
  have h3 := congrArg BitVec.toNat h2
  rw [wdB_toNat, wdB_toNat] at h3
  exact UInt8.toNat_inj.1 h3
theorem fold_inj : ∀ (l : Tx) {s t : Wd}, l.foldl byteW s = l.foldl byteW t → s = t
  | [], _, _, h => h
  | _ :: l, _, _, h => byteW_inj (fold_inj l h)
theorem crcW_eq (t : Tx) : crcW t = ~~~ (t.foldl byteW (~~~ (0 : Wd))) := by
  unfold crcW nextW
  rw [List.take_length]
theorem not_inj {x y : Wd} (h : ~~~ x = ~~~ y) : x = y := by
  have := congrArg (fun z => ~~~ z) h
  rwa [BitVec.not_not, BitVec.not_not] at this
theorem crc_ne (a c : Tx) {x y : UInt8} (h : x ≠ y) : crcW (a ++ x :: c) ≠ crcW (a ++ y :: c) := by
  intro k
  rw [crcW_eq, crcW_eq] at k
  have k1 := not_inj k
  rw [List.foldl_append, List.foldl_append, List.foldl_cons, List.foldl_cons] at k1
  exact h (byteW_ne (fold_inj c k1))
theorem bWd_inj4 {x y : Wd} (h : fourW x = fourW y) : x = y := by
  unfold fourW at h
  simp only [List.cons.injEq, and_true] at h
  obtain ⟨h1, h2, h3, h4⟩ := h
  have e1 := congrArg UInt8.toNat h1
  have e2 := congrArg UInt8.toNat h2
  have e3 := congrArg UInt8.toNat h3
  have e4 := congrArg UInt8.toNat h4
  rw [bWd_toNat, bWd_toNat] at e1 e2 e3 e4
  rw [BitVec.toNat_ushiftRight, BitVec.toNat_ushiftRight, Nat.shiftRight_eq_div_pow, Nat.shiftRight_eq_div_pow] at e1 e2 e3
  have hx := wd_lt x
  have hy := wd_lt y
  apply BitVec.eq_of_toNat_eq
  have p1 : (2 : Nat) ^ 24 = 16777216 := rfl
  have p2 : (2 : Nat) ^ 16 = 65536 := rfl
  have p3 : (2 : Nat) ^ 8 = 256 := rfl
  rw [p1] at e1
  rw [p2] at e2
  rw [p3] at e3
  omega
theorem turn_split (t : Tx) {i : Nat} (h : i < t.length) (y : UInt8) : ∃ a c x, t = a ++ x :: c ∧ a.length = i ∧ nth t i = x ∧ t.set i y = a ++ y :: c := by
  refine ⟨t.take i, t.drop (i + 1), nth t i, ?_, by rw [List.length_take]; omega, rfl, ?_⟩
  · rw [← drop_getD h, List.take_append_drop]
  · rw [List.set_eq_take_append_cons_drop, if_pos h]
theorem seal_turn (t : Tx) {i : Nat} (h : i < (sealT t).length) {y : UInt8} (hy : y ≠ nth (sealT t) i) : openT ((sealT t).set i y) = none := by
  unfold openT
  have hl := seal_len t
  have hs : ((sealT t).set i y).length = t.length + 4 := by rw [List.length_set, hl]
  rw [if_neg (by omega), hs, Nat.add_sub_cancel, if_neg]
  intro k
  by_cases hi : i < t.length
  · have h1 : ((sealT t).set i y).take t.length = t.set i y := by
      rw [List.take_set, sealT, List.take_append_of_le_length (Nat.le_refl _), List.take_length]
    have h2 : (sealT t).set i y = t.set i y ++ fourW (crcW t) := by
      unfold sealT
      rw [List.set_append_left _ _ hi]
    rw [h1, h2] at k
    unfold sealT at k
    have k2 := bWd_inj4 (List.append_cancel_left k)
    obtain ⟨a, c, x, e1, e2, e3, e4⟩ := turn_split t hi y
    have hx : nth (sealT t) i = nth t i := by
      rw [nth_eq, nth_eq, sealT, List.getD_eq_getElem?_getD, List.getD_eq_getElem?_getD, List.getElem?_append_left hi]
    rw [e4] at k2
    have k3 : crcW (a ++ y :: c) = crcW (a ++ x :: c) := by rw [k2, ← e1]
    exact crc_ne a c (by rw [hx, e3] at hy; exact hy) k3
  · have h1 : ((sealT t).set i y).take t.length = t := by
      rw [List.take_set_of_le (by omega), sealT, List.take_append_of_le_length (Nat.le_refl _), List.take_length]
    rw [h1] at k
    have k2 := congrArg (fun z => nth z i) k
    rw [nth_set _ h, if_pos rfl] at k2
    exact hy k2.symm
end Go.Proofs.YtkfhgpegnnokgaaGreatDoor
