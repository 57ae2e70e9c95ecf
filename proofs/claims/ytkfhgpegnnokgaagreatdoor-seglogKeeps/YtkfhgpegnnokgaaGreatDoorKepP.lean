/-
  A log whose power may fail, in plain words.
-/
import Derived.Test.YtkfhgpegnnokgaaGreatDoorRotR
namespace Go.Proofs.YtkfhgpegnnokgaaGreatDoor
open Go Go.CM
set_option maxRecDepth 100000
set_option maxHeartbeats 4000000

def kD (segs : List (List Tx)) (a b : List Tx) (room fuse : Int) (down : Bool) : Dsk := ⟨sureI 1 segs ++ [(segN (segs.length + 1), framesT a)], b.map fun r => (segN (segs.length + 1), makeT r), room, fuse, down⟩
def kZ (room fuse : Int) (down : Bool) : Dsk := ⟨[], [], room, fuse, down⟩
def kT (segs : List (List Tx)) (c : List Tx) (tail : Tx) (room fuse : Int) (down : Bool) : Dsk := ⟨sureI 1 segs ++ [(segN (segs.length + 1), framesT c ++ tail)], [], room, fuse, down⟩
theorem kT_nil (segs : List (List Tx)) (c : List Tx) (room fuse : Int) (down : Bool) : kT segs c [] room fuse down = kD segs c [] room fuse down := by
  unfold kT kD
  rw [List.append_nil]; rfl
theorem keys_of (segs : List (List Tx)) (t : Tx) : (sureI 1 segs ++ [(segN (segs.length + 1), t)]).map (fun x : Tx × Tx => x.1) = (upI 1 (segs.length + 1)).map segN := by
  rw [List.map_append, sureI_keys, up_snoc, List.map_append]
  have e : (1 : Int) + segs.length = segs.length + 1 := Int.add_comm ..
  rw [e]; rfl
theorem kfacts (segs : List (List Tx)) (t : Tx) (hn : segs.length ≤ 9999) : segN (segs.length + 1) ∉ (sureI 1 segs).map (·.1) ∧ segN (segs.length + 1 + 1) ∉ (sureI 1 segs ++ [(segN (segs.length + 1), t)]).map (fun x : Tx × Tx => x.1) ∧
    hasT (segN (segs.length + 1)) (sureI 1 segs ++ [(segN (segs.length + 1), t)]) = true ∧ getT (segN (segs.length + 1)) (sureI 1 segs ++ [(segN (segs.length + 1), t)]) = t ∧ ((sureI 1 segs ++ [(segN (segs.length + 1), t)]).map (fun x : Tx × Tx => x.1)).Nodup := by
  have hno : ∀ (k : Int), 1 ≤ k → k ≤ 99999 → ∀ n : Nat, 1 + (n : Int) ≤ k → segN k ∉ (upI 1 n).map segN := fun k k1 k2 n hn hm => by
    obtain ⟨x, hx, e⟩ := List.mem_map.1 hm
    have := up_mem.1 hx
    exact seg_ne (by omega) (by omega) k1 k2 (by omega) e
  have hnd : ((sureI 1 segs ++ [(segN (segs.length + 1), t)]).map (fun x : Tx × Tx => x.1)).Nodup := by rw [keys_of]; exact up_names (by omega) (by push_cast; omega)
  refine ⟨by rw [sureI_keys]; exact hno _ (by omega) (by omega) _ (by omega), by rw [keys_of]; exact hno _ (by omega) (by omega) _ (by push_cast; omega), ?_, ?_, hnd⟩
  · rw [hasT_iff, keys_of]
    exact List.mem_map_of_mem (up_mem.2 ⟨by omega, by push_cast; omega⟩)
  · exact getT_of hnd (List.mem_append_right _ (List.mem_singleton.2 rfl))
theorem sum_last (A : List (Tx × Tx)) (s t : Tx) : sumL (A ++ [(s, t)]) = sumL A + t.length := sumL_snoc A (s, t)
def KInv (D : Dsk) (last : Int) (all : List Tx) (sure : Nat) : Prop :=
  (∃ room fuse down, D = kZ room fuse down ∧ last = 1 ∧ all = [] ∧ sure = 0) ∨
  ∃ segs a b room fuse down, D = kD segs a b room fuse down ∧ last = segs.length + 1 ∧ all = segs.flatten ++ a ++ b ∧ sure ≤ (segs.flatten ++ a).length
theorem kD_dead (segs : List (List Tx)) (a b : List Tx) (room fuse : Int) (down : Bool) : (kD segs a b room fuse down).dead = kD segs a b room (deadF fuse) (deadD fuse down) := rfl
theorem kZ_dead (room fuse : Int) (down : Bool) : (kZ room fuse down).dead = kZ room (deadF fuse) (deadD fuse down) := rfl
theorem kD_late (segs : List (List Tx)) (b : List Tx) : lateL (segN (segs.length + 1)) (b.map fun r => (segN (segs.length + 1), makeT r)) = framesT b := late_same _ _ _
theorem kD_sync (segs : List (List Tx)) (a b : List Tx) (room fuse : Int) (down : Bool) (hn : segs.length ≤ 9999) : syncD (kD segs a b room fuse down) (segN (segs.length + 1)) = kD segs (a ++ b) [] room fuse down := by
  obtain ⟨f1, f2, f3, f4, f5⟩ := kfacts segs (framesT a) hn
  show (⟨setT _ (getT _ (sureI 1 segs ++ [(segN (segs.length + 1), framesT a)]) ++ lateL _ (b.map fun r => (segN (segs.length + 1), makeT r))) (sureI 1 segs ++ [(segN (segs.length + 1), framesT a)]), butW _ (b.map fun r => (segN (segs.length + 1), makeT r)), room, fuse, down⟩ : Dsk) = _
  rw [f4, kD_late, ← frames_app, set_last f1, but_same]; rfl
theorem kD_ready (segs : List (List Tx)) (a b : List Tx) (room fuse : Int) (down : Bool) (hn : segs.length ≤ 9999) : readyE (kD segs a b room fuse down) (segN (segs.length + 1)) = if deadD fuse down = true then 12 else 0 := by
  obtain ⟨f1, f2, f3, f4, f5⟩ := kfacts segs (framesT a) hn
  unfold readyE
  show (if deadD fuse down = true then 12 else if hasT _ (sureI 1 segs ++ [(segN (segs.length + 1), framesT a)]) = true then 0 else 6) = _
  rw [f3, if_pos rfl]
theorem kD_syncR (segs : List (List Tx)) (a b : List Tx) (room fuse : Int) (down : Bool) (hn : segs.length ≤ 9999) : syncR (kD segs a b room fuse down) (segN (segs.length + 1)) = if deadD fuse down = true then kD segs a b room (deadF fuse) true else kD segs (a ++ b) [] room (deadF fuse) false := by
  unfold syncR
  rw [kD_ready segs a b room fuse down hn]
  cases hd : deadD fuse down with
  | true => rw [if_pos rfl, if_pos rfl, if_neg (by decide), kD_dead, hd]
  | false => rw [if_neg Bool.false_ne_true, if_neg Bool.false_ne_true, if_pos rfl, kD_dead, hd, kD_sync _ _ _ _ _ _ hn]
theorem kD_used (segs : List (List Tx)) (a b : List Tx) (room fuse : Int) (down : Bool) (room' fuse' : Int) (down' : Bool) : (kD segs (a ++ b) [] room fuse down).used = (kD segs a b room' fuse' down').used := by
  show sumL [] + sumL (sureI 1 segs ++ [(segN (segs.length + 1), framesT (a ++ b))]) = sumL (b.map fun r => (segN (segs.length + 1), makeT r)) + sumL (sureI 1 segs ++ [(segN (segs.length + 1), framesT a)])
  rw [sum_last, sum_last, sum_same, frames_app, List.length_append, sumL_nil]
  show _ = (framesT b).length + _
  omega
theorem kD_put (segs : List (List Tx)) (a b : List Tx) (room fuse : Int) (down : Bool) (hn : segs.length ≤ 9999) (s : Tx) : putD (kD segs a b room fuse down) (segN (segs.length + 1)) (makeT s) = kD segs a (b ++ [s]) room fuse down := by
  obtain ⟨f1, f2, f3, f4, f5⟩ := kfacts segs (framesT a) hn
  have hm := make_len s
  have hmn : makeT s ≠ [] := fun k => by rw [k] at hm; simp at hm
  unfold putD
  rw [if_neg hmn, show hasT (segN (segs.length + 1)) (kD segs a b room fuse down).sure = true from f3, if_pos rfl]
  unfold kD
  rw [List.map_append]; rfl
theorem kD_put2 (segs : List (List Tx)) (c : List Tx) (room fuse : Int) (down : Bool) (hn : segs.length ≤ 9999) (s : Tx) : putD (kD segs c [] room fuse down) (segN (segs.length + 1 + 1)) (makeT s) = kD (segs ++ [c]) [] [s] room fuse down := by
  obtain ⟨f1, f2, f3, f4, f5⟩ := kfacts segs (framesT c) hn
  have hm := make_len s
  have hmn : makeT s ≠ [] := fun k => by rw [k] at hm; simp at hm
  have e3 : ((segs ++ [c]).length : Int) = segs.length + 1 := by rw [List.length_append]; rfl
  have hno : hasT (segN (segs.length + 1 + 1)) (kD segs c [] room fuse down).sure = false := hasT_no.2 f2
  unfold putD
  rw [if_neg hmn, hno, if_neg (by decide)]
  unfold kD
  rw [e3, sureI_app]
  show (⟨sureI 1 segs ++ [(segN (segs.length + 1), framesT c)] ++ [(segN (segs.length + 1 + 1), [])], [(segN (segs.length + 1 + 1), makeT s)], room, fuse, down⟩ : Dsk) = ⟨sureI 1 segs ++ [(segN (1 + segs.length), framesT c)] ++ [(segN (segs.length + 1 + 1), [])], [(segN (segs.length + 1 + 1), makeT s)], room, fuse, down⟩
  rw [Int.add_comm 1]
theorem app_dead {D : Dsk} {n s : Tx} (h : deadD D.fuse D.down = true) : appE D n s = 12 ∧ appR D n s = D.dead := by
  have e : appE D n s = 12 := by unfold appE; rw [if_pos h]
  refine ⟨e, ?_⟩
  unfold appR
  rw [e, if_neg (by decide)]
theorem app_live {D : Dsk} {n s : Tx} (h : deadD D.fuse D.down = false) (hr : rightN n = true) (hf : ¬ Full D n s) : appE D n s = 0 ∧ appR D n s = putD D.dead n s := by
  have e : appE D n s = 0 := appE_0.2 ⟨h, hr, hf⟩
  refine ⟨e, ?_⟩
  unfold appR
  rw [if_pos e]
theorem noFull {D : Dsk} {fr : Bool} {s : Tx} {rest : Int} (h : ¬ noRoom D fr s rest) (n : Tx) (D2 : Dsk) (hu : D2.used = D.used) (hro : D2.room = D.room) (hl : D2.sure.length = D.sure.length) (hn : hasT n D2.sure = true ∨ fr = true) : ¬ Full D2 n (makeT s) := by
  have hm := make_len s
  have hlim : 0 ≤ limI rest := by unfold limI; omega
  rintro (⟨h1, h2⟩ | h2)
  · rcases hn with hn | hn
    · rw [hn] at h1; cases h1
    · exact h (.inl ⟨hn, by omega⟩)
  · refine h (.inr ?_)
    rw [hu, hro] at h2
    omega
theorem KInv.app {D : Dsk} {last : Int} {all : List Tx} {sure : Nat} (h : KInv D last all sure) (hl : last ≤ 9999) (limit : Int) (s : Tx) (hs : s.length ≤ 300) (rest : Int) :
    KInv (appS D last limit s rest).D (appS D last limit s rest).last (if (appS D last limit s rest).e = 0 then all ++ [s] else all) sure ∧ (appS D last limit s rest).last ≤ last + 1 := by
  unfold appS
  rw [if_neg (by omega)]
  rcases h with ⟨room, fuse, down, rfl, rfl, rfl, rfl⟩ | ⟨segs, a, b, room, fuse, down, rfl, rfl, rfl, hsu⟩
  · have hz : sizeS (kZ room fuse down) 1 = -1 := rfl
    rw [if_neg (fun k => by have := k.1; rw [hz] at this; omega), hz]
    unfold appT
    rw [show decide ((-1 : Int) < 0) = true from rfl, if_neg (by omega)]
    by_cases hno : noRoom (kZ room fuse down) true s rest
    · rw [if_pos hno]
      exact ⟨.inl ⟨room, fuse, down, rfl, rfl, if_neg (show ¬ ((2 : Int) = 0) by decide), rfl⟩, show (1 : Int) ≤ 1 + 1 by omega⟩
    rw [if_neg hno, if_neg (by omega)]
    unfold appU
    have hF := noFull hno (segN 1) (kZ room fuse down) rfl rfl rfl (.inr rfl)
    cases hd : deadD fuse down with
    | true =>
      obtain ⟨e1, e2⟩ := app_dead (D := kZ room fuse down) (n := segN 1) (s := makeT s) hd
      rw [e1, if_neg (by decide), e2, kZ_dead]
      exact ⟨.inl ⟨room, _, _, rfl, rfl, if_neg (show ¬ ((12 : Int) = 0) by decide), rfl⟩, by show (1 : Int) ≤ _; omega⟩
    | false =>
      obtain ⟨e1, e2⟩ := app_live (D := kZ room fuse down) (n := segN 1) (s := makeT s) hd (seg_right (by omega) (by omega)) hF
      have hm := make_len s
      have hmn : makeT s ≠ [] := fun k => by rw [k] at hm; simp at hm
      rw [e1, if_pos rfl, e2]
      refine ⟨.inr ⟨[], [], [s], room, deadF fuse, deadD fuse down, ?_, rfl, by rw [if_pos rfl]; rfl, Nat.le_refl _⟩, by show (1 : Int) ≤ _; omega⟩
      show putD (kZ room fuse down).dead (segN 1) (makeT s) = _
      rw [kZ_dead]
      unfold putD
      rw [if_neg hmn]; rfl
  · have hn : segs.length ≤ 9999 := by omega
    obtain ⟨f1, f2, f3, f4, f5⟩ := kfacts segs (framesT a) hn
    have hz : ¬ sizeS (kD segs a b room fuse down) (segs.length + 1) < 0 := by
      unfold sizeS
      rw [if_pos (show hasT _ (kD segs a b room fuse down).sure = true from f3)]; omega
    have hsl : (kD segs a b room fuse down).sure.length = segs.length + 1 := by
      show (sureI 1 segs ++ [_]).length = _
      rw [List.length_append, sureI_len]; rfl
    have same : ∀ e : Int, e ≠ 0 → KInv (kD segs a b room fuse down) (segs.length + 1) (if e = 0 then segs.flatten ++ a ++ b ++ [s] else segs.flatten ++ a ++ b) sure := fun e he => by
      rw [if_neg he]
      exact .inr ⟨segs, a, b, room, fuse, down, rfl, rfl, rfl, hsu⟩
    by_cases hro : roll (kD segs a b room fuse down) (segs.length + 1) limit s
    · rw [if_pos hro]
      unfold appT
      rw [if_neg (by omega)]
      by_cases hno : noRoom (kD segs a b room fuse down) true s rest
      · rw [if_pos hno]
        exact ⟨same 2 (by decide), by show (segs.length : Int) + 1 ≤ _; omega⟩
      rw [if_neg hno, if_pos (by omega), kD_ready _ _ _ _ _ _ hn, kD_syncR _ _ _ _ _ _ hn]
      cases hd : deadD fuse down with
      | true =>
        rw [if_pos rfl, if_pos rfl, if_neg (by decide)]
        exact ⟨.inr ⟨segs, a, b, room, deadF fuse, true, rfl, rfl, if_neg (show ¬ ((12 : Int) = 0) by decide), hsu⟩, by show (segs.length : Int) + 1 ≤ _; omega⟩
      | false =>
        rw [if_neg Bool.false_ne_true, if_neg Bool.false_ne_true, if_pos rfl]
        unfold appU
        have hsu2 : sure ≤ (segs.flatten ++ (a ++ b)).length := by rw [List.length_append] at hsu ⊢; rw [List.length_append]; omega
        have hall : segs.flatten ++ a ++ b = segs.flatten ++ (a ++ b) ++ [] := by rw [List.append_nil, List.append_assoc]
        have hF := noFull hno (segN (segs.length + 1 + 1)) (kD segs (a ++ b) [] room (deadF fuse) false) (kD_used ..) rfl (by show (sureI 1 segs ++ [_]).length = (sureI 1 segs ++ [_]).length; rw [List.length_append, List.length_append]; rfl) (.inr rfl)
        cases hd2 : deadD (deadF fuse) false with
        | true =>
          obtain ⟨e1, e2⟩ := app_dead (D := kD segs (a ++ b) [] room (deadF fuse) false) (n := segN (segs.length + 1 + 1)) (s := makeT s) hd2
          rw [e1, if_neg (by decide), e2, kD_dead]
          exact ⟨.inr ⟨segs, a ++ b, [], room, _, _, rfl, rfl, (if_neg (show ¬ ((12 : Int) = 0) by decide)).trans hall, hsu2⟩, by show (segs.length : Int) + 1 ≤ _; omega⟩
        | false =>
          obtain ⟨e1, e2⟩ := app_live (D := kD segs (a ++ b) [] room (deadF fuse) false) (n := segN (segs.length + 1 + 1)) (s := makeT s) hd2 (seg_right (by omega) (by omega)) hF
          rw [e1, if_pos rfl, e2, kD_dead, kD_put2 _ _ _ _ _ hn]
          refine ⟨.inr ⟨segs ++ [a ++ b], [], [s], room, _, _, rfl, by rw [List.length_append]; rfl, ?_, ?_⟩, by show (segs.length : Int) + 1 + 1 ≤ _; omega⟩
          · rw [if_pos rfl, List.flatten_append, List.flatten_cons, List.flatten_nil, List.append_nil, List.append_nil, List.append_assoc segs.flatten]
          · rw [List.flatten_append, List.flatten_cons, List.flatten_nil, List.append_nil, List.append_nil]; exact hsu2
    · rw [if_neg hro, decide_eq_false hz]
      unfold appT
      rw [if_neg (by omega)]
      by_cases hno : noRoom (kD segs a b room fuse down) false s rest
      · rw [if_pos hno]
        exact ⟨same 2 (by decide), by show (segs.length : Int) + 1 ≤ _; omega⟩
      rw [if_neg hno, if_neg (by omega)]
      unfold appU
      have hF := noFull hno (segN (segs.length + 1)) (kD segs a b room fuse down) rfl rfl rfl (.inl f3)
      cases hd : deadD fuse down with
      | true =>
        obtain ⟨e1, e2⟩ := app_dead (D := kD segs a b room fuse down) (n := segN (segs.length + 1)) (s := makeT s) hd
        rw [e1, if_neg (by decide), e2, kD_dead]
        exact ⟨.inr ⟨segs, a, b, room, _, _, rfl, rfl, if_neg (show ¬ ((12 : Int) = 0) by decide), hsu⟩, by show (segs.length : Int) + 1 ≤ _; omega⟩
      | false =>
        obtain ⟨e1, e2⟩ := app_live (D := kD segs a b room fuse down) (n := segN (segs.length + 1)) (s := makeT s) hd (seg_right (by omega) (by omega)) hF
        rw [e1, if_pos rfl, e2, kD_dead, kD_put _ _ _ _ _ _ hn]
        exact ⟨.inr ⟨segs, a, b ++ [s], room, _, _, rfl, rfl, by rw [if_pos rfl, List.append_assoc (segs.flatten ++ a)], hsu⟩, by show (segs.length : Int) + 1 ≤ _; omega⟩
theorem KInv.sync {D : Dsk} {last : Int} {all : List Tx} {sure : Nat} (h : KInv D last all sure) (hl : last ≤ 9999) :
    KInv (if sizeS D last < 0 then D else syncR D (segN last)) last all (if (if sizeS D last < 0 then 0 else readyE D (segN last)) = 0 then all.length else sure) := by
  rcases h with ⟨room, fuse, down, rfl, rfl, rfl, rfl⟩ | ⟨segs, a, b, room, fuse, down, rfl, rfl, rfl, hsu⟩
  · have hz : sizeS (kZ room fuse down) 1 < 0 := by show (-1 : Int) < 0; omega
    rw [if_pos hz, if_pos hz]
    exact .inl ⟨room, fuse, down, rfl, rfl, rfl, rfl⟩
  · have hn : segs.length ≤ 9999 := by omega
    obtain ⟨f1, f2, f3, f4, f5⟩ := kfacts segs (framesT a) hn
    have hz : ¬ sizeS (kD segs a b room fuse down) (segs.length + 1) < 0 := by
      unfold sizeS
      rw [if_pos (show hasT _ (kD segs a b room fuse down).sure = true from f3)]; omega
    rw [if_neg hz, if_neg hz, kD_ready _ _ _ _ _ _ hn, kD_syncR _ _ _ _ _ _ hn]
    cases hd : deadD fuse down with
    | true =>
      rw [if_pos rfl, if_pos rfl, if_neg (by decide)]
      exact .inr ⟨segs, a, b, room, _, _, rfl, rfl, rfl, hsu⟩
    | false =>
      rw [if_neg Bool.false_ne_true, if_neg Bool.false_ne_true, if_pos rfl]
      exact .inr ⟨segs, a ++ b, [], room, _, _, rfl, rfl, by rw [List.append_nil, List.append_assoc], by rw [List.append_assoc]; exact Nat.le_refl _⟩
end Go.Proofs.YtkfhgpegnnokgaaGreatDoor
