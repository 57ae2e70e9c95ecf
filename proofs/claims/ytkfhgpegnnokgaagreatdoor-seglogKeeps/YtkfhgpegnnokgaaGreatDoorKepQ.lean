/-
  A log behind a crash, in plain words.
-/
import Derived.Test.YtkfhgpegnnokgaaGreatDoorKepP
namespace Go.Proofs.YtkfhgpegnnokgaaGreatDoor
open Go Go.CM
set_option maxRecDepth 100000
set_option maxHeartbeats 4000000

theorem fat_last {A : List (Tx × Tx)} {s : Tx} (t : Tx) (h : s ∉ A.map (·.1)) : fat s (A ++ [(s, t)]) = some A.length := by
  unfold fat
  rw [List.findIdx?_append]
  have : List.findIdx? (fun x : Tx × Tx => s == x.1) A = none := fat_none.2 h
  rw [this]
  simp [List.findIdx?_cons]
theorem getT_last {A : List (Tx × Tx)} {s t : Tx} (h : s ∉ A.map (·.1)) : getT s (A ++ [(s, t)]) = t := by
  unfold getT
  rw [fat_last t h]
  show (nth (A ++ [(s, t)]) A.length).2 = t
  rw [nth_eq, List.getD_eq_getElem?_getD, List.getElem?_append_right (Nat.le_refl _), Nat.sub_self]; rfl
theorem crS_last {A : List (Tx × Tx)} {s : Tx} (t : Tx) (h : s ∉ A.map (·.1)) (b : List Tx) (k : Nat) : ∀ i, i ≤ b.length → crS (A ++ [(s, t)]) (b.map fun r => (s, makeT r)) k i = A ++ [(s, t ++ (framesT (b.take i)).take k)]
  | 0, _ => by
    show A ++ [(s, t)] = _
    rw [List.take_zero, show framesT [] = [] from rfl, List.take_nil, List.append_nil]
  | i + 1, hi => by
    have ih := crS_last t h b k i (by omega)
    have hn : nth (b.map fun r => (s, makeT r)) i = (s, makeT (nth b i)) := nth_map (f := fun r => (s, makeT r)) (by omega)
    have hs : sumL ((b.map fun r => (s, makeT r)).take i) = (framesT (b.take i)).length := by rw [← List.map_take, sum_same]; rfl
    show setT (nth (b.map fun r => (s, makeT r)) i).1 (getT (nth (b.map fun r => (s, makeT r)) i).1 (crS (A ++ [(s, t)]) (b.map fun r => (s, makeT r)) k i) ++ (nth (b.map fun r => (s, makeT r)) i).2.take (k - sumL ((b.map fun r => (s, makeT r)).take i))) (crS (A ++ [(s, t)]) (b.map fun r => (s, makeT r)) k i) = _
    rw [ih, hn, hs]
    show setT s (getT s (A ++ [(s, t ++ (framesT (b.take i)).take k)]) ++ (makeT (nth b i)).take (k - (framesT (b.take i)).length)) (A ++ [(s, t ++ (framesT (b.take i)).take k)]) = _
    rw [getT_last h, set_last h, take_getD (by omega), frames_app, List.append_assoc]
    have e : framesT [nth b i] = makeT (nth b i) := by rw [frames_cons]; exact List.append_nil _
    rw [e, List.take_append]
theorem first_part {r : Tx} (h : r.length ≤ 2000) {q : Nat} (hq : q < (makeT r).length) : (firstT ((makeT r).take q)).2.2 = 3 := by
  have hl : ((makeT r).take q).length = q := by rw [List.length_take]; omega
  rw [make_len] at hq
  unfold firstT
  by_cases h6 : q < 6
  · rw [if_pos (by omega)]
  · have h1 : ((makeT r).take q).take 6 = sealT (hdT r.length) := by
      rw [List.take_take, Nat.min_eq_left (by omega), makeT, take_app (by rw [seal_len, hd_len])]
    rw [if_neg (by omega), h1, open_seal]
    dsimp only
    rw [hdT_sum _ h, if_neg (by omega), if_pos (by omega)]
theorem frames_take : ∀ (b : List Tx) (k : Nat), (∀ r ∈ b, r.length ≤ 2000) → ∃ j tail, (framesT b).take k = framesT (b.take j) ++ tail ∧ (tail = [] ∨ splitT tail = ([], 0, 3))
  | [], k, _ => ⟨0, [], by rw [show framesT [] = [] from rfl, List.take_nil]; rfl, .inl rfl⟩
  | r :: b, k, h => by
    have hr := h r (List.mem_cons_self ..)
    by_cases hk : k < (makeT r).length
    · refine ⟨0, (makeT r).take k, ?_, ?_⟩
      · rw [frames_cons, List.take_append_of_le_length (by omega)]; rfl
      · by_cases h0 : k = 0
        · subst h0; exact .inl rfl
        · have hne : (makeT r).take k ≠ [] := fun e => by
            have := congrArg List.length e
            rw [List.length_take, List.length_nil] at this; omega
          have h3 := first_part hr hk
          exact .inr (by rw [splitT_no hne (by rw [h3]; decide), h3])
    · obtain ⟨j, tail, e, ht⟩ := frames_take b (k - (makeT r).length) fun x hx => h x (List.mem_cons_of_mem _ hx)
      refine ⟨j + 1, tail, ?_, ht⟩
      rw [frames_cons, List.take_append, List.take_of_length_le (by omega), e, List.take_succ_cons, frames_cons, List.append_assoc]
def tailP (t : Tx) : Prop := t = [] ∨ splitT t = ([], 0, 3)
theorem KInv.crash {D : Dsk} {last : Int} {all : List Tx} {sure : Nat} (h : KInv D last all sure) (hl : last ≤ 9999) (hlen : ∀ r ∈ all, r.length ≤ 2000) (k : Int) :
    (∃ room, crashD D k = kZ room (-1) false ∧ all = [] ∧ sure = 0) ∨ ∃ segs c tail room, crashD D k = kT segs c tail room (-1) false ∧ (segs.length : Int) + 1 = last ∧ tailP tail ∧ (segs.flatten ++ c) <+: all ∧ sure ≤ (segs.flatten ++ c).length := by
  rcases h with ⟨room, fuse, down, rfl, rfl, rfl, rfl⟩ | ⟨segs, a, b, room, fuse, down, rfl, rfl, rfl, hsu⟩
  · exact .inl ⟨room, rfl, rfl, rfl⟩
  · obtain ⟨f1, f2, f3, f4, f5⟩ := kfacts segs (framesT a) (by omega)
    obtain ⟨j, tail, e, ht⟩ := frames_take b k.toNat fun r hr => hlen r (List.mem_append_right _ hr)
    refine .inr ⟨segs, a ++ b.take j, tail, room, ?_, rfl, ht, ?_, ?_⟩
    · have h1 := crS_last (framesT a) f1 b k.toNat b.length (Nat.le_refl _)
      rw [List.take_length, e] at h1
      have e2 : (b.map fun r => (segN (segs.length + 1), makeT r)).length = b.length := List.length_map ..
      show (⟨crS (sureI 1 segs ++ [(segN (segs.length + 1), framesT a)]) (b.map fun r => (segN (segs.length + 1), makeT r)) k.toNat (b.map fun r => (segN (segs.length + 1), makeT r)).length, [], room, -1, false⟩ : Dsk) = _
      rw [e2, h1]
      unfold kT
      rw [frames_app, List.append_assoc]
    · rw [← List.append_assoc]
      exact (List.prefix_append_right_inj _).2 (List.take_prefix j b)
    · rw [← List.append_assoc, List.length_append]; omega
theorem openF_run {D : Dsk} (m : Int) : ∀ (cs : List (List Tx)) (i last : Int) (recs : List Tx), (∀ c ∈ cs, ∀ r ∈ c, r.length ≤ 2000) → (∀ n c, (segN n, framesT c) ∈ sureI i cs → fileT D (segN n) = framesT c) → openF D last recs (upI i cs.length ++ [m]) = openF D last (recs ++ cs.flatten) [m]
  | [], i, last, recs, _, _ => by rw [List.flatten_nil, List.append_nil]; rfl
  | c :: cs, i, last, recs, hl, hf => by
    show openF D last recs (i :: (upI (i + 1) cs.length ++ [m])) = _
    have h1 : splitT (fileT D (segN i)) = (c, (framesT c).length, 0) := by
      rw [hf i c (List.mem_cons_self ..)]
      exact split_whole c (hl c (List.mem_cons_self ..))
    rw [openF_cons, h1, if_pos rfl, openF_run m cs (i + 1) i (recs ++ c) (fun x hx => hl x (List.mem_cons_of_mem _ hx)) (fun n x hx => hf n x (List.mem_cons_of_mem _ hx)), List.flatten_cons, List.append_assoc]
    rfl
theorem kT_open (segs : List (List Tx)) (c : List Tx) (tail : Tx) (room fuse : Int) (down : Bool) (hn : segs.length ≤ 9999) (ht : tailP tail) (hlen : ∀ r ∈ segs.flatten ++ c, r.length ≤ 2000) :
    numO 1 (allL lgW (kT segs c tail room fuse down).sure) [] = some (upI 1 (segs.length + 1)) ∧
    openF (kT segs c tail room fuse down) 1 [] (upI 1 (segs.length + 1)) = if tail = [] then ⟨0, segs.length + 1, segs.flatten ++ c, kT segs c tail room fuse down⟩ else if deadD fuse down = true then ⟨12, segs.length + 1, segs.flatten ++ c, kT segs c tail room (deadF fuse) true⟩ else ⟨0, segs.length + 1, segs.flatten ++ c, kD segs c [] room (deadF fuse) false⟩ := by
  obtain ⟨f1, f2, f3, f4, f5⟩ := kfacts segs (framesT c ++ tail) hn
  have hk := keys_of segs (framesT c ++ tail)
  have hall : allL lgW (kT segs c tail room fuse down).sure = upI 1 (segs.length + 1) := all_up hk (by omega)
  have hfile : ∀ n t, (segN n, t) ∈ (kT segs c tail room fuse down).sure → fileT (kT segs c tail room fuse down) (segN n) = t := fun n t hm => by
    unfold fileT
    rw [if_pos (hasT_iff.2 (List.mem_map.2 ⟨_, hm, rfl⟩))]
    have hg : getT (segN n) (kT segs c tail room fuse down).sure = t := getT_of f5 hm
    rw [hg]
    exact List.append_nil _
  have hlast := hfile (segs.length + 1) (framesT c ++ tail) (List.mem_append_right _ (List.mem_singleton.2 rfl))
  have hc : ∀ r ∈ c, r.length ≤ 2000 := fun r hr => hlen r (List.mem_append_right _ hr)
  refine ⟨by rw [hall]; exact numO_up 1 (segs.length + 1) [], ?_⟩
  rw [up_snoc, openF_run (1 + (segs.length : Int)) segs 1 1 [] (fun x hx r hr => hlen r (List.mem_append_left _ (List.mem_flatten.2 ⟨x, hx, hr⟩))) (fun n x hx => hfile n _ (List.mem_append_left _ hx)), Int.add_comm 1, openF_cons, hlast, List.nil_append]
  rcases ht with rfl | ht
  · rw [List.append_nil, split_whole c hc, if_pos rfl, if_pos rfl]; rfl
  · have h0 : tail ≠ [] := fun e => by rw [e, splitT_nil] at ht; cases ht
    have hs := split_frames c tail hc
    rw [ht] at hs
    have hs : splitT (framesT c ++ tail) = (c ++ [], (framesT c).length + 0, 3) := hs
    have hrd : readyE (kT segs c tail room fuse down) (segN (segs.length + 1)) = if deadD fuse down = true then 12 else 0 := by
      unfold readyE
      show (if deadD fuse down = true then 12 else if hasT _ (sureI 1 segs ++ [(segN (segs.length + 1), framesT c ++ tail)]) = true then 0 else 6) = _
      rw [f3, if_pos rfl]
    rw [hs, if_neg h0, if_neg (show ¬ ((3 : Int) = 0) by decide), if_pos ⟨rfl, rfl⟩, List.append_nil, hrd]
    unfold cutR
    rw [hrd]
    cases hd : deadD fuse down with
    | true =>
      rw [if_pos rfl, if_pos rfl, if_neg (show ¬ ((12 : Int) = 0) by decide)]
      unfold Dsk.dead kT
      rw [hd]
    | false =>
      rw [if_neg Bool.false_ne_true, if_neg Bool.false_ne_true, if_pos rfl]
      have hcut : cutD (kT segs c tail room fuse down).dead (segN (segs.length + 1)) ((framesT c).length + 0 : Nat) = kD segs c [] room (deadF fuse) false := by
        unfold Dsk.dead kT
        rw [hd]
        show (⟨setT _ ((getT _ (sureI 1 segs ++ [(segN (segs.length + 1), framesT c ++ tail)]) ++ []).take (framesT c).length) (sureI 1 segs ++ [(segN (segs.length + 1), framesT c ++ tail)]), [], room, deadF fuse, false⟩ : Dsk) = _
        rw [f4, List.append_nil, take_app rfl, set_last f1]; rfl
      rw [hcut]
end Go.Proofs.YtkfhgpegnnokgaaGreatDoor
