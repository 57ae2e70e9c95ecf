/-
  A log on its disk, in plain words.
-/
import Derived.Test.YtkfhgpegnnokgaaGreatDoorLogP
import Derived.Test.YtkfhgpegnnokgaaGreatDoorSegC
import Derived.Test.YtkfhgpegnnokgaaGreatDoorFllB
namespace Go.Proofs.YtkfhgpegnnokgaaGreatDoor
open Go Go.CM
set_option maxRecDepth 100000
set_option maxHeartbeats 4000000

/- a frame of which one byte is turned -/
theorem first_turn (r rest : Tx) (h : r.length ≤ 2000) {i : Nat} (hi : i < (makeT r).length) {y : UInt8} (hy : y ≠ nth (makeT r ++ rest) i) : (firstT ((makeT r ++ rest).set i y)).2.2 = 4 := by
  have hl : ((makeT r ++ rest).set i y).length = r.length + 10 + rest.length := by rw [List.length_set, List.length_append, make_len]
  have hA : (sealT (hdT r.length)).length = 6 := by rw [seal_len, hd_len]
  have e0 : makeT r ++ rest = sealT (hdT r.length) ++ (sealT r ++ rest) := by rw [makeT, List.append_assoc]
  rw [make_len] at hi
  unfold firstT
  rw [if_neg (by omega)]
  by_cases h6 : i < 6
  · have h1 : ((makeT r ++ rest).set i y).take 6 = (sealT (hdT r.length)).set i y := by
      rw [List.take_set, e0, take_app hA]
    have hn : nth (makeT r ++ rest) i = nth (sealT (hdT r.length)) i := by
      rw [e0, nth_eq, nth_eq, List.getD_eq_getElem?_getD, List.getD_eq_getElem?_getD, List.getElem?_append_left (by omega)]
    rw [h1, seal_turn _ (by omega) (by rw [← hn]; exact hy)]
  · have h1 : ((makeT r ++ rest).set i y).take 6 = sealT (hdT r.length) := by
      rw [List.take_set_of_le (by omega), e0, take_app hA]
    have h2 : (((makeT r ++ rest).set i y).take (r.length + 10)).drop 6 = (sealT r).set (i - 6) y := by
      rw [List.take_set, take_app (make_len r), makeT, List.set_append_right _ _ (by omega), hA, drop_app hA]
    have hn : nth (makeT r ++ rest) i = nth (sealT r) (i - 6) := by
      have hs : i - 6 < (sealT r).length := by rw [seal_len]; omega
      rw [e0, nth_eq, nth_eq, List.getD_eq_getElem?_getD, List.getD_eq_getElem?_getD, List.getElem?_append_right (by omega), hA, List.getElem?_append_left hs]
    rw [h1, open_seal]
    dsimp only
    rw [hdT_sum _ h, if_neg (by omega), if_neg (by omega), h2, seal_turn _ (by rw [seal_len]; omega) (by rw [← hn]; exact hy)]
theorem split_turn : ∀ (l : List Tx), (∀ r ∈ l, r.length ≤ 2000) → ∀ (p : Nat), p < (framesT l).length → ∀ y : UInt8, y ≠ nth (framesT l) p → (splitT ((framesT l).set p y)).2.2 = 4
  | [], _, _, hp, _, _ => absurd hp (Nat.not_lt_zero _)
  | r :: l, h, p, hp, y, hy => by
    have hr := h r (List.mem_cons_self ..)
    rw [frames_cons] at hp hy ⊢
    by_cases hi : p < (makeT r).length
    · have h1 := first_turn r (framesT l) hr hi hy
      have h0 : (makeT r ++ framesT l).set p y ≠ [] := fun k => make_ne r (framesT l) (by
        have := congrArg List.length k
        rw [List.length_set] at this
        exact List.eq_nil_of_length_eq_zero this)
      rw [splitT_no h0 (by rw [h1]; decide)]
      exact h1
    · have hs : (makeT r ++ framesT l).set p y = makeT r ++ (framesT l).set (p - (makeT r).length) y := List.set_append_right _ _ (by omega)
      have hn : nth (makeT r ++ framesT l) p = nth (framesT l) (p - (makeT r).length) := by
        rw [nth_eq, nth_eq, List.getD_eq_getElem?_getD, List.getD_eq_getElem?_getD, List.getElem?_append_right (by omega)]
      have ih := split_turn l (fun x hx => h x (List.mem_cons_of_mem _ hx)) (p - (makeT r).length) (by rw [List.length_append] at hp; omega) y (by rw [← hn]; exact hy)
      have h1 := split_frames [r] ((framesT l).set (p - (makeT r).length) y) (fun x hx => by simp at hx; subst hx; exact hr)
      have h2 : framesT [r] = makeT r := by rw [frames_cons]; exact List.append_nil _
      rw [hs]
      rw [h2] at h1
      rw [h1]
      exact ih
theorem split_whole (l : List Tx) (h : ∀ r ∈ l, r.length ≤ 2000) : splitT (framesT l) = (l, (framesT l).length, 0) := by
  have := split_frames l [] h
  rw [List.append_nil, splitT_nil] at this
  rw [this]; simp

/- the names of segments -/
theorem dig_ok : ∀ (u : Nat), ∀ b ∈ Lib.decDigits u, okB b = true := by
  intro u
  induction u using Nat.strongRecOn with
  | _ u ih =>
    have one : ∀ d, d < 10 → okB (UInt8.ofNat (48 + d)) = true := fun d hd => by
      rw [okB_iff]
      have e : (UInt8.ofNat (48 + d)).toNat = 48 + d := by simp; omega
      rw [e]
      unfold okP; omega
    rw [Lib.decDigits]
    split
    · rename_i h
      intro b hb
      simp only [List.mem_singleton] at hb
      subst hb
      exact one u h
    · rename_i h
      intro b hb
      rcases List.mem_append.1 hb with k | k
      · exact ih (u / 10) (by omega) b k
      · simp only [List.mem_singleton] at k
        subst k
        exact one _ (by omega)
theorem lgW_right : rightW lgW = true := by decide
theorem seg_is {n : Int} (h1 : 1 ≤ n) (h2 : n ≤ 99999) : IsNum lgW (segN n) n ∧ segN n = lgW ++ 46 :: Lib.decDigits n.toNat := by
  have e : segN n = lgW ++ 46 :: Lib.decDigits n.toNat := nameL_yes lgW_right h1 h2
  exact ⟨⟨lgW_right, h1, h2, e.symm⟩, e⟩
theorem seg_num {n : Int} (h1 : 1 ≤ n) (h2 : n ≤ 99999) : numOf lgW (segN n) = n := numOf_is (seg_is h1 h2).1
theorem seg_ne {n m : Int} (h1 : 1 ≤ n) (h2 : n ≤ 99999) (k1 : 1 ≤ m) (k2 : m ≤ 99999) (h : n ≠ m) : segN n ≠ segN m := fun e => h (by rw [← seg_num h1 h2, e, seg_num k1 k2])
theorem seg_right {n : Int} (h1 : 1 ≤ n) (h2 : n ≤ 99999) : rightN (segN n) = true := by
  rw [(seg_is h1 h2).2]
  have hl := decDigits_len 5 n.toNat (by omega) (by decide)
  unfold rightN
  rw [decide_eq_true (by simp [lgW]), decide_eq_true (by simp [lgW]; omega), Bool.true_and, Bool.true_and, List.all_append, List.all_cons]
  have e1 : lgW.all okB = true := by decide
  have e2 : okB 46 = true := by decide
  rw [e1, e2, Bool.true_and, Bool.true_and, List.all_eq_true]
  exact dig_ok n.toNat

/- what a map of texts has -/
theorem getT_of {l : List (Tx × Tx)} {s t : Tx} (hnd : (l.map (·.1)).Nodup) (h : (s, t) ∈ l) : getT s l = t := by
  have hs : hasT s l = true := hasT_iff.2 (List.mem_map.2 ⟨_, h, rfl⟩)
  obtain ⟨j, hj⟩ := Option.isSome_iff_exists.1 hs
  obtain ⟨i, hi, e⟩ := List.mem_iff_getElem.1 h
  have h1 := fat_some hj
  unfold getT
  rw [hj]
  show (nth l j).2 = t
  have : i = j := by
    rw [List.nodup_iff_pairwise_ne, List.pairwise_iff_getElem] at hnd
    have e2 : (l[i]).1 = (nth l j).1 := by rw [e, h1.2]
    rw [nth_getElem h1.1] at e2
    rcases Nat.lt_trichotomy i j with k | k | k
    · exact absurd (by rw [List.getElem_map, List.getElem_map]; exact e2) (hnd i j (by simpa using hi) (by simpa using h1.1) k)
    · exact k
    · exact absurd (by rw [List.getElem_map, List.getElem_map]; exact e2.symm) (hnd j i (by simpa using h1.1) (by simpa using hi) k)
  subst this
  rw [nth_getElem h1.1, e]
theorem getT_no {l : List (Tx × Tx)} {s : Tx} (h : s ∉ l.map (·.1)) : getT s l = [] := by
  unfold getT
  rw [fat_none.2 h]
theorem set_mem {l : List (Tx × Tx)} {s t : Tx} {x : Tx × Tx} (hnd : (l.map (·.1)).Nodup) (hs : s ∈ l.map (·.1)) : x ∈ setT s t l ↔ (x = (s, t) ∨ (x ∈ l ∧ x.1 ≠ s)) := by
  have hh := hasT_iff.2 hs
  obtain ⟨i, hf⟩ := Option.isSome_iff_exists.1 hh
  have h1 := fat_some hf
  have h3 : ∀ j, j < l.length → ((nth l j).1 = s ↔ j = i) := fun j hj => by
    constructor
    · intro k
      rw [List.nodup_iff_pairwise_ne, List.pairwise_iff_getElem] at hnd
      have e2 : (l[j]).1 = (l[i]'h1.1).1 := by rw [← nth_getElem hj, ← nth_getElem h1.1, k, h1.2]
      rcases Nat.lt_trichotomy i j with q | q | q
      · exact absurd (by rw [List.getElem_map, List.getElem_map]; exact e2.symm) (hnd i j (by simpa using h1.1) (by simpa using hj) q)
      · exact q.symm
      · exact absurd (by rw [List.getElem_map, List.getElem_map]; exact e2) (hnd j i (by simpa using hj) (by simpa using h1.1) q)
    · rintro rfl; exact h1.2
  unfold setT
  rw [hf]
  show x ∈ l.set i (s, t) ↔ _
  constructor
  · intro hx
    obtain ⟨j, hj, e⟩ := List.mem_iff_getElem.1 hx
    rw [List.getElem_set] at e
    rw [List.length_set] at hj
    by_cases hij : i = j
    · rw [if_pos hij] at e
      exact .inl e.symm
    · rw [if_neg hij] at e
      refine .inr ⟨by rw [← e]; exact List.getElem_mem _, ?_⟩
      rw [← e, ← nth_getElem hj]
      exact fun k => hij ((h3 j hj).1 k).symm
  · rintro (rfl | ⟨hx, hne⟩)
    · exact List.mem_iff_getElem.2 ⟨i, by rw [List.length_set]; exact h1.1, by rw [List.getElem_set_self]⟩
    · obtain ⟨j, hj, e⟩ := List.mem_iff_getElem.1 hx
      have hij : i ≠ j := by
        rintro rfl
        apply hne
        rw [← e, ← nth_getElem hj]
        exact h1.2
      exact List.mem_iff_getElem.2 ⟨j, by rw [List.length_set]; exact hj, by rw [List.getElem_set_ne hij]; exact e⟩
theorem getT_set {l : List (Tx × Tx)} {s t : Tx} (hnd : (l.map (·.1)).Nodup) (hs : s ∈ l.map (·.1)) (u : Tx) : getT u (setT s t l) = if u = s then t else getT u l := by
  have hk := set_keys t hs
  by_cases hu : u = s
  · subst hu
    rw [if_pos rfl]
    exact getT_of (by rw [hk]; exact hnd) ((set_mem hnd hs).2 (.inl rfl))
  · rw [if_neg hu]
    by_cases hm : u ∈ l.map (·.1)
    · obtain ⟨x, hx, rfl⟩ := List.mem_map.1 hm
      rw [getT_of hnd (t := x.2) hx]
      exact getT_of (by rw [hk]; exact hnd) ((set_mem hnd hs).2 (.inr ⟨hx, hu⟩))
    · rw [getT_no hm, getT_no (by rw [hk]; exact hm)]
end Go.Proofs.YtkfhgpegnnokgaaGreatDoor
