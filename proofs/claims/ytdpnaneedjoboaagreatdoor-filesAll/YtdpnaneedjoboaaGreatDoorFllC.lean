/-
  The law of files, in plain words: what is cleared, and what is left.
-/
import Derived.Test.YtdpnaneedjoboaaGreatDoorFllB
namespace Go.Proofs.YtdpnaneedjoboaaGreatDoor
open Go Go.CM
set_option maxRecDepth 100000
set_option maxHeartbeats 4000000

def goes (A : List Int) (below n : Int) : Prop := n ∈ A ∧ n < below
instance (A : List Int) (below n : Int) : Decidable (goes A below n) := by unfold goes; infer_instance
theorem drop_len {n : Tx} {l : List (Tx × Tx)} (h : hasT n l = true) : (dropT n l).length + 1 = l.length := by
  unfold hasT at h
  obtain ⟨i, hi⟩ := Option.isSome_iff_exists.1 h
  have hl := (fat_some hi).1
  unfold dropT
  rw [hi]
  show (l.eraseIdx i).length + 1 = _
  rw [List.length_eraseIdx_of_lt hl]; omega
theorem clear_spec (w : Tx) (below : Int) : ∀ (A : List Int) (D : Dsk), D.fuse = -1 → D.down = false → (D.sure.map (·.1)).Nodup → A.Nodup → (∀ n ∈ A, 0 < n ∧ ∃ s ∈ D.sure.map (·.1), numOf w s = n) →
    goneF w below A D = (A.filter fun n => decide (n < below)).length ∧ (clearF w below A D).sure = D.sure.filter (fun x => decide (¬ goes A below (numOf w x.1))) ∧ (clearF w below A D).sure.length + goneF w below A D = D.sure.length
  | [], D, _, _, _, _, _ => by
    refine ⟨rfl, ?_, rfl⟩
    show D.sure = _
    rw [List.filter_eq_self.2]
    intro x _
    exact decide_eq_true fun k => by cases k.1
  | n :: A, D, hf, hd, hnd, hA, hm => by
    obtain ⟨hp, s, hs, hsn⟩ := hm n (List.mem_cons_self ..)
    rw [List.nodup_cons] at hA
    have hnm : nameL w n = s := by rw [← hsn]; exact num_name (by omega)
    by_cases hb : n < below
    · have ht : hasT s D.sure = true := hasT_iff.2 hs
      have hr : readyE D s = 0 := readyE_0.2 ⟨by rw [hf, hd]; rfl, ht⟩
      have hrem : remR D s = ⟨dropT s D.sure, butW s D.waits, D.room, -1, false⟩ := by
        unfold remR
        rw [if_pos hr]
        unfold remD Dsk.dead
        rw [hf, hd]; rfl
      have hbut : dropT s D.sure = D.sure.filter fun x => decide (x.1 ≠ s) := nodup_but hnd
      have ih := clear_spec w below A (remR D s) (by rw [hrem]) (by rw [hrem]) (by rw [hrem]; exact ((dropT_sub s D.sure).map _).nodup hnd) hA.2 (fun k hk => by
        obtain ⟨h1, t, h2, h3⟩ := hm k (List.mem_cons_of_mem _ hk)
        refine ⟨h1, t, ?_, h3⟩
        obtain ⟨x, hx, rfl⟩ := List.mem_map.1 h2
        rw [hrem]
        show x.1 ∈ (dropT s D.sure).map (·.1)
        rw [hbut]
        exact List.mem_map.2 ⟨x, List.mem_filter.2 ⟨hx, decide_eq_true fun e => hA.1 (by rw [← hsn, ← e, h3]; exact hk)⟩, rfl⟩)
      have e1 : goneF w below (n :: A) D = 1 + goneF w below A (remR D s) := by
        show (if n < below ∧ readyE D (nameL w n) = 0 then 1 else 0) + goneF w below A (if n < below then remR D (nameL w n) else D) = _
        rw [hnm, if_pos ⟨hb, hr⟩, if_pos hb]
      have e2 : clearF w below (n :: A) D = clearF w below A (remR D s) := by
        show clearF w below A (if n < below then remR D (nameL w n) else D) = _
        rw [hnm, if_pos hb]
      rw [e1, e2]
      have hlen : (remR D s).sure.length + 1 = D.sure.length := by rw [hrem]; exact drop_len ht
      refine ⟨?_, ?_, by have := ih.2.2; omega⟩
      · rw [ih.1, List.filter_cons_of_pos (by simpa using hb), List.length_cons, Nat.add_comm]
      · rw [ih.2.1, hrem]
        show List.filter _ (dropT s D.sure) = _
        rw [hbut, List.filter_filter]
        refine List.filter_congr fun x _ => ?_
        rw [← Bool.decide_and, decide_eq_decide]
        unfold goes
        constructor
        · rintro ⟨h1, h2⟩ ⟨h3, h4⟩
          rcases List.mem_cons.1 h3 with h5 | h5
          · exact h2 (num_inj (by omega) (h5.trans hsn.symm))
          · exact h1 ⟨h5, h4⟩
        · intro h1
          refine ⟨fun h2 => h1 ⟨List.mem_cons_of_mem _ h2.1, h2.2⟩, fun h2 => h1 ⟨?_, ?_⟩⟩
          · rw [h2, hsn]; exact List.mem_cons_self ..
          · rw [h2, hsn]; exact hb
    · have ih := clear_spec w below A D hf hd hnd hA.2 fun k hk => hm k (List.mem_cons_of_mem _ hk)
      have e1 : goneF w below (n :: A) D = goneF w below A D := by
        show (if n < below ∧ readyE D (nameL w n) = 0 then 1 else 0) + goneF w below A (if n < below then remR D (nameL w n) else D) = _
        rw [if_neg (fun k => hb k.1), if_neg hb, Nat.zero_add]
      have e2 : clearF w below (n :: A) D = clearF w below A D := by
        show clearF w below A (if n < below then remR D (nameL w n) else D) = _
        rw [if_neg hb]
      rw [e1, e2]
      refine ⟨?_, ?_, ih.2.2⟩
      · rw [ih.1, List.filter_cons_of_neg (by simpa using hb)]
      · rw [ih.2.1]
        refine List.filter_congr fun x _ => ?_
        rw [decide_eq_decide]
        unfold goes
        constructor
        · rintro h1 ⟨h3, h4⟩
          rcases List.mem_cons.1 h3 with h5 | h5
          · omega
          · exact h1 ⟨h5, h4⟩
        · exact fun h1 h2 => h1 ⟨List.mem_cons_of_mem _ h2.1, h2.2⟩
theorem srtN_filter (l : List Int) (p : Int → Bool) : srtN (l.filter p) = (srtN l).filter p := by
  refine List.Perm.eq_of_pairwise (le := (· ≤ ·)) (fun x y _ _ h1 h2 => by omega) (srtN_pw _) ((srtN_pw l).filter _) ?_
  exact (srtN_perm _).trans ((srtN_perm l).filter p).symm
theorem nums_filter (w : Tx) (p : Int → Bool) (q : Tx → Bool) : ∀ l : List Tx, (∀ s ∈ l, 0 < numOf w s → q s = p (numOf w s)) → numsL w (l.filter q) = (numsL w l).filter p
  | [], _ => rfl
  | x :: l, h => by
    have ih := nums_filter w p q l fun s hs => h s (List.mem_cons_of_mem _ hs)
    have e : numsL w (x :: l) = numsL w [x] ++ numsL w l := nums_app w [x] l
    rw [e, List.filter_append, ← ih, nums_one]
    by_cases hp : 0 < numOf w x
    · have hx := h x (List.mem_cons_self ..) hp
      rw [if_pos hp]
      cases hq : q x with
      | true =>
        rw [hq] at hx
        have e2 : numsL w (x :: l.filter q) = numsL w [x] ++ numsL w (l.filter q) := nums_app w [x] _
        rw [List.filter_cons_of_pos hq, e2, nums_one, if_pos hp, List.filter_cons_of_pos hx.symm]; rfl
      | false =>
        rw [hq] at hx
        rw [List.filter_cons_of_neg (by simp [hq]), List.filter_cons_of_neg (by simp [← hx])]; rfl
    · rw [if_neg hp]
      cases hq : q x with
      | true =>
        have e2 : numsL w (x :: l.filter q) = numsL w [x] ++ numsL w (l.filter q) := nums_app w [x] _
        rw [List.filter_cons_of_pos hq, e2, nums_one, if_neg hp]; rfl
      | false => rw [List.filter_cons_of_neg (by simp [hq])]; rfl
theorem rest_spec (w : Tx) (below : Int) (D : Dsk) (hf : D.fuse = -1) (hd : D.down = false) (hnd : (D.sure.map (·.1)).Nodup) :
    goneF w below (allL w D.sure) D = ((allL w D.sure).filter fun n => decide (n < below)).length ∧ allL w (clearF w below (allL w D.sure) D).sure = (allL w D.sure).filter (fun n => decide (below ≤ n)) ∧ (clearF w below (allL w D.sure) D).sure.length + goneF w below (allL w D.sure) D = D.sure.length := by
  have h := clear_spec w below (allL w D.sure) D hf hd hnd ((all_lt hnd).imp fun h => by omega) fun n hn => by
    obtain ⟨s, hs, h1, h2⟩ := all_mem.1 hn
    exact ⟨by omega, s, hs, h2⟩
  refine ⟨h.1, ?_, h.2.2⟩
  rw [h.2.1]
  have e1 : ((D.sure.filter fun x => decide (¬ goes (allL w D.sure) below (numOf w x.1))).map (·.1)) = (D.sure.map (·.1)).filter fun s => decide (¬ goes (allL w D.sure) below (numOf w s)) := by rw [List.filter_map]; rfl
  have e2 := nums_filter w (fun n => decide (below ≤ n)) (fun s => decide (¬ goes (allL w D.sure) below (numOf w s))) (D.sure.map (·.1)) fun s hs hp => by
    rw [decide_eq_decide]
    unfold goes
    constructor
    · intro h1
      refine Classical.byContradiction fun h2 => h1 ⟨all_mem.2 ⟨s, hs, hp, rfl⟩, by omega⟩
    · rintro h1 ⟨_, h2⟩
      omega
  show srtN (numsL w ((D.sure.filter _).map (·.1))) = _
  rw [e1, e2, srtN_filter]; rfl
theorem filt_sum (l : List Int) (below : Int) : (l.filter fun n => decide (below ≤ n)).length + (l.filter fun n => decide (n < below)).length = l.length := by
  induction l with
  | nil => rfl
  | cons a l ih =>
    by_cases h : below ≤ a
    · rw [List.filter_cons_of_pos (by simpa using h), List.filter_cons_of_neg (by simpa using h), List.length_cons, List.length_cons]; omega
    · rw [List.filter_cons_of_neg (by simpa using h), List.filter_cons_of_pos (by simp; omega), List.length_cons, List.length_cons]; omega
def hsE (p : Int × Nat) : V × V := (.int .i64 p.1, .int .i64 (p.2 : Nat))
abbrev kI : KT := (false, [.i])
theorem find_in (n : Int) : ∀ l : List (Int × Nat), findI kI (.int .i64 n) (l.map hsE) = some (l.findIdx? fun x => n == x.1)
  | [] => rfl
  | x :: l => by
    have ih := find_in n l
    simp only [List.map_cons, findI, List.findIdx?_cons]
    have e : eqKey kI (.int .i64 n) (hsE x).1 = some (n == x.1) := by rw [← Bool.and_true (n == _)]; rfl
    rw [e]
    cases h : n == x.1 with
    | true => rfl
    | false =>
      rw [ih]
      cases l.findIdx? fun x => n == x.1 <;> rfl
theorem find_in_none {n : Int} {l : List (Int × Nat)} (h : n ∉ l.map (·.1)) : findI kI (.int .i64 n) (l.map hsE) = some none := by
  rw [find_in, List.findIdx?_eq_none_iff.2]
  intro x hx
  cases hb : n == x.1 with
  | false => rfl
  | true => exact absurd (List.mem_map.2 ⟨x, hx, ((by simpa using hb : n = x.1)).symm⟩) h
theorem find_in_some {n : Int} {l : List (Int × Nat)} (h : n ∈ l.map (·.1)) : ∃ j, findI kI (.int .i64 n) (l.map hsE) = some (some j) ∧ j < l.length ∧ (nth l j).1 = n := by
  rw [find_in]
  cases hf : l.findIdx? fun x => n == x.1 with
  | none =>
    rw [List.findIdx?_eq_none_iff] at hf
    obtain ⟨x, hx, e⟩ := List.mem_map.1 h
    have := hf x hx
    rw [e] at this; simp at this
  | some j =>
    obtain ⟨hj, hp, _⟩ := List.findIdx?_eq_some_iff_getElem.1 hf
    exact ⟨j, rfl, hj, by rw [nth_getElem hj]; exact (by simpa using hp : n = _).symm⟩
theorem has_val {w : Tx} {K : List (Tx × Nat)} (hnd : (K.map (·.1)).Nodup) {n : Int} (h : n ∈ allL w (dskK K).sure) : ∃ j, findI kI (.int .i64 n) ((hasK w K).map hsE) = some (some j) ∧ j < (hasK w K).length ∧ (nth (hasK w K) j).2 = (fileT (dskK K) (nameL w n)).length := by
  obtain ⟨s, hs, hp, rfl⟩ := all_mem.1 h
  rw [dskK_keys] at hs
  obtain ⟨x, hx, rfl⟩ := List.mem_map.1 hs
  have hm : numOf w x.1 ∈ (hasK w K).map (·.1) := List.mem_map.2 ⟨_, hasK_mem.2 ⟨x, hx, hp, rfl⟩, rfl⟩
  obtain ⟨j, h1, h2, h3⟩ := find_in_some hm
  refine ⟨j, h1, h2, ?_⟩
  obtain ⟨y, hy, hyp, he⟩ := hasK_mem.1 (nth_mem h2)
  rw [he] at h3 ⊢
  have h3 : numOf w y.1 = numOf w x.1 := h3
  rw [num_name hp, ← num_inj hyp h3]
  exact (file_K hnd hy).symm
theorem has_len (w : Tx) (K : List (Tx × Nat)) : (hasK w K).length = (allL w (dskK K).sure).length := by
  unfold allL
  rw [(srtN_perm _).length_eq, dskK_keys, ← hasK_keys, List.length_map]
theorem zero_row (i : Nat) : rep [.int .u8 0] i = (zeroT i).flatMap byteC := by
  induction i with
  | zero => rfl
  | succ i ih =>
    show [V.int .u8 0] ++ rep [.int .u8 0] i = _
    rw [ih]; rfl
end Go.Proofs.YtdpnaneedjoboaaGreatDoor
