/-
  The index: the library's Insert, Delete and Clone at entries.
-/
import Derived.Test.YtjgcgepfidcihaaGreatDoorIndexA
import Derived.Test.YtjgcgepfidcihaaGreatDoorCmG
namespace Go.Proofs.YtjgcgepfidcihaaGreatDoor
open Go Go.CM
set_option maxRecDepth 100000
set_option maxHeartbeats 4000000

theorem clone_prog (s : Nat) (b : Bool) (l : List Entry) (hl : l.length ≤ 100000) : CallsN Tryz.prog nslices_Clone_api_Entry [.slice s 0 l.length 14] [EL s b l] fun v Lo => (v = .nils ∧ l = [] ∧ Lo = []) ∨ ∃ o, v = .slice o 0 l.length 14 ∧ Lo = [EL o true l] := by
  refine sslices_Clone_api_Entry fun H hh => ?_
  have main : s ≠ 0 ∨ l ≠ [] → cslices_Clone_api_Entry.body.wp Tryz.prog (kEnd cslices_Clone_api_Entry.res (CEnds fun v L' => ∃ Lo, ((v = .nils ∧ l = [] ∧ Lo = []) ∨ ∃ o, v = .slice o 0 l.length 14 ∧ Lo = [EL o true l]) ∧ L' = Lo ++ [EL s b l])) (env0 [.slice s 0 l.length 14]) H := by
    intro hne
    dsimp only [cslices_Clone_api_Entry]
    refine walk1 (k := ?_)
    repeat' first | refine And.intro ?_ ?_ | intro
    all_goals refine leaf ?_
    refine wps_eq (b := false) ?_ ?_
    · show eqV .slice (.slice s 0 l.length 14) .nils = _
      have : (Nat.beq s 0 && Nat.beq l.length 0) = false := by
        rcases hne with h | h
        · rw [Bool.and_eq_false_iff]; exact .inl (Bool.eq_false_iff.2 fun e => h (Nat.eq_of_beq_eq_true e))
        · rw [Bool.and_eq_false_iff]; exact .inr (Bool.eq_false_iff.2 fun e => h (List.eq_nil_of_length_eq_zero (Nat.eq_of_beq_eq_true e)))
      simp only [eqV, this, cond_false]
    refine walk1 (k := ?_)
    repeat' first | refine And.intro ?_ ?_ | intro
    all_goals refine leaf ?_
    rename_i lid _ hh
    refine wps_approw hh l (l := []) (enc := Entry.enc) (m := 13) (L' := fun o3 => [EL o3 true ([] ++ l), EL s b l]) rfl rfl (.there .here) (fun _ => rfl) (fun o3 => .here1) (by simp; omega) fun o3 _ hh => ?_
    rw [List.nil_append] at hh ⊢
    refine walk1 (k := ?_)
    repeat' first | refine And.intro ?_ ?_ | intro
    all_goals refine leaf ?_
    exact doneN (.inr ⟨o3, rfl, rfl⟩)
  by_cases h0 : s = 0 ∧ l = []
  · obtain ⟨rfl, rfl⟩ := h0
    refine c_nilx 0 rfl ?_ ?_
    · dsimp only [cslices_Clone_api_Entry]
      refine walk (k := ?_)
      repeat' first | refine And.intro ?_ ?_ | intro
      all_goals refine leaf ?_
      exact doneN (.inl ⟨rfl, rfl, rfl⟩)
    · dsimp only [cslices_Clone_api_Entry]
      refine walk (k := ?_)
      repeat' first | refine And.intro ?_ ?_ | intro
      all_goals refine leaf ?_
      rename_i lid _ hh
      refine wps_app hh (cs := []) (vs := []) (m := 0) (len := 0) (L' := fun o3 => [(o3, .cells true ([] ++ [])), EL 0 b []]) rfl (fun o3 => .here1) rfl rfl (by omega) fun o3 _ hh => ?_
      refine walk1 (k := ?_)
      repeat' first | refine And.intro ?_ ?_ | intro
      all_goals refine leaf ?_
      exact doneN (.inr ⟨o3, rfl, rfl⟩)
  · refine main ?_
    by_cases hs : s = 0
    · exact .inr fun h => h0 ⟨hs, h⟩
    · exact .inl hs
theorem insert_prog (s t i tt : Nat) (l : List Entry) (x : Entry) (hi : i ≤ l.length) (hl : l.length ≤ 100000) : CallsL Tryz.prog nslices_Insert_api_Entry [.slice s 0 l.length 14, .int .i64 i, .ty tt 0 t (.slice t 0 1 14)] [EL s true l, (t, .cells true x.enc)] fun v L' => ∃ s', v = .slice s' 0 (l.length + 1) 14 ∧ L' = [EL s' true (l.take i ++ x :: l.drop i)] := by
  refine sslices_Insert_api_Entry fun H hh => ?_
  by_cases hin : i = l.length
  · subst hin
    refine C.wk (put_wk (s := 2) rfl (Wk.ty _ _ _ _)) (HWk.refl H) ?_
    dsimp only [cslices_Insert_api_Entry]
    refine walk (k := ?_)
    repeat' first | refine And.intro ?_ ?_ | intro
    all_goals refine leaf ?_
    · refine wps_app hh (esz := 13) (cs := l.flatMap Entry.enc) (vs := x.enc) (m := 1) (len := l.length) (L' := fun o => [(o, .cells true (l.flatMap Entry.enc ++ x.enc)), (t, .cells true x.enc)]) rfl (fun _ => .here1) (src_slice hh (.there .here) (getCells_all rfl)) (el_len l) (by omega) fun o H' hh => ?_
      refine walk1 (k := ?_)
      repeat' first | refine And.intro ?_ ?_ | intro
      all_goals refine leaf ?_
      rw [show l.flatMap Entry.enc ++ x.enc = (l.take l.length ++ x :: l.drop l.length).flatMap Entry.enc by rw [List.take_length, List.drop_length, List.flatMap_append]; simp] at hh
      exact done ⟨o, rfl, rfl⟩
    · rename_i h
      exact absurd rfl h
  · have hil : i < l.length := by omega
    have hcs : l.flatMap Entry.enc ≠ [] := fun h => by have := congrArg List.length h; rw [el_len] at this; simp only [List.length_nil] at this; omega
    have hx14 : x.enc.length = 14 := rfl
    refine c_capx 0 rfl fun cap hcap => ?_
    dsimp only [cslices_Insert_api_Entry]
    refine walk1 (k := ?_)
    repeat' first | refine And.intro ?_ ?_ | intro
    all_goals refine leaf ?_
    refine wps_cc10 rfl rfl (by omega) ?_
    refine walk1 (k := ?_)
    repeat' first | refine And.intro ?_ ?_ | intro
    all_goals refine leaf ?_
    refine c_cond_f (by show V.bool _ = _; simp; omega) ?_
    refine walk1 (k := ?_)
    repeat' first | refine And.intro ?_ ?_ | intro
    all_goals refine leaf ?_
    by_cases hroom : cap < l.length + 1
    · refine c_cond_t (by show V.bool _ = _; simp; omega) ?_
      refine C.wk (put_wk (s := 2) rfl (Wk.ty _ _ _ _)) (HWk.refl H) ?_
      refine walk1 (k := ?_)
      repeat' first | refine And.intro ?_ ?_ | intro
      all_goals refine leaf ?_
      refine wps_cc01 rfl rfl (by omega) ?_
      refine walk1 (k := ?_)
      repeat' first | refine And.intro ?_ ?_ | intro
      all_goals refine leaf ?_
      refine wps_appz hh (kx := .i64) (m := l.length + 1 - i) (id := s) (off := 0) (len := i) (cap := cap) (cs := l.flatMap Entry.enc) ?_ ?_ .here (by rw [el_len]; omega) hcs (by omega) (by omega) fun s2 H' hh => ?_
      · show V.int _ _ = _; congr 1; omega
      · show V.sliceC _ _ _ _ _ = _; congr 1
      rw [show i + (l.length + 1 - i) = l.length + 1 by omega]
      have eA : ((l.flatMap Entry.enc).drop 0).take (i * 14) = (l.take i).flatMap Entry.enc := by rw [List.drop_zero]; exact rows_take (sz := 14) (fun _ => rfl) l i
      have eB : (l.flatMap Entry.enc).drop (i * 14) = (l.drop i).flatMap Entry.enc := rows_drop (sz := 14) (fun _ => rfl) l i
      have lA : ((l.take i).flatMap Entry.enc).length = i * 14 := by rw [el_len, List.length_take, Nat.min_eq_left hi]
      have lB : ((l.drop i).flatMap Entry.enc).length = (l.length - i) * 14 := by rw [el_len, List.length_drop]
      rw [show l.length + 1 - i = (l.length - i) + 1 by omega] at hh
      rw [eA] at hh
      refine walk1 (k := ?_)
      repeat' first | refine And.intro ?_ ?_ | intro
      all_goals refine leaf ?_
      refine wps_copy hh (id := s2) (off := 0 + i * 14) (len := l.length + 1 - i) (vs := x.enc) (m := 1) (cs' := (l.take i).flatMap Entry.enc ++ x.enc ++ rep Entry.zero.enc (l.length - i)) (L' := [(s2, .cells true ((l.take i).flatMap Entry.enc ++ x.enc ++ rep Entry.zero.enc (l.length - i))), EL s true l, (t, .cells true x.enc)]) ?_ (take_slice hh (b := true) (cs := x.enc) (.there (.there .here)) ?_) ?_ ?_ ?_ .here1 fun H' hh => ?_
      · rfl
      · rw [Nat.min_eq_left (by omega)]; exact getCells_all rfl
      · rw [List.length_append, lA]; omega
      · exact fun h => by have := congrArg List.length h; rw [List.length_append, lA, rep_length' (k := 14) rfl] at this; simp only [List.length_nil] at this; omega
      · rw [Nat.zero_add, splice_mid _ _ lA]
        congr 1
      refine walk1 (k := ?_)
      repeat' first | refine And.intro ?_ ?_ | intro
      all_goals refine leaf ?_
      refine wps_cc10 rfl rfl (by omega) ?_
      have e1 : ((i : Int) + ((1 : Nat) : Int)).toNat = i + 1 := by omega
      refine wps_copy hh (id := s2) (off := 0 + (i + 1) * 14) (len := l.length + 1 - (i + 1)) (vs := (l.drop i).flatMap Entry.enc) (m := l.length - i) (cs' := (l.take i ++ x :: l.drop i).flatMap Entry.enc) (L' := [EL s2 true (l.take i ++ x :: l.drop i), EL s true l, (t, .cells true x.enc)]) ?_ (take_sliceC hh (off := 0 + i * 14) (cap := cap - i) (b := true) (cs := l.flatMap Entry.enc) (.there .here) ?_) ?_ ?_ ?_ .here1 fun H' hh => ?_
      · show V.slice _ _ _ _ = _; rw [e1]
      · rw [Int.toNat_natCast, show min (l.length - i) (l.length + 1 - (i + 1)) = l.length - i by omega, Nat.zero_add]
        unfold getCells
        rw [Nat.ble_eq_true_of_le (by rw [el_len]; omega), cond_true, eB, List.take_of_length_le (by rw [lB]; exact Nat.le_refl _)]
      · rw [List.length_append, List.length_append, lA, hx14]; omega
      · exact fun h => by have := congrArg List.length h; rw [List.length_append, List.length_append, lA, hx14] at this; simp only [List.length_nil] at this; omega
      · rw [Nat.zero_add, splice_mid _ _ (show ((l.take i).flatMap Entry.enc ++ x.enc).length = (i + 1) * 14 by rw [List.length_append, lA, hx14]; omega), show (rep Entry.zero.enc (l.length - i)).drop ((l.drop i).flatMap Entry.enc).length = [] from List.drop_of_length_le (by rw [rep_length' (k := 14) rfl, lB]; exact Nat.le_refl _), List.append_nil, List.flatMap_append, List.flatMap_cons, List.append_assoc]
      refine walk1 (k := ?_)
      repeat' first | refine And.intro ?_ ?_ | intro
      all_goals refine leaf ?_
      exact done ⟨s2, rfl, rfl⟩
    · refine c_cond_f (by show V.bool _ = _; simp; omega) ?_
      refine walk1 (k := ?_)
      repeat' first | refine And.intro ?_ ?_ | intro
      all_goals refine leaf ?_
      refine wps_cc01 rfl rfl (by omega) ?_
      refine walk1 (k := ?_)
      repeat' first | refine And.intro ?_ ?_ | intro
      all_goals refine leaf ?_
      refine wps_cc10 rfl rfl (by omega) ?_
      have e1 : ((i : Int) + ((1 : Nat) : Int)).toNat = i + 1 := by omega
      have e2 : ((l.length : Int) + ((1 : Nat) : Int)).toNat = l.length + 1 := by omega
      have hs0 : s ≠ 0 := hh.ne0 (b := true) (cs := l.flatMap Entry.enc) (by simp) hcs
      have ht0 : t ≠ 0 := hh.ne0 (b := true) (cs := x.enc) (by simp) (by simp [Entry.enc])
      refine wps_ext rfl (overlaps_at hfslices_overlaps_api_Entry (by kernel_rfl) (by kernel_rfl) (by kernel_rfl) (by kernel_rfl) (by kernel_rfl) (sz := 14) (by kernel_rfl) rfl (Wk.sliceC _ _ _ _ _) (hh.getc (b := true) (cs := x.enc) (by simp) (by simp [Entry.enc])) (hh.getc (b := true) (cs := l.flatMap Entry.enc) (by simp) hcs) (fun e => hh.two rfl hs0 ht0 e.symm) (by omega) (by omega) hcs) ?_
      have eB : (l.flatMap Entry.enc).drop (i * 14) = (l.drop i).flatMap Entry.enc := rows_drop (sz := 14) (fun _ => rfl) l i
      have eA : (l.flatMap Entry.enc).take ((i + 1) * 14) = (l.take (i + 1)).flatMap Entry.enc := rows_take (sz := 14) (fun _ => rfl) l (i + 1)
      have lA : ((l.take (i + 1)).flatMap Entry.enc).length = (i + 1) * 14 := by rw [el_len, List.length_take, Nat.min_eq_left hil]
      have lA0 : ((l.take i).flatMap Entry.enc).length = i * 14 := by rw [el_len, List.length_take, Nat.min_eq_left hi]
      have lB : ((l.drop i).flatMap Entry.enc).length = (l.length - i) * 14 := by rw [el_len, List.length_drop]
      have hlc := el_len l
      refine wps_rd rfl (wps_nil ?_)
      refine c_cond_t rfl ?_
      refine C.wk (put_wk (s := 2) rfl (Wk.ty _ _ _ _)) (HWk.refl H) ?_
      refine walk1 (k := ?_)
      repeat' first | refine And.intro ?_ ?_ | intro
      all_goals refine leaf ?_
      refine wps_cc10 rfl rfl (by omega) ?_
      refine walk1 (k := ?_)
      repeat' first | refine And.intro ?_ ?_ | intro
      all_goals refine leaf ?_
      refine wps_cc10 rfl rfl (by omega) ?_
      refine wps_copyC hh (id := s) (off := 0 + (i + 1) * 14) (len := l.length + 1 - (i + 1)) (cap := cap - (i + 1)) (vs := (l.drop i).flatMap Entry.enc) (m := l.length + 1 - i) (cs' := (l.take (i + 1)).flatMap Entry.enc ++ (l.drop i).flatMap Entry.enc) (L' := [(s, .cells true ((l.take (i + 1)).flatMap Entry.enc ++ (l.drop i).flatMap Entry.enc)), (t, .cells true x.enc)]) ?_ (take_sliceC hh (off := 0 + i * 14) (cap := cap - i) (b := true) (cs := l.flatMap Entry.enc) .here ?_) ?_ hcs ?_ .here1 fun H' hh => ?_
      · show V.sliceC _ _ _ _ _ = _; rw [e1, e2]
      · rw [Int.toNat_natCast, e2, show min (l.length + 1 - i) (l.length + 1 - (i + 1)) = l.length - i by omega, Nat.zero_add]
        unfold getCells
        rw [Nat.ble_eq_true_of_le (by rw [el_len]; omega), cond_true, eB, List.take_of_length_le (by rw [lB]; exact Nat.le_refl _)]
      · rw [hlc]; omega
      · rw [Nat.zero_add, splice, eA, lB, List.drop_of_length_le (l := l.flatMap Entry.enc) (by rw [hlc]; omega), List.append_nil]
      refine walk1 (k := ?_)
      repeat' first | refine And.intro ?_ ?_ | intro
      all_goals refine leaf ?_
      refine wps_cc10 rfl rfl (by omega) ?_
      refine walk1 (k := ?_)
      repeat' first | refine And.intro ?_ ?_ | intro
      all_goals refine leaf ?_
      refine wps_copyC hh (id := s) (off := 0 + i * 14) (len := l.length + 1 - i) (cap := cap - i) (vs := x.enc) (m := 1) (cs' := (l.take i ++ x :: l.drop i).flatMap Entry.enc) (L' := [EL s true (l.take i ++ x :: l.drop i), (t, .cells true x.enc)]) ?_ (take_slice hh (b := true) (cs := x.enc) (.there .here) ?_) ?_ ?_ ?_ .here1 fun H' hh => ?_
      · show V.sliceC _ _ _ _ _ = _; rw [e2]; rfl
      · rw [Nat.min_eq_left (by omega)]; exact getCells_all rfl
      · rw [List.length_append, lA]; omega
      · exact fun h => by have := congrArg List.length h; rw [List.length_append, lA] at this; simp only [List.length_nil] at this; omega
      · rw [Nat.zero_add, splice, hx14, show i * 14 + 14 = (i + 1) * 14 by omega, List.drop_left' lA, List.take_append_of_le_length (by rw [lA]; omega), List.flatMap_append, List.flatMap_cons]
        rw [show ((l.take (i + 1)).flatMap Entry.enc).take (i * 14) = (l.take i).flatMap Entry.enc by rw [rows_take (sz := 14) (fun _ => rfl), List.take_take, Nat.min_eq_left (by omega)]]
        rw [List.append_assoc]
      refine walk1 (k := ?_)
      repeat' first | refine And.intro ?_ ?_ | intro
      all_goals refine leaf ?_
      refine CEnds.wk (Wk.sliceC _ _ _ _ _) ?_
      exact done ⟨s, by rw [e2], rfl⟩
theorem edelete_prog (s i : Nat) (l : List Entry) (hi : i < l.length) (hl : l.length ≤ 100000) : CallsL Tryz.prog nslices_Delete_api_Entry [.slice s 0 l.length 14, .int .i64 i, .int .i64 ((i : Int) + 1)] [EL s true l] fun v L' => v = .slice s 0 (l.length - 1) 14 ∧ L' = [EL s true (l.take i ++ l.drop (i + 1))] := by
  refine sslices_Delete_api_Entry fun H hh => ?_
  have hlc := el_len l
  have hcs : l.flatMap Entry.enc ≠ [] := fun h => by have := congrArg List.length h; rw [el_len] at this; simp only [List.length_nil] at this; omega
  refine c_capx 0 rfl fun cap hcap => ?_
  dsimp only [cslices_Delete_api_Entry]
  refine walk1 (k := ?_)
  repeat' first | refine And.intro ?_ ?_ | intro
  all_goals refine leaf ?_
  refine wps_c3C rfl rfl rfl rfl (by omega) ?_
  refine walk1 (k := ?_)
  repeat' first | refine And.intro ?_ ?_ | intro
  all_goals refine leaf ?_
  refine c_cond_f (by show V.bool _ = _; simp; omega) ?_
  refine walk1 (k := ?_)
  repeat' first | refine And.intro ?_ ?_ | intro
  all_goals refine leaf ?_
  refine wps_cc01 rfl rfl (by omega) ?_
  refine walk1 (k := ?_)
  repeat' first | refine And.intro ?_ ?_ | intro
  all_goals refine leaf ?_
  refine wps_cc10 rfl rfl (by omega) ?_
  have e1 : ((i : Int) + 1).toNat = i + 1 := by omega
  have eA : (l.flatMap Entry.enc).take (i * 14) = (l.take i).flatMap Entry.enc := rows_take (sz := 14) (fun _ => rfl) l i
  have eB : (l.flatMap Entry.enc).drop ((i + 1) * 14) = (l.drop (i + 1)).flatMap Entry.enc := rows_drop (sz := 14) (fun _ => rfl) l (i + 1)
  have eD : (l.flatMap Entry.enc).drop ((l.length - 1) * 14) = (l.drop (l.length - 1)).flatMap Entry.enc := rows_drop (sz := 14) (fun _ => rfl) l (l.length - 1)
  have lA : ((l.take i).flatMap Entry.enc).length = i * 14 := by rw [el_len, List.length_take, Nat.min_eq_left (by omega)]
  have lB : ((l.drop (i + 1)).flatMap Entry.enc).length = (l.length - (i + 1)) * 14 := by rw [el_len, List.length_drop]
  have lD : ((l.drop (l.length - 1)).flatMap Entry.enc).length = 14 := by rw [el_len, List.length_drop]; omega
  have hsplit : (l.take i ++ l.drop (i + 1)).flatMap Entry.enc = (l.take i).flatMap Entry.enc ++ (l.drop (i + 1)).flatMap Entry.enc := List.flatMap_append
  have lS : ((l.take i ++ l.drop (i + 1)).flatMap Entry.enc).length = (l.length - 1) * 14 := by rw [hsplit, List.length_append, lA, lB]; omega
  refine wps_appI hh (id := s) (off := 0) (len := i) (cap := cap) (m := l.length - (i + 1)) (vs := (l.drop (i + 1)).flatMap Entry.enc) (cs' := (l.take i ++ l.drop (i + 1)).flatMap Entry.enc ++ (l.drop (l.length - 1)).flatMap Entry.enc) (L' := [(s, .cells true ((l.take i ++ l.drop (i + 1)).flatMap Entry.enc ++ (l.drop (l.length - 1)).flatMap Entry.enc))]) ?_ ?_ (by rw [hlc]; omega) hcs (by omega) ?_ .here1 fun H' hh => ?_
  · show V.sliceC _ _ _ _ _ = _; rfl
  · show srcCells H 14 (.sliceC s (0 + ((i : Int) + 1).toNat * 14) (l.length - ((i : Int) + 1).toNat) (cap - ((i : Int) + 1).toNat) 14) = _
    rw [e1]
    refine src_sliceC hh (b := true) (cs := l.flatMap Entry.enc) .here ?_
    rw [Nat.zero_add]
    unfold getCells
    rw [Nat.ble_eq_true_of_le (by rw [hlc]; omega), cond_true, eB, List.take_of_length_le (by rw [lB]; exact Nat.le_refl _)]
  · rw [Nat.zero_add, splice, eA, lB, show i * 14 + (l.length - (i + 1)) * 14 = (l.length - 1) * 14 by omega, eD, hsplit]
  rw [show i + (l.length - (i + 1)) = l.length - 1 by omega]
  refine walk1 (k := ?_)
  repeat' first | refine And.intro ?_ ?_ | intro
  all_goals refine leaf ?_
  refine wps_cc11 rfl rfl rfl (by omega) ?_
  refine wps_clrC hh (id := s) (off := 0 + (l.length - 1) * 14) (len := 1) (cap := cap - (l.length - 1)) (cs' := (l.take i ++ l.drop (i + 1)).flatMap Entry.enc ++ rep Entry.zero.enc 1) (L' := [(s, .cells true ((l.take i ++ l.drop (i + 1)).flatMap Entry.enc ++ rep Entry.zero.enc 1))]) ?_ ?_ ?_ ?_ .here1 fun H' hh => ?_
  · show V.sliceC _ _ _ _ _ = _
    rw [show ((l.length : Int)).toNat = l.length from Int.toNat_natCast _, show (((l.length - 1 : Nat) : Int)).toNat = l.length - 1 from Int.toNat_natCast _, show l.length - (l.length - 1) = 1 by omega]
  · rw [List.length_append, lS, lD]; omega
  · exact fun h => by have := congrArg List.length h; rw [List.length_append, lS, lD] at this; simp only [List.length_nil] at this; omega
  · rw [Nat.zero_add]
    show splice _ _ (rep Entry.zero.enc 1) = _
    rw [splice_mid _ _ lS, show ((l.drop (l.length - 1)).flatMap Entry.enc).drop (rep Entry.zero.enc 1).length = [] from List.drop_of_length_le (by rw [lD]; exact Nat.le_of_ble_eq_true rfl), List.append_nil]
  refine walk1 (k := ?_)
  repeat' first | refine And.intro ?_ ?_ | intro
  all_goals refine leaf ?_
  refine CEnds.wk (Wk.sliceC _ _ _ _ _) ?_
  refine CEnds.cut hh .here1 ?_ fun H' hh => done ⟨rfl, rfl⟩
  exact fun h => by have := congrArg List.length h; rw [List.length_append, lS, rep_length' (k := 14) rfl] at this; simp only [List.length_nil] at this; omega
end Go.Proofs.YtjgcgepfidcihaaGreatDoor
