/-
  diff: the order of names, their sort.
-/
import Derived.Test.YtebhddpildfgcaaRecA
import Derived.Test.YtebhddpildfgcaaSort
import Derived.Test.YtebhddpildfgcaaCmH
import Derived.Test.YtebhddpildfgcaaCmG
namespace Go.Proofs.Ytebhddpildfgcaa
open Go Go.CM
set_option maxRecDepth 100000
set_option maxHeartbeats 4000000

theorem nm_inj : ∀ x y : Nm, nmC x = nmC y → x = y := by
  rintro ⟨a, b⟩ ⟨a', b'⟩ h
  simp only [nmC, List.cons.injEq, V.int.injEq, V.str.injEq, true_and, and_true] at h
  obtain ⟨rfl, rfl⟩ := h
  rfl
abbrev NL (s : Nat) (b : Bool) (l : List Nm) : Ob := (s, .cells b (l.flatMap nmC))
theorem nl_len (l : List Nm) : (l.flatMap nmC).length = l.length * 2 := rows_length (sz := 2) (fun _ => rfl) l
theorem dorder_prog (a b : Nm) : CallsR Try.prog ndiff_order [.agg (nmC a), .agg (nmC b)] [] fun v => v = .int .i64 (ordN a b) := by
  refine sdiff_order fun H hh => ?_
  dsimp only [cdiff_order]
  refine walk (k := ?_)
  repeat' first | refine And.intro ?_ ?_ | intro
  all_goals refine leaf ?_
  refine callE (cmpI_prog a.1 b.1) ?_
  refine walk (k := ?_)
  repeat' first | refine And.intro ?_ ?_ | intro
  all_goals refine leaf ?_
  refine callE (cmpS_prog a.2 b.2) ?_
  refine walk (k := ?_)
  repeat' first | refine And.intro ?_ ?_ | intro
  all_goals refine leaf ?_
  rename_i t _ _
  refine callE (or_prog t true [cmpI a.1 b.1, cmpS a.2 b.2] (Nat.le_of_ble_eq_true rfl)) ?_
  refine walk (k := ?_)
  repeat' first | refine And.intro ?_ ?_ | intro
  all_goals refine leaf ?_
  exact doneR rfl
theorem ordN_cmp : Cmp ordN := ⟨fun x => by rw [ordN_neg, ahd_irrefl]; simp, fun x y z h1 h2 => by rw [ordN_neg] at *; exact ahd_trans h1 h2, fun x y z h1 h2 => by rw [ordN_neg, Bool.not_eq_true] at *; exact nahd_trans h1 h2⟩
theorem sortN_prog (s : Nat) (l : List Nm) (hn : l.length < 4611686018427387904) : CallsL Try.prog nslices_SortFunc_diff_name [.slice s 0 l.length 2, .func ndiff_order []] [NL s true l] fun v L' => ∃ l' : List Nm, l'.Perm l ∧ l'.Pairwise (fun x y => ahd y x = false) ∧ v = .tup [] ∧ L' = [NL s true l'] :=
  (sortL (k := 2) ⟨_, Try.func38, by kernel_rfl, by kernel_rfl⟩ (sortK_of Try.sortNm Try.isAgg54 Try.sizeOf54) (sortK0_of Try.sortNm) (by decide) nm_inj (fun _ => rfl) ordN_cmp (fun a b => dorder_prog a b) l hn).mono fun v L' ⟨l', h1, h2, h3, h4⟩ => ⟨l', h1, h2.imp fun {x y} h => Bool.eq_false_iff.2 fun k => h ((ordN_neg _ _).2 k), h3, h4⟩
/-- Names side by side once. -/
def cmpct : List Nm → List Nm
  | [] => []
  | [a] => [a]
  | a :: b :: l => if a = b then cmpct (b :: l) else a :: cmpct (b :: l)
theorem cmpct_snoc : ∀ (l : List Nm) (a b : Nm), cmpct (l ++ [a] ++ [b]) = if a = b then cmpct (l ++ [a]) else cmpct (l ++ [a]) ++ [b]
  | [], a, b => by
    show cmpct [a, b] = if a = b then cmpct [a] else cmpct [a] ++ [b]
    simp only [cmpct]
    split
    · rename_i h; rw [h]
    · rfl
  | [c], a, b => by
    show cmpct [c, a, b] = if a = b then cmpct [c, a] else cmpct [c, a] ++ [b]
    simp only [cmpct]
    repeat' split
    all_goals (first | rfl | (rename_i h1 h2; rw [h2]) | simp_all)
  | c :: d :: l, a, b => by
    have ih := cmpct_snoc (d :: l) a b
    simp only [List.cons_append] at ih ⊢
    rw [cmpct, cmpct, ih]
    repeat' split
    all_goals rfl
theorem cmpct_take {l : List Nm} {j : Nat} (h1 : 1 ≤ j) (hj : j < l.length) : cmpct (l.take (j + 1)) = if nth l (j - 1) = nth l j then cmpct (l.take j) else cmpct (l.take j) ++ [nth l j] := by
  obtain ⟨i, rfl⟩ : ∃ i, j = i + 1 := ⟨j - 1, by omega⟩
  rw [take_getD hj, take_getD (show i < l.length by omega), cmpct_snoc]
  rfl
theorem cmpct_one {l : List Nm} (h : l.length < 2) : cmpct l = l := by
  match l, h with
  | [], _ => rfl
  | [a], _ => rfl
def nmB (a b : Nm) : Bool := a.1 == b.1 && (a.2 == b.2 && true)
theorem nmB_eq (a b : Nm) : nmB a b = decide (a = b) := by
  rw [Bool.eq_iff_iff]
  simp only [nmB, Bool.and_eq_true, beq_iff_eq, and_true, decide_eq_true_eq]
  exact ⟨fun h => Prod.ext h.1 h.2, fun h => by rw [h]; exact ⟨rfl, rfl⟩⟩
theorem compact_prog (s : Nat) (l : List Nm) (hl : l.length ≤ 100000) : CallsL Try.prog nslices_Compact_diff_name [.slice s 0 l.length 2] [NL s true l] fun v L' => v = .slice s 0 (cmpct l).length 2 ∧ L' = [NL s true (cmpct l)] := by
  refine sslices_Compact_diff_name fun H hh => ?_
  dsimp only [cslices_Compact_diff_name]
  refine walk1 (k := ?_)
  repeat' first | refine And.intro ?_ ?_ | intro
  all_goals refine leaf ?_
  by_cases h2 : l.length < 2
  · refine c_cond_t (by show V.bool _ = _; simp; omega) ?_
    rw [cmpct_one h2]
    refine walk1 (k := ?_)
    repeat' first | refine And.intro ?_ ?_ | intro
    all_goals refine leaf ?_
    exact done ⟨rfl, rfl⟩
  · refine c_cond_f (by show V.bool _ = _; simp; omega) ?_
    refine walk1 (k := ?_)
    repeat' first | refine And.intro ?_ ?_ | intro
    all_goals refine leaf ?_
    refine loopM [0, 3] (fun m vs L => ∃ k, 1 ≤ k ∧ k ≤ l.length ∧ m = l.length - k ∧ cmpct (l.take k) = l.take k ∧ vs = [.slice s 0 l.length 2, .int .i64 (k : Nat)] ∧ L = [NL s true l])
      (Nx.intro (i := l.length - 1) trivial ⟨1, Nat.le_refl _, by omega, rfl, cmpct_one (by rw [List.length_take]; omega), rfl, rfl⟩) ?_
    clear hh
    rintro m _ _ e H ⟨k, hk1, hk, rfl, hc, rfl, rfl⟩ hh
    simp only [puts]
    by_cases hn : k < l.length
    · have hct := cmpct_take hk1 hn
      refine walk1 (k := ?_)
      repeat' first | refine And.intro ?_ ?_ | intro
      all_goals refine leaf ?_
      refine c_cond_t (by show V.bool _ = _; simp; omega) ?_
      refine walk1 (k := ?_)
      repeat' first | refine And.intro ?_ ?_ | intro
      all_goals refine leaf ?_
      have e1 : ((k : Int) - 1).toNat = k - 1 := by omega
      by_cases he : nth l k = nth l (k - 1)
      · refine c_cond_t (by show V.bool (nmB (nth l k) (nth l ((k : Int) - 1).toNat)) = _; rw [e1, nmB_eq, decide_eq_true he]) ?_
        refine walk1 (k := ?_)
        repeat' first | refine And.intro ?_ ?_ | intro
        all_goals refine leaf ?_
        rw [if_pos he.symm, hc] at hct
        rename_i hh
        refine loopM [0, 3, 4, 5] (fun m vs L => ∃ d c M, 1 ≤ d ∧ k + d ≤ l.length ∧ m = l.length - k - d ∧ c < k + d ∧ 1 ≤ c ∧ M.length = l.length ∧ M.take c = cmpct (l.take (k + d)) ∧ M.drop (k + d - 1) = l.drop (k + d - 1) ∧ vs = [.slice s 0 l.length 2, .int .i64 (c : Nat), .slice s (0 + (k : Int).toNat * 2) (l.length - (k : Int).toNat) 2, .int .i64 (d : Nat)] ∧ L = [NL s true M])
          (Nx.intro (i := l.length - k - 1) trivial ⟨1, k, l, Nat.le_refl _, by omega, rfl, by omega, hk1, rfl, hct.symm, rfl, rfl, rfl⟩) ?_
        clear hh
        rintro m _ _ e H ⟨d, c, M, hd1, hd, rfl, hcd, hc1, hMl, hM1, hM2, rfl, rfl⟩ hh
        simp only [puts]
        by_cases hn2 : k + d < l.length
        · have hct2 := cmpct_take (l := l) (j := k + d) (by omega) hn2
          have e2 : ((d : Int) - 1).toNat = d - 1 := by omega
          have g1 : nth M (k + d) = nth l (k + d) := by
            have := congrArg (fun x => nth x 1) hM2
            rw [drop_getD (l := M) (i := k + d - 1) (by omega), drop_getD (l := l) (i := k + d - 1) (by omega), nth_succ, nth_succ, show k + d - 1 + 1 = k + d by omega, drop_getD (l := M) (by omega), drop_getD (l := l) (by omega), nth_zero, nth_zero] at this
            exact this
          have g2 : nth M (k + d - 1) = nth l (k + d - 1) := by
            have := congrArg (fun x => nth x 0) hM2
            rw [drop_getD (l := M) (i := k + d - 1) (by omega), drop_getD (l := l) (i := k + d - 1) (by omega), nth_zero, nth_zero] at this
            exact this
          have hM3 : M.drop (k + (d + 1) - 1) = l.drop (k + (d + 1) - 1) := by
            have := congrArg (fun x => x.drop 1) hM2
            simp only [List.drop_drop] at this
            rwa [show k + d - 1 + 1 = k + (d + 1) - 1 by omega] at this
          refine walk1 (k := ?_)
          repeat' first | refine And.intro ?_ ?_ | intro
          all_goals refine leaf ?_
          refine c_cond_t (by show V.bool _ = _; simp; omega) ?_
          refine walk1 (k := ?_)
          repeat' first | refine And.intro ?_ ?_ | intro
          all_goals refine leaf ?_
          refine wps_slot (s := 37) (v := .ptr s ((k + d) * 2)) (by show V.ptr _ _ = _; congr 1; omega) ?_
          refine walk1 (k := ?_)
          repeat' first | refine And.intro ?_ ?_ | intro
          all_goals refine leaf ?_
          refine wps_slot (s := 42) (v := .ptr s ((k + d - 1) * 2)) (by show V.ptr _ _ = _; congr 1; omega) ?_
          refine walk1 (k := ?_)
          repeat' first | refine And.intro ?_ ?_ | intro
          all_goals refine leaf ?_
          by_cases he2 : nth M (k + d) = nth M (k + d - 1)
          · refine c_cond_f (by show V.bool (!nmB _ _) = _; rw [nmB_eq, decide_eq_true he2]; rfl) ?_
            refine walk1 (k := ?_)
            repeat' first | refine And.intro ?_ ?_ | intro
            all_goals refine leaf ?_
            rw [g1, g2] at he2
            rw [if_pos he2.symm] at hct2
            exact Nx.intro (i := l.length - k - (d + 1)) (by omega) ⟨d + 1, c, M, by omega, by omega, rfl, by omega, hc1, hMl, by rw [hM1]; exact hct2.symm, hM3, rfl, rfl⟩
          · refine c_cond_t (by show V.bool (!nmB _ _) = _; rw [nmB_eq, decide_eq_false he2]; rfl) ?_
            refine walk1 (k := ?_)
            repeat' first | refine And.intro ?_ ?_ | intro
            all_goals refine leaf ?_
            refine wps_slot (s := 49) (v := .ptr s ((k + d) * 2)) (by show V.ptr _ _ = _; congr 1; omega) ?_
            refine walk1 (k := ?_)
            repeat' first | refine And.intro ?_ ?_ | intro
            all_goals refine leaf ?_
            rw [g1, g2] at he2
            rw [if_neg (Ne.symm he2), ← hM1] at hct2
            rename_i hh
            refine Nx.intro (i := l.length - k - (d + 1)) (by omega) ⟨d + 1, c + 1, M.set c (nth M (k + d)), by omega, by omega, rfl, by omega, by omega, by rw [List.length_set, hMl], ?_, ?_, rfl, rfl⟩
            · rw [take_getD (by rw [List.length_set]; omega), nth_set _ (by omega), if_pos rfl, List.take_set_of_le (Nat.le_refl _), g1]
              exact hct2.symm
            · rw [List.drop_set_of_lt (by omega)]; exact hM3
        · skip
          refine walk1 (k := ?_)
          repeat' first | refine And.intro ?_ ?_ | intro
          all_goals refine leaf ?_
          refine c_cond_f (by show V.bool _ = _; simp; omega) ?_
          refine walk1 (k := ?_)
          repeat' first | refine And.intro ?_ ?_ | intro
          all_goals refine leaf ?_
          have hkd : k + d = l.length := by omega
          rw [hkd, List.take_length] at hM1
          have lC : ((cmpct l).flatMap nmC).length = c * 2 := by rw [← hM1, nl_len, List.length_take, Nat.min_eq_left (by omega)]
          have ec : (cmpct l).length = c := by rw [← hM1, List.length_take, Nat.min_eq_left (by omega)]
          refine wps_clr hh (cs' := (cmpct l).flatMap nmC ++ rep [.int .i64 0, .str []] (l.length - c)) (L' := [(s, .cells true ((cmpct l).flatMap nmC ++ rep [.int .i64 0, .str []] (l.length - c)))]) rfl ?_ ?_ ?_ .here1 ?_
          · rw [nl_len, hMl, Int.toNat_natCast]; omega
          · exact fun h => by have := congrArg List.length h; rw [nl_len, hMl] at this; simp only [List.length_nil] at this; omega
          · rw [Int.toNat_natCast, Nat.zero_add, splice, rows_take (sz := 2) (fun _ => rfl) M c, hM1, List.drop_of_length_le (l := M.flatMap nmC) (by rw [nl_len, hMl, rep_length' (k := 2) rfl]; omega), List.append_nil]
          intro H' hh
          refine walk1 (k := ?_)
          repeat' first | refine And.intro ?_ ?_ | intro
          all_goals refine leaf ?_
          rw [ec]
          refine CEnds.cut hh .here1 ?_ fun H' hh => done ⟨by rw [Int.toNat_natCast], rfl⟩
          exact fun h => by have := congrArg List.length h; rw [List.length_append, lC] at this; simp only [List.length_nil] at this; omega
      · refine c_cond_f (by show V.bool (nmB (nth l k) (nth l ((k : Int) - 1).toNat)) = _; rw [e1, nmB_eq, decide_eq_false he]) ?_
        refine walk1 (k := ?_)
        repeat' first | refine And.intro ?_ ?_ | intro
        all_goals refine leaf ?_
        rw [if_neg (Ne.symm he), hc, ← take_getD hn] at hct
        exact Nx.intro (i := l.length - (k + 1)) (by omega) ⟨k + 1, by omega, by omega, rfl, hct, rfl, rfl⟩
    · skip
      refine walk1 (k := ?_)
      repeat' first | refine And.intro ?_ ?_ | intro
      all_goals refine leaf ?_
      refine c_cond_f (by show V.bool _ = _; simp; omega) ?_
      refine walk1 (k := ?_)
      repeat' first | refine And.intro ?_ ?_ | intro
      all_goals refine leaf ?_
      have : k = l.length := by omega
      subst this
      rw [List.take_length] at hc
      rw [hc]
      exact done ⟨rfl, rfl⟩
theorem gone_prog (n : Nm) : CallsR Try.prog ndiff_gone [.agg (nmC n)] [] fun v => v = .agg (dropR n).enc := by
  refine sdiff_gone fun H hh => ?_
  dsimp only [cdiff_gone]
  refine walk (k := ?_)
  repeat' first | refine And.intro ?_ ?_ | intro
  all_goals refine leaf ?_
  exact doneR rfl
end Go.Proofs.Ytebhddpildfgcaa
