/-
  The document's Make: one that both have, or one alone, at a time.
-/
import Derived.Test.YtebhddpildfgcaaRecA
namespace Go.Proofs.Ytebhddpildfgcaa
open Go Go.CM
set_option maxRecDepth 100000
set_option maxHeartbeats 4000000

def putR (e : Entry) : Rec := ⟨1, e⟩
def mergeR : List Entry → List Entry → List Rec
  | [], [] => []
  | x :: xs, [] => dropR (enm x) :: mergeR xs []
  | [], y :: ys => putR y :: mergeR [] ys
  | x :: xs, y :: ys => if ahd (enm x) (enm y) then dropR (enm x) :: mergeR xs (y :: ys) else if ahd (enm y) (enm x) then putR y :: mergeR (x :: xs) ys else if x = y then mergeR xs ys else putR y :: mergeR xs ys
termination_by x y => x.length + y.length
decreasing_by all_goals (simp only [List.length_cons]; omega)
theorem mergeR_len : ∀ x y : List Entry, (mergeR x y).length ≤ x.length + y.length
  | [], [] => by rw [mergeR]; exact Nat.le_refl _
  | x :: xs, [] => by
    have := mergeR_len xs []
    rw [mergeR]; simp only [List.length_cons, List.length_nil] at *; omega
  | [], y :: ys => by
    have := mergeR_len [] ys
    rw [mergeR]; simp only [List.length_cons, List.length_nil] at *; omega
  | x :: xs, y :: ys => by
    have h1 := mergeR_len xs (y :: ys)
    have h2 := mergeR_len (x :: xs) ys
    have h3 := mergeR_len xs ys
    rw [mergeR]; simp only [List.length_cons] at *
    split
    · simp only [List.length_cons]; omega
    · split
      · simp only [List.length_cons]; omega
      · split
        · omega
        · simp only [List.length_cons]; omega
termination_by x y => x.length + y.length
decreasing_by all_goals (simp only [List.length_cons]; omega)
theorem sl_next (o i n : Nat) : V.slice o (i * 14 + Int.toNat 1 * 14) (n - i - Int.toNat 1) 14 = .slice o ((i + 1) * 14) (n - (i + 1)) 14 := by
  rw [show Int.toNat 1 = 1 from rfl]
  congr 1 <;> omega
theorem rmake_prog (s t : Nat) (b b' : Bool) (l r : List Entry) (hl : l.length ≤ 1000) (hr : r.length ≤ 1000) : CallsN Try.prog nref43_Make [.slice s 0 l.length 14, .slice t 0 r.length 14] [EL s b l, EL t b' r] fun v Lo => ∃ o, v = .slice o 0 (mergeR (srtL l) (srtL r)).length 15 ∧ Lo = [RL o true (mergeR (srtL l) (srtL r))] := by
  have hxl := srtL_le l
  have hyl := srtL_le r
  generalize hX : srtL l = X at hxl ⊢
  generalize hY : srtL r = Y at hyl ⊢
  refine sref43_Make fun H hh => ?_
  dsimp only [cref43_Make]
  refine walk (k := ?_)
  repeat' first | refine And.intro ?_ ?_ | intro
  all_goals refine leaf ?_
  refine callN (rsorted_prog s b l hl) ?_
  rintro v Lo H' ⟨o, rfl, rfl⟩ hh
  rw [hX] at hh ⊢
  refine walk1 (k := ?_)
  repeat' first | refine And.intro ?_ ?_ | intro
  all_goals refine leaf ?_
  refine callN (rsorted_prog t b' r hr) ?_
  rintro v Lo H' ⟨o2, rfl, rfl⟩ hh
  rw [hY] at hh ⊢
  refine walk1 (k := ?_)
  repeat' first | refine And.intro ?_ ?_ | intro
  all_goals refine leaf ?_
  rename_i hh
  refine loopM [5, 6, 7] (fun m vs L => ∃ i j w out, i ≤ X.length ∧ j ≤ Y.length ∧ m = (X.length - i) + (Y.length - j) ∧ out.length ≤ i + j ∧ out ++ mergeR (X.drop i) (Y.drop j) = mergeR X Y ∧ vs = [.slice o (i * 14) (X.length - i) 14, .slice o2 (j * 14) (Y.length - j) 14, .slice w 0 out.length 15] ∧ L = [RL w true out, EL o2 true Y, EL o true X, EL s b l, EL t b' r])
    (Nx.weak (i := X.length + Y.length) (vs := [.slice o (0 * 14) (X.length - 0) 14, .slice o2 (0 * 14) (Y.length - 0) 14, .slice 0 0 0 15]) trivial (.cons (Wk.refl _) (.cons (Wk.refl _) (.cons (Wk.nils 0 15) .nil))) ⟨0, 0, 0, [], Nat.zero_le _, Nat.zero_le _, rfl, Nat.le_refl _, rfl, rfl, rfl⟩ (hh.ghost true)) ?_
  clear hh
  rintro m _ _ e H ⟨i, j, w, out, hi, hj, rfl, ho, hm, rfl, rfl⟩ hh
  simp only [puts]
  by_cases hx : i < X.length
  · have hdx := drop_getD hx
    by_cases hy : j < Y.length
    · have hdy := drop_getD hy
      have hint : Hint Rec.enc (putR (nth Y j)) := trivial
      refine walk1 (k := ?_)
      repeat' first | refine And.intro ?_ ?_ | intro
      all_goals refine leaf ?_
      refine wps_slot (s := 15) (v := .bool true) (by show V.bool _ = _; simp; omega) ?_
      refine walk1 (k := ?_)
      repeat' first | refine And.intro ?_ ?_ | intro
      all_goals refine leaf ?_
      refine wps_slot (s := 23) (v := .bool false) (by show V.bool _ = _; simp; omega) ?_
      refine walk1 (k := ?_)
      repeat' first | refine And.intro ?_ ?_ | intro
      all_goals refine leaf ?_
      refine wps_slot (s := 27) (v := .bool true) (by show V.bool _ = _; simp; omega) ?_
      refine walk1 (k := ?_)
      repeat' first | refine And.intro ?_ ?_ | intro
      all_goals refine leaf ?_
      have hra := rahead_prog (enm (nth X i)) (enm (nth Y j))
      have hra2 := rahead_prog (enm (nth Y j)) (enm (nth X i))
      cases ha : ahd (enm (nth X i)) (enm (nth Y j)) with
      | true =>
        rw [ha] at hra
        have hd := rdropr_prog (nth X i)
        refine callE (hra) ?_
        refine walk1 (k := ?_)
        repeat' first | refine And.intro ?_ ?_ | intro
        all_goals refine leaf ?_
        refine callE (hd) ?_
        refine walk1 (k := ?_)
        repeat' first | refine And.intro ?_ ?_ | intro
        all_goals refine leaf ?_
        rename_i w2 H9 hh
        exact Nx.intro (i := (X.length - (i + 1)) + (Y.length - j)) (by omega) ⟨(i + 1), j, w2, (out ++ [dropR (enm (nth X i))]), by omega, by omega, rfl, by rw [List.length_append, List.length_singleton]; omega, by rw [← hm, hdx, hdy, mergeR, if_pos ha, List.append_assoc]; rfl, by rw [← sl_next o i]; rfl, rfl⟩
      | false =>
        rw [ha] at hra
        refine callE (hra) ?_
        refine walk1 (k := ?_)
        repeat' first | refine And.intro ?_ ?_ | intro
        all_goals refine leaf ?_
        refine wps_slot (s := 59) (v := .bool false) (by show V.bool _ = _; simp; omega) ?_
        refine walk1 (k := ?_)
        repeat' first | refine And.intro ?_ ?_ | intro
        all_goals refine leaf ?_
        cases ha2 : ahd (enm (nth Y j)) (enm (nth X i)) with
        | true =>
          rw [ha2] at hra2
          refine callE (hra2) ?_
          refine walk1 (k := ?_)
          repeat' first | refine And.intro ?_ ?_ | intro
          all_goals refine leaf ?_
          rename_i w2 H9 hh
          exact Nx.intro (i := (X.length - i) + (Y.length - (j + 1))) (by omega) ⟨i, (j + 1), w2, (out ++ [putR (nth Y j)]), by omega, by omega, rfl, by rw [List.length_append, List.length_singleton]; omega, by rw [← hm, hdx, hdy, mergeR, if_neg (by rw [ha]; simp), if_pos ha2, List.append_assoc]; rfl, by rw [← sl_next o2 j]; rfl, rfl⟩
        | false =>
          rw [ha2] at hra2
          refine callE (hra2) ?_
          refine walk1 (k := ?_)
          repeat' first | refine And.intro ?_ ?_ | intro
          all_goals refine leaf ?_
          by_cases he : nth X i = nth Y j
          · refine c_cond_f (by show V.bool (!entB (nth X i) (nth Y j)) = _; rw [entB_eq, decide_eq_true he]; rfl) ?_
            refine walk1 (k := ?_)
            repeat' first | refine And.intro ?_ ?_ | intro
            all_goals refine leaf ?_
            exact Nx.intro (i := (X.length - (i + 1)) + (Y.length - (j + 1))) (by omega) ⟨(i + 1), (j + 1), w, out, by omega, by omega, rfl, by omega, by rw [← hm, hdx, hdy, mergeR, if_neg (by rw [ha]; simp), if_neg (by rw [ha2]; simp), if_pos he], by rw [← sl_next o i, ← sl_next o2 j]; rfl, rfl⟩
          · refine c_cond_t (by show V.bool (!entB (nth X i) (nth Y j)) = _; rw [entB_eq, decide_eq_false he]; rfl) ?_
            refine walk1 (k := ?_)
            repeat' first | refine And.intro ?_ ?_ | intro
            all_goals refine leaf ?_
            rename_i w2 H9 hh
            exact Nx.intro (i := (X.length - (i + 1)) + (Y.length - (j + 1))) (by omega) ⟨(i + 1), (j + 1), w2, (out ++ [putR (nth Y j)]), by omega, by omega, rfl, by rw [List.length_append, List.length_singleton]; omega, by rw [← hm, hdx, hdy, mergeR, if_neg (by rw [ha]; simp), if_neg (by rw [ha2]; simp), if_neg he, List.append_assoc]; rfl, by rw [← sl_next o i, ← sl_next o2 j]; rfl, rfl⟩
    · have hdy : Y.drop j = [] := List.drop_of_length_le (by omega)
      refine walk1 (k := ?_)
      repeat' first | refine And.intro ?_ ?_ | intro
      all_goals refine leaf ?_
      refine wps_slot (s := 15) (v := .bool true) (by show V.bool _ = _; simp; omega) ?_
      refine walk1 (k := ?_)
      repeat' first | refine And.intro ?_ ?_ | intro
      all_goals refine leaf ?_
      refine wps_slot (s := 23) (v := .bool true) (by show V.bool _ = _; simp; omega) ?_
      refine walk1 (k := ?_)
      repeat' first | refine And.intro ?_ ?_ | intro
      all_goals refine leaf ?_
      have hd := rdropr_prog (nth X i)
      refine callE (hd) ?_
      refine walk1 (k := ?_)
      repeat' first | refine And.intro ?_ ?_ | intro
      all_goals refine leaf ?_
      rename_i w2 H9 hh
      exact Nx.intro (i := (X.length - (i + 1)) + (Y.length - j)) (by omega) ⟨(i + 1), j, w2, (out ++ [dropR (enm (nth X i))]), by omega, by omega, rfl, by rw [List.length_append, List.length_singleton]; omega, by rw [← hm, hdx, hdy, mergeR, List.append_assoc]; rfl, by rw [← sl_next o i]; rfl, rfl⟩
  · by_cases hy : j < Y.length
    · have hdy := drop_getD hy
      have hdx : X.drop i = [] := List.drop_of_length_le (by omega)
      have hint : Hint Rec.enc (putR (nth Y j)) := trivial
      refine walk1 (k := ?_)
      repeat' first | refine And.intro ?_ ?_ | intro
      all_goals refine leaf ?_
      refine wps_slot (s := 15) (v := .bool false) (by show V.bool _ = _; simp; omega) ?_
      refine walk1 (k := ?_)
      repeat' first | refine And.intro ?_ ?_ | intro
      all_goals refine leaf ?_
      refine c_cond_t (by show V.bool _ = _; simp; omega) ?_
      refine walk1 (k := ?_)
      repeat' first | refine And.intro ?_ ?_ | intro
      all_goals refine leaf ?_
      refine wps_slot (s := 23) (v := .bool false) (by show V.bool _ = _; simp; omega) ?_
      refine walk1 (k := ?_)
      repeat' first | refine And.intro ?_ ?_ | intro
      all_goals refine leaf ?_
      refine wps_slot (s := 27) (v := .bool false) (by show V.bool _ = _; simp; omega) ?_
      refine walk1 (k := ?_)
      repeat' first | refine And.intro ?_ ?_ | intro
      all_goals refine leaf ?_
      refine wps_slot (s := 59) (v := .bool true) (by show V.bool _ = _; simp; omega) ?_
      refine walk1 (k := ?_)
      repeat' first | refine And.intro ?_ ?_ | intro
      all_goals refine leaf ?_
      rename_i w2 H9 hh
      exact Nx.intro (i := (X.length - i) + (Y.length - (j + 1))) (by omega) ⟨i, (j + 1), w2, (out ++ [putR (nth Y j)]), by omega, by omega, rfl, by rw [List.length_append, List.length_singleton]; omega, by rw [← hm, hdx, hdy, mergeR, List.append_assoc]; rfl, by rw [← sl_next o2 j]; rfl, rfl⟩
    · skip
      refine walk1 (k := ?_)
      repeat' first | refine And.intro ?_ ?_ | intro
      all_goals refine leaf ?_
      refine wps_slot (s := 15) (v := .bool false) (by show V.bool _ = _; simp; omega) ?_
      refine walk1 (k := ?_)
      repeat' first | refine And.intro ?_ ?_ | intro
      all_goals refine leaf ?_
      refine c_cond_f (by show V.bool _ = _; simp; omega) ?_
      refine walk1 (k := ?_)
      repeat' first | refine And.intro ?_ ?_ | intro
      all_goals refine leaf ?_
      have hdx : X.drop i = [] := List.drop_of_length_le (by omega)
      have hdy : Y.drop j = [] := List.drop_of_length_le (by omega)
      have he : out = mergeR X Y := by rw [← hm, hdx, hdy, mergeR, List.append_nil]
      subst he
      exact doneN ⟨w, rfl, rfl⟩
end Go.Proofs.Ytebhddpildfgcaa
