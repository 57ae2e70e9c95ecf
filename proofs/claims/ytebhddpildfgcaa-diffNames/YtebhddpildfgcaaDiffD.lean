/-
  diff: Make, Apply: the walk.
-/
import Derived.Test.YtebhddpildfgcaaDiffC
namespace Go.Proofs.Ytebhddpildfgcaa
open Go Go.CM
set_option maxRecDepth 100000
set_option maxHeartbeats 4000000

theorem recOf_le (X Y : List Entry) (n : Nm) : (recOf X Y n).length ≤ 1 := by
  unfold recOf
  split
  · exact Nat.le_refl _
  · exact Nat.le_refl _
  · split
    · exact Nat.zero_le _
    · exact Nat.le_refl _
theorem recs_le (X Y : List Entry) : ∀ ns : List Nm, (ns.flatMap (recOf X Y)).length ≤ ns.length
  | [] => Nat.le_refl _
  | n :: ns => by
    have := recs_le X Y ns
    have := recOf_le X Y n
    rw [List.flatMap_cons, List.length_append, List.length_cons]; omega
theorem dmake_prog (s t : Nat) (b b' : Bool) (l r : List Entry) (hl : l.length ≤ 1000) (hr : r.length ≤ 1000) : CallsN Try.prog ndiff_Make [.slice s 0 l.length 14, .slice t 0 r.length 14] [EL s b l, EL t b' r] fun v Lo => ∃ o, v = .slice o 0 (mergeR (srtL l) (srtL r)).length 15 ∧ Lo = [RL o true (mergeR (srtL l) (srtL r))] := by
  have hxl := srtL_le l
  have hyl := srtL_le r
  have hXs : Srt (srtL l) := putsL_srt .nil
  have hYs : Srt (srtL r) := putsL_srt .nil
  generalize hX : srtL l = X at hxl hXs ⊢
  generalize hY : srtL r = Y at hyl hYs ⊢
  refine sdiff_Make fun H hh => ?_
  dsimp only [cdiff_Make]
  refine walk (k := ?_)
  repeat' first | refine And.intro ?_ ?_ | intro
  all_goals refine leaf ?_
  refine callN (dof_prog s b l hl) ?_
  rintro v Lo H' ⟨x, s', rfl, rfl⟩ hh
  rw [hX] at hh
  refine walk1 (k := ?_)
  repeat' first | refine And.intro ?_ ?_ | intro
  all_goals refine leaf ?_
  refine callN (dof_prog t b' r hr) ?_
  rintro v Lo H' ⟨y, t', rfl, rfl⟩ hh
  rw [hY] at hh
  refine walk1 (k := ?_)
  repeat' first | refine And.intro ?_ ?_ | intro
  all_goals refine leaf ?_
  refine callN (dboth_prog x s' y t' X Y (by omega) (by omega)) ?_
  rintro v Lo H' ⟨o, ns, ⟨hns, hm, hnl⟩, rfl, rfl⟩ hh
  rw [← makeN_merge X Y ns hXs hYs hns hm]
  refine walk1 (k := ?_)
  repeat' first | refine And.intro ?_ ?_ | intro
  all_goals refine leaf ?_
  rename_i hh
  refine loopN [5, 6, 7, 20, 21, 22] ns.length (fun i vs L => ∃ w, vs = [.ptr x 0, .ptr y 0, .slice w 0 ((ns.take i).flatMap (recOf X Y)).length 15, .slice o 0 ns.length 2, .int .i64 ns.length, .int .i64 i] ∧ L = [RL w true ((ns.take i).flatMap (recOf X Y)), NL o true ns, XO y t' Y.length, EL t' true Y, XO x s' X.length, EL s' true X, EL s b l, EL t b' r])
    (Nx.hereW [.ptr x 0, .ptr y 0, .slice 0 0 0 15, .slice o 0 ns.length 2, .int .i64 ns.length, .int .i64 0] ⟨0, rfl, rfl⟩) ?_
  clear hh
  rintro i _ _ e H hi ⟨w, rfl, rfl⟩ hh
  simp only [puts]
  by_cases hn : i < ns.length
  · have hst : (ns.take (i + 1)).flatMap (recOf X Y) = (ns.take i).flatMap (recOf X Y) ++ recOf X Y (nth ns i) := by rw [take_getD hn, List.flatMap_append, List.flatMap_cons, List.flatMap_nil, List.append_nil]
    have hlen := recs_le X Y (ns.take i)
    rw [List.length_take] at hlen
    have h1 := iget_prog x s' X (nth ns i) (by omega) hXs
    have h2 := iget_prog y t' Y (nth ns i) (by omega) hYs
    have hg := gone_prog (nth ns i)
    cases g2 : getL Y (nth ns i) with
    | none =>
      have hrec : recOf X Y (nth ns i) = [dropR (nth ns i)] := by unfold recOf; rw [g2]
      rw [hrec] at hst
      rw [g2] at h2
      change CallsR _ _ _ _ (fun v => v = V.tup [.agg Entry.zero.enc, .bool false]) at h2
      have hint : Hint Rec.enc (dropR (nth ns i)) := trivial
      refine walk1 (k := ?_)
      repeat' first | refine And.intro ?_ ?_ | intro
      all_goals refine leaf ?_
      refine c_cond_t (by show V.bool _ = _; simp; omega) ?_
      refine walk1 (k := ?_)
      repeat' first | refine And.intro ?_ ?_ | intro
      all_goals refine leaf ?_
      refine callE (h1) ?_
      refine walk1 (k := ?_)
      repeat' first | refine And.intro ?_ ?_ | intro
      all_goals refine leaf ?_
      refine callE (h2) ?_
      refine walk1 (k := ?_)
      repeat' first | refine And.intro ?_ ?_ | intro
      all_goals refine leaf ?_
      refine callE (hg) ?_
      refine walk1 (k := ?_)
      repeat' first | refine And.intro ?_ ?_ | intro
      all_goals refine leaf ?_
      rename_i w2 _ hh
      rw [← hst] at hh ⊢
      exact Nx.next hn ⟨w2, rfl, rfl⟩
    | some e2 =>
      rw [g2] at h2
      change CallsR _ _ _ _ (fun v => v = V.tup [.agg e2.enc, .bool true]) at h2
      have hint : Hint Rec.enc (putR e2) := trivial
      cases g1 : getL X (nth ns i) with
      | none =>
        have hrec : recOf X Y (nth ns i) = [putR e2] := by unfold recOf; rw [g1, g2]
        rw [hrec] at hst
        rw [g1] at h1
        change CallsR _ _ _ _ (fun v => v = V.tup [.agg Entry.zero.enc, .bool false]) at h1
        refine walk1 (k := ?_)
        repeat' first | refine And.intro ?_ ?_ | intro
        all_goals refine leaf ?_
        refine c_cond_t (by show V.bool _ = _; simp; omega) ?_
        refine walk1 (k := ?_)
        repeat' first | refine And.intro ?_ ?_ | intro
        all_goals refine leaf ?_
        refine callE (h1) ?_
        refine walk1 (k := ?_)
        repeat' first | refine And.intro ?_ ?_ | intro
        all_goals refine leaf ?_
        refine callE (h2) ?_
        refine walk1 (k := ?_)
        repeat' first | refine And.intro ?_ ?_ | intro
        all_goals refine leaf ?_
        rename_i w2 _ hh
        rw [← hst] at hh ⊢
        exact Nx.next hn ⟨w2, rfl, rfl⟩
      | some e1 =>
        rw [g1] at h1
        change CallsR _ _ _ _ (fun v => v = V.tup [.agg e1.enc, .bool true]) at h1
        refine walk1 (k := ?_)
        repeat' first | refine And.intro ?_ ?_ | intro
        all_goals refine leaf ?_
        refine c_cond_t (by show V.bool _ = _; simp; omega) ?_
        refine walk1 (k := ?_)
        repeat' first | refine And.intro ?_ ?_ | intro
        all_goals refine leaf ?_
        refine callE (h1) ?_
        refine walk1 (k := ?_)
        repeat' first | refine And.intro ?_ ?_ | intro
        all_goals refine leaf ?_
        refine callE (h2) ?_
        refine walk1 (k := ?_)
        repeat' first | refine And.intro ?_ ?_ | intro
        all_goals refine leaf ?_
        by_cases he : e2 = e1
        · have hrec : recOf X Y (nth ns i) = [] := by unfold recOf; rw [g1, g2]; exact if_pos he
          rw [hrec, List.append_nil] at hst
          refine c_cond_f (by show V.bool (!entB e2 e1) = _; rw [entB_eq, decide_eq_true he]; rfl) ?_
          rename_i hh
          rw [← hst] at hh ⊢
          refine walk1 (k := ?_)
          repeat' first | refine And.intro ?_ ?_ | intro
          all_goals refine leaf ?_
          exact Nx.next hn ⟨w, rfl, rfl⟩
        · have hrec : recOf X Y (nth ns i) = [putR e2] := by unfold recOf; rw [g1, g2]; exact if_neg he
          rw [hrec] at hst
          refine c_cond_t (by show V.bool (!entB e2 e1) = _; rw [entB_eq, decide_eq_false he]; rfl) ?_
          refine walk1 (k := ?_)
          repeat' first | refine And.intro ?_ ?_ | intro
          all_goals refine leaf ?_
          rename_i w2 _ hh
          rw [← hst] at hh ⊢
          exact Nx.next hn ⟨w2, rfl, rfl⟩
  · skip
    refine walk1 (k := ?_)
    repeat' first | refine And.intro ?_ ?_ | intro
    all_goals refine leaf ?_
    refine c_cond_f (by show V.bool _ = _; simp; omega) ?_
    refine walk1 (k := ?_)
    repeat' first | refine And.intro ?_ ?_ | intro
    all_goals refine leaf ?_
    rw [List.take_of_length_le (by omega)] at hh ⊢
    exact doneN ⟨w, rfl, rfl⟩
theorem applyL_srt : ∀ (rs : List Rec) {l : List Entry}, Srt l → Srt (applyL l rs)
  | [], _, h => h
  | r :: rs, l, h => by
    refine applyL_srt rs (l := stepL l r) ?_
    unfold stepL
    split
    · exact h.put _
    · split
      · exact h.drp _
      · exact h
theorem dapply_prog (s t : Nat) (b b' : Bool) (l : List Entry) (rs : List Rec) (hl : l.length ≤ 1000) (hr : rs.length ≤ 1000) : CallsN Try.prog ndiff_Apply [.slice s 0 l.length 14, .slice t 0 rs.length 15] [EL s b l, RL t b' rs] fun v Lo => ∃ o, v = .slice o 0 (applyL (srtL l) rs).length 14 ∧ Lo = [EL o true (applyL (srtL l) rs)] := by
  have hxl := srtL_le l
  have hXs : Srt (srtL l) := putsL_srt .nil
  generalize hX : srtL l = X at hxl hXs ⊢
  refine sdiff_Apply fun H hh => ?_
  dsimp only [cdiff_Apply]
  refine walk (k := ?_)
  repeat' first | refine And.intro ?_ ?_ | intro
  all_goals refine leaf ?_
  refine callN (dof_prog s b l hl) ?_
  rintro v Lo H' ⟨x, s', rfl, rfl⟩ hh
  rw [hX] at hh
  refine walk1 (k := ?_)
  repeat' first | refine And.intro ?_ ?_ | intro
  all_goals refine leaf ?_
  rename_i hh
  refine loopN [5, 10, 11, 12] rs.length (fun i vs L => ∃ s', vs = [.ptr x 0, .slice t 0 rs.length 15, .int .i64 rs.length, .int .i64 i] ∧ L = [XO x s' (applyL X (rs.take i)).length, EL s' true (applyL X (rs.take i)), EL s b l, RL t b' rs]) (Nx.here ⟨s', rfl, rfl⟩) ?_
  clear hh
  rintro i _ _ e H hi ⟨s', rfl, rfl⟩ hh
  simp only [puts]
  have hle := applyL_le (rs.take i) X
  rw [List.length_take] at hle
  have hsr := applyL_srt (rs.take i) hXs
  by_cases hn : i < rs.length
  · have hst : applyL X (rs.take (i + 1)) = stepL (applyL X (rs.take i)) (nth rs i) := by rw [take_getD hn, applyL_snoc]
    have h1 := iput_prog x s' (applyL X (rs.take i)) (nth rs i).e (by omega) hsr
    have h2 := idrop_prog x s' (applyL X (rs.take i)) (enm (nth rs i).e) (by omega) hsr
    refine walk1 (k := ?_)
    repeat' first | refine And.intro ?_ ?_ | intro
    all_goals refine leaf ?_
    refine c_cond_t (by show V.bool _ = _; simp; omega) ?_
    refine walk1 (k := ?_)
    repeat' first | refine And.intro ?_ ?_ | intro
    all_goals refine leaf ?_
    by_cases k1 : (nth rs i).kind = 1
    · refine c_cond_t (by show V.bool _ = _; simp [k1]) ?_
      refine walk1 (k := ?_)
      repeat' first | refine And.intro ?_ ?_ | intro
      all_goals refine leaf ?_
      refine callL (h1) ?_
      rintro v L' H' ⟨s2, rfl, rfl⟩ hh
      rw [stepL, if_pos k1] at hst
      rw [← hst] at hh
      refine walk1 (k := ?_)
      repeat' first | refine And.intro ?_ ?_ | intro
      all_goals refine leaf ?_
      exact Nx.next hn ⟨s2, rfl, rfl⟩
    · refine c_cond_f (by show V.bool _ = _; simp [k1]) ?_
      refine walk1 (k := ?_)
      repeat' first | refine And.intro ?_ ?_ | intro
      all_goals refine leaf ?_
      by_cases k2 : (nth rs i).kind = 2
      · refine c_cond_t (by show V.bool _ = _; simp [k2]) ?_
        refine walk1 (k := ?_)
        repeat' first | refine And.intro ?_ ?_ | intro
        all_goals refine leaf ?_
        refine callL (h2) ?_
        rintro v L' H' ⟨s2, rfl, rfl⟩ hh
        rw [stepL, if_neg k1, if_pos k2] at hst
        rw [← hst] at hh
        refine walk1 (k := ?_)
        repeat' first | refine And.intro ?_ ?_ | intro
        all_goals refine leaf ?_
        exact Nx.next hn ⟨s2, rfl, rfl⟩
      · refine c_cond_f (by show V.bool _ = _; simp [k2]) ?_
        refine walk1 (k := ?_)
        repeat' first | refine And.intro ?_ ?_ | intro
        all_goals refine leaf ?_
        rename_i hh
        rw [stepL, if_neg k1, if_neg k2] at hst
        rw [← hst] at hh
        exact Nx.next hn ⟨s', rfl, rfl⟩
  · skip
    refine walk1 (k := ?_)
    repeat' first | refine And.intro ?_ ?_ | intro
    all_goals refine leaf ?_
    refine c_cond_f (by show V.bool _ = _; simp; omega) ?_
    refine walk1 (k := ?_)
    repeat' first | refine And.intro ?_ ?_ | intro
    all_goals refine leaf ?_
    rw [List.take_of_length_le (by omega)] at hh
    refine callN (iall_prog x s' (applyL X rs) (by have := applyL_le rs X; omega)) ?_
    rintro v Lo H' ⟨o, rfl, rfl⟩ hh
    refine walk1 (k := ?_)
    repeat' first | refine And.intro ?_ ?_ | intro
    all_goals refine leaf ?_
    exact doneN ⟨o, rfl, rfl⟩
end Go.Proofs.Ytebhddpildfgcaa
