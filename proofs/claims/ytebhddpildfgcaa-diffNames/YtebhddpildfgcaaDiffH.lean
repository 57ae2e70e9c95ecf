/-
  diff: Make of one list with itself; what changes make of a list.
-/
import Derived.Test.YtebhddpildfgcaaDiffD
namespace Go.Proofs.Ytebhddpildfgcaa
open Go Go.CM
set_option maxRecDepth 100000
set_option maxHeartbeats 4000000

theorem dmake2_prog (s : Nat) (b : Bool) (l : List Entry) (hl : l.length ≤ 1000) : CallsN Try.prog ndiff_Make [.slice s 0 l.length 14, .slice s 0 l.length 14] [EL s b l] fun v Lo => ∃ o, v = .slice o 0 (mergeR (srtL l) (srtL l)).length 15 ∧ Lo = [RL o true (mergeR (srtL l) (srtL l))] := by
  have hxl := srtL_le l
  have hXs : Srt (srtL l) := putsL_srt .nil
  generalize hX : srtL l = X at hxl hXs ⊢
  refine sdiff_Make fun H hh => ?_
  dsimp only [cdiff_Make]
  refine walk (k := ?_)
  repeat' first | refine And.intro ?_ ?_ | intro
  all_goals refine leaf ?_
  refine callN (dof_prog s b l hl) ?_
  rintro v Lo H' ⟨x, s', rfl, rfl⟩ hh
  rw [hX] at hh
  refine walk1 (k := ?_)
  repeat' first | refine And.intro ?_ ?_ | intro
  all_goals refine leaf ?_
  refine callN (dof_prog s b l hl) ?_
  rintro v Lo H' ⟨y, t', rfl, rfl⟩ hh
  rw [hX] at hh
  refine walk1 (k := ?_)
  repeat' first | refine And.intro ?_ ?_ | intro
  all_goals refine leaf ?_
  refine callN (dboth_prog x s' y t' X X (by omega) (by omega)) ?_
  rintro v Lo H' ⟨o, ns, ⟨hns, hm, hnl⟩, rfl, rfl⟩ hh
  rw [← makeN_merge X X ns hXs hXs hns hm]
  refine walk1 (k := ?_)
  repeat' first | refine And.intro ?_ ?_ | intro
  all_goals refine leaf ?_
  rename_i hh
  refine loopN [5, 6, 7, 20, 21, 22] ns.length (fun i vs L => ∃ w, vs = [.ptr x 0, .ptr y 0, .slice w 0 ((ns.take i).flatMap (recOf X X)).length 15, .slice o 0 ns.length 2, .int .i64 ns.length, .int .i64 i] ∧ L = [RL w true ((ns.take i).flatMap (recOf X X)), NL o true ns, XO y t' X.length, EL t' true X, XO x s' X.length, EL s' true X, EL s b l])
    (Nx.hereW [.ptr x 0, .ptr y 0, .slice 0 0 0 15, .slice o 0 ns.length 2, .int .i64 ns.length, .int .i64 0] ⟨0, rfl, rfl⟩) ?_
  clear hh
  rintro i _ _ e H hi ⟨w, rfl, rfl⟩ hh
  simp only [puts]
  by_cases hn : i < ns.length
  · have hst : (ns.take (i + 1)).flatMap (recOf X X) = (ns.take i).flatMap (recOf X X) ++ recOf X X (nth ns i) := by rw [take_getD hn, List.flatMap_append, List.flatMap_cons, List.flatMap_nil, List.append_nil]
    have hlen := recs_le X X (ns.take i)
    rw [List.length_take] at hlen
    have h1 := iget_prog x s' X (nth ns i) (by omega) hXs
    have h2 := iget_prog y t' X (nth ns i) (by omega) hXs
    have hg := gone_prog (nth ns i)
    cases g2 : getL X (nth ns i) with
    | none =>
      have hrec : recOf X X (nth ns i) = [dropR (nth ns i)] := by unfold recOf; rw [g2]
      rw [hrec] at hst
      rw [g2] at h2
      change CallsR _ _ _ _ (fun v => v = V.tup [.agg Entry.zero.enc, .bool false]) at h2
      have hint : Hint Rec.enc (dropR (nth ns i)) := trivial
      refine walk1 (k := ?_)
      repeat' first | refine And.intro ?_ ?_ | intro
      all_goals refine leaf ?_
      refine c_cond_t (by show V.bool _ = _; simp; omega) ?_
      refine walk1 (k := ?_)
      repeat' first | refine And.intro ?_ ?_ | intro
      all_goals refine leaf ?_
      refine callE (h1) ?_
      refine walk1 (k := ?_)
      repeat' first | refine And.intro ?_ ?_ | intro
      all_goals refine leaf ?_
      refine callE (h2) ?_
      refine walk1 (k := ?_)
      repeat' first | refine And.intro ?_ ?_ | intro
      all_goals refine leaf ?_
      refine callE (hg) ?_
      refine walk1 (k := ?_)
      repeat' first | refine And.intro ?_ ?_ | intro
      all_goals refine leaf ?_
      rename_i w2 _ hh
      rw [← hst] at hh ⊢
      exact Nx.next hn ⟨w2, rfl, rfl⟩
    | some e2 =>
      rw [g2] at h2
      change CallsR _ _ _ _ (fun v => v = V.tup [.agg e2.enc, .bool true]) at h2
      have hint : Hint Rec.enc (putR e2) := trivial
      cases g1 : getL X (nth ns i) with
      | none =>
        have hrec : recOf X X (nth ns i) = [putR e2] := by rw [g1] at g2; cases g2
        rw [hrec] at hst
        rw [g1] at h1
        change CallsR _ _ _ _ (fun v => v = V.tup [.agg Entry.zero.enc, .bool false]) at h1
        refine walk1 (k := ?_)
        repeat' first | refine And.intro ?_ ?_ | intro
        all_goals refine leaf ?_
        refine c_cond_t (by show V.bool _ = _; simp; omega) ?_
        refine walk1 (k := ?_)
        repeat' first | refine And.intro ?_ ?_ | intro
        all_goals refine leaf ?_
        refine callE (h1) ?_
        refine walk1 (k := ?_)
        repeat' first | refine And.intro ?_ ?_ | intro
        all_goals refine leaf ?_
        refine callE (h2) ?_
        refine walk1 (k := ?_)
        repeat' first | refine And.intro ?_ ?_ | intro
        all_goals refine leaf ?_
        rename_i w2 _ hh
        rw [← hst] at hh ⊢
        exact Nx.next hn ⟨w2, rfl, rfl⟩
      | some e1 =>
        rw [g1] at h1
        change CallsR _ _ _ _ (fun v => v = V.tup [.agg e1.enc, .bool true]) at h1
        refine walk1 (k := ?_)
        repeat' first | refine And.intro ?_ ?_ | intro
        all_goals refine leaf ?_
        refine c_cond_t (by show V.bool _ = _; simp; omega) ?_
        refine walk1 (k := ?_)
        repeat' first | refine And.intro ?_ ?_ | intro
        all_goals refine leaf ?_
        refine callE (h1) ?_
        refine walk1 (k := ?_)
        repeat' first | refine And.intro ?_ ?_ | intro
        all_goals refine leaf ?_
        refine callE (h2) ?_
        refine walk1 (k := ?_)
        repeat' first | refine And.intro ?_ ?_ | intro
        all_goals refine leaf ?_
        by_cases he : e2 = e1
        · have hrec : recOf X X (nth ns i) = [] := by unfold recOf; rw [g1]; exact if_pos rfl
          rw [hrec, List.append_nil] at hst
          refine c_cond_f (by show V.bool (!entB e2 e1) = _; rw [entB_eq, decide_eq_true he]; rfl) ?_
          rename_i hh
          rw [← hst] at hh ⊢
          refine walk1 (k := ?_)
          repeat' first | refine And.intro ?_ ?_ | intro
          all_goals refine leaf ?_
          exact Nx.next hn ⟨w, rfl, rfl⟩
        · have hrec : recOf X X (nth ns i) = [putR e2] := by rw [g1] at g2; exact absurd (Option.some.inj g2).symm he
          rw [hrec] at hst
          refine c_cond_t (by show V.bool (!entB e2 e1) = _; rw [entB_eq, decide_eq_false he]; rfl) ?_
          refine walk1 (k := ?_)
          repeat' first | refine And.intro ?_ ?_ | intro
          all_goals refine leaf ?_
          rename_i w2 _ hh
          rw [← hst] at hh ⊢
          exact Nx.next hn ⟨w2, rfl, rfl⟩
  · skip
    refine walk1 (k := ?_)
    repeat' first | refine And.intro ?_ ?_ | intro
    all_goals refine leaf ?_
    refine c_cond_f (by show V.bool _ = _; simp; omega) ?_
    refine walk1 (k := ?_)
    repeat' first | refine And.intro ?_ ?_ | intro
    all_goals refine leaf ?_
    rw [List.take_of_length_le (by omega)] at hh ⊢
    exact doneN ⟨w, rfl, rfl⟩

/-- What is told of a name makes it so. -/
theorem step_rec (X Y Z : List Entry) (n : Nm) (hZ : Srt Z) (hag : getL Z n = getL X n) : Srt (applyL Z (recOf X Y n)) ∧ ∀ m, getL (applyL Z (recOf X Y n)) m = if m = n then getL Y n else getL Z m := by
  have hnm : ∀ e, getL Y n = some e → enm e = n := fun e h => getL_nm h
  unfold recOf
  split
  · rename_i h
    refine ⟨hZ.drp n, fun m => ?_⟩
    show getL (dropL Z n) m = _
    rw [getL_drop hZ, h]
    by_cases hm : n = m
    · rw [if_pos hm, if_pos hm.symm]
    · rw [if_neg hm, if_neg (Ne.symm hm)]
  · rename_i e h1 h2
    refine ⟨hZ.put e, fun m => ?_⟩
    show getL (putL Z e) m = _
    rw [getL_put hZ, hnm e h2, h2]
    by_cases hm : n = m
    · rw [if_pos hm, if_pos hm.symm]
    · rw [if_neg hm, if_neg (Ne.symm hm)]
  · rename_i o e h1 h2
    split
    · rename_i heo
      refine ⟨hZ, fun m => ?_⟩
      show getL Z m = _
      by_cases hm : m = n
      · rw [if_pos hm, hm, hag, h1, h2, heo]
      · rw [if_neg hm]
    · refine ⟨hZ.put e, fun m => ?_⟩
      show getL (putL Z e) m = _
      rw [getL_put hZ, hnm e h2, h2]
      by_cases hm : n = m
      · rw [if_pos hm, if_pos hm.symm]
      · rw [if_neg hm, if_neg (Ne.symm hm)]
theorem steps_rec (X Y : List Entry) : ∀ (ns : List Nm) (Z : List Entry), Srt Z → ns.Nodup → (∀ n ∈ ns, getL Z n = getL X n) →
    Srt (applyL Z (ns.flatMap (recOf X Y))) ∧ ∀ m, getL (applyL Z (ns.flatMap (recOf X Y))) m = if m ∈ ns then getL Y m else getL Z m
  | [], Z, hZ, _, _ => ⟨hZ, fun m => by simp [applyL]⟩
  | n :: ns, Z, hZ, hnd, hag => by
    obtain ⟨h1, h2⟩ := step_rec X Y Z n hZ (hag n (by simp))
    have hnd' := List.nodup_cons.1 hnd
    obtain ⟨h3, h4⟩ := steps_rec X Y ns (applyL Z (recOf X Y n)) h1 hnd'.2 (fun m hm => by
      rw [h2, if_neg (fun e : m = n => hnd'.1 (e ▸ hm))]
      exact hag m (List.mem_cons_of_mem _ hm))
    have he : applyL Z ((n :: ns).flatMap (recOf X Y)) = applyL (applyL Z (recOf X Y n)) (ns.flatMap (recOf X Y)) := by
      rw [List.flatMap_cons, applyL, List.foldl_append]; rfl
    rw [he]
    refine ⟨h3, fun m => ?_⟩
    rw [h4, h2]
    by_cases hm : m ∈ ns
    · rw [if_pos hm, if_pos (List.mem_cons_of_mem _ hm)]
    · rw [if_neg hm]
      by_cases hmn : m = n
      · rw [if_pos hmn, hmn, if_pos (by simp)]
      · rw [if_neg hmn, if_neg (by rw [List.mem_cons]; exact fun h => h.elim hmn hm)]
theorem getL_out_names {X : List Entry} {n : Nm} (h : n ∉ X.map enm) : getL X n = none := getL_none.2 fun _ he hn => h (hn ▸ List.mem_map_of_mem he)
theorem SrtN.nodup {ns : List Nm} (h : SrtN ns) : ns.Nodup := h.imp fun h => ahd_ne h
/-- The changes made from X to Y make X Y. -/
theorem apply_make {X Y : List Entry} {ns : List Nm} (hX : Srt X) (hY : Srt Y) (h : BothN X Y ns) : applyL X (mergeR X Y) = Y := by
  obtain ⟨hs, hm, _⟩ := h
  rw [← makeN_merge X Y ns hX hY hs hm]
  obtain ⟨h1, h2⟩ := steps_rec X Y ns X hX hs.nodup (fun _ _ => rfl)
  refine h1.ext hY fun n => ?_
  rw [h2]
  split
  · rfl
  · rename_i hn
    have hn' := fun h => hn ((hm n).2 h)
    rw [getL_out_names fun h => hn' (.inl h), getL_out_names fun h => hn' (.inr h)]
theorem bothN_ex (X Y : List Entry) : ∃ ns, BothN X Y ns := by
  have hp := List.mergeSort_perm (X.map enm ++ Y.map enm) (fun a b => !ahd b a)
  refine ⟨cmpct ((X.map enm ++ Y.map enm).mergeSort (fun a b => !ahd b a)), cmpct_srt ?_, fun n => ?_, ?_⟩
  · have := List.pairwise_mergeSort (le := fun a b : Nm => !ahd b a) (fun a b c h1 h2 => by
      simp only [Bool.not_eq_true'] at *; exact nahd_trans h2 h1) (fun a b => by
      cases h : ahd b a with
      | false => simp
      | true => simp [ahd_asymm h]) (X.map enm ++ Y.map enm)
    exact this.imp fun h => by simpa using h
  · rw [cmpct_mem, hp.mem_iff, List.mem_append]
  · have := cmpct_le ((X.map enm ++ Y.map enm).mergeSort (fun a b => !ahd b a))
    rw [hp.length_eq, List.length_append, List.length_map, List.length_map] at this
    exact this
theorem merge_self : ∀ Y : List Entry, mergeR Y Y = []
  | [] => by rw [mergeR]
  | y :: ys => by
    rw [mergeR, if_neg (by rw [ahd_irrefl]; simp), if_neg (by rw [ahd_irrefl]; simp), if_pos rfl]
    exact merge_self ys
end Go.Proofs.Ytebhddpildfgcaa
