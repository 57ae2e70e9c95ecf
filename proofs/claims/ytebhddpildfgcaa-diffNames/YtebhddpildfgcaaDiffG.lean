/-
  diff: Join of one list with itself.
-/
import Derived.Test.YtebhddpildfgcaaDiffE
namespace Go.Proofs.Ytebhddpildfgcaa
open Go Go.CM
set_option maxRecDepth 100000
set_option maxHeartbeats 4000000

theorem djoin2_prog (s : Nat) (b : Bool) (l : List Rec) (hl : l.length ≤ 1000) : CallsN Try.prog ndiff_Join [.slice s 0 l.length 15, .slice s 0 l.length 15] [RL s b l] fun v Lo => ∃ o, ∃ ks : List Nm, ks.Perm ((joinM [] (l ++ l)).map (·.1)) ∧ ks.Pairwise (fun x y => ahd y x = false) ∧ v = .slice o 0 ks.length 15 ∧ Lo = [RL o true (ks.map fun n => (getJ (joinM [] (l ++ l)) n).getD ⟨0, Entry.zero⟩)] := by
  refine sdiff_Join fun H hh => ?_
  dsimp only [cdiff_Join]
  refine walk (k := ?_)
  repeat' first | refine And.intro ?_ ?_ | intro
  all_goals refine leaf ?_
  rename_i mid _ _ lid _ hh
  refine loopN [5, 17, 18, 19] 2 (fun i vs L => vs = [.map mid, .slice lid 0 2 1, .int .i64 2, .int .i64 i] ∧ L = [(lid, .cells true [.slice s 0 l.length 15, .slice s 0 l.length 15]), (mid, .map ((jmAt l l i).map jE)), RL s b l]) (Nx.here ⟨rfl, rfl⟩) ?_
  clear hh
  rintro i _ _ e H hi ⟨rfl, rfl⟩ hh
  simp only [puts]
  have hi3 : i = 0 ∨ i = 1 ∨ i = 2 := by omega
  rcases hi3 with rfl | rfl | rfl
  · skip
    refine walk1 (k := ?_)
    repeat' first | refine And.intro ?_ ?_ | intro
    all_goals refine leaf ?_
    refine loopN [5, 17, 18, 19, 23, 24, 25] l.length (fun j vs L => vs = [.map mid, .slice lid 0 2 1, .int .i64 2, .int .i64 0, .slice s 0 l.length 15, .int .i64 l.length, .int .i64 j] ∧ L = [(lid, .cells true [.slice s 0 l.length 15, .slice s 0 l.length 15]), (mid, .map ((joinM [] (l.take j)).map jE)), RL s b l]) (Nx.here ⟨rfl, rfl⟩) ?_
    clear hh
    rintro j _ _ e H hj ⟨rfl, rfl⟩ hh
    simp only [puts]
    by_cases hn : j < l.length
    · have hst : joinM [] (l.take (j + 1)) = stepJ (joinM [] (l.take j)) (nth l j) := by rw [take_getD hn, joinM_snoc]
      have hf := find_jm (enm (nth l j).e) (joinM [] (l.take j))
      have hpe := putJ_putE (joinM [] (l.take j)) (enm (nth l j).e)
      have hg := gone_prog (enm (nth l j).e)
      refine walk1 (k := ?_)
      repeat' first | refine And.intro ?_ ?_ | intro
      all_goals refine leaf ?_
      refine c_cond_t (by show V.bool _ = _; simp; omega) ?_
      refine walk1 (k := ?_)
      repeat' first | refine And.intro ?_ ?_ | intro
      all_goals refine leaf ?_
      by_cases k1 : (nth l j).kind = 1
      · refine c_cond_t (by show V.bool _ = _; simp [k1]) ?_
        rw [stepJ, if_pos k1] at hst
        refine walk1 (k := ?_)
        repeat' first | refine And.intro ?_ ?_ | intro
        all_goals refine leaf ?_
        rename_i hh
        refine wps_put hh (es := (joinM [] (l.take j)).map jE) (es' := (joinM [] (l.take (j + 1))).map jE) rfl rfl hf (by rw [hst]; exact hpe (nth l j)) (.there (.there (.there .here1))) fun H' hh => ?_
        refine walk1 (k := ?_)
        repeat' first | refine And.intro ?_ ?_ | intro
        all_goals refine leaf ?_
        exact Nx.next hn ⟨rfl, rfl⟩
      · refine c_cond_f (by show V.bool _ = _; simp [k1]) ?_
        refine walk1 (k := ?_)
        repeat' first | refine And.intro ?_ ?_ | intro
        all_goals refine leaf ?_
        by_cases k2 : (nth l j).kind = 2
        · refine c_cond_t (by show V.bool _ = _; simp [k2]) ?_
          rw [stepJ, if_neg k1, if_pos k2] at hst
          refine walk1 (k := ?_)
          repeat' first | refine And.intro ?_ ?_ | intro
          all_goals refine leaf ?_
          refine callE (hg) ?_
          refine walk1 (k := ?_)
          repeat' first | refine And.intro ?_ ?_ | intro
          all_goals refine leaf ?_
          rename_i hh
          refine wps_put hh (es := (joinM [] (l.take j)).map jE) (es' := (joinM [] (l.take (j + 1))).map jE) rfl rfl hf (by rw [hst]; exact hpe (dropR (enm (nth l j).e))) (.there (.there (.there .here1))) fun H' hh => ?_
          refine walk1 (k := ?_)
          repeat' first | refine And.intro ?_ ?_ | intro
          all_goals refine leaf ?_
          exact Nx.next hn ⟨rfl, rfl⟩
        · refine c_cond_f (by show V.bool _ = _; simp [k2]) ?_
          rw [stepJ, if_neg k1, if_neg k2] at hst
          refine walk1 (k := ?_)
          repeat' first | refine And.intro ?_ ?_ | intro
          all_goals refine leaf ?_
          rename_i hh
          rw [← hst] at hh
          exact Nx.next hn ⟨rfl, rfl⟩
    · skip
      refine walk1 (k := ?_)
      repeat' first | refine And.intro ?_ ?_ | intro
      all_goals refine leaf ?_
      refine c_cond_f (by show V.bool _ = _; simp; omega) ?_
      refine walk1 (k := ?_)
      repeat' first | refine And.intro ?_ ?_ | intro
      all_goals refine leaf ?_
      rw [List.take_of_length_le (by omega)] at hh
      rw [show joinM [] l = jmAt l l (0 + 1) from rfl] at hh
      exact Nx.next (by decide) ⟨rfl, rfl⟩
  · skip
    refine walk1 (k := ?_)
    repeat' first | refine And.intro ?_ ?_ | intro
    all_goals refine leaf ?_
    refine loopN [5, 17, 18, 19, 23, 24, 25] l.length (fun j vs L => vs = [.map mid, .slice lid 0 2 1, .int .i64 2, .int .i64 1, .slice s 0 l.length 15, .int .i64 l.length, .int .i64 j] ∧ L = [(lid, .cells true [.slice s 0 l.length 15, .slice s 0 l.length 15]), (mid, .map ((joinM (joinM [] l) (l.take j)).map jE)), RL s b l]) (Nx.here ⟨rfl, rfl⟩) ?_
    clear hh
    rintro j _ _ e H hj ⟨rfl, rfl⟩ hh
    simp only [puts]
    by_cases hn : j < l.length
    · have hst : joinM (joinM [] l) (l.take (j + 1)) = stepJ (joinM (joinM [] l) (l.take j)) (nth l j) := by rw [take_getD hn, joinM_snoc]
      have hf := find_jm (enm (nth l j).e) (joinM (joinM [] l) (l.take j))
      have hpe := putJ_putE (joinM (joinM [] l) (l.take j)) (enm (nth l j).e)
      have hg := gone_prog (enm (nth l j).e)
      refine walk1 (k := ?_)
      repeat' first | refine And.intro ?_ ?_ | intro
      all_goals refine leaf ?_
      refine c_cond_t (by show V.bool _ = _; simp; omega) ?_
      refine walk1 (k := ?_)
      repeat' first | refine And.intro ?_ ?_ | intro
      all_goals refine leaf ?_
      by_cases k1 : (nth l j).kind = 1
      · refine c_cond_t (by show V.bool _ = _; simp [k1]) ?_
        rw [stepJ, if_pos k1] at hst
        refine walk1 (k := ?_)
        repeat' first | refine And.intro ?_ ?_ | intro
        all_goals refine leaf ?_
        rename_i hh
        refine wps_put hh (es := (joinM (joinM [] l) (l.take j)).map jE) (es' := (joinM (joinM [] l) (l.take (j + 1))).map jE) rfl rfl hf (by rw [hst]; exact hpe (nth l j)) (.there (.there (.there .here1))) fun H' hh => ?_
        refine walk1 (k := ?_)
        repeat' first | refine And.intro ?_ ?_ | intro
        all_goals refine leaf ?_
        exact Nx.next hn ⟨rfl, rfl⟩
      · refine c_cond_f (by show V.bool _ = _; simp [k1]) ?_
        refine walk1 (k := ?_)
        repeat' first | refine And.intro ?_ ?_ | intro
        all_goals refine leaf ?_
        by_cases k2 : (nth l j).kind = 2
        · refine c_cond_t (by show V.bool _ = _; simp [k2]) ?_
          rw [stepJ, if_neg k1, if_pos k2] at hst
          refine walk1 (k := ?_)
          repeat' first | refine And.intro ?_ ?_ | intro
          all_goals refine leaf ?_
          refine callE (hg) ?_
          refine walk1 (k := ?_)
          repeat' first | refine And.intro ?_ ?_ | intro
          all_goals refine leaf ?_
          rename_i hh
          refine wps_put hh (es := (joinM (joinM [] l) (l.take j)).map jE) (es' := (joinM (joinM [] l) (l.take (j + 1))).map jE) rfl rfl hf (by rw [hst]; exact hpe (dropR (enm (nth l j).e))) (.there (.there (.there .here1))) fun H' hh => ?_
          refine walk1 (k := ?_)
          repeat' first | refine And.intro ?_ ?_ | intro
          all_goals refine leaf ?_
          exact Nx.next hn ⟨rfl, rfl⟩
        · refine c_cond_f (by show V.bool _ = _; simp [k2]) ?_
          rw [stepJ, if_neg k1, if_neg k2] at hst
          refine walk1 (k := ?_)
          repeat' first | refine And.intro ?_ ?_ | intro
          all_goals refine leaf ?_
          rename_i hh
          rw [← hst] at hh
          exact Nx.next hn ⟨rfl, rfl⟩
    · skip
      refine walk1 (k := ?_)
      repeat' first | refine And.intro ?_ ?_ | intro
      all_goals refine leaf ?_
      refine c_cond_f (by show V.bool _ = _; simp; omega) ?_
      refine walk1 (k := ?_)
      repeat' first | refine And.intro ?_ ?_ | intro
      all_goals refine leaf ?_
      rw [List.take_of_length_le (by omega)] at hh
      rw [show joinM (joinM [] l) l = jmAt l l (1 + 1) by show _ = joinM [] (l ++ l); rw [joinM, joinM, joinM, List.foldl_append]] at hh
      exact Nx.next (by decide) ⟨rfl, rfl⟩
  · skip
    refine walk1 (k := ?_)
    repeat' first | refine And.intro ?_ ?_ | intro
    all_goals refine leaf ?_
    rw [show jmAt l l 2 = joinM [] (l ++ l) from rfl] at hh
    have hjl := joinM_le (l ++ l) []
    rw [List.length_append, List.length_nil, Nat.zero_add] at hjl
    generalize hJM : joinM [] (l ++ l) = jm at hh hjl ⊢
    have hje : jm.map jE = (jm.map fun p => (p.1, V.agg p.2.enc)).map nvE := by rw [List.map_map]; rfl
    have hfst : (jm.map fun p => (p.1, V.agg p.2.enc)).map (·.1) = jm.map (·.1) := by rw [List.map_map]; rfl
    refine callL (keys_prog mid) ?_
    rintro v L' H' ⟨bx, rfl, rfl⟩ hh
    rw [hje] at hh
    refine walk1 (k := ?_)
    repeat' first | refine And.intro ?_ ?_ | intro
    all_goals refine leaf ?_
    refine callL (sortedFunc_prog bx mid (jm.map fun p => (p.1, V.agg p.2.enc)) (by rw [List.length_map]; omega)) ?_
    rintro v L' H' ⟨o, ks, hp, hs, rfl, rfl⟩ hh
    rw [← hje] at hh
    rw [hfst] at hp
    refine walk1 (k := ?_)
    repeat' first | refine And.intro ?_ ?_ | intro
    all_goals refine leaf ?_
    rename_i hh
    have hkl : ks.length ≤ 2000 := by rw [hp.length_eq, List.length_map]; omega
    refine loopN [5, 11, 53, 54, 55] ks.length (fun i vs L => ∃ w, vs = [.map mid, .slice w 0 ((ks.take i).map fun n => (getJ jm n).getD ⟨0, Entry.zero⟩).length 15, .slice o 0 ks.length 2, .int .i64 ks.length, .int .i64 i] ∧ L = [RL w true ((ks.take i).map fun n => (getJ jm n).getD ⟨0, Entry.zero⟩), (mid, .map (jm.map jE)), NL o true ks, RL s b l])
      (Nx.hereW [.map mid, .slice 0 0 0 15, .slice o 0 ks.length 2, .int .i64 ks.length, .int .i64 0] ⟨0, rfl, rfl⟩) ?_
    clear hh
    rintro i _ _ e H hi ⟨w, rfl, rfl⟩ hh
    simp only [puts]
    by_cases hn : i < ks.length
    · obtain ⟨i', rr, f1, f2, f3⟩ := jm_has (hp.mem_iff.1 (nth_mem hn))
      have hf := find_jm (nth ks i) jm
      rw [f1] at hf
      have hst : (ks.take (i + 1)).map (fun n => (getJ jm n).getD ⟨0, Entry.zero⟩) = (ks.take i).map (fun n => (getJ jm n).getD ⟨0, Entry.zero⟩) ++ [rr] := by
        rw [take_getD hn, List.map_append, List.map_singleton, f3]; rfl
      have hlen : ((ks.take i).map fun n => (getJ jm n).getD ⟨0, Entry.zero⟩).length ≤ 2000 := by rw [List.length_map, List.length_take]; omega
      have hint : Hint Rec.enc rr := trivial
      refine walk1 (k := ?_)
      repeat' first | refine And.intro ?_ ?_ | intro
      all_goals refine leaf ?_
      refine c_cond_t (by show V.bool _ = _; simp; omega) ?_
      refine walk1 (k := ?_)
      repeat' first | refine And.intro ?_ ?_ | intro
      all_goals refine leaf ?_
      rename_i hh
      refine wps_lookF hh (es := jm.map jE) (i := i') (e := jE (nth ks i, rr)) rfl (.there (.there .here)) hf (by rw [List.getElem?_map, f2]; rfl) ?_
      refine walk1 (k := ?_)
      repeat' first | refine And.intro ?_ ?_ | intro
      all_goals refine leaf ?_
      rename_i w2 _ hh
      rw [← hst] at hh ⊢
      exact Nx.next hn ⟨w2, rfl, rfl⟩
    · skip
      refine walk1 (k := ?_)
      repeat' first | refine And.intro ?_ ?_ | intro
      all_goals refine leaf ?_
      refine c_cond_f (by show V.bool _ = _; simp; omega) ?_
      refine walk1 (k := ?_)
      repeat' first | refine And.intro ?_ ?_ | intro
      all_goals refine leaf ?_
      rw [List.take_of_length_le (by omega)] at hh ⊢
      rw [List.length_map]
      exact doneN ⟨w, ks, hp, hs, rfl, rfl⟩
end Go.Proofs.Ytebhddpildfgcaa
