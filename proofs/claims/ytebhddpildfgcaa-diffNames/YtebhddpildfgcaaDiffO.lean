/-
  diff: DiffNames.
-/
import Derived.Test.YtebhddpildfgcaaDiffN
namespace Go.Proofs.Ytebhddpildfgcaa
open Go Go.CM
set_option maxRecDepth 100000
set_option maxHeartbeats 4000000

theorem lnames_prog (s t : Nat) (b b' : Bool) (l r : List Entry) : CallsR Try.prog nlaw43_DiffNames [.slice s 0 l.length 14, .slice t 0 r.length 14] [EL s b l, EL t b' r] fun v => v = .bool true := by
  have ha := awake_prog
  have hs1 := small19_prog s b l
  have hs2 := small19_prog t b' r
  refine slaw43_DiffNames fun H hh => ?_
  dsimp only [claw43_DiffNames]
  refine walk1 (k := ?_)
  repeat' first | refine And.intro ?_ ?_ | intro
  all_goals refine leaf ?_
  refine callE (ha) ?_
  refine walk1 (k := ?_)
  repeat' first | refine And.intro ?_ ?_ | intro
  all_goals refine leaf ?_
  refine callR (hs1) ?_
  rintro v ⟨c1, rfl, hc1⟩
  cases c1 with
  | false =>
    refine walk1 (k := ?_)
    repeat' first | refine And.intro ?_ ?_ | intro
    all_goals refine leaf ?_
    exact doneR rfl
  | true =>
  refine walk1 (k := ?_)
  repeat' first | refine And.intro ?_ ?_ | intro
  all_goals refine leaf ?_
  refine callR (hs2) ?_
  rintro v ⟨c2, rfl, hc2⟩
  cases c2 with
  | false =>
    refine walk1 (k := ?_)
    repeat' first | refine And.intro ?_ ?_ | intro
    all_goals refine leaf ?_
    exact doneR rfl
  | true =>
  have hl := hc1 rfl
  have hr := hc2 rfl
  have hXs : Srt (srtL l) := putsL_srt .nil
  have hml := mergeR_len (srtL l) (srtL r)
  have hxl := srtL_le l
  have hyl := srtL_le r
  refine walk1 (k := ?_)
  repeat' first | refine And.intro ?_ ?_ | intro
  all_goals refine leaf ?_
  refine callN (names_prog s t b b' l r (by omega) (by omega)) ?_
  rintro v Lo H' ⟨w0, w1, w2, rfl, rfl⟩ hh
  refine walk1 (k := ?_)
  repeat' first | refine And.intro ?_ ?_ | intro
  all_goals refine leaf ?_
  rename_i la _ hh
  refine callN (rmake_prog s t b b' l r (by omega) (by omega)) ?_
  rintro v Lo H' ⟨o, rfl, rfl⟩ hh
  have hso := rsorted_prog s b l (by omega)
  generalize hM : mergeR (srtL l) (srtL r) = rs at hh hml ⊢
  generalize hX : srtL l = X at hh hXs hxl hso hml ⊢
  refine walk1 (k := ?_)
  repeat' first | refine And.intro ?_ ?_ | intro
  all_goals refine leaf ?_
  rename_i hh
  have hla : la ≠ 0 := hh.ne0 (b := true) (cs := [.nils, .nils, .nils]) (by simp) (by simp)
  obtain ⟨H2, hw, hh2⟩ := Has.wk (((hh.ghost true).ghost true).ghost true) hla (o := .cells true [.nils, .nils, .nils]) (o' := .cells true [.slice 0 0 0 3, .slice 0 0 0 3, .slice 0 0 0 3]) (L' := [(0, .cells true []), (0, .cells true []), (0, .cells true []), RL o true rs, (la, .cells true [.slice 0 0 0 3, .slice 0 0 0 3, .slice 0 0 0 3]), DL w0 true (pkR X rs 0), DL w1 true (pkR X rs 1), DL w2 true (pkR X rs 2), EL s b l, EL t b' r]) (by exact .there (.there (.there (.there .here1)))) (.cells _ _ (Wks.wkp (.cons (Wk.nils 0 3) (.cons (Wk.nils 0 3) (.cons (Wk.nils 0 3) .nil)))))
  refine C.wk (fun _ => Wk.refl _) hw ?_
  refine loopN [0, 5, 6, 7, 8, 36, 37, 38] rs.length (fun i vs L => ∃ u0 u1 u2, vs = [.slice s 0 l.length 14, .slice w0 0 (pkR X rs 0).length 3, .slice w1 0 (pkR X rs 1).length 3, .slice w2 0 (pkR X rs 2).length 3, .ptr la 0, .slice o 0 rs.length 15, .int .i64 rs.length, .int .i64 i] ∧ L = [DL u0 true (pkR X (rs.take i) 0), DL u1 true (pkR X (rs.take i) 1), DL u2 true (pkR X (rs.take i) 2), RL o true rs, (la, .cells true [.slice u0 0 (pkR X (rs.take i) 0).length 3, .slice u1 0 (pkR X (rs.take i) 1).length 3, .slice u2 0 (pkR X (rs.take i) 2).length 3]), DL w0 true (pkR X rs 0), DL w1 true (pkR X rs 1), DL w2 true (pkR X rs 2), EL s b l, EL t b' r])
    (Nx.intro (i := 0) rfl ⟨0, 0, 0, rfl, rfl⟩ hh2) ?_
  clear hh hh2
  rintro i _ _ e H hi ⟨u0, u1, u2, rfl, rfl⟩ hh
  simp only [puts]
  by_cases hn : i < rs.length
  · have hst : ∀ k, pkR X (rs.take (i + 1)) k = if clsR X (nth rs i) = k then pkR X (rs.take i) k ++ [rnm (nth rs i)] else pkR X (rs.take i) k := fun k => by rw [take_getD hn, pkR_snoc]
    have s0 := hst 0
    have s1 := hst 1
    have s2 := hst 2
    have l0 := pkR_le X (rs.take i) 0
    have l1 := pkR_le X (rs.take i) 1
    have l2 := pkR_le X (rs.take i) 2
    rw [List.length_take] at l0 l1 l2
    have hint : Hint dueC (rnm (nth rs i)) := trivial
    refine walk1 (k := ?_)
    repeat' first | refine And.intro ?_ ?_ | intro
    all_goals refine leaf ?_
    refine c_cond_t (by show V.bool _ = _; simp; omega) ?_
    refine walk1 (k := ?_)
    repeat' first | refine And.intro ?_ ?_ | intro
    all_goals refine leaf ?_
    refine callK hso ?_
    rintro v L' H' ⟨Lo, ⟨o5, rfl, rfl⟩, rfl⟩ hh
    have hg := rget_prog o5 true X (rnm (nth rs i)) (by omega) hXs
    refine walk1 (k := ?_)
    repeat' first | refine And.intro ?_ ?_ | intro
    all_goals refine leaf ?_
    refine callE (hg) ?_
    refine walk1 (k := ?_)
    repeat' first | refine And.intro ?_ ?_ | intro
    all_goals refine leaf ?_
    by_cases k2 : (nth rs i).kind = 2
    · have hc : clsR X (nth rs i) = 0 := by rw [clsR, if_pos k2]
      rw [hc] at s0 s1 s2
      rw [if_pos rfl] at s0
      rw [if_neg (by decide)] at s1 s2
      refine c_cond_t (by show V.bool _ = _; simp [k2]) ?_
      refine walk1 (k := ?_)
      repeat' first | refine And.intro ?_ ?_ | intro
      all_goals refine leaf ?_
      rename_i v2 _ _ _ hh
      rw [← s0, ← s1, ← s2] at hh
      exact Nx.next hn ⟨v2, u1, u2, rfl, rfl⟩
    · refine c_cond_f (by show V.bool _ = _; simp [k2]) ?_
      refine walk1 (k := ?_)
      repeat' first | refine And.intro ?_ ?_ | intro
      all_goals refine leaf ?_
      cases hb : (getL X (rnm (nth rs i))).isSome with
      | true =>
        have hc : clsR X (nth rs i) = 2 := by rw [clsR, if_neg k2, if_pos hb]
        rw [hc] at s0 s1 s2
        rw [if_pos rfl] at s2
        rw [if_neg (by decide)] at s0 s1
        refine c_cond_t rfl ?_
        refine walk1 (k := ?_)
        repeat' first | refine And.intro ?_ ?_ | intro
        all_goals refine leaf ?_
        rename_i v2 _ _ _ hh
        rw [← s0, ← s1, ← s2] at hh
        exact Nx.next hn ⟨u0, u1, v2, rfl, rfl⟩
      | false =>
        have hc : clsR X (nth rs i) = 1 := by rw [clsR, if_neg k2, if_neg (by rw [hb]; simp)]
        rw [hc] at s0 s1 s2
        rw [if_pos rfl] at s1
        rw [if_neg (by decide)] at s0 s2
        refine c_cond_f rfl ?_
        refine walk1 (k := ?_)
        repeat' first | refine And.intro ?_ ?_ | intro
        all_goals refine leaf ?_
        rename_i v2 _ _ _ hh
        rw [← s0, ← s1, ← s2] at hh
        exact Nx.next hn ⟨u0, v2, u2, rfl, rfl⟩
  · skip
    refine walk1 (k := ?_)
    repeat' first | refine And.intro ?_ ?_ | intro
    all_goals refine leaf ?_
    refine c_cond_f (by show V.bool _ = _; simp; omega) ?_
    refine walk1 (k := ?_)
    repeat' first | refine And.intro ?_ ?_ | intro
    all_goals refine leaf ?_
    rename_i lid _ hh
    rw [List.take_of_length_le (by omega)] at hh
    have hpl := pkR_le X rs
    generalize hP : pkR X rs = pk at hh hpl ⊢
    refine loopN [5, 6, 7, 8, 87, 88, 89] 3 (fun i vs L => vs = [.slice w0 0 (pk 0).length 3, .slice w1 0 (pk 1).length 3, .slice w2 0 (pk 2).length 3, .ptr la 0, .slice lid 0 3 1, .int .i64 3, .int .i64 i] ∧ L = [(lid, .cells true [.slice w0 0 (pk 0).length 3, .slice w1 0 (pk 1).length 3, .slice w2 0 (pk 2).length 3]), (la, .cells true [.slice u0 0 (pk 0).length 3, .slice u1 0 (pk 1).length 3, .slice u2 0 (pk 2).length 3]), DL u0 true (pk 0), DL u1 true (pk 1), DL u2 true (pk 2), DL w0 true (pk 0), DL w1 true (pk 1), DL w2 true (pk 2), EL s b l, EL t b' r]) (Nx.here ⟨rfl, rfl⟩) ?_
    clear hh
    rintro i _ _ e H hi ⟨rfl, rfl⟩ hh
    simp only [puts]
    have p0 := hpl 0
    have p1 := hpl 1
    have p2 := hpl 2
    have hi4 : i = 0 ∨ i = 1 ∨ i = 2 ∨ i = 3 := by omega
    rcases hi4 with rfl | rfl | rfl | rfl
    · skip
      refine walk1 (k := ?_)
      repeat' first | refine And.intro ?_ ?_ | intro
      all_goals refine leaf ?_
      refine c_cond_f (by show V.bool _ = _; simp) ?_
      refine walk1 (k := ?_)
      repeat' first | refine And.intro ?_ ?_ | intro
      all_goals refine leaf ?_
      refine loopN [5, 6, 7, 8, 14, 15, 87, 88, 89, 102, 103] (pk 0).length (fun j vs L => vs = [.slice w0 0 (pk 0).length 3, .slice w1 0 (pk 1).length 3, .slice w2 0 (pk 2).length 3, .ptr la 0, .int .i64 0, .slice w0 0 (pk 0).length 3, .slice lid 0 3 1, .int .i64 3, .int .i64 0, .int .i64 (pk 0).length, .int .i64 j] ∧ L = [(lid, .cells true [.slice w0 0 (pk 0).length 3, .slice w1 0 (pk 1).length 3, .slice w2 0 (pk 2).length 3]), (la, .cells true [.slice u0 0 (pk 0).length 3, .slice u1 0 (pk 1).length 3, .slice u2 0 (pk 2).length 3]), DL u0 true (pk 0), DL u1 true (pk 1), DL u2 true (pk 2), DL w0 true (pk 0), DL w1 true (pk 1), DL w2 true (pk 2), EL s b l, EL t b' r]) (Nx.here ⟨rfl, rfl⟩) ?_
      clear hh
      rintro j _ _ e H hj ⟨rfl, rfl⟩ hh
      simp only [puts]
      by_cases hn : j < (pk 0).length
      · skip
        refine walk1 (k := ?_)
        repeat' first | refine And.intro ?_ ?_ | intro
        all_goals refine leaf ?_
        refine c_cond_t (by show V.bool _ = _; simp; omega) ?_
        refine walk1 (k := ?_)
        repeat' first | refine And.intro ?_ ?_ | intro
        all_goals refine leaf ?_
        refine c_cond_f (by show V.bool (!dueB (nth (pk 0) j) (nth (pk 0) j)) = _; rw [dueB_refl]; rfl) ?_
        refine walk1 (k := ?_)
        repeat' first | refine And.intro ?_ ?_ | intro
        all_goals refine leaf ?_
        exact Nx.next hn ⟨rfl, rfl⟩
      · skip
        refine walk1 (k := ?_)
        repeat' first | refine And.intro ?_ ?_ | intro
        all_goals refine leaf ?_
        refine c_cond_f (by show V.bool _ = _; simp; omega) ?_
        refine walk1 (k := ?_)
        repeat' first | refine And.intro ?_ ?_ | intro
        all_goals refine leaf ?_
        exact Nx.next (by decide) ⟨rfl, rfl⟩
    · skip
      refine walk1 (k := ?_)
      repeat' first | refine And.intro ?_ ?_ | intro
      all_goals refine leaf ?_
      refine c_cond_f (by show V.bool _ = _; simp) ?_
      refine walk1 (k := ?_)
      repeat' first | refine And.intro ?_ ?_ | intro
      all_goals refine leaf ?_
      refine loopN [5, 6, 7, 8, 14, 15, 87, 88, 89, 102, 103] (pk 1).length (fun j vs L => vs = [.slice w0 0 (pk 0).length 3, .slice w1 0 (pk 1).length 3, .slice w2 0 (pk 2).length 3, .ptr la 0, .int .i64 1, .slice w1 0 (pk 1).length 3, .slice lid 0 3 1, .int .i64 3, .int .i64 1, .int .i64 (pk 1).length, .int .i64 j] ∧ L = [(lid, .cells true [.slice w0 0 (pk 0).length 3, .slice w1 0 (pk 1).length 3, .slice w2 0 (pk 2).length 3]), (la, .cells true [.slice u0 0 (pk 0).length 3, .slice u1 0 (pk 1).length 3, .slice u2 0 (pk 2).length 3]), DL u0 true (pk 0), DL u1 true (pk 1), DL u2 true (pk 2), DL w0 true (pk 0), DL w1 true (pk 1), DL w2 true (pk 2), EL s b l, EL t b' r]) (Nx.here ⟨rfl, rfl⟩) ?_
      clear hh
      rintro j _ _ e H hj ⟨rfl, rfl⟩ hh
      simp only [puts]
      by_cases hn : j < (pk 1).length
      · skip
        refine walk1 (k := ?_)
        repeat' first | refine And.intro ?_ ?_ | intro
        all_goals refine leaf ?_
        refine c_cond_t (by show V.bool _ = _; simp; omega) ?_
        refine walk1 (k := ?_)
        repeat' first | refine And.intro ?_ ?_ | intro
        all_goals refine leaf ?_
        refine c_cond_f (by show V.bool (!dueB (nth (pk 1) j) (nth (pk 1) j)) = _; rw [dueB_refl]; rfl) ?_
        refine walk1 (k := ?_)
        repeat' first | refine And.intro ?_ ?_ | intro
        all_goals refine leaf ?_
        exact Nx.next hn ⟨rfl, rfl⟩
      · skip
        refine walk1 (k := ?_)
        repeat' first | refine And.intro ?_ ?_ | intro
        all_goals refine leaf ?_
        refine c_cond_f (by show V.bool _ = _; simp; omega) ?_
        refine walk1 (k := ?_)
        repeat' first | refine And.intro ?_ ?_ | intro
        all_goals refine leaf ?_
        exact Nx.next (by decide) ⟨rfl, rfl⟩
    · skip
      refine walk1 (k := ?_)
      repeat' first | refine And.intro ?_ ?_ | intro
      all_goals refine leaf ?_
      refine c_cond_f (by show V.bool _ = _; simp) ?_
      refine walk1 (k := ?_)
      repeat' first | refine And.intro ?_ ?_ | intro
      all_goals refine leaf ?_
      refine loopN [5, 6, 7, 8, 14, 15, 87, 88, 89, 102, 103] (pk 2).length (fun j vs L => vs = [.slice w0 0 (pk 0).length 3, .slice w1 0 (pk 1).length 3, .slice w2 0 (pk 2).length 3, .ptr la 0, .int .i64 2, .slice w2 0 (pk 2).length 3, .slice lid 0 3 1, .int .i64 3, .int .i64 2, .int .i64 (pk 2).length, .int .i64 j] ∧ L = [(lid, .cells true [.slice w0 0 (pk 0).length 3, .slice w1 0 (pk 1).length 3, .slice w2 0 (pk 2).length 3]), (la, .cells true [.slice u0 0 (pk 0).length 3, .slice u1 0 (pk 1).length 3, .slice u2 0 (pk 2).length 3]), DL u0 true (pk 0), DL u1 true (pk 1), DL u2 true (pk 2), DL w0 true (pk 0), DL w1 true (pk 1), DL w2 true (pk 2), EL s b l, EL t b' r]) (Nx.here ⟨rfl, rfl⟩) ?_
      clear hh
      rintro j _ _ e H hj ⟨rfl, rfl⟩ hh
      simp only [puts]
      by_cases hn : j < (pk 2).length
      · skip
        refine walk1 (k := ?_)
        repeat' first | refine And.intro ?_ ?_ | intro
        all_goals refine leaf ?_
        refine c_cond_t (by show V.bool _ = _; simp; omega) ?_
        refine walk1 (k := ?_)
        repeat' first | refine And.intro ?_ ?_ | intro
        all_goals refine leaf ?_
        refine c_cond_f (by show V.bool (!dueB (nth (pk 2) j) (nth (pk 2) j)) = _; rw [dueB_refl]; rfl) ?_
        refine walk1 (k := ?_)
        repeat' first | refine And.intro ?_ ?_ | intro
        all_goals refine leaf ?_
        exact Nx.next hn ⟨rfl, rfl⟩
      · skip
        refine walk1 (k := ?_)
        repeat' first | refine And.intro ?_ ?_ | intro
        all_goals refine leaf ?_
        refine c_cond_f (by show V.bool _ = _; simp; omega) ?_
        refine walk1 (k := ?_)
        repeat' first | refine And.intro ?_ ?_ | intro
        all_goals refine leaf ?_
        exact Nx.next (by decide) ⟨rfl, rfl⟩
    · skip
      refine walk1 (k := ?_)
      repeat' first | refine And.intro ?_ ?_ | intro
      all_goals refine leaf ?_
      exact doneR rfl
theorem walkDiffNames (vs : List V) (H : Heap) (hg : Givens H 1 [.rows entCK, .rows entCK] vs) (_ : ∀ id o, H id = some o → o.rw = false) : CallsC Try.prog nlaw43_DiffNames vs H fun v _ => v = .bool true := by
  obtain ⟨_, vs, rfl, ⟨rs, hf, hlen, hr⟩, hg2⟩ := hg.cons
  obtain ⟨_, vs, rfl, ⟨rs2, hf2, hlen2, hr2⟩, hg3⟩ := hg2.cons
  obtain rfl := hg3.nil
  obtain ⟨l, rfl⟩ := rowsOf Entry.enc (fun r hr => entOf (hf r hr))
  obtain ⟨r, rfl⟩ := rowsOf Entry.enc (fun r hr => entOf (hf2 r hr))
  obtain ⟨s, rfl, hs1, hs⟩ := givenRowsA hr
  obtain ⟨t, rfl, ht1, ht⟩ := givenRowsA hr2
  have hh := hs _ (ht [] (Has.nil H) (by simp)) (by simp; omega)
  exact (CallsR.reads (R := []) (lnames_prog s t false false l r) hh).mono fun _ _ h => h.1
end Go.Proofs.Ytebhddpildfgcaa
