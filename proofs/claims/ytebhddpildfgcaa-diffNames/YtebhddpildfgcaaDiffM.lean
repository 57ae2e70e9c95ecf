/-
  diff: the document's Join; DiffJoins.
-/
import Derived.Test.YtebhddpildfgcaaDiffL
import Derived.Test.YtebhddpildfgcaaCmG
namespace Go.Proofs.Ytebhddpildfgcaa
open Go Go.CM
set_option maxRecDepth 100000
set_option maxHeartbeats 4000000

theorem nmsE_snoc (rs : List Rec) (r : Rec) : nmsE (rs ++ [r]) = if cng r = true then putL (nmsE rs) (dropE (rnm r)) else nmsE rs := by
  unfold nmsE
  rw [List.filter_append, List.map_append, srtL, putsL, List.foldl_append]
  by_cases h : cng r = true
  · rw [if_pos h]; simp [h]; rfl
  · rw [if_neg h]; simp [h]; rfl
theorem nmsE_le (rs : List Rec) : (nmsE rs).length ≤ rs.length := by
  have h1 := srtL_le ((rs.filter cng).map fun r => dropE (rnm r))
  have h2 := List.length_filter_le cng rs
  rw [List.length_map] at h1
  exact Nat.le_trans h1 h2
theorem lastF_snoc (o : Option Rec) (rs : List Rec) (r : Rec) (n : Nm) : lastF o (rs ++ [r]) n = stepO n (lastF o rs n) r := by rw [lastF, List.foldl_append]; rfl
def lastD (rs : List Rec) (n : Nm) : Rec := (lastR rs n).getD zrec
theorem rjoin_prog (s t : Nat) (b b' : Bool) (l r : List Rec) (hl : l.length ≤ 1000) (hr : r.length ≤ 1000) : CallsN Try.prog nref43_Join [.slice s 0 l.length 15, .slice t 0 r.length 15] [RL s b l, RL t b' r] fun v Lo => ∃ o, v = .slice o 0 (joinR (l ++ r)).length 15 ∧ Lo = [RL o true (joinR (l ++ r))] := by
  refine sref43_Join fun H hh => ?_
  dsimp only [cref43_Join]
  refine walk (k := ?_)
  repeat' first | refine And.intro ?_ ?_ | intro
  all_goals refine leaf ?_
  rename_i hh
  refine wps_approw hh l (l := ([] : List Rec)) (enc := Rec.enc) (m := 14) (L' := fun o => [RL o true ([] ++ l), RL s b l, RL t b' r]) rfl rfl (.there .here) (fun _ => rfl) (fun o => .here1) (by simp; omega) fun o1 _ hh => ?_
  rw [List.nil_append] at hh ⊢
  refine walk1 (k := ?_)
  repeat' first | refine And.intro ?_ ?_ | intro
  all_goals refine leaf ?_
  refine wps_approw hh r (l := l) (enc := Rec.enc) (m := 14) (L' := fun o => [RL o true (l ++ r), RL s b l, RL t b' r]) rfl rfl (.there (.there .here)) (fun _ => rfl) (fun o => .here1) (by omega) fun o _ hh => ?_
  have hal : (l ++ r).length ≤ 2000 := by rw [List.length_append]; omega
  generalize hA : l ++ r = all at hh hal ⊢
  refine walk1 (k := ?_)
  repeat' first | refine And.intro ?_ ?_ | intro
  all_goals refine leaf ?_
  rename_i hh
  refine loopN [5, 6, 7] all.length (fun i vs L => ∃ w, vs = [.slice o 0 all.length 15, .slice w 0 (nmsE (all.take i)).length 14, .int .i64 i] ∧ L = [EL w true (nmsE (all.take i)), RL o true all, RL s b l, RL t b' r])
    (Nx.hereW [.slice o 0 all.length 15, .slice 0 0 0 14, .int .i64 0] ⟨0, rfl, rfl⟩) ?_
  clear hh
  rintro i _ _ e H hi ⟨w, rfl, rfl⟩ hh
  simp only [puts]
  by_cases hn : i < all.length
  · have hle := nmsE_le (all.take i)
    rw [List.length_take] at hle
    have hst : nmsE (all.take (i + 1)) = if cng (nth all i) = true then putL (nmsE (all.take i)) (dropE (rnm (nth all i))) else nmsE (all.take i) := by rw [take_getD hn, nmsE_snoc]
    have hput := rput_prog w true (nmsE (all.take i)) (dropE (rnm (nth all i))) (by omega)
    refine walk1 (k := ?_)
    repeat' first | refine And.intro ?_ ?_ | intro
    all_goals refine leaf ?_
    refine c_cond_t (by show V.bool _ = _; simp; omega) ?_
    refine walk1 (k := ?_)
    repeat' first | refine And.intro ?_ ?_ | intro
    all_goals refine leaf ?_
    by_cases k1 : (nth all i).kind = 1
    · refine wps_slot (s := 30) (v := .bool true) (by show V.bool _ = _; simp [k1]) ?_
      rw [if_pos (by simp [cng, k1])] at hst
      refine walk1 (k := ?_)
      repeat' first | refine And.intro ?_ ?_ | intro
      all_goals refine leaf ?_
      refine callN (hput) ?_
      rintro v Lo H' ⟨w2, rfl, rfl⟩ hh
      rw [← hst] at hh ⊢
      refine walk1 (k := ?_)
      repeat' first | refine And.intro ?_ ?_ | intro
      all_goals refine leaf ?_
      exact Nx.next hn ⟨w2, rfl, rfl⟩
    · refine wps_slot (s := 30) (v := .bool false) (by show V.bool _ = _; simp [k1]) ?_
      refine walk1 (k := ?_)
      repeat' first | refine And.intro ?_ ?_ | intro
      all_goals refine leaf ?_
      by_cases k2 : (nth all i).kind = 2
      · refine c_cond_t (by show V.bool _ = _; simp [k2]) ?_
        rw [if_pos (by simp [cng, k2])] at hst
        refine walk1 (k := ?_)
        repeat' first | refine And.intro ?_ ?_ | intro
        all_goals refine leaf ?_
        refine callN (hput) ?_
        rintro v Lo H' ⟨w2, rfl, rfl⟩ hh
        rw [← hst] at hh ⊢
        refine walk1 (k := ?_)
        repeat' first | refine And.intro ?_ ?_ | intro
        all_goals refine leaf ?_
        exact Nx.next hn ⟨w2, rfl, rfl⟩
      · refine c_cond_f (by show V.bool _ = _; simp [k2]) ?_
        rw [if_neg (by simp [cng, k1, k2])] at hst
        rw [← hst] at hh ⊢
        refine walk1 (k := ?_)
        repeat' first | refine And.intro ?_ ?_ | intro
        all_goals refine leaf ?_
        exact Nx.next hn ⟨w, rfl, rfl⟩
  · skip
    refine walk1 (k := ?_)
    repeat' first | refine And.intro ?_ ?_ | intro
    all_goals refine leaf ?_
    refine c_cond_f (by show V.bool _ = _; simp; omega) ?_
    refine walk1 (k := ?_)
    repeat' first | refine And.intro ?_ ?_ | intro
    all_goals refine leaf ?_
    have hnl := nmsE_le all
    rw [List.take_of_length_le (by omega)] at hh ⊢
    have hJ : joinR all = (nmsE all).map fun x => lastD all (enm x) := by rw [joinR, List.map_map]; rfl
    rw [hJ]
    generalize hN : nmsE all = ns at hh hnl ⊢
    refine loopN [5, 6, 8, 9] ns.length (fun i vs L => ∃ u, vs = [.slice o 0 all.length 15, .slice w 0 ns.length 14, .slice u 0 ((ns.take i).map fun x => lastD all (enm x)).length 15, .int .i64 i] ∧ L = [RL u true ((ns.take i).map fun x => lastD all (enm x)), EL w true ns, RL o true all, RL s b l, RL t b' r])
      (Nx.hereW [.slice o 0 all.length 15, .slice w 0 ns.length 14, .slice 0 0 0 15, .int .i64 0] ⟨0, rfl, rfl⟩) ?_
    clear hh
    rintro i _ _ e H hi ⟨u, rfl, rfl⟩ hh
    simp only [puts]
    by_cases hn : i < ns.length
    · have hst : (ns.take (i + 1)).map (fun x => lastD all (enm x)) = (ns.take i).map (fun x => lastD all (enm x)) ++ [lastD all (enm (nth ns i))] := by rw [take_getD hn, List.map_append]; rfl
      have hlen : ((ns.take i).map fun x => lastD all (enm x)).length ≤ 2000 := by rw [List.length_map, List.length_take]; omega
      refine walk1 (k := ?_)
      repeat' first | refine And.intro ?_ ?_ | intro
      all_goals refine leaf ?_
      refine c_cond_t (by show V.bool _ = _; simp; omega) ?_
      refine walk1 (k := ?_)
      repeat' first | refine And.intro ?_ ?_ | intro
      all_goals refine leaf ?_
      rename_i la _ _ _ hh
      refine loopN [5, 6, 8, 9, 10, 11] all.length (fun j vs L => vs = [.slice o 0 all.length 15, .slice w 0 ns.length 14, .slice u 0 ((ns.take i).map fun x => lastD all (enm x)).length 15, .int .i64 i, .ptr la 0, .int .i64 j] ∧ L = [(la, .cells true (lastD (all.take j) (enm (nth ns i))).enc), RL u true ((ns.take i).map fun x => lastD all (enm x)), EL w true ns, RL o true all, RL s b l, RL t b' r])
        (Nx.here ⟨rfl, rfl⟩) ?_
      clear hh
      rintro j _ _ e H hj ⟨rfl, rfl⟩ hh
      simp only [puts]
      by_cases hm : j < all.length
      · have hst2 : lastD (all.take (j + 1)) (enm (nth ns i)) = if rnm (nth all j) = enm (nth ns i) then (if (nth all j).kind = 1 then nth all j else if (nth all j).kind = 2 then dropR (enm (nth ns i)) else lastD (all.take j) (enm (nth ns i))) else lastD (all.take j) (enm (nth ns i)) := by
          rw [lastD, take_getD hm, lastR, lastF_snoc, stepO]
          repeat' split
          all_goals rfl
        have hd := rdropr_prog (nth all j).e
        refine walk1 (k := ?_)
        repeat' first | refine And.intro ?_ ?_ | intro
        all_goals refine leaf ?_
        refine c_cond_t (by show V.bool _ = _; simp; omega) ?_
        refine walk1 (k := ?_)
        repeat' first | refine And.intro ?_ ?_ | intro
        all_goals refine leaf ?_
        by_cases ht : (nth all j).e.tenant = (nth ns i).tenant
        · refine wps_slot (s := 79) (v := .bool false) (by show V.bool _ = _; simp [ht]) ?_
          refine walk1 (k := ?_)
          repeat' first | refine And.intro ?_ ?_ | intro
          all_goals refine leaf ?_
          by_cases hk : (nth all j).e.key = (nth ns i).key
          · refine c_cond_f (by show V.bool _ = _; simp [hk]) ?_
            have hnm : rnm (nth all j) = enm (nth ns i) := Prod.ext ht hk
            rw [if_pos hnm] at hst2
            refine walk1 (k := ?_)
            repeat' first | refine And.intro ?_ ?_ | intro
            all_goals refine leaf ?_
            by_cases k1 : (nth all j).kind = 1
            · refine c_cond_t (by show V.bool _ = _; simp [k1]) ?_
              rw [if_pos k1] at hst2
              refine walk1 (k := ?_)
              repeat' first | refine And.intro ?_ ?_ | intro
              all_goals refine leaf ?_
              refine c_cond_f (by show V.bool _ = _; simp [k1]) ?_
              refine walk1 (k := ?_)
              repeat' first | refine And.intro ?_ ?_ | intro
              all_goals refine leaf ?_
              rename_i hh
              exact Nx.next hm ⟨rfl, by rw [hst2]⟩
            · refine c_cond_f (by show V.bool _ = _; simp [k1]) ?_
              rw [if_neg k1] at hst2
              refine walk1 (k := ?_)
              repeat' first | refine And.intro ?_ ?_ | intro
              all_goals refine leaf ?_
              by_cases k2 : (nth all j).kind = 2
              · refine c_cond_t (by show V.bool _ = _; simp [k2]) ?_
                rw [if_pos k2, ← hnm] at hst2
                refine walk1 (k := ?_)
                repeat' first | refine And.intro ?_ ?_ | intro
                all_goals refine leaf ?_
                refine callE (hd) ?_
                refine walk1 (k := ?_)
                repeat' first | refine And.intro ?_ ?_ | intro
                all_goals refine leaf ?_
                rename_i hh
                exact Nx.next hm ⟨rfl, by rw [← hnm, hst2]⟩
              · refine c_cond_f (by show V.bool _ = _; simp [k2]) ?_
                rw [if_neg k2] at hst2
                refine walk1 (k := ?_)
                repeat' first | refine And.intro ?_ ?_ | intro
                all_goals refine leaf ?_
                rename_i hh
                exact Nx.next hm ⟨rfl, by rw [hst2]⟩
          · refine c_cond_t (by show V.bool _ = _; simp [hk]) ?_
            rw [if_neg (fun h => hk (congrArg Prod.snd h))] at hst2
            refine walk1 (k := ?_)
            repeat' first | refine And.intro ?_ ?_ | intro
            all_goals refine leaf ?_
            rename_i hh
            exact Nx.next hm ⟨rfl, by rw [hst2]⟩
        · refine wps_slot (s := 79) (v := .bool true) (by show V.bool _ = _; simp [ht]) ?_
          rw [if_neg (fun h => ht (congrArg Prod.fst h))] at hst2
          refine walk1 (k := ?_)
          repeat' first | refine And.intro ?_ ?_ | intro
          all_goals refine leaf ?_
          rename_i hh
          exact Nx.next hm ⟨rfl, by rw [hst2]⟩
      · rw [List.take_of_length_le (by omega)] at hh
        have hint : Hint Rec.enc (lastD all (enm (nth ns i))) := trivial
        refine walk1 (k := ?_)
        repeat' first | refine And.intro ?_ ?_ | intro
        all_goals refine leaf ?_
        refine c_cond_f (by show V.bool _ = _; simp; omega) ?_
        refine walk1 (k := ?_)
        repeat' first | refine And.intro ?_ ?_ | intro
        all_goals refine leaf ?_
        rename_i u2 _ hh
        rw [← hst] at hh ⊢
        exact Nx.next hn ⟨u2, rfl, rfl⟩
    · skip
      refine walk1 (k := ?_)
      repeat' first | refine And.intro ?_ ?_ | intro
      all_goals refine leaf ?_
      refine c_cond_f (by show V.bool _ = _; simp; omega) ?_
      refine walk1 (k := ?_)
      repeat' first | refine And.intro ?_ ?_ | intro
      all_goals refine leaf ?_
      rw [List.take_of_length_le (by omega)] at hh ⊢
      exact doneN ⟨u, rfl, rfl⟩
theorem djoinJ_prog (s t : Nat) (b b' : Bool) (l r : List Rec) (hl : l.length ≤ 1000) (hr : r.length ≤ 1000) : CallsN Try.prog ndiff_Join [.slice s 0 l.length 15, .slice t 0 r.length 15] [RL s b l, RL t b' r] fun v Lo => ∃ o, v = .slice o 0 (joinR (l ++ r)).length 15 ∧ Lo = [RL o true (joinR (l ++ r))] :=
  (djoin_prog s t b b' l r hl hr).mono fun v L' ⟨Lo, ⟨o, ks, hp, hs, h1, h2⟩, h3⟩ => by
    have hj := join_is hp hs
    rw [hj] at h2
    have hlen : ks.length = (joinR (l ++ r)).length := by rw [← hj, List.length_map]
    rw [hlen] at h1
    exact ⟨Lo, ⟨o, h1, h2⟩, h3⟩
theorem joinR_le (rs : List Rec) : (joinR rs).length ≤ rs.length := by
  rw [joinR, List.length_map, List.length_map]
  exact nmsE_le rs
theorem joins_prog (s t u : Nat) (b b' b3 : Bool) (a : List Entry) (l m : List Rec) : CallsR Try.prog nlaw43_DiffJoins [.slice s 0 a.length 14, .slice t 0 l.length 15, .slice u 0 m.length 15] [EL s b a, RL t b' l, RL u b3 m] fun v => v = .bool true := by
  have ha := awake_prog
  have hs1 := small19_prog s b a
  have hs2 := small18_prog t b' l
  have hs3 := small18_prog u b3 m
  refine slaw43_DiffJoins fun H hh => ?_
  dsimp only [claw43_DiffJoins]
  refine walk1 (k := ?_)
  repeat' first | refine And.intro ?_ ?_ | intro
  all_goals refine leaf ?_
  refine callE (ha) ?_
  refine walk1 (k := ?_)
  repeat' first | refine And.intro ?_ ?_ | intro
  all_goals refine leaf ?_
  refine callR (hs1) ?_
  rintro v ⟨c1, rfl, hc1⟩
  cases c1 with
  | false =>
    refine walk1 (k := ?_)
    repeat' first | refine And.intro ?_ ?_ | intro
    all_goals refine leaf ?_
    exact doneR rfl
  | true =>
    refine walk1 (k := ?_)
    repeat' first | refine And.intro ?_ ?_ | intro
    all_goals refine leaf ?_
    refine callR (hs2) ?_
    rintro v ⟨c2, rfl, hc2⟩
    cases c2 with
    | false =>
      refine walk1 (k := ?_)
      repeat' first | refine And.intro ?_ ?_ | intro
      all_goals refine leaf ?_
      exact doneR rfl
    | true =>
      refine walk1 (k := ?_)
      repeat' first | refine And.intro ?_ ?_ | intro
      all_goals refine leaf ?_
      refine callR (hs3) ?_
      rintro v ⟨c3, rfl, hc3⟩
      cases c3 with
      | false =>
        refine walk1 (k := ?_)
        repeat' first | refine And.intro ?_ ?_ | intro
        all_goals refine leaf ?_
        exact doneR rfl
      | true =>
        have hl := hc1 rfl
        have hr := hc2 rfl
        have hq := hc3 rfl
        have hXs : Srt (srtL a) := putsL_srt .nil
        have h1 := srtL_le a
        have hjl := joinR_le (l ++ m)
        rw [List.length_append] at hjl
        have hj := apply_joined hXs (l ++ m)
        have hj2 : applyL (srtL a) (l ++ m) = applyL (applyL (srtL a) l) m := by rw [applyL, List.foldl_append]; rfl
        have hid := joinR_id (l ++ m)
        have hX2 : Srt (applyL (srtL a) l) := applyL_srt l hXs
        have hal := applyL_le l (srtL a)
        have hal2 := applyL_le m (applyL (srtL a) l)
        refine walk1 (k := ?_)
        repeat' first | refine And.intro ?_ ?_ | intro
        all_goals refine leaf ?_
        refine callN (djoinJ_prog t u b' b3 l m (by omega) (by omega)) ?_
        rintro v Lo H' ⟨o, rfl, rfl⟩ hh
        refine walk1 (k := ?_)
        repeat' first | refine And.intro ?_ ?_ | intro
        all_goals refine leaf ?_
        refine callN (rjoin_prog t u b' b3 l m (by omega) (by omega)) ?_
        rintro v Lo H' ⟨o2, rfl, rfl⟩ hh
        refine walk1 (k := ?_)
        repeat' first | refine And.intro ?_ ?_ | intro
        all_goals refine leaf ?_
        generalize hJ : joinR (l ++ m) = J at hh hj hjl hid ⊢
        refine callE (rsameR_prog o o2 true true J J (by omega)) ?_
        refine walk1 (k := ?_)
        repeat' first | refine And.intro ?_ ?_ | intro
        all_goals refine leaf ?_
        refine wps_slot (s := 31) (v := .bool true) (by show V.bool _ = _; simp) ?_
        refine walk1 (k := ?_)
        repeat' first | refine And.intro ?_ ?_ | intro
        all_goals refine leaf ?_
        refine callN (dapply_prog s o b true a J (by omega) (by omega)) ?_
        rintro v Lo H' ⟨o3, rfl, rfl⟩ hh
        rw [hj, hj2] at hh ⊢
        refine walk1 (k := ?_)
        repeat' first | refine And.intro ?_ ?_ | intro
        all_goals refine leaf ?_
        refine callN (dapply_prog s t b b' a l (by omega) (by omega)) ?_
        rintro v Lo H' ⟨o4, rfl, rfl⟩ hh
        refine walk1 (k := ?_)
        repeat' first | refine And.intro ?_ ?_ | intro
        all_goals refine leaf ?_
        refine callN (dapply_prog o4 u true b3 (applyL (srtL a) l) m (by omega) (by omega)) ?_
        rintro v Lo H' ⟨o5, rfl, rfl⟩ hh
        rw [srtL_id hX2] at hh ⊢
        refine walk1 (k := ?_)
        repeat' first | refine And.intro ?_ ?_ | intro
        all_goals refine leaf ?_
        refine callE (rsameE_prog o3 o5 true true (applyL (applyL (srtL a) l) m) (applyL (applyL (srtL a) l) m) (by omega)) ?_
        refine walk1 (k := ?_)
        repeat' first | refine And.intro ?_ ?_ | intro
        all_goals refine leaf ?_
        refine wps_slot (s := 42) (v := .bool true) (by show V.bool _ = _; simp) ?_
        refine walk1 (k := ?_)
        repeat' first | refine And.intro ?_ ?_ | intro
        all_goals refine leaf ?_
        have hjn : CallsN Try.prog ndiff_Join [.slice o 0 J.length 15, .nils] [RL o true J] fun v Lo => ∃ o', v = .slice o' 0 J.length 15 ∧ Lo = [RL o' true J] := by
          have := djoinJ_prog o 0 true true J [] (by omega) (by simp)
          rw [List.append_nil, hid] at this
          exact CallsN.nilArg (b := true) (.cons (Wk.refl _) (.cons (Wk.nils 0 15) .nil)) this
        refine callN (hjn) ?_
        rintro v Lo H' ⟨o6, rfl, rfl⟩ hh
        refine walk1 (k := ?_)
        repeat' first | refine And.intro ?_ ?_ | intro
        all_goals refine leaf ?_
        refine callE (rsameR_prog o6 o true true J J (by omega)) ?_
        refine walk1 (k := ?_)
        repeat' first | refine And.intro ?_ ?_ | intro
        all_goals refine leaf ?_
        exact doneR (by simp)
theorem walkDiffJoins (vs : List V) (H : Heap) (hg : Givens H 1 [.rows entCK, .rows (.i .i64 :: entCK), .rows (.i .i64 :: entCK)] vs) (_ : ∀ id o, H id = some o → o.rw = false) : CallsC Try.prog nlaw43_DiffJoins vs H fun v _ => v = .bool true := by
  obtain ⟨_, vs, rfl, ⟨rs, hf, hlen, hr⟩, hg2⟩ := hg.cons
  obtain ⟨_, vs, rfl, ⟨rs2, hf2, hlen2, hr2⟩, hg3⟩ := hg2.cons
  obtain ⟨_, vs, rfl, ⟨rs3, hf3, hlen3, hr3⟩, hg4⟩ := hg3.cons
  obtain rfl := hg4.nil
  obtain ⟨l, rfl⟩ := rowsOf Entry.enc (fun r hr => entOf (hf r hr))
  obtain ⟨r, rfl⟩ := rowsOf Rec.enc (fun r hr => recOfCK (hf2 r hr))
  obtain ⟨q, rfl⟩ := rowsOf Rec.enc (fun r hr => recOfCK (hf3 r hr))
  obtain ⟨s, rfl, hs1, hs⟩ := givenRowsA hr
  obtain ⟨t, rfl, ht1, ht⟩ := givenRowsA hr2
  obtain ⟨u, rfl, hu1, hu⟩ := givenRowsA hr3
  have hh := hs _ (ht _ (hu [] (Has.nil H) (by simp)) (by simp; omega)) (by simp; omega)
  exact (CallsR.reads (R := []) (joins_prog s t u false false false l r q) hh).mono fun _ _ h => h.1
end Go.Proofs.Ytebhddpildfgcaa
