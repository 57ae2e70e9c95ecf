/-
  Digests: the document's sum, walked.
-/
import Derived.Test.YtelgcaacaolgfaaGreatDoorRefD
namespace Go.Proofs.YtelgcaacaolgfaaGreatDoor
open Go Go.CM
set_option maxRecDepth 100000
set_option maxHeartbeats 4000000

theorem rsum_prog (s : List UInt8) (hs : s.length ≤ 100000) : CallsR Tryz.prog nref03_Sum [.str s] [] fun v => v = .str (shaL s) := by
  have hc := table_prog
  have hp := padded_prog s (by omega)
  have hel : (endL s.length).length ≤ 100 := by
    have hzl : zrs s.length < 64 := Nat.mod_lt _ (by decide)
    simp [endL, be8]
    omega
  have hmod := endL_len s.length
  have hTl : (s ++ endL s.length).length = s.length + (endL s.length).length := List.length_append
  rw [shaL_eq]
  generalize s ++ endL s.length = T at *
  have hKl := KK_len
  have hK2 := wds_len KK
  have hVl : V0.length = 8 := rfl
  have hV2 := wds_len V0
  have hst : ∀ v b, stepL v b = addL v (rnds v KK (sch b 64) 64) := fun _ _ => rfl
  generalize KK = K at *
  generalize V0 = v0 at *
  refine sref03_Sum fun H hh => ?_
  dsimp only [cref03_Sum]
  refine walk1 (k := ?_)
  repeat' first | refine And.intro ?_ ?_ | intro
  all_goals refine leaf ?_
  refine callE (hc) ?_
  refine walk1 (k := ?_)
  repeat' first | refine And.intro ?_ ?_ | intro
  all_goals refine leaf ?_
  rename_i vb _ _ kb _ hh
  refine wps_store hh (n := 7) (cs' := v0.flatMap wdC) (L' := [(kb, _), (vb, .cells true (v0.flatMap wdC))]) rfl rfl rfl rfl (by show (List.flatMap wdC _).length = _; omega) (.there .here1) (by decide) (splice_all (by show 8 = _; exact (hV2.trans hVl).symm)) fun H' hh => ?_
  refine wps_store hh (n := 63) (cs' := K.flatMap wdC) (L' := [(kb, .cells true (K.flatMap wdC)), (vb, .cells true (v0.flatMap wdC))]) rfl rfl rfl rfl (by show (List.flatMap wdC _).length = _; omega) .here1 (by decide) (splice_all (by show 64 = _; exact (hK2.trans hKl).symm)) fun H' hh => ?_
  refine walk1 (k := ?_)
  repeat' first | refine And.intro ?_ ?_ | intro
  all_goals refine leaf ?_
  refine callE (hp) ?_
  refine walk1 (k := ?_)
  repeat' first | refine And.intro ?_ ?_ | intro
  all_goals refine leaf ?_
  refine loopM [3, 4, 5, 6] (fun m vs L => ∃ (p : Nat) (v : List Wd), eat v0 T = eat v (T.drop p) ∧ v.length = 8 ∧ p ≤ T.length ∧ (T.length - p) % 64 = 0 ∧ m = T.length - p ∧ vs = [.ptr vb 0, .ptr kb 0, .str T, .int .i64 (p : Nat)] ∧ L = [(kb, .cells true (K.flatMap wdC)), (vb, .cells true (v.flatMap wdC))])
    (Nx.intro (i := T.length) trivial ⟨0, v0, by rw [List.drop_zero], hVl, Nat.zero_le _, by omega, rfl, rfl, rfl⟩) ?_
  clear hh
  rintro m _ _ env H ⟨p, v, he, hv, hpl, hpm, rfl, rfl, rfl⟩ hh
  simp only [puts]
  by_cases hn : p < T.length
  · have hB : ((T.drop p).take 64).length = 64 := by rw [List.length_take, List.length_drop]; omega
    have hp64 : p + 64 ≤ T.length := by omega
    have hnext := eat_more (v := v) (r := T.drop p) (by rw [List.length_drop]; omega)
    rw [List.drop_drop] at hnext
    refine walk1 (k := ?_)
    repeat' first | refine And.intro ?_ ?_ | intro
    all_goals refine leaf ?_
    refine c_cond_t (by show V.bool _ = _; simp; omega) ?_
    refine walk1 (k := ?_)
    repeat' first | refine And.intro ?_ ?_ | intro
    all_goals refine leaf ?_
    rename_i w _ hh
    have hpw : ∀ i, i < 16 → pW T (p + 4 * i) 4 = w4 ((T.drop p).take 64) i := fun i hi => pW_four T p i hi
    generalize hBB : (T.drop p).take 64 = B at *
    refine loopN [3, 4, 5, 6, 7, 8] 64 (fun i vs L => vs = [.ptr vb 0, .ptr kb 0, .str T, .int .i64 (p : Nat), .ptr w 0, .int .i64 (i : Nat)] ∧ L = [(w, .cells true ((schZ B i 64).flatMap wdC)), (kb, .cells true (K.flatMap wdC)), (vb, .cells true (v.flatMap wdC))])
      (Nx.here ⟨rfl, rfl⟩) ?_
    clear hh
    rintro i _ _ env H hi ⟨rfl, rfl⟩ hh
    simp only [puts]
    have hl := schZ_len B (i := i) (n := 64) (by omega)
    by_cases hi2 : i < 64
    · by_cases h16 : i < 16
      · skip
        refine walk1 (k := ?_)
        repeat' first | refine And.intro ?_ ?_ | intro
        all_goals refine leaf ?_
        refine c_cond_t (by show V.bool _ = _; simp; omega) ?_
        refine walk1 (k := ?_)
        repeat' first | refine And.intro ?_ ?_ | intro
        all_goals refine leaf ?_
        refine c_cond_t (by show V.bool _ = _; simp; omega) ?_
        refine walk1 (k := ?_)
        repeat' first | refine And.intro ?_ ?_ | intro
        all_goals refine leaf ?_
        have hset : (schZ B i 64).set i (w4 B i) = schZ B (i + 1) 64 := schZ_set B (by omega) (by rw [sch, if_pos h16])
        have h00 : (schZ B i 64).set i (pW T (p + 4 * i) 0) = schZ B i 64 := by
          rw [schZ, show 64 - i = (63 - i) + 1 by omega, List.replicate_succ]
          have : ∀ (A : List Wd) (y : Wd) (R : List Wd), A.length = i → (A ++ y :: R).set i y = A ++ y :: R := by
            intro A y R hA
            subst hA
            simp
          exact this _ _ _ (sch_len B i)
        rw [← h00] at hh
        refine loopN [3, 4, 5, 6, 7, 8, 9] 4 (fun j vs L => vs = [.ptr vb 0, .ptr kb 0, .str T, .int .i64 (p : Nat), .ptr w 0, .int .i64 (i : Nat), .int .i64 (j : Nat)] ∧ L = [(w, .cells true (((schZ B i 64).set i (pW T (p + 4 * i) j)).flatMap wdC)), (kb, .cells true (K.flatMap wdC)), (vb, .cells true (v.flatMap wdC))])
          (Nx.here ⟨rfl, rfl⟩) ?_
        clear hh
        rintro j _ _ env H hj ⟨rfl, rfl⟩ hh
        simp only [puts]
        by_cases hj4 : j < 4
        · have hb := pW_lt T (p + 4 * i) j (by omega)
          have hb2 : (pW T (p + 4 * i) j).toNat < 16777216 := by
            have : j = 0 ∨ j = 1 ∨ j = 2 ∨ j = 3 := by omega
            rcases this with rfl | rfl | rfl | rfl <;> omega
          have hs256 := step256 (pW T (p + 4 * i) j) (T.getD (p + 4 * i + j) 0) hb2
          have hwb := wdB_toNat (T.getD (p + 4 * i + j) 0)
          have hwc := UInt8.toNat_lt (T.getD (p + 4 * i + j) 0)
          have hpn : pW T (p + 4 * i) (j + 1) = pW T (p + 4 * i) j <<< 8 ||| wdB (T.getD (p + 4 * i + j) 0) := rfl
          have hss : ((schZ B i 64).set i (pW T (p + 4 * i) j)).set i (pW T (p + 4 * i) (j + 1)) = (schZ B i 64).set i (pW T (p + 4 * i) (j + 1)) := by rw [List.set_set]
          have hzi : nth ((schZ B i 64).set i (pW T (p + 4 * i) j)) i = pW T (p + 4 * i) j := by rw [nth_set _ (by omega), if_pos rfl]
          have hzl : ((schZ B i 64).set i (pW T (p + 4 * i) j)).length = 64 := by rw [List.length_set]; exact hl
          rw [← hzi] at hs256 hb2 hpn
          rw [hpn] at hss
          generalize (schZ B i 64).set i (pW T (p + 4 * i) j) = Z at *
          refine walk1 (k := ?_)
          repeat' first | refine And.intro ?_ ?_ | intro
          all_goals refine leaf ?_
          refine c_cond_t (by show V.bool _ = _; simp; omega) ?_
          refine walk1 (k := ?_)
          repeat' first | refine And.intro ?_ ?_ | intro
          all_goals refine leaf ?_
          refine wps_slot (s := 61) (v := wv (nth Z i <<< 8 ||| wdB (T.getD (p + 4 * i + j) 0))) (congrArg (V.int .u32) ((congrArg IntKind.u32.wrap hs256).trans (wd_wrap _))) ?_
          refine walk1 (k := ?_)
          repeat' first | refine And.intro ?_ ?_ | intro
          all_goals refine leaf ?_
          rename_i hh
          replace hh : Has _ [(w, .cells true ((Z.set i (nth Z i <<< 8 ||| wdB (T.getD (p + 4 * i + j) 0))).flatMap wdC)), (kb, .cells true (K.flatMap wdC)), (vb, .cells true (v.flatMap wdC))] := hh
          rw [hss, ← hpn] at hh
          exact Nx.next (by omega) ⟨rfl, rfl⟩
        · have ej : j = 4 := by omega
          subst ej
          rw [hpw i h16, hset] at hh
          refine walk1 (k := ?_)
          repeat' first | refine And.intro ?_ ?_ | intro
          all_goals refine leaf ?_
          exact Nx.next (by omega) ⟨rfl, rfl⟩
      · have hset : (schZ B i 64).set i (nth (schZ B i 64) (i - 16) + sg0 (nth (schZ B i 64) (i - 15)) + nth (schZ B i 64) (i - 7) + sg1 (nth (schZ B i 64) (i - 2))) = schZ B (i + 1) 64 := schZ_set B (by omega) (by
          rw [sch, if_neg (by omega), schZ_nth B (by omega), schZ_nth B (by omega), schZ_nth B (by omega), schZ_nth B (by omega)])
        generalize hZ : schZ B i 64 = Z at *
        refine walk1 (k := ?_)
        repeat' first | refine And.intro ?_ ?_ | intro
        all_goals refine leaf ?_
        refine c_cond_t (by show V.bool _ = _; simp; omega) ?_
        refine walk1 (k := ?_)
        repeat' first | refine And.intro ?_ ?_ | intro
        all_goals refine leaf ?_
        refine c_cond_f (by show V.bool _ = _; simp; omega) ?_
        refine walk1 (k := ?_)
        repeat' first | refine And.intro ?_ ?_ | intro
        all_goals refine leaf ?_
        have h15 := rright_prog (nth Z (i - 15))
        have h2 := rright_prog (nth Z (i - 2))
        refine callE ((h15 7 (by decide) (by decide))) ?_
        refine walk1 (k := ?_)
        repeat' first | refine And.intro ?_ ?_ | intro
        all_goals refine leaf ?_
        refine callE ((h15 18 (by decide) (by decide))) ?_
        refine walk1 (k := ?_)
        repeat' first | refine And.intro ?_ ?_ | intro
        all_goals refine leaf ?_
        refine callE ((h2 17 (by decide) (by decide))) ?_
        refine walk1 (k := ?_)
        repeat' first | refine And.intro ?_ ?_ | intro
        all_goals refine leaf ?_
        refine callE ((h2 19 (by decide) (by decide))) ?_
        refine walk1 (k := ?_)
        repeat' first | refine And.intro ?_ ?_ | intro
        all_goals refine leaf ?_
        rename_i hh
        replace hh : Has _ [(w, .cells true ((Z.set i (nth Z (i - 16) + sg0 (nth Z (i - 15)) + nth Z (i - 7) + sg1 (nth Z (i - 2)))).flatMap wdC)), (kb, .cells true (K.flatMap wdC)), (vb, .cells true (v.flatMap wdC))] := hh
        rw [hset] at hh
        exact Nx.next (by omega) ⟨rfl, rfl⟩
    · have e64 : i = 64 := by omega
      subst e64
      have eS : schZ B 64 64 = sch B 64 := by rw [schZ, Nat.sub_self]; exact List.append_nil _
      rw [eS] at hh
      have hWl := sch_len B 64
      have hst := hst v B
      generalize sch B 64 = W at *
      obtain ⟨v0, v1, v2, v3, v4, v5, v6, v7, rfl⟩ := eight hv
      have hlit : [v0, v1, v2, v3, v4, v5, v6, v7].flatMap wdC = [wv v0, wv v1, wv v2, wv v3, wv v4, wv v5, wv v6, wv v7] := rfl
      rw [hlit] at hh
      clear hpw hp hc
      refine walk1 (k := ?_)
      repeat' first | refine And.intro ?_ ?_ | intro
      all_goals refine leaf ?_
      refine loopN [3, 4, 5, 6, 7, 12, 13, 14, 15, 16, 17, 18, 19, 20] 64 (fun n vs L => ∃ a b c d e f g h : Wd, rnds [v0, v1, v2, v3, v4, v5, v6, v7] K W n = [a, b, c, d, e, f, g, h] ∧ vs = [.ptr vb 0, .ptr kb 0, .str T, .int .i64 (p : Nat), .ptr w 0, wv a, wv b, wv c, wv d, wv e, wv f, wv g, wv h, .int .i64 (n : Nat)] ∧ L = [(w, .cells true (W.flatMap wdC)), (kb, .cells true (K.flatMap wdC)), (vb, .cells true [wv v0, wv v1, wv v2, wv v3, wv v4, wv v5, wv v6, wv v7])])
        (Nx.here ⟨v0, v1, v2, v3, v4, v5, v6, v7, rfl, rfl, rfl⟩) ?_
      clear hh
      rintro n _ _ env H hn64 ⟨a, b, c, d, e, f, g, h, hx, rfl, rfl⟩ hh
      simp only [puts]
      by_cases hn2 : n < 64
      · skip
        refine walk1 (k := ?_)
        repeat' first | refine And.intro ?_ ?_ | intro
        all_goals refine leaf ?_
        refine c_cond_t (by show V.bool _ = _; simp; omega) ?_
        refine walk1 (k := ?_)
        repeat' first | refine And.intro ?_ ?_ | intro
        all_goals refine leaf ?_
        refine callE ((rright_prog e 6 (by decide) (by decide))) ?_
        refine walk1 (k := ?_)
        repeat' first | refine And.intro ?_ ?_ | intro
        all_goals refine leaf ?_
        refine callE ((rright_prog e 11 (by decide) (by decide))) ?_
        refine walk1 (k := ?_)
        repeat' first | refine And.intro ?_ ?_ | intro
        all_goals refine leaf ?_
        refine callE ((rright_prog e 25 (by decide) (by decide))) ?_
        refine walk1 (k := ?_)
        repeat' first | refine And.intro ?_ ?_ | intro
        all_goals refine leaf ?_
        refine callE ((rright_prog a 2 (by decide) (by decide))) ?_
        refine walk1 (k := ?_)
        repeat' first | refine And.intro ?_ ?_ | intro
        all_goals refine leaf ?_
        refine callE ((rright_prog a 13 (by decide) (by decide))) ?_
        refine walk1 (k := ?_)
        repeat' first | refine And.intro ?_ ?_ | intro
        all_goals refine leaf ?_
        refine callE ((rright_prog a 22 (by decide) (by decide))) ?_
        refine walk1 (k := ?_)
        repeat' first | refine And.intro ?_ ?_ | intro
        all_goals refine leaf ?_
        obtain ⟨t, ht⟩ : ∃ t : Wd, t = h + ((rr e 6 ^^^ rr e 11) ^^^ rr e 25) + ((e &&& f) ^^^ ((~~~ e) &&& g)) + nth K n + nth W n := ⟨_, rfl⟩
        obtain ⟨u, hu⟩ : ∃ u : Wd, u = ((rr a 2 ^^^ rr a 13) ^^^ rr a 22) + (((a &&& b) ^^^ (a &&& c)) ^^^ (b &&& c)) := ⟨_, rfl⟩
        refine Nx.next (by omega) ⟨h + ((rr e 6 ^^^ rr e 11) ^^^ rr e 25) + ((e &&& f) ^^^ ((~~~ e) &&& g)) + nth K n + nth W n + (((rr a 2 ^^^ rr a 13) ^^^ rr a 22) + (((a &&& b) ^^^ (a &&& c)) ^^^ (b &&& c))), a, b, c, d + (h + ((rr e 6 ^^^ rr e 11) ^^^ rr e 25) + ((e &&& f) ^^^ ((~~~ e) &&& g)) + nth K n + nth W n), e, f, g, by rw [rnds, hx]; rfl, rfl, rfl⟩
      · have e64 : n = 64 := by omega
        subst e64
        rw [hx] at hst
        refine walk1 (k := ?_)
        repeat' first | refine And.intro ?_ ?_ | intro
        all_goals refine leaf ?_
        rename_i hh
        replace hh : Has _ [(w, .cells true (W.flatMap wdC)), (kb, .cells true (K.flatMap wdC)), (vb, .cells true ((addL [v0, v1, v2, v3, v4, v5, v6, v7] [a, b, c, d, e, f, g, h]).flatMap wdC))] := hh
        rw [← hst] at hh
        exact Nx.intro (i := T.length - (p + 64)) (by omega) ⟨p + 64, stepL [v0, v1, v2, v3, v4, v5, v6, v7] B, by rw [he, hnext], stepL_len rfl B, hp64, by omega, rfl, rfl, rfl⟩
  · have epl : p = T.length := by omega
    subst epl
    rw [List.drop_of_length_le (Nat.le_refl _), eat_end (v := v) (r := []) (by decide)] at he
    rw [he]
    have hv2 := wds_len v
    refine walk1 (k := ?_)
    repeat' first | refine And.intro ?_ ?_ | intro
    all_goals refine leaf ?_
    refine c_cond_f (by show V.bool _ = _; simp) ?_
    refine walk1 (k := ?_)
    repeat' first | refine And.intro ?_ ?_ | intro
    all_goals refine leaf ?_
    refine loopN [3, 23, 24] 8 (fun i vs L => vs = [.ptr vb 0, .str (outB (v.take i)), .int .i64 (i : Nat)] ∧ L = [(kb, .cells true (K.flatMap wdC)), (vb, .cells true (v.flatMap wdC))]) (Nx.here ⟨rfl, rfl⟩) ?_
    clear hh
    rintro i _ _ env H hi ⟨rfl, rfl⟩ hh
    simp only [puts]
    have hol := outB_len (v.take i)
    rw [List.length_take] at hol
    by_cases hi8 : i < 8
    · have en := outB_next (l := v) (i := i) (by omega)
      refine walk1 (k := ?_)
      repeat' first | refine And.intro ?_ ?_ | intro
      all_goals refine leaf ?_
      refine c_cond_t (by show V.bool _ = _; simp; omega) ?_
      refine walk1 (k := ?_)
      repeat' first | refine And.intro ?_ ?_ | intro
      all_goals refine leaf ?_
      rename_i r _ hh
      refine wps_b2s (l := w4B (nth v i)) hh rfl .here ?_
      refine wps_rd (v := .str (outB (v.take (i + 1)))) (by rw [en]; exact catV (by show _ + 4 ≤ _; omega)) ?_
      refine walk1 (k := ?_)
      repeat' first | refine And.intro ?_ ?_ | intro
      all_goals refine leaf ?_
      exact Nx.next (by omega) ⟨rfl, rfl⟩
    · have e8 : i = 8 := by omega
      subst e8
      rw [List.take_of_length_le (by omega)]
      refine walk1 (k := ?_)
      repeat' first | refine And.intro ?_ ?_ | intro
      all_goals refine leaf ?_
      exact doneR rfl
end Go.Proofs.YtelgcaacaolgfaaGreatDoor
