/-
  Digests: a block more, the code.
-/
import Derived.Test.YtelgcaacaolgfaaDoorShaC
namespace Go.Proofs.YtelgcaacaolgfaaDoor
open Go Go.CM
set_option maxRecDepth 100000
set_option maxHeartbeats 4000000

def wv8 (x : List Wd) : List V := [wv (nth x 0), wv (nth x 1), wv (nth x 2), wv (nth x 3), wv (nth x 4), wv (nth x 5), wv (nth x 6), wv (nth x 7)]
theorem wv8_eq {x : List Wd} (h : x.length = 8) : wv8 x = x.flatMap wdC := by
  obtain ⟨a, b, c, d, e, f, g, i, rfl⟩ := eight h
  simp [wv8, nth_eq, wdC]
theorem addL_set {v X : List Wd} (hv : v.length = 8) (hX : X.length = 8) {n : Nat} (h : n < 8) : ((addL v X).take n ++ v.drop n).set n (nth ((addL v X).take n ++ v.drop n) n + nth X n) = (addL v X).take (n + 1) ++ v.drop (n + 1) := by
  obtain ⟨a, b, c, d, e, f, g, i, rfl⟩ := eight hv
  obtain ⟨a', b', c', d', e', f', g', i', rfl⟩ := eight hX
  have : n = 0 ∨ n = 1 ∨ n = 2 ∨ n = 3 ∨ n = 4 ∨ n = 5 ∨ n = 6 ∨ n = 7 := by omega
  rcases this with rfl | rfl | rfl | rfl | rfl | rfl | rfl | rfl <;> simp [addL, nth_eq]
theorem step_prog (v : List Wd) (b : List UInt8) (hv : v.length = 8) (hb : b.length = 64) : CallsR Tryd.prog nsha_step [.agg (v.flatMap wdC), .str b] [] fun u => u = .agg ((stepL v b).flatMap wdC) := by
  have hc := consts_prog
  have hs := sched_prog b hb
  have hKl := KK_len
  have hWl := sch_len b 64
  rw [← wv8_eq hv]
  have hst : stepL v b = addL v (rnds v KK (sch b 64) 64) := rfl
  rw [hst]
  generalize KK = K at *
  generalize sch b 64 = W at *
  clear hst
  unfold wv8
  refine ssha_step fun H hh => ?_
  dsimp only [csha_step]
  refine walk1 (k := ?_)
  repeat' first | refine And.intro ?_ ?_ | intro
  all_goals refine leaf ?_
  refine callE (hc) ?_
  refine walk1 (k := ?_)
  repeat' first | refine And.intro ?_ ?_ | intro
  all_goals refine leaf ?_
  refine callE (hs) ?_
  refine walk1 (k := ?_)
  repeat' first | refine And.intro ?_ ?_ | intro
  all_goals refine leaf ?_
  rename_i vb _ _ ob _ _ kb _ _ wb _ hh
  have hK2 := wds_len K
  have hW2 := wds_len W
  refine wps_store hh (n := 63) (cs' := K.flatMap wdC) (L' := [(wb, _), (kb, .cells true (K.flatMap wdC)), (ob, _), (vb, _)]) rfl rfl rfl rfl (by show (List.flatMap wdC _).length = _; omega) (.there .here1) (by decide) (splice_all (by show 64 = _; exact (hK2.trans hKl).symm)) fun H' hh => ?_
  refine wps_store hh (n := 63) (cs' := W.flatMap wdC) (L' := [(wb, .cells true (W.flatMap wdC)), (kb, .cells true (K.flatMap wdC)), (ob, _), (vb, _)]) rfl rfl rfl rfl (by show (List.flatMap wdC _).length = _; omega) .here1 (by decide) (splice_all (by show 64 = _; exact (hW2.trans hWl).symm)) fun H' hh => ?_
  refine walk1 (k := ?_)
  repeat' first | refine And.intro ?_ ?_ | intro
  all_goals refine leaf ?_
  refine loopN [2, 4, 5, 6, 7, 18] 64 (fun n vs L => ∃ (x : Nat) (a b c d e f g i : Wd), rnds v K W n = [a, b, c, d, e, f, g, i] ∧ vs = [.ptr vb 0, .ptr ob 0, .ptr kb 0, .ptr wb 0, .ptr x 0, .int .i64 (n : Nat)] ∧ L = [(x, .cells true [wv a, wv b, wv c, wv d, wv e, wv f, wv g, wv i]), (wb, .cells true (W.flatMap wdC)), (kb, .cells true (K.flatMap wdC)), (ob, .cells true [.int .u32 0, .int .u32 0, .int .u32 0, .int .u32 0, .int .u32 0, .int .u32 0, .int .u32 0, .int .u32 0]), (vb, .cells true [wv (nth v 0), wv (nth v 1), wv (nth v 2), wv (nth v 3), wv (nth v 4), wv (nth v 5), wv (nth v 6), wv (nth v 7)])])
    (Nx.here ⟨_, nth v 0, nth v 1, nth v 2, nth v 3, nth v 4, nth v 5, nth v 6, nth v 7, by
      obtain ⟨a, b, c, d, e, f, g, i, rfl⟩ := eight hv
      simp [rnds, nth_eq], rfl, rfl⟩) ?_
  clear hh
  rintro n _ _ env H hn ⟨x, a, b, c, d, e, f, g, i, hx, rfl, rfl⟩ hh
  simp only [puts]
  refine walk (k := ?_)
  repeat' first | refine And.intro ?_ ?_ | intro
  all_goals refine leaf ?_
  · rename_i hlt
    refine callE ((right_prog e 6 (by decide) (by decide))) ?_
    refine walk1 (k := ?_)
    repeat' first | refine And.intro ?_ ?_ | intro
    all_goals refine leaf ?_
    refine callE ((right_prog e 11 (by decide) (by decide))) ?_
    refine walk1 (k := ?_)
    repeat' first | refine And.intro ?_ ?_ | intro
    all_goals refine leaf ?_
    refine callE ((right_prog e 25 (by decide) (by decide))) ?_
    refine walk1 (k := ?_)
    repeat' first | refine And.intro ?_ ?_ | intro
    all_goals refine leaf ?_
    refine callE ((right_prog a 2 (by decide) (by decide))) ?_
    refine walk1 (k := ?_)
    repeat' first | refine And.intro ?_ ?_ | intro
    all_goals refine leaf ?_
    refine callE ((right_prog a 13 (by decide) (by decide))) ?_
    refine walk1 (k := ?_)
    repeat' first | refine And.intro ?_ ?_ | intro
    all_goals refine leaf ?_
    refine callE (right_prog a 22 (by decide) (by decide)) ?_
    obtain ⟨t, ht⟩ : ∃ t : Wd, t = i + ((rr e 6 ^^^ rr e 11) ^^^ rr e 25) + ((e &&& f) ^^^ ((~~~ e) &&& g)) + nth K n + nth W n := ⟨_, rfl⟩
    obtain ⟨u, hu⟩ : ∃ u : Wd, u = ((rr a 2 ^^^ rr a 13) ^^^ rr a 22) + (((a &&& b) ^^^ (a &&& c)) ^^^ (b &&& c)) := ⟨_, rfl⟩
    refine wps_wxor rfl rfl (wps_wadd rfl rfl ?_)
    refine wps_slot (s := 78) (v := wv u) (by rw [hu]; rfl) ?_
    refine wps_slot (s := 11) (v := wv t) (by rw [ht]; rfl) ?_
    refine wps_rd (v := wv u) rfl ?_
    refine wps_nil (k_seq_n (c_ops ?_))
    refine wps_rd (v := wv t) rfl ?_
    refine wps_rd (v := wv u) rfl ?_
    refine wps_wadd rfl rfl ?_
    refine wps_rd (v := wv a) rfl ?_
    refine wps_iaw (m := 1) rfl rfl rfl (by decide) (wps_ld hh rfl .here rfl ?_)
    refine wps_iaw (m := 2) rfl rfl rfl (by decide) (wps_ld hh rfl .here rfl ?_)
    refine wps_iaw (m := 3) rfl rfl rfl (by decide) (wps_ld hh rfl .here rfl ?_)
    refine wps_rd (v := wv t) rfl (wps_wadd rfl rfl ?_)
    refine wps_rd (v := wv e) rfl ?_
    refine wps_iaw (m := 5) rfl rfl rfl (by decide) (wps_ld hh rfl .here rfl ?_)
    refine wps_iaw (m := 6) rfl rfl rfl (by decide) (wps_ld hh rfl .here rfl ?_)
    refine wps_bld (cs := [wv (t + u), wv a, wv b, wv c, wv (d + t), wv e, wv f, wv g]) ?_ ?_
    · refine fl_cons (v := wv (t + u)) (vs := [wv (t + u)]) (cs' := [wv (t + u), .int .u32 0, .int .u32 0, .int .u32 0, .int .u32 0, .int .u32 0, .int .u32 0, .int .u32 0]) rfl rfl rfl rfl rfl rfl ?_
      refine fl_cons (v := wv a) (vs := [wv a]) (cs' := [wv (t + u), wv a, .int .u32 0, .int .u32 0, .int .u32 0, .int .u32 0, .int .u32 0, .int .u32 0]) rfl rfl rfl rfl rfl rfl ?_
      refine fl_cons (v := wv b) (vs := [wv b]) (cs' := [wv (t + u), wv a, wv b, .int .u32 0, .int .u32 0, .int .u32 0, .int .u32 0, .int .u32 0]) rfl rfl rfl rfl rfl rfl ?_
      refine fl_cons (v := wv c) (vs := [wv c]) (cs' := [wv (t + u), wv a, wv b, wv c, .int .u32 0, .int .u32 0, .int .u32 0, .int .u32 0]) rfl rfl rfl rfl rfl rfl ?_
      refine fl_cons (v := wv (d + t)) (vs := [wv (d + t)]) (cs' := [wv (t + u), wv a, wv b, wv c, wv (d + t), .int .u32 0, .int .u32 0, .int .u32 0]) rfl rfl rfl rfl rfl rfl ?_
      refine fl_cons (v := wv e) (vs := [wv e]) (cs' := [wv (t + u), wv a, wv b, wv c, wv (d + t), wv e, .int .u32 0, .int .u32 0]) rfl rfl rfl rfl rfl rfl ?_
      refine fl_cons (v := wv f) (vs := [wv f]) (cs' := [wv (t + u), wv a, wv b, wv c, wv (d + t), wv e, wv f, .int .u32 0]) rfl rfl rfl rfl rfl rfl ?_
      refine fl_cons (v := wv g) (vs := [wv g]) (cs' := [wv (t + u), wv a, wv b, wv c, wv (d + t), wv e, wv f, wv g]) rfl rfl rfl rfl rfl rfl ?_
      exact fl_nil
    refine wps_store hh (n := 7) (cs' := [wv (t + u), wv a, wv b, wv c, wv (d + t), wv e, wv f, wv g]) (L' := [(x, .cells true [wv (t + u), wv a, wv b, wv c, wv (d + t), wv e, wv f, wv g]), (wb, _), (kb, _), (ob, _), (vb, _)]) rfl rfl rfl rfl rfl .here1 (Nat.le_refl 8) (splice_all rfl) fun H' hh => ?_
    refine walk1 (k := ?_)
    repeat' first | refine And.intro ?_ ?_ | intro
    all_goals refine leaf ?_
    exact Nx.next (by omega) ⟨x, t + u, a, b, c, d + t, e, f, g, by rw [rnds, hx, ht, hu]; rfl, rfl, rfl⟩
  · have e64 : n = 64 := by omega
    subst e64
    have hxl : ([a, b, c, d, e, f, g, i] : List Wd).length = 8 := rfl
    rw [← hx] at hxl
    have hxe : [wv a, wv b, wv c, wv d, wv e, wv f, wv g, wv i] = (rnds v K W 64).flatMap wdC := by rw [hx]; rfl
    have hve : [wv (nth v 0), wv (nth v 1), wv (nth v 2), wv (nth v 3), wv (nth v 4), wv (nth v 5), wv (nth v 6), wv (nth v 7)] = v.flatMap wdC := wv8_eq hv
    rw [hxe, hve] at hh
    generalize rnds v K W 64 = X at *
    have hal := addL_len hv hxl
    have hz : ∀ n, n ≤ 8 → ((addL v X).take n ++ v.drop n).length = 8 := fun n h => by rw [List.length_append, List.length_take, List.length_drop]; omega
    refine loopN [2, 4, 7, 98] 8 (fun n vs L => vs = [.ptr vb 0, .ptr ob 0, .ptr x 0, .int .i64 (n : Nat)] ∧ L = [(x, .cells true (X.flatMap wdC)), (ob, .cells true [.int .u32 0, .int .u32 0, .int .u32 0, .int .u32 0, .int .u32 0, .int .u32 0, .int .u32 0, .int .u32 0]), (vb, .cells true (((addL v X).take n ++ v.drop n).flatMap wdC))])
      (Nx.here ⟨rfl, rfl⟩) ?_
    clear hh
    rintro n _ _ env H hn ⟨rfl, rfl⟩ hh
    simp only [puts]
    have hzn := hz n hn
    refine walk (k := ?_)
    repeat' first | refine And.intro ?_ ?_ | intro
    all_goals refine leaf ?_
    · rename_i hlt _ hh
      rw [addL_set hv hxl (by omega)] at hh
      exact Nx.next (by omega) ⟨rfl, rfl⟩
    · have e8 : n = 8 := by omega
      subst e8
      have eS : (addL v X).take 8 ++ v.drop 8 = addL v X := by rw [List.drop_of_length_le (by omega), List.append_nil, List.take_of_length_le (by omega)]
      rw [eS] at hh
      have hl := wds_len (addL v X)
      generalize addL v X = S at *
      refine wps_lda hh (n := 7) rfl (.there (.there .here)) (by omega) ?_
      refine wps_store hh (n := 7) (cs' := S.flatMap wdC) (L' := [(x, .cells true (X.flatMap wdC)), (ob, .cells true (S.flatMap wdC)), (vb, .cells true (S.flatMap wdC))]) rfl rfl rfl rfl (by show (List.flatMap wdC _).length = _; omega) (.there .here1) (Nat.le_refl 8) (splice_all (by show 8 = (List.flatMap wdC _).length; omega)) fun H' hh => ?_
      refine wps_nil (k_seq_n (c_ret ?_))
      exact f_res (res_cons (res_cn (sz := 7) hh rfl (At.there .here) (by omega)) res_nil) (doneR rfl)
end Go.Proofs.YtelgcaacaolgfaaDoor
