/-
  Texts joined: Digests: a block more, the code. Digests: what came so far. Digests: the sum.
-/
import Derived.Test.YtelgcaacaolgfaaGreatDoorShaA
import Derived.Test.YtelgcaacaolgfaaGreatDoorEntD
namespace Go.Proofs.YtelgcaacaolgfaaGreatDoor
open Go Go.CM
set_option maxRecDepth 100000
set_option maxHeartbeats 4000000

def wv8 (x : List Wd) : List V := [wv (nth x 0), wv (nth x 1), wv (nth x 2), wv (nth x 3), wv (nth x 4), wv (nth x 5), wv (nth x 6), wv (nth x 7)]
theorem wv8_eq {x : List Wd} (h : x.length = 8) : wv8 x = x.flatMap wdC := by
  obtain ⟨a, b, c, d, e, f, g, i, rfl⟩ := eight h
  simp [wv8, nth_eq, wdC]
theorem addL_set {v X : List Wd} (hv : v.length = 8) (hX : X.length = 8) {n : Nat} (h : n < 8) : ((addL v X).take n ++ v.drop n).set n (nth ((addL v X).take n ++ v.drop n) n + nth X n) = (addL v X).take (n + 1) ++ v.drop (n + 1) := by
  obtain ⟨a, b, c, d, e, f, g, i, rfl⟩ := eight hv
  obtain ⟨a', b', c', d', e', f', g', i', rfl⟩ := eight hX
  have : n = 0 ∨ n = 1 ∨ n = 2 ∨ n = 3 ∨ n = 4 ∨ n = 5 ∨ n = 6 ∨ n = 7 := by omega
  rcases this with rfl | rfl | rfl | rfl | rfl | rfl | rfl | rfl <;> simp [addL, nth_eq]
theorem step_prog (v : List Wd) (b : List UInt8) (hv : v.length = 8) (hb : b.length = 64) : CallsR Tryz.prog nsha_step [.agg (v.flatMap wdC), .str b] [] fun u => u = .agg ((stepL v b).flatMap wdC) := by
  have hc := consts_prog
  have hs := sched_prog b hb
  have hKl := KK_len
  have hWl := sch_len b 64
  rw [← wv8_eq hv]
  have hst : stepL v b = addL v (rnds v KK (sch b 64) 64) := rfl
  rw [hst]
  generalize KK = K at *
  generalize sch b 64 = W at *
  clear hst
  unfold wv8
  refine ssha_step fun H hh => ?_
  dsimp only [csha_step]
  refine walk1 (k := ?_)
  repeat' first | refine And.intro ?_ ?_ | intro
  all_goals refine leaf ?_
  refine callE (hc) ?_
  refine walk1 (k := ?_)
  repeat' first | refine And.intro ?_ ?_ | intro
  all_goals refine leaf ?_
  refine callE (hs) ?_
  refine walk1 (k := ?_)
  repeat' first | refine And.intro ?_ ?_ | intro
  all_goals refine leaf ?_
  rename_i vb _ _ ob _ _ kb _ _ wb _ hh
  have hK2 := wds_len K
  have hW2 := wds_len W
  refine wps_store hh (n := 63) (cs' := K.flatMap wdC) (L' := [(wb, _), (kb, .cells true (K.flatMap wdC)), (ob, _), (vb, _)]) rfl rfl rfl rfl (by show (List.flatMap wdC _).length = _; omega) (.there .here1) (by decide) (splice_all (by show 64 = _; exact (hK2.trans hKl).symm)) fun H' hh => ?_
  refine wps_store hh (n := 63) (cs' := W.flatMap wdC) (L' := [(wb, .cells true (W.flatMap wdC)), (kb, .cells true (K.flatMap wdC)), (ob, _), (vb, _)]) rfl rfl rfl rfl (by show (List.flatMap wdC _).length = _; omega) .here1 (by decide) (splice_all (by show 64 = _; exact (hW2.trans hWl).symm)) fun H' hh => ?_
  refine walk1 (k := ?_)
  repeat' first | refine And.intro ?_ ?_ | intro
  all_goals refine leaf ?_
  refine loopN [2, 4, 5, 6, 7, 18] 64 (fun n vs L => ∃ (x : Nat) (a b c d e f g i : Wd), rnds v K W n = [a, b, c, d, e, f, g, i] ∧ vs = [.ptr vb 0, .ptr ob 0, .ptr kb 0, .ptr wb 0, .ptr x 0, .int .i64 (n : Nat)] ∧ L = [(x, .cells true [wv a, wv b, wv c, wv d, wv e, wv f, wv g, wv i]), (wb, .cells true (W.flatMap wdC)), (kb, .cells true (K.flatMap wdC)), (ob, .cells true [.int .u32 0, .int .u32 0, .int .u32 0, .int .u32 0, .int .u32 0, .int .u32 0, .int .u32 0, .int .u32 0]), (vb, .cells true [wv (nth v 0), wv (nth v 1), wv (nth v 2), wv (nth v 3), wv (nth v 4), wv (nth v 5), wv (nth v 6), wv (nth v 7)])])
    (Nx.here ⟨_, nth v 0, nth v 1, nth v 2, nth v 3, nth v 4, nth v 5, nth v 6, nth v 7, by
      obtain ⟨a, b, c, d, e, f, g, i, rfl⟩ := eight hv
      simp [rnds, nth_eq], rfl, rfl⟩) ?_
  clear hh
  rintro n _ _ env H hn ⟨x, a, b, c, d, e, f, g, i, hx, rfl, rfl⟩ hh
  simp only [puts]
  refine walk (k := ?_)
  repeat' first | refine And.intro ?_ ?_ | intro
  all_goals refine leaf ?_
  · rename_i hlt
    refine callE ((right_prog e 6 (by decide) (by decide))) ?_
    refine walk1 (k := ?_)
    repeat' first | refine And.intro ?_ ?_ | intro
    all_goals refine leaf ?_
    refine callE ((right_prog e 11 (by decide) (by decide))) ?_
    refine walk1 (k := ?_)
    repeat' first | refine And.intro ?_ ?_ | intro
    all_goals refine leaf ?_
    refine callE ((right_prog e 25 (by decide) (by decide))) ?_
    refine walk1 (k := ?_)
    repeat' first | refine And.intro ?_ ?_ | intro
    all_goals refine leaf ?_
    refine callE ((right_prog a 2 (by decide) (by decide))) ?_
    refine walk1 (k := ?_)
    repeat' first | refine And.intro ?_ ?_ | intro
    all_goals refine leaf ?_
    refine callE ((right_prog a 13 (by decide) (by decide))) ?_
    refine walk1 (k := ?_)
    repeat' first | refine And.intro ?_ ?_ | intro
    all_goals refine leaf ?_
    refine callE (right_prog a 22 (by decide) (by decide)) ?_
    obtain ⟨t, ht⟩ : ∃ t : Wd, t = i + ((rr e 6 ^^^ rr e 11) ^^^ rr e 25) + ((e &&& f) ^^^ ((~~~ e) &&& g)) + nth K n + nth W n := ⟨_, rfl⟩
    obtain ⟨u, hu⟩ : ∃ u : Wd, u = ((rr a 2 ^^^ rr a 13) ^^^ rr a 22) + (((a &&& b) ^^^ (a &&& c)) ^^^ (b &&& c)) := ⟨_, rfl⟩
    refine wps_wxor rfl rfl (wps_wadd rfl rfl ?_)
    refine wps_slot (s := 78) (v := wv u) (by rw [hu]; rfl) ?_
    refine wps_slot (s := 11) (v := wv t) (by rw [ht]; rfl) ?_
    refine wps_rd (v := wv u) rfl ?_
    refine wps_nil (k_seq_n (c_ops ?_))
    refine wps_rd (v := wv t) rfl ?_
    refine wps_rd (v := wv u) rfl ?_
    refine wps_wadd rfl rfl ?_
    refine wps_rd (v := wv a) rfl ?_
    refine wps_iaw (m := 1) rfl rfl rfl (by decide) (wps_ld hh rfl .here rfl ?_)
    refine wps_iaw (m := 2) rfl rfl rfl (by decide) (wps_ld hh rfl .here rfl ?_)
    refine wps_iaw (m := 3) rfl rfl rfl (by decide) (wps_ld hh rfl .here rfl ?_)
    refine wps_rd (v := wv t) rfl (wps_wadd rfl rfl ?_)
    refine wps_rd (v := wv e) rfl ?_
    refine wps_iaw (m := 5) rfl rfl rfl (by decide) (wps_ld hh rfl .here rfl ?_)
    refine wps_iaw (m := 6) rfl rfl rfl (by decide) (wps_ld hh rfl .here rfl ?_)
    refine wps_bld (cs := [wv (t + u), wv a, wv b, wv c, wv (d + t), wv e, wv f, wv g]) ?_ ?_
    · refine fl_cons (v := wv (t + u)) (vs := [wv (t + u)]) (cs' := [wv (t + u), .int .u32 0, .int .u32 0, .int .u32 0, .int .u32 0, .int .u32 0, .int .u32 0, .int .u32 0]) rfl rfl rfl rfl rfl rfl ?_
      refine fl_cons (v := wv a) (vs := [wv a]) (cs' := [wv (t + u), wv a, .int .u32 0, .int .u32 0, .int .u32 0, .int .u32 0, .int .u32 0, .int .u32 0]) rfl rfl rfl rfl rfl rfl ?_
      refine fl_cons (v := wv b) (vs := [wv b]) (cs' := [wv (t + u), wv a, wv b, .int .u32 0, .int .u32 0, .int .u32 0, .int .u32 0, .int .u32 0]) rfl rfl rfl rfl rfl rfl ?_
      refine fl_cons (v := wv c) (vs := [wv c]) (cs' := [wv (t + u), wv a, wv b, wv c, .int .u32 0, .int .u32 0, .int .u32 0, .int .u32 0]) rfl rfl rfl rfl rfl rfl ?_
      refine fl_cons (v := wv (d + t)) (vs := [wv (d + t)]) (cs' := [wv (t + u), wv a, wv b, wv c, wv (d + t), .int .u32 0, .int .u32 0, .int .u32 0]) rfl rfl rfl rfl rfl rfl ?_
      refine fl_cons (v := wv e) (vs := [wv e]) (cs' := [wv (t + u), wv a, wv b, wv c, wv (d + t), wv e, .int .u32 0, .int .u32 0]) rfl rfl rfl rfl rfl rfl ?_
      refine fl_cons (v := wv f) (vs := [wv f]) (cs' := [wv (t + u), wv a, wv b, wv c, wv (d + t), wv e, wv f, .int .u32 0]) rfl rfl rfl rfl rfl rfl ?_
      refine fl_cons (v := wv g) (vs := [wv g]) (cs' := [wv (t + u), wv a, wv b, wv c, wv (d + t), wv e, wv f, wv g]) rfl rfl rfl rfl rfl rfl ?_
      exact fl_nil
    refine wps_store hh (n := 7) (cs' := [wv (t + u), wv a, wv b, wv c, wv (d + t), wv e, wv f, wv g]) (L' := [(x, .cells true [wv (t + u), wv a, wv b, wv c, wv (d + t), wv e, wv f, wv g]), (wb, _), (kb, _), (ob, _), (vb, _)]) rfl rfl rfl rfl rfl .here1 (Nat.le_refl 8) (splice_all rfl) fun H' hh => ?_
    refine walk1 (k := ?_)
    repeat' first | refine And.intro ?_ ?_ | intro
    all_goals refine leaf ?_
    exact Nx.next (by omega) ⟨x, t + u, a, b, c, d + t, e, f, g, by rw [rnds, hx, ht, hu]; rfl, rfl, rfl⟩
  · have e64 : n = 64 := by omega
    subst e64
    have hxl : ([a, b, c, d, e, f, g, i] : List Wd).length = 8 := rfl
    rw [← hx] at hxl
    have hxe : [wv a, wv b, wv c, wv d, wv e, wv f, wv g, wv i] = (rnds v K W 64).flatMap wdC := by rw [hx]; rfl
    have hve : [wv (nth v 0), wv (nth v 1), wv (nth v 2), wv (nth v 3), wv (nth v 4), wv (nth v 5), wv (nth v 6), wv (nth v 7)] = v.flatMap wdC := wv8_eq hv
    rw [hxe, hve] at hh
    generalize rnds v K W 64 = X at *
    have hal := addL_len hv hxl
    have hz : ∀ n, n ≤ 8 → ((addL v X).take n ++ v.drop n).length = 8 := fun n h => by rw [List.length_append, List.length_take, List.length_drop]; omega
    refine loopN [2, 4, 7, 98] 8 (fun n vs L => vs = [.ptr vb 0, .ptr ob 0, .ptr x 0, .int .i64 (n : Nat)] ∧ L = [(x, .cells true (X.flatMap wdC)), (ob, .cells true [.int .u32 0, .int .u32 0, .int .u32 0, .int .u32 0, .int .u32 0, .int .u32 0, .int .u32 0, .int .u32 0]), (vb, .cells true (((addL v X).take n ++ v.drop n).flatMap wdC))])
      (Nx.here ⟨rfl, rfl⟩) ?_
    clear hh
    rintro n _ _ env H hn ⟨rfl, rfl⟩ hh
    simp only [puts]
    have hzn := hz n hn
    refine walk (k := ?_)
    repeat' first | refine And.intro ?_ ?_ | intro
    all_goals refine leaf ?_
    · rename_i hlt _ hh
      rw [addL_set hv hxl (by omega)] at hh
      exact Nx.next (by omega) ⟨rfl, rfl⟩
    · have e8 : n = 8 := by omega
      subst e8
      have eS : (addL v X).take 8 ++ v.drop 8 = addL v X := by rw [List.drop_of_length_le (by omega), List.append_nil, List.take_of_length_le (by omega)]
      rw [eS] at hh
      have hl := wds_len (addL v X)
      generalize addL v X = S at *
      refine wps_lda hh (n := 7) rfl (.there (.there .here)) (by omega) ?_
      refine wps_store hh (n := 7) (cs' := S.flatMap wdC) (L' := [(x, .cells true (X.flatMap wdC)), (ob, .cells true (S.flatMap wdC)), (vb, .cells true (S.flatMap wdC))]) rfl rfl rfl rfl (by show (List.flatMap wdC _).length = _; omega) (.there .here1) (Nat.le_refl 8) (splice_all (by show 8 = (List.flatMap wdC _).length; omega)) fun H' hh => ?_
      refine wps_nil (k_seq_n (c_ret ?_))
      exact f_res (res_cons (res_cn (sz := 7) hh rfl (At.there .here) (by omega)) res_nil) (doneR rfl)
end Go.Proofs.YtelgcaacaolgfaaGreatDoor

namespace Go.Proofs.YtelgcaacaolgfaaGreatDoor
open Go Go.CM
set_option maxRecDepth 100000
set_option maxHeartbeats 4000000

def eat (v : List Wd) (r : List UInt8) : List Wd × List UInt8 := if 64 ≤ r.length then eat (stepL v (r.take 64)) (r.drop 64) else (v, r)
termination_by r.length
decreasing_by (rw [List.length_drop]; omega)
theorem eat_more {v : List Wd} {r : List UInt8} (h : 64 ≤ r.length) : eat v r = eat (stepL v (r.take 64)) (r.drop 64) := by rw [eat, if_pos h]
theorem eat_end {v : List Wd} {r : List UInt8} (h : r.length < 64) : eat v r = (v, r) := by rw [eat, if_neg (by omega)]
def hO (v : List Wd) (r : List UInt8) (n : Nat) : List V := [wv (nth v 0), wv (nth v 1), wv (nth v 2), wv (nth v 3), wv (nth v 4), wv (nth v 5), wv (nth v 6), wv (nth v 7), .str r, .int .i64 (n : Nat)]
theorem hwrite_prog (h : Nat) (v : List Wd) (r s : List UInt8) (n : Nat) (hv : v.length = 8) (hr : r.length + s.length ≤ 100000000) (hn : n ≤ 100000000) : CallsL Tryz.prog nsha_Hash_Write [.ptr h 0, .str s] [(h, .cells true (hO v r n))] fun u L' => u = .tup [] ∧ L' = [(h, .cells true (hO (eat v (r ++ s)).1 (eat v (r ++ s)).2 (n + s.length)))] := by
  unfold hO
  refine ssha_Hash_Write fun H hh => ?_
  dsimp only [csha_Hash_Write]
  refine walk1 (k := ?_)
  repeat' first | refine And.intro ?_ ?_ | intro
  all_goals refine leaf ?_
  refine wps_rd (catV (by omega)) ?_
  refine walk1 (k := ?_)
  repeat' first | refine And.intro ?_ ?_ | intro
  all_goals refine leaf ?_
  refine loopM [0] (fun m vs L => ∃ (v' : List Wd) (r' : List UInt8), eat v (r ++ s) = eat v' r' ∧ v'.length = 8 ∧ m = r'.length ∧ vs = [.ptr h 0] ∧ L = [(h, .cells true (hO v' r' (n + s.length)))])
    (Nx.intro (i := (r ++ s).length) trivial ⟨v, r ++ s, rfl, hv, rfl, rfl, rfl⟩) ?_
  clear hh
  rintro m _ _ env H ⟨v', r', he, hv', rfl, rfl, rfl⟩ hh
  simp only [puts]
  unfold hO at hh
  have hs := step_prog v' (r'.take 64) hv'
  refine walk (k := ?_)
  repeat' first | refine And.intro ?_ ?_ | intro
  all_goals refine leaf ?_
  · rename_i hl
    have hs := hs (by rw [List.length_take]; omega)
    have hsl := stepL_len hv' (r'.take 64)
    rw [← wv8_eq hv', ← wv8_eq hsl] at hs
    unfold wv8 at hs
    refine callE (hs) ?_
    refine walk1 (k := ?_)
    repeat' first | refine And.intro ?_ ?_ | intro
    all_goals refine leaf ?_
    rename_i hh
    replace hh : Has _ [(h, .cells true (hO (stepL v' (r'.take 64)) (r'.drop 64) (n + s.length)))] := hh
    exact Nx.intro (i := (r'.drop 64).length) (by rw [List.length_drop]; exact Nat.sub_lt_self (by decide) (by omega)) ⟨stepL v' (r'.take 64), r'.drop 64, by rw [he, eat_more (by omega)], hsl, rfl, rfl, rfl⟩
  · rw [eat_end (v := v') (r := r') (by omega)] at he
    rw [he]
    exact done ⟨rfl, rfl⟩
def zrs (n : Nat) : Nat := (119 - n % 64) % 64
def be8 (n : Nat) : List UInt8 := (List.range 8).map fun j => UInt8.ofNat (n / 256 ^ (7 - j))
def endL (n : Nat) : List UInt8 := (128 :: List.replicate (zrs n) 0) ++ be8 (n * 8)
theorem be8_next (n : Nat) {j : Nat} (h : j < 8) : (be8 n).take (j + 1) = (be8 n).take j ++ [UInt8.ofNat (n / 256 ^ (7 - j))] := by
  rw [take_getD (by simp [be8]; exact h), nth_of (a := UInt8.ofNat (n / 256 ^ (7 - j)))]
  simp [be8, h]
theorem be8_all (n : Nat) : (be8 n).take 8 = be8 n := List.take_of_length_le (by simp [be8])
theorem shr8 (N k : Nat) (b : Int) (hb : b = 8 * (k : Nat)) (hk : k ≤ 7) : binV .shr (.int .u64 (N : Nat)) (.int .i64 b) = some (.int .u64 ((N / 256 ^ k : Nat) : Int)) := by
  subst hb
  show (if (8 * (k : Nat) : Int) < 0 then none else some (V.int .u64 ((N : Int).fdiv (2 ^ min (8 * (k : Nat) : Int).toNat IntKind.u64.bits)))) = _
  rw [if_neg (by omega), show (8 * (k : Nat) : Int).toNat = 8 * k by omega, Nat.min_eq_left (show 8 * k ≤ IntKind.u64.bits from (by omega : 8 * k ≤ 64))]
  have : (2 ^ (8 * k) : Int) = ((256 ^ k : Nat) : Int) := by
    rw [show (256 : Nat) = 2 ^ 8 from rfl, ← Nat.pow_mul, Int.natCast_pow]
    rfl
  rw [this]
  exact congrArg (fun n => some (V.int .u64 n)) (Int.ofNat_fdiv _ _).symm
theorem wps_u8 {P : Program} {env : Env} {H : Heap} {K : Env → Heap → Prop} {d : Option Nat} {x : Kx} {is : List I} {y : X} {kk : IntKind} {n : Nat} (hy : y.ev env = .int kk (n : Nat)) (k : CM.wpOps P is (env.put d (.int .u8 ((UInt8.ofNat n).toNat : Nat))) H K) : CM.wpOps P (⟨d, .rd (.toInt .u8 y), none, x⟩ :: is) env H K := by
  refine wps_rd ?_ k
  simp only [R.ev, hy]
  rw [wrap_u8, UInt8.toNat_ofNat']
  exact congrArg (fun n => some (V.int .u8 n)) (by omega)
theorem rep_next {α : Type} (x : α) (n : Nat) : List.replicate (n + 1) x = List.replicate n x ++ [x] := List.replicate_succ'
theorem l3 {a b c a' b' c' : V} (h1 : a = a') (h2 : b = b') (h3 : c = c') : [a, b, c] = [a', b', c'] := by rw [h1, h2, h3]
theorem hend_prog (h : Nat) (v : List Wd) (r : List UInt8) (n : Nat) (hr : r.length = n % 64) (hn : n ≤ 100000000) : CallsR Tryz.prog nsha_Hash_end [.ptr h 0] [(h, .cells true (hO v r n))] fun u => u = .str (endL n) := by
  unfold hO
  have hzl : zrs n < 64 := Nat.mod_lt _ (by decide)
  have hzd : zrs n = (119 - n % 64) % 64 := rfl
  refine ssha_Hash_end fun H hh => ?_
  dsimp only [csha_Hash_end]
  refine walk1 (k := ?_)
  repeat' first | refine And.intro ?_ ?_ | intro
  all_goals refine leaf ?_
  refine loopM [0, 3] (fun m vs L => ∃ (a j : Nat), j ≤ zrs n ∧ m = zrs n - j ∧ vs = [.ptr h 0, .slice a 0 (128 :: List.replicate j (0 : UInt8)).length 1] ∧ L = [(a, .cells true ((128 :: List.replicate j (0 : UInt8)).flatMap byteC)), (h, .cells true (hO v r n))])
    (Nx.intro (i := zrs n) trivial ⟨_, 0, Nat.zero_le _, rfl, rfl, rfl⟩) ?_
  clear hh
  rintro m _ _ env H ⟨a, j, hj, rfl, rfl, rfl⟩ hh
  simp only [puts]
  unfold hO at hh
  have hint : Hint byteC (0 : UInt8) := trivial
  have hll : (128 :: List.replicate j (0 : UInt8)).length = j + 1 := by simp
  refine walk (k := ?_)
  repeat' first | refine And.intro ?_ ?_ | intro
  all_goals refine leaf ?_
  · rename_i hne _ _ _ hh
    rw [show 128 :: List.replicate j (0 : UInt8) ++ [0] = 128 :: List.replicate (j + 1) 0 by rw [rep_next]; rfl] at hh ⊢
    exact Nx.intro (i := zrs n - (j + 1)) (by omega) ⟨_, j + 1, by omega, rfl, rfl, rfl⟩
  · rename_i he
    have ej : j = zrs n := by omega
    subst ej
    have hZl : (128 :: List.replicate (zrs n) (0 : UInt8)).length ≤ 100 := by omega
    generalize hZ : (128 :: List.replicate (zrs n) (0 : UInt8)) = Z at *
    have e8 : ((n : Nat) : Int) * 8 = ((n * 8 : Nat) : Int) := by omega
    refine c_slot (s := 4) (v := .int .u64 (n * 8 : Nat)) (congrArg (V.int .u64) e8) ?_
    refine loopM [3, 4, 5] (fun m vs L => ∃ (a j : Nat), j ≤ 8 ∧ m = 8 - j ∧ vs = [.slice a 0 (Z ++ (be8 (n * 8)).take j).length 1, .int .u64 (n * 8 : Nat), .int .i64 (7 - (j : Nat))] ∧ L = [(a, .cells true ((Z ++ (be8 (n * 8)).take j).flatMap byteC)), (h, .cells true (hO v r n))])
      (Nx.intro (i := 8) trivial ⟨a, 0, Nat.zero_le _, rfl, by rw [List.take_zero, List.append_nil]; rfl, by rw [List.take_zero, List.append_nil]⟩) ?_
    clear hh
    rintro m _ _ env H ⟨a, j, hj, rfl, rfl, rfl⟩ hh
    simp only [puts]
    have htl : ((be8 (n * 8)).take j).length ≤ 8 := by rw [List.length_take]; omega
    have htz : (Z ++ (be8 (n * 8)).take j).length ≤ 108 := by rw [List.length_append]; omega
    have hint : Hint byteC (UInt8.ofNat (n * 8 / 256 ^ (7 - j))) := trivial
    refine walk (k := ?_)
    repeat' first | refine And.intro ?_ ?_ | intro
    all_goals refine leaf ?_
    · rename_i hge
      have en := be8_next (n * 8) (j := j) (by omega)
      refine wps_rd (shr8 (n * 8) (7 - j) _ (by omega) (by omega)) ?_
      refine wps_u8 rfl ?_
      refine walk1 (k := ?_)
      repeat' first | refine And.intro ?_ ?_ | intro
      all_goals refine leaf ?_
      rename_i hh
      rw [List.append_assoc, ← en] at hh ⊢
      exact Nx.intro (i := 8 - (j + 1)) (by omega) ⟨_, j + 1, by omega, rfl, l3 rfl rfl (congrArg (V.int .i64) (by omega)), rfl⟩
    · have ej : j = 8 := by omega
      subst ej
      rw [be8_all] at hh ⊢
      exact doneR (by rw [← hZ]; rfl)
end Go.Proofs.YtelgcaacaolgfaaGreatDoor

namespace Go.Proofs.YtelgcaacaolgfaaGreatDoor
open Go Go.CM
set_option maxRecDepth 100000
set_option maxHeartbeats 4000000

def w4B (w : Wd) : List UInt8 := [bWd (w >>> 24), bWd (w >>> 16), bWd (w >>> 8), bWd w]
def outB (l : List Wd) : List UInt8 := l.flatMap w4B
theorem outB_len : ∀ l : List Wd, (outB l).length = 4 * l.length
  | [] => rfl
  | w :: l => by
    have := outB_len l
    unfold outB at *
    rw [List.flatMap_cons, List.length_append, List.length_cons, this]
    show 4 + _ = _
    omega
theorem outB_next {l : List Wd} {i : Nat} (h : i < l.length) : outB (l.take (i + 1)) = outB (l.take i) ++ w4B (nth l i) := by
  rw [take_getD h, outB, outB, List.flatMap_append, List.flatMap_cons, List.flatMap_nil, List.append_nil]
theorem eat_len : ∀ {v : List Wd} {r : List UInt8}, v.length = 8 → (eat v r).1.length = 8 := by
  intro v r
  induction v, r using eat.induct with
  | case1 v r h ih => intro hv; rw [eat_more h]; exact ih (stepL_len hv _)
  | case2 v r h => intro hv; rw [eat_end (by omega)]; exact hv
theorem wds_map : ∀ l : List Wd, l.flatMap wdC = l.map wv
  | [] => rfl
  | w :: l => by rw [List.flatMap_cons, wds_map l]; rfl
theorem wds_get {l : List Wd} {i : Nat} (h : i < l.length) : (l.flatMap wdC)[i]? = some (wv (nth l i)) := by rw [wds_map, List.getElem?_map, getD_some h]; rfl
theorem hsum_prog (h : Nat) (v : List Wd) (r : List UInt8) (n : Nat) (hv : v.length = 8) (hr : r.length = n % 64) (hn : n ≤ 10000000) : CallsR Tryz.prog nsha_Hash_Sum [.ptr h 0] [(h, .cells true (hO v r n))] fun u => u = .str (outB (eat v (r ++ endL n)).1) := by
  have he := hend_prog h v r n hr (by omega)
  have hel : (endL n).length ≤ 100 := by
    have hzl : zrs n < 64 := Nat.mod_lt _ (by decide)
    simp [endL, be8]
    omega
  unfold hO at he ⊢
  refine ssha_Hash_Sum fun H hh => ?_
  dsimp only [csha_Hash_Sum]
  refine walk1 (k := ?_)
  repeat' first | refine And.intro ?_ ?_ | intro
  all_goals refine leaf ?_
  refine callE (he) ?_
  refine walk1 (k := ?_)
  repeat' first | refine And.intro ?_ ?_ | intro
  all_goals refine leaf ?_
  rename_i x _ _ _ hh
  have hw := hwrite_prog x v r (endL n) n hv (by omega) (by omega)
  have hxl := eat_len (r := r ++ endL n) hv
  generalize eat v (r ++ endL n) = E at *
  unfold hO at hw
  refine callL (hw) ?_
  rintro u L' H' ⟨rfl, rfl⟩ hh
  refine walk1 (k := ?_)
  repeat' first | refine And.intro ?_ ?_ | intro
  all_goals refine leaf ?_
  have hE8 : [wv (nth E.1 0), wv (nth E.1 1), wv (nth E.1 2), wv (nth E.1 3), wv (nth E.1 4), wv (nth E.1 5), wv (nth E.1 6), wv (nth E.1 7)] = E.1.flatMap wdC := wv8_eq hxl
  refine loopN [4, 16, 17] 8 (fun i vs L => ∃ a, vs = [.slice a 0 (outB (E.1.take i)).length 1, .agg (E.1.flatMap wdC), .int .i64 (i : Nat)] ∧ L = [(a, .cells true ((outB (E.1.take i)).flatMap byteC)), (h, .cells true (hO v r n))])
    (Nx.hereW [.slice 0 0 0 1, .agg (E.1.flatMap wdC), .int .i64 (0 : Nat)] ⟨0, rfl, rfl⟩ (hw := .cons (Wk.nils _ _) (.cons (by rw [← hE8]; exact Wk.refl _) (.cons (Wk.refl _) .nil)))) ?_
  clear hh
  rintro i _ _ env H hi ⟨a, rfl, rfl⟩ hh
  simp only [puts]
  refine walk (k := ?_)
  repeat' first | refine And.intro ?_ ?_ | intro
  all_goals refine leaf ?_
  · refine wps_rd (v := wv (nth E.1 i)) ?_ ?_
    · show (if 0 ≤ (i : Int) ∧ (i : Int) < (8 : Nat) then (E.1.flatMap wdC)[((i : Int)).toNat]? else none) = _
      rw [if_pos (by omega), Int.toNat_natCast]
      exact wds_get (by omega)
    have en := outB_next (l := E.1) (i := i) (by omega)
    have hol := outB_len (E.1.take i)
    rw [List.length_take] at hol
    refine walk1 (k := ?_)
    repeat' first | refine And.intro ?_ ?_ | intro
    all_goals refine leaf ?_
    rename_i t _ hh
    refine wps_approw hh (w4B (nth E.1 i)) (enc := byteC) (m := 0) (t := t) (b := true) (L' := fun id' => [(t, .cells true ((w4B (nth E.1 i)).flatMap byteC)), (id', .cells true ((outB (E.1.take i) ++ w4B (nth E.1 i)).flatMap byteC)), (h, .cells true (hO v r n))]) rfl rfl .here (fun _ => rfl) (fun _ => .there .here1) (by show (_ + 4) * 1 ≤ _; omega) fun id' H' hh => ?_
    rw [← en] at hh ⊢
    refine walk1 (k := ?_)
    repeat' first | refine And.intro ?_ ?_ | intro
    all_goals refine leaf ?_
    exact Nx.next (by omega) ⟨id', rfl, rfl⟩
  · have e8 : i = 8 := by omega
    subst e8
    rw [List.take_of_length_le (by omega)] at hh ⊢
    refine walk1 (k := ?_)
    repeat' first | refine And.intro ?_ ?_ | intro
    all_goals refine leaf ?_
    exact doneR rfl
def shaL (s : List UInt8) : List UInt8 := outB (eat (eat V0 s).1 ((eat V0 s).2 ++ endL s.length)).1
theorem shaL_len (s : List UInt8) : (shaL s).length = 32 := by
  rw [shaL, outB_len, eat_len (eat_len rfl)]
theorem eat_rest : ∀ {v : List Wd} {r : List UInt8}, (eat v r).2.length = r.length % 64 := by
  intro v r
  induction v, r using eat.induct with
  | case1 v r h ih => rw [eat_more h, ih, List.length_drop]; omega
  | case2 v r h => rw [eat_end (by omega)]; exact (Nat.mod_eq_of_lt (show r.length < 64 by omega)).symm
theorem sha_prog (s : List UInt8) (hs : s.length ≤ 10000000) : CallsR Tryz.prog nsha_Sum [.str s] [] fun u => u = .str (shaL s) := by
  have hnew : CallsL Tryz.prog nsha_New [] [] fun u L' => ∃ h, u = .ptr h 0 ∧ L' = [(h, .cells true (hO V0 [] 0))] := by
    have h0 := start_prog
    rw [← wv8_eq (x := V0) rfl] at h0
    unfold wv8 at h0
    unfold hO
    generalize V0 = v at *
    refine ssha_New fun H hh => ?_
    dsimp only [csha_New]
    refine walk1 (k := ?_)
    repeat' first | refine And.intro ?_ ?_ | intro
    all_goals refine leaf ?_
    refine callE (h0) ?_
    refine walk1 (k := ?_)
    repeat' first | refine And.intro ?_ ?_ | intro
    all_goals refine leaf ?_
    rename_i h _ hh
    exact done ⟨h, rfl, rfl⟩
  have hr := eat_rest (v := V0) (r := s)
  have hl := eat_len (v := V0) (r := s) rfl
  have hv0 : V0.length = 8 := rfl
  refine ssha_Sum fun H hh => ?_
  dsimp only [csha_Sum]
  refine walk1 (k := ?_)
  repeat' first | refine And.intro ?_ ?_ | intro
  all_goals refine leaf ?_
  refine callL (hnew) ?_
  rintro u L' H' ⟨h, rfl, rfl⟩ hh
  have hw := hwrite_prog h V0 [] s 0 hv0 (by simp; omega) (by omega)
  rw [List.nil_append, Nat.zero_add] at hw
  have hS : shaL s = outB (eat (eat V0 s).1 ((eat V0 s).2 ++ endL s.length)).1 := rfl
  rw [hS]
  clear hS
  generalize V0 = v at *
  generalize eat v s = E at *
  refine walk1 (k := ?_)
  repeat' first | refine And.intro ?_ ?_ | intro
  all_goals refine leaf ?_
  refine callL (hw) ?_
  rintro u L' H' ⟨rfl, rfl⟩ hh
  have hsum := hsum_prog h E.1 E.2 s.length hl hr hs
  refine walk1 (k := ?_)
  repeat' first | refine And.intro ?_ ?_ | intro
  all_goals refine leaf ?_
  refine callE (hsum) ?_
  refine walk1 (k := ?_)
  repeat' first | refine And.intro ?_ ?_ | intro
  all_goals refine leaf ?_
  exact doneR rfl
end Go.Proofs.YtelgcaacaolgfaaGreatDoor
