/-
  Digests: a block's words.
-/
import Derived.Test.YtelgcaacaolgfaaDoorShaA
namespace Go.Proofs.YtelgcaacaolgfaaDoor
open Go Go.CM
set_option maxRecDepth 100000
set_option maxHeartbeats 4000000

/-- Four bytes as a word. -/
def w4 (b : List UInt8) (i : Nat) : Wd := wdB (b.getD (4 * i) 0) <<< 24 ||| wdB (b.getD (4 * i + 1) 0) <<< 16 ||| wdB (b.getD (4 * i + 2) 0) <<< 8 ||| wdB (b.getD (4 * i + 3) 0)
def sg0 (x : Wd) : Wd := rr x 7 ^^^ rr x 18 ^^^ x >>> 3
def sg1 (x : Wd) : Wd := rr x 17 ^^^ rr x 19 ^^^ x >>> 10
/-- A block's words, the first n. -/
def sch (b : List UInt8) : Nat → List Wd
  | 0 => []
  | n + 1 => sch b n ++ [if n < 16 then w4 b n else nth (sch b n) (n - 16) + sg0 (nth (sch b n) (n - 15)) + nth (sch b n) (n - 7) + sg1 (nth (sch b n) (n - 2))]
theorem sch_len (b : List UInt8) : ∀ n, (sch b n).length = n
  | 0 => rfl
  | n + 1 => by rw [sch, List.length_append, sch_len b n]; rfl
/-- .. and nothing behind them. -/
def schZ (b : List UInt8) (i n : Nat) : List Wd := sch b i ++ List.replicate (n - i) 0
theorem schZ_len (b : List UInt8) {i n : Nat} (h : i ≤ n) : (schZ b i n).length = n := by
  rw [schZ, List.length_append, sch_len, List.length_replicate]; omega
theorem schZ_nth (b : List UInt8) {i n j : Nat} (h : j < i) : nth (schZ b i n) j = nth (sch b i) j := by
  rw [schZ, nth_eq, nth_eq, List.getD_eq_getElem?_getD, List.getD_eq_getElem?_getD, List.getElem?_append_left (by rw [sch_len]; exact h)]
theorem schZ_set (b : List UInt8) {i n : Nat} (h : i < n) {x : Wd} (hx : sch b (i + 1) = sch b i ++ [x]) : (schZ b i n).set i x = schZ b (i + 1) n := by
  unfold schZ
  rw [hx, show n - i = (n - (i + 1)) + 1 by omega, List.replicate_succ, List.append_assoc]
  have : ∀ (A : List Wd) (y : Wd) (B : List Wd), A.length = i → (A ++ y :: B).set i x = A ++ x :: B := by
    intro A y B hA
    subst hA
    simp
  exact this _ _ _ (sch_len b i)
theorem rep_wd : ∀ n : Nat, rep [V.int .u32 0] n = (List.replicate n (0 : Wd)).flatMap wdC
  | 0 => rfl
  | n + 1 => by rw [rep, rep_wd n, List.replicate_succ, List.flatMap_cons]; rfl
theorem wds_len (l : List Wd) : (l.flatMap wdC).length = l.length := by rw [rows_length (sz := 1) (fun _ => rfl), Nat.mul_one]
theorem sched_prog (b : List UInt8) (hb : b.length = 64) : CallsR Tryd.prog nsha_schedule [.str b] [] fun v => v = .agg ((sch b 64).flatMap wdC) := by
  refine ssha_schedule fun H hh => ?_
  dsimp only [csha_schedule]
  rw [show ([V.int .u32 0, V.int .u32 0, V.int .u32 0, V.int .u32 0, V.int .u32 0, V.int .u32 0, V.int .u32 0, V.int .u32 0, V.int .u32 0, V.int .u32 0, V.int .u32 0, V.int .u32 0, V.int .u32 0, V.int .u32 0, V.int .u32 0, V.int .u32 0, V.int .u32 0, V.int .u32 0, V.int .u32 0, V.int .u32 0, V.int .u32 0, V.int .u32 0, V.int .u32 0, V.int .u32 0, V.int .u32 0, V.int .u32 0, V.int .u32 0, V.int .u32 0, V.int .u32 0, V.int .u32 0, V.int .u32 0, V.int .u32 0, V.int .u32 0, V.int .u32 0, V.int .u32 0, V.int .u32 0, V.int .u32 0, V.int .u32 0, V.int .u32 0, V.int .u32 0, V.int .u32 0, V.int .u32 0, V.int .u32 0, V.int .u32 0, V.int .u32 0, V.int .u32 0, V.int .u32 0, V.int .u32 0, V.int .u32 0, V.int .u32 0, V.int .u32 0, V.int .u32 0, V.int .u32 0, V.int .u32 0, V.int .u32 0, V.int .u32 0, V.int .u32 0, V.int .u32 0, V.int .u32 0, V.int .u32 0, V.int .u32 0, V.int .u32 0, V.int .u32 0, V.int .u32 0] : List V) = (schZ b 0 64).flatMap wdC from rfl]
  refine walk1 (k := ?_)
  repeat' first | refine And.intro ?_ ?_ | intro
  all_goals refine leaf ?_
  rename_i r _ _ w _ hh
  refine loopN [0, 2, 3, 8] 16 (fun i vs L => vs = [.str b, .ptr r 0, .ptr w 0, .int .i64 (i : Nat)] ∧ L = [(w, .cells true ((schZ b i 64).flatMap wdC)), (r, .cells true ((schZ b 0 64).flatMap wdC))])
    (Nx.here ⟨rfl, rfl⟩) ?_
  clear hh
  rintro i _ _ e H hi ⟨rfl, rfl⟩ hh
  simp only [puts]
  have hl := schZ_len b (i := i) (n := 64) (by omega)
  refine walk (k := ?_)
  repeat' first | refine And.intro ?_ ?_ | intro
  all_goals refine leaf ?_
  · rename_i hn _ hh
    have hset : (schZ b i 64).set i (w4 b i) = schZ b (i + 1) 64 := schZ_set b (by omega) (by rw [sch, if_pos (by omega)])
    replace hh : Has _ [(w, .cells true (((schZ b i 64).set i (w4 b i)).flatMap wdC)), (r, .cells true ((schZ b 0 64).flatMap wdC))] := hh
    rw [hset] at hh
    exact Nx.next (by omega) ⟨rfl, rfl⟩
  · have e16 : i = 16 := by omega
    subst e16
    refine loopM [2, 3, 5] (fun m vs L => ∃ i : Nat, 16 ≤ i ∧ i ≤ 64 ∧ m = 64 - i ∧ vs = [.ptr r 0, .ptr w 0, .int .i64 (i : Nat)] ∧ L = [(w, .cells true ((schZ b i 64).flatMap wdC)), (r, .cells true ((schZ b 0 64).flatMap wdC))])
      (Nx.intro (i := 48) trivial ⟨16, by omega, by omega, rfl, rfl, rfl⟩) ?_
    clear hh
    rintro m _ _ e H ⟨i, hi1, hi2, rfl, rfl, rfl⟩ hh
    simp only [puts]
    have hl := schZ_len b (i := i) (n := 64) (by omega)
    refine walk (k := ?_)
    repeat' first | refine And.intro ?_ ?_ | intro
    all_goals refine leaf ?_
    · have h15 := right_prog (nth (schZ b i 64) (i - 15))
      have h2 := right_prog (nth (schZ b i 64) (i - 2))
      refine callE ((h15 7 (by decide) (by decide))) ?_
      refine walk1 (k := ?_)
      repeat' first | refine And.intro ?_ ?_ | intro
      all_goals refine leaf ?_
      refine callE ((h15 18 (by decide) (by decide))) ?_
      refine walk1 (k := ?_)
      repeat' first | refine And.intro ?_ ?_ | intro
      all_goals refine leaf ?_
      refine callE ((h2 17 (by decide) (by decide))) ?_
      refine walk1 (k := ?_)
      repeat' first | refine And.intro ?_ ?_ | intro
      all_goals refine leaf ?_
      refine callE ((h2 19 (by decide) (by decide))) ?_
      refine walk1 (k := ?_)
      repeat' first | refine And.intro ?_ ?_ | intro
      all_goals refine leaf ?_
      rename_i hn _ hh
      have hset : (schZ b i 64).set i (nth (schZ b i 64) (i - 16) + sg0 (nth (schZ b i 64) (i - 15)) + nth (schZ b i 64) (i - 7) + sg1 (nth (schZ b i 64) (i - 2))) = schZ b (i + 1) 64 := schZ_set b (by omega) (by
        rw [sch, if_neg (by omega), schZ_nth b (by omega), schZ_nth b (by omega), schZ_nth b (by omega), schZ_nth b (by omega)])
      replace hh : Has _ [(w, .cells true (((schZ b i 64).set i (nth (schZ b i 64) (i - 16) + sg0 (nth (schZ b i 64) (i - 15)) + nth (schZ b i 64) (i - 7) + sg1 (nth (schZ b i 64) (i - 2)))).flatMap wdC)), (r, .cells true ((schZ b 0 64).flatMap wdC))] := hh
      rw [hset] at hh
      exact Nx.intro (i := 64 - (i + 1)) (by omega) ⟨i + 1, by omega, by omega, rfl, rfl, rfl⟩
    · have e64 : i = 64 := by omega
      subst e64
      have eS : schZ b 64 64 = sch b 64 := by rw [schZ, Nat.sub_self]; exact List.append_nil _
      rw [eS] at hh hl
      have h0 := schZ_len b (i := 0) (n := 64) (by omega)
      generalize sch b 64 = S at *
      generalize schZ b 0 64 = Z at *
      refine wps_lda hh (n := 63) rfl .here (by rw [wds_len]; exact hl) ?_
      refine wps_store hh (n := 63) (cs' := S.flatMap wdC) (L' := [(w, .cells true (S.flatMap wdC)), (r, .cells true (S.flatMap wdC))]) rfl rfl rfl rfl (by show (List.flatMap wdC _).length = _; rw [wds_len]; exact hl) (.there .here1) (by rw [wds_len, h0]; decide) (splice_all (by rw [wds_len, h0]; show 64 = (List.flatMap wdC _).length; rw [wds_len]; exact hl.symm)) fun H' hh => ?_
      refine k_seq_n (c_ret ?_)
      exact f_res (res_cons (res_cn (sz := 63) hh rfl (At.there .here) (by rw [wds_len]; exact hl)) res_nil) (doneR rfl)
end Go.Proofs.YtelgcaacaolgfaaDoor
