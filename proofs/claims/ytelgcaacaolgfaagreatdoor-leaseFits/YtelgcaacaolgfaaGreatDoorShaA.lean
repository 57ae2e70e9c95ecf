/-
  Texts joined: Digests: turning words. Digests: a block's words. Digests: a block more.
-/
import Derived.Test.YtelgcaacaolgfaaGreatDoorBldA
namespace Go.Proofs.YtelgcaacaolgfaaGreatDoor
open Go Go.CM
set_option maxRecDepth 100000
set_option maxHeartbeats 4000000

abbrev wv (a : Wd) : V := .int .u32 (a.toNat : Nat)
def wdC (a : Wd) : List V := [wv a]
def rr (x : Wd) (n : Nat) : Wd := x >>> n ||| x <<< (32 - n)
theorem or_comm' (a b : Wd) : a ||| b = b ||| a := BitVec.or_comm a b
theorem rot_amt : ∀ n : Nat, n < 32 → IntKind.u64.wrap (BitVec.ofInt IntKind.u64.bits (IntKind.u64.wrap (IntKind.i64.wrap (0 - (n : Int)))) &&& BitVec.ofInt IntKind.u64.bits 31).toNat = (((32 - n) % 32 : Nat) : Int) := by decide +kernel
theorem shl_amt (x : Wd) (n : Nat) (hn : n ≤ 32) : ∀ S : Int, S = (n : Nat) → IntKind.u32.wrap (((x.toNat : Nat) : Int) * 2 ^ min S.toNat IntKind.u32.bits) = ((x <<< n).toNat : Nat) := by
  rintro _ rfl
  have h := wd_shl x .u64 n hn
  simp only [binV] at h
  rw [if_neg (by omega)] at h
  injection h with h
  injection h
theorem rotl_prog (x : Wd) (n : Nat) (h0 : 0 < n) (h1 : n < 32) : CallsR Tryz.prog nbits_RotateLeft32 [wv x, .int .i64 (IntKind.i64.wrap (0 - (n : Int)))] [] fun v => v = wv (rr x n) := by
  have hr := rot_amt n h1
  rw [Nat.mod_eq_of_lt (by omega)] at hr
  have hk : x <<< (32 - n) ||| x >>> n = rr x n := or_comm' _ _
  refine sbits_RotateLeft32 fun H hh => ?_
  dsimp only [cbits_RotateLeft32]
  refine walk1 (k := ?_)
  repeat' first | refine And.intro ?_ ?_ | intro
  all_goals refine leaf ?_
  refine wps_slot (s := 14) (v := .int .u64 (n : Nat)) (by show V.int .u64 (32 - _) = _; rw [hr]; congr 1; omega) ?_
  refine wps_slot (s := 11) (v := wv (x <<< (32 - n))) (congrArg (V.int .u32) (shl_amt x (32 - n) (by omega) _ hr)) ?_
  refine walk1 (k := ?_)
  repeat' first | refine And.intro ?_ ?_ | intro
  all_goals refine leaf ?_
  exact doneR (by rw [hk])
theorem right_prog (x : Wd) (n : Nat) (h0 : 0 < n) (h1 : n < 32) : CallsR Tryz.prog nsha_right [wv x, .int .i64 (n : Nat)] [] fun v => v = wv (rr x n) := by
  have h := rotl_prog x n h0 h1
  refine ssha_right fun H hh => ?_
  dsimp only [csha_right]
  refine walk1 (k := ?_)
  repeat' first | refine And.intro ?_ ?_ | intro
  all_goals refine leaf ?_
  refine callE (h) ?_
  refine walk1 (k := ?_)
  repeat' first | refine And.intro ?_ ?_ | intro
  all_goals refine leaf ?_
  exact doneR rfl
end Go.Proofs.YtelgcaacaolgfaaGreatDoor

namespace Go.Proofs.YtelgcaacaolgfaaGreatDoor
open Go Go.CM
set_option maxRecDepth 100000
set_option maxHeartbeats 4000000

def w4 (b : List UInt8) (i : Nat) : Wd := wdB (b.getD (4 * i) 0) <<< 24 ||| wdB (b.getD (4 * i + 1) 0) <<< 16 ||| wdB (b.getD (4 * i + 2) 0) <<< 8 ||| wdB (b.getD (4 * i + 3) 0)
def sg0 (x : Wd) : Wd := rr x 7 ^^^ rr x 18 ^^^ x >>> 3
def sg1 (x : Wd) : Wd := rr x 17 ^^^ rr x 19 ^^^ x >>> 10
def sch (b : List UInt8) : Nat → List Wd
  | 0 => []
  | n + 1 => sch b n ++ [if n < 16 then w4 b n else nth (sch b n) (n - 16) + sg0 (nth (sch b n) (n - 15)) + nth (sch b n) (n - 7) + sg1 (nth (sch b n) (n - 2))]
theorem sch_len (b : List UInt8) : ∀ n, (sch b n).length = n
  | 0 => rfl
  | n + 1 => by rw [sch, List.length_append, sch_len b n]; rfl
def schZ (b : List UInt8) (i n : Nat) : List Wd := sch b i ++ List.replicate (n - i) 0
theorem schZ_len (b : List UInt8) {i n : Nat} (h : i ≤ n) : (schZ b i n).length = n := by
  rw [schZ, List.length_append, sch_len, List.length_replicate]; omega
theorem schZ_nth (b : List UInt8) {i n j : Nat} (h : j < i) : nth (schZ b i n) j = nth (sch b i) j := by
  rw [schZ, nth_eq, nth_eq, List.getD_eq_getElem?_getD, List.getD_eq_getElem?_getD, List.getElem?_append_left (by rw [sch_len]; exact h)]
theorem schZ_set (b : List UInt8) {i n : Nat} (h : i < n) {x : Wd} (hx : sch b (i + 1) = sch b i ++ [x]) : (schZ b i n).set i x = schZ b (i + 1) n := by
  unfold schZ
  rw [hx, show n - i = (n - (i + 1)) + 1 by omega, List.replicate_succ, List.append_assoc]
  have : ∀ (A : List Wd) (y : Wd) (B : List Wd), A.length = i → (A ++ y :: B).set i x = A ++ x :: B := by
    intro A y B hA
    subst hA
    simp
  exact this _ _ _ (sch_len b i)
theorem wds_len (l : List Wd) : (l.flatMap wdC).length = l.length := by rw [rows_length (sz := 1) (fun _ => rfl), Nat.mul_one]
theorem sched_prog (b : List UInt8) (hb : b.length = 64) : CallsR Tryz.prog nsha_schedule [.str b] [] fun v => v = .agg ((sch b 64).flatMap wdC) := by
  refine ssha_schedule fun H hh => ?_
  dsimp only [csha_schedule]
  rw [show ([V.int .u32 0, V.int .u32 0, V.int .u32 0, V.int .u32 0, V.int .u32 0, V.int .u32 0, V.int .u32 0, V.int .u32 0, V.int .u32 0, V.int .u32 0, V.int .u32 0, V.int .u32 0, V.int .u32 0, V.int .u32 0, V.int .u32 0, V.int .u32 0, V.int .u32 0, V.int .u32 0, V.int .u32 0, V.int .u32 0, V.int .u32 0, V.int .u32 0, V.int .u32 0, V.int .u32 0, V.int .u32 0, V.int .u32 0, V.int .u32 0, V.int .u32 0, V.int .u32 0, V.int .u32 0, V.int .u32 0, V.int .u32 0, V.int .u32 0, V.int .u32 0, V.int .u32 0, V.int .u32 0, V.int .u32 0, V.int .u32 0, V.int .u32 0, V.int .u32 0, V.int .u32 0, V.int .u32 0, V.int .u32 0, V.int .u32 0, V.int .u32 0, V.int .u32 0, V.int .u32 0, V.int .u32 0, V.int .u32 0, V.int .u32 0, V.int .u32 0, V.int .u32 0, V.int .u32 0, V.int .u32 0, V.int .u32 0, V.int .u32 0, V.int .u32 0, V.int .u32 0, V.int .u32 0, V.int .u32 0, V.int .u32 0, V.int .u32 0, V.int .u32 0, V.int .u32 0] : List V) = (schZ b 0 64).flatMap wdC from rfl]
  refine walk1 (k := ?_)
  repeat' first | refine And.intro ?_ ?_ | intro
  all_goals refine leaf ?_
  rename_i r _ _ w _ hh
  refine loopN [0, 2, 3, 8] 16 (fun i vs L => vs = [.str b, .ptr r 0, .ptr w 0, .int .i64 (i : Nat)] ∧ L = [(w, .cells true ((schZ b i 64).flatMap wdC)), (r, .cells true ((schZ b 0 64).flatMap wdC))])
    (Nx.here ⟨rfl, rfl⟩) ?_
  clear hh
  rintro i _ _ e H hi ⟨rfl, rfl⟩ hh
  simp only [puts]
  have hl := schZ_len b (i := i) (n := 64) (by omega)
  refine walk (k := ?_)
  repeat' first | refine And.intro ?_ ?_ | intro
  all_goals refine leaf ?_
  · rename_i hn _ hh
    have hset : (schZ b i 64).set i (w4 b i) = schZ b (i + 1) 64 := schZ_set b (by omega) (by rw [sch, if_pos (by omega)])
    replace hh : Has _ [(w, .cells true (((schZ b i 64).set i (w4 b i)).flatMap wdC)), (r, .cells true ((schZ b 0 64).flatMap wdC))] := hh
    rw [hset] at hh
    exact Nx.next (by omega) ⟨rfl, rfl⟩
  · have e16 : i = 16 := by omega
    subst e16
    refine loopM [2, 3, 5] (fun m vs L => ∃ i : Nat, 16 ≤ i ∧ i ≤ 64 ∧ m = 64 - i ∧ vs = [.ptr r 0, .ptr w 0, .int .i64 (i : Nat)] ∧ L = [(w, .cells true ((schZ b i 64).flatMap wdC)), (r, .cells true ((schZ b 0 64).flatMap wdC))])
      (Nx.intro (i := 48) trivial ⟨16, by omega, by omega, rfl, rfl, rfl⟩) ?_
    clear hh
    rintro m _ _ e H ⟨i, hi1, hi2, rfl, rfl, rfl⟩ hh
    simp only [puts]
    have hl := schZ_len b (i := i) (n := 64) (by omega)
    refine walk (k := ?_)
    repeat' first | refine And.intro ?_ ?_ | intro
    all_goals refine leaf ?_
    · have h15 := right_prog (nth (schZ b i 64) (i - 15))
      have h2 := right_prog (nth (schZ b i 64) (i - 2))
      refine callE ((h15 7 (by decide) (by decide))) ?_
      refine walk1 (k := ?_)
      repeat' first | refine And.intro ?_ ?_ | intro
      all_goals refine leaf ?_
      refine callE ((h15 18 (by decide) (by decide))) ?_
      refine walk1 (k := ?_)
      repeat' first | refine And.intro ?_ ?_ | intro
      all_goals refine leaf ?_
      refine callE ((h2 17 (by decide) (by decide))) ?_
      refine walk1 (k := ?_)
      repeat' first | refine And.intro ?_ ?_ | intro
      all_goals refine leaf ?_
      refine callE ((h2 19 (by decide) (by decide))) ?_
      refine walk1 (k := ?_)
      repeat' first | refine And.intro ?_ ?_ | intro
      all_goals refine leaf ?_
      rename_i hn _ hh
      have hset : (schZ b i 64).set i (nth (schZ b i 64) (i - 16) + sg0 (nth (schZ b i 64) (i - 15)) + nth (schZ b i 64) (i - 7) + sg1 (nth (schZ b i 64) (i - 2))) = schZ b (i + 1) 64 := schZ_set b (by omega) (by
        rw [sch, if_neg (by omega), schZ_nth b (by omega), schZ_nth b (by omega), schZ_nth b (by omega), schZ_nth b (by omega)])
      replace hh : Has _ [(w, .cells true (((schZ b i 64).set i (nth (schZ b i 64) (i - 16) + sg0 (nth (schZ b i 64) (i - 15)) + nth (schZ b i 64) (i - 7) + sg1 (nth (schZ b i 64) (i - 2)))).flatMap wdC)), (r, .cells true ((schZ b 0 64).flatMap wdC))] := hh
      rw [hset] at hh
      exact Nx.intro (i := 64 - (i + 1)) (by omega) ⟨i + 1, by omega, by omega, rfl, rfl, rfl⟩
    · have e64 : i = 64 := by omega
      subst e64
      have eS : schZ b 64 64 = sch b 64 := by rw [schZ, Nat.sub_self]; exact List.append_nil _
      rw [eS] at hh hl
      have h0 := schZ_len b (i := 0) (n := 64) (by omega)
      generalize sch b 64 = S at *
      generalize schZ b 0 64 = Z at *
      refine wps_lda hh (n := 63) rfl .here (by rw [wds_len]; exact hl) ?_
      refine wps_store hh (n := 63) (cs' := S.flatMap wdC) (L' := [(w, .cells true (S.flatMap wdC)), (r, .cells true (S.flatMap wdC))]) rfl rfl rfl rfl (by show (List.flatMap wdC _).length = _; rw [wds_len]; exact hl) (.there .here1) (by rw [wds_len, h0]; decide) (splice_all (by rw [wds_len, h0]; show 64 = (List.flatMap wdC _).length; rw [wds_len]; exact hl.symm)) fun H' hh => ?_
      refine k_seq_n (c_ret ?_)
      exact f_res (res_cons (res_cn (sz := 63) hh rfl (At.there .here) (by rw [wds_len]; exact hl)) res_nil) (doneR rfl)
end Go.Proofs.YtelgcaacaolgfaaGreatDoor

namespace Go.Proofs.YtelgcaacaolgfaaGreatDoor
open Go Go.CM
set_option maxRecDepth 100000
set_option maxHeartbeats 4000000

def KK : List Wd := [1116352408#32, 1899447441#32, 3049323471#32, 3921009573#32, 961987163#32, 1508970993#32, 2453635748#32, 2870763221#32, 3624381080#32, 310598401#32, 607225278#32, 1426881987#32, 1925078388#32, 2162078206#32, 2614888103#32, 3248222580#32, 3835390401#32, 4022224774#32, 264347078#32, 604807628#32, 770255983#32, 1249150122#32, 1555081692#32, 1996064986#32, 2554220882#32, 2821834349#32, 2952996808#32, 3210313671#32, 3336571891#32, 3584528711#32, 113926993#32, 338241895#32, 666307205#32, 773529912#32, 1294757372#32, 1396182291#32, 1695183700#32, 1986661051#32, 2177026350#32, 2456956037#32, 2730485921#32, 2820302411#32, 3259730800#32, 3345764771#32, 3516065817#32, 3600352804#32, 4094571909#32, 275423344#32, 430227734#32, 506948616#32, 659060556#32, 883997877#32, 958139571#32, 1322822218#32, 1537002063#32, 1747873779#32, 1955562222#32, 2024104815#32, 2227730452#32, 2361852424#32, 2428436474#32, 2756734187#32, 3204031479#32, 3329325298#32]
def V0 : List Wd := [1779033703#32, 3144134277#32, 1013904242#32, 2773480762#32, 1359893119#32, 2600822924#32, 528734635#32, 1541459225#32]
def rnd : List Wd → Wd → Wd → List Wd
  | [a, b, c, d, e, f, g, h], k, w =>
    [h + ((rr e 6 ^^^ rr e 11) ^^^ rr e 25) + ((e &&& f) ^^^ ((~~~ e) &&& g)) + k + w + (((rr a 2 ^^^ rr a 13) ^^^ rr a 22) + (((a &&& b) ^^^ (a &&& c)) ^^^ (b &&& c))), a, b, c, d + (h + ((rr e 6 ^^^ rr e 11) ^^^ rr e 25) + ((e &&& f) ^^^ ((~~~ e) &&& g)) + k + w), e, f, g]
  | x, _, _ => x
def rnds (v K W : List Wd) : Nat → List Wd
  | 0 => v
  | n + 1 => rnd (rnds v K W n) (nth K n) (nth W n)
def addL (v x : List Wd) : List Wd := List.zipWith (· + ·) v x
def stepL (v : List Wd) (b : List UInt8) : List Wd := addL v (rnds v KK (sch b 64) 64)
theorem eight {x : List Wd} (h : x.length = 8) : ∃ a b c d e f g i, x = [a, b, c, d, e, f, g, i] := by
  match x, h with
  | [a, b, c, d, e, f, g, i], _ => exact ⟨a, b, c, d, e, f, g, i, rfl⟩
theorem rnd_len {x : List Wd} (h : x.length = 8) (k w : Wd) : (rnd x k w).length = 8 := by
  obtain ⟨a, b, c, d, e, f, g, i, rfl⟩ := eight h
  rfl
theorem rnds_len {v : List Wd} (h : v.length = 8) (K W : List Wd) : ∀ n, (rnds v K W n).length = 8
  | 0 => h
  | n + 1 => rnd_len (rnds_len h K W n) _ _
theorem addL_len {v x : List Wd} (h : v.length = 8) (h2 : x.length = 8) : (addL v x).length = 8 := by rw [addL, List.length_zipWith, h, h2]; rfl
theorem stepL_len {v : List Wd} (h : v.length = 8) (b : List UInt8) : (stepL v b).length = 8 := addL_len h (rnds_len h _ _ _)
theorem KK_len : KK.length = 64 := rfl
theorem consts_prog : CallsR Tryz.prog nsha_constants [] [] fun v => v = .agg (KK.flatMap wdC) := by
  have hl : (KK.flatMap wdC).length = 64 := by rw [wds_len]; rfl
  refine ssha_constants fun H hh => ?_
  dsimp only [csha_constants]
  refine c_seq (c_ops (wps_alloc hh fun r _ hh => wps_nil (k_seq_n ?_)))
  refine c_seq (c_ops ?_)
  refine wps_rd (v := .agg (KK.flatMap wdC)) (by kernel_rfl) ?_
  refine wps_store hh (n := 63) (cs' := KK.flatMap wdC) (L' := [(r, .cells true (KK.flatMap wdC))]) rfl rfl rfl rfl hl .here1 (by decide) (splice_all hl.symm) fun H' hh => ?_
  refine wps_nil (k_seq_n (c_ret ?_))
  exact f_res (res_cons (res_cn (sz := 63) hh rfl .here hl) res_nil) (doneR rfl)
theorem start_prog : CallsR Tryz.prog nsha_start [] [] fun v => v = .agg (V0.flatMap wdC) := by
  have hl : (V0.flatMap wdC).length = 8 := by rw [wds_len]; rfl
  refine ssha_start fun H hh => ?_
  dsimp only [csha_start]
  refine c_seq (c_ops (wps_alloc hh fun r _ hh => wps_nil (k_seq_n ?_)))
  refine c_seq (c_ops ?_)
  refine wps_rd (v := .agg (V0.flatMap wdC)) (by kernel_rfl) ?_
  refine wps_store hh (n := 7) (cs' := V0.flatMap wdC) (L' := [(r, .cells true (V0.flatMap wdC))]) rfl rfl rfl rfl hl .here1 (by decide) (splice_all hl.symm) fun H' hh => ?_
  refine wps_nil (k_seq_n (c_ret ?_))
  exact f_res (res_cons (res_cn (sz := 7) hh rfl .here hl) res_nil) (doneR rfl)
end Go.Proofs.YtelgcaacaolgfaaGreatDoor
