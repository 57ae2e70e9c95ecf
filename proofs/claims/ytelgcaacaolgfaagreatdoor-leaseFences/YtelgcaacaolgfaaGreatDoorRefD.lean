/-
  Texts joined: Digests: the document's. Digests: the document's sum.
-/
import Derived.Test.YtelgcaacaolgfaaGreatDoorLeaE
namespace Go.Proofs.YtelgcaacaolgfaaGreatDoor
open Go Go.CM
set_option maxRecDepth 100000
set_option maxHeartbeats 4000000

theorem table_prog : CallsR Tryz.prog nref03_Table [] [] fun v => v = .tup [.agg (V0.flatMap wdC), .agg (KK.flatMap wdC)] := by
  have hl : (KK.flatMap wdC).length = 64 := by rw [wds_len]; rfl
  have hv : (V0.flatMap wdC).length = 8 := by rw [wds_len]; rfl
  refine sref03_Table fun H hh => ?_
  dsimp only [cref03_Table]
  refine c_seq (c_ops (wps_alloc hh fun r _ hh => wps_alloc hh fun w _ hh => wps_nil (k_seq_n ?_)))
  refine c_seq (c_ops ?_)
  refine wps_rd (v := .agg (V0.flatMap wdC)) (by kernel_rfl) ?_
  refine wps_rd (v := .agg (KK.flatMap wdC)) (by kernel_rfl) ?_
  refine wps_store hh (n := 7) (cs' := V0.flatMap wdC) (L' := [(w, _), (r, .cells true (V0.flatMap wdC))]) rfl rfl rfl rfl hv (.there .here1) (by decide) (splice_all hv.symm) fun H' hh => ?_
  refine wps_store hh (n := 63) (cs' := KK.flatMap wdC) (L' := [(w, .cells true (KK.flatMap wdC)), (r, .cells true (V0.flatMap wdC))]) rfl rfl rfl rfl hl .here1 (by decide) (splice_all hl.symm) fun H' hh => ?_
  refine wps_nil (k_seq_n (c_ret ?_))
  exact f_res (res_cons (res_cn (sz := 7) hh rfl (.there .here) hv) (res_cons (res_cn (sz := 63) hh rfl .here hl) res_nil)) (doneR rfl)
theorem endL_len (n : Nat) : (n + (endL n).length) % 64 = 0 := by
  have hd : zrs n = (119 - n % 64) % 64 := rfl
  simp only [endL, be8, List.length_append, List.length_cons, List.length_replicate, List.length_map, List.length_range]
  omega
theorem padded_prog (s : List UInt8) (hs : s.length ≤ 1000000) : CallsR Tryz.prog nref03_Padded [.str s] [] fun v => v = .str (s ++ endL s.length) := by
  have hzl : zrs s.length < 64 := Nat.mod_lt _ (by decide)
  have hzd : zrs s.length = (119 - s.length % 64) % 64 := rfl
  have hint0 : Hint byteC (128 : UInt8) := trivial
  refine sref03_Padded fun H hh => ?_
  dsimp only [cref03_Padded]
  refine walk1 (k := ?_)
  repeat' first | refine And.intro ?_ ?_ | intro
  all_goals refine leaf ?_
  generalize hN : s.length = N at *
  refine loopM [0, 3] (fun m vs L => ∃ (a j : Nat), j ≤ zrs N ∧ m = zrs N - j ∧ vs = [.str s, .slice a 0 (s ++ (128 :: List.replicate j (0 : UInt8))).length 1] ∧ L = [(a, .cells true ((s ++ (128 :: List.replicate j (0 : UInt8))).flatMap byteC))])
    (Nx.intro (i := zrs N) trivial ⟨_, 0, Nat.zero_le _, rfl, rfl, rfl⟩) ?_
  clear hh
  rintro m _ _ env H ⟨a, j, hj, rfl, rfl, rfl⟩ hh
  simp only [puts]
  have hint : Hint byteC (0 : UInt8) := trivial
  have hll : (s ++ (128 :: List.replicate j (0 : UInt8))).length = N + (j + 1) := by simp [hN]
  refine walk (k := ?_)
  repeat' first | refine And.intro ?_ ?_ | intro
  all_goals refine leaf ?_
  · rename_i hne _ _ _ hh
    rw [List.append_assoc, show 128 :: List.replicate j (0 : UInt8) ++ [0] = 128 :: List.replicate (j + 1) 0 by rw [rep_next]; rfl] at hh ⊢
    exact Nx.intro (i := zrs N - (j + 1)) (by omega) ⟨_, j + 1, by omega, rfl, rfl, rfl⟩
  · rename_i he
    have ej : j = zrs N := by omega
    subst ej
    have hen : s ++ endL N = (s ++ (128 :: List.replicate (zrs N) (0 : UInt8))) ++ be8 (N * 8) := by rw [endL, List.append_assoc]
    rw [hen]
    have hZl : (s ++ (128 :: List.replicate (zrs N) (0 : UInt8))).length ≤ 1000100 := by omega
    generalize hZ : (s ++ (128 :: List.replicate (zrs N) (0 : UInt8))) = Z at *
    have e8 : ((s.length : Nat) : Int) * 8 = ((N * 8 : Nat) : Int) := by omega
    refine c_slot (s := 4) (v := .int .u64 (N * 8 : Nat)) (congrArg (V.int .u64) e8) ?_
    refine loopM [3, 4, 5] (fun m vs L => ∃ (a j : Nat), j ≤ 8 ∧ m = 8 - j ∧ vs = [.slice a 0 (Z ++ (be8 (N * 8)).take j).length 1, .int .u64 (N * 8 : Nat), .int .i64 (7 - (j : Nat))] ∧ L = [(a, .cells true ((Z ++ (be8 (N * 8)).take j).flatMap byteC))])
      (Nx.intro (i := 8) trivial ⟨a, 0, Nat.zero_le _, rfl, by rw [List.take_zero, List.append_nil]; rfl, by rw [List.take_zero, List.append_nil]⟩) ?_
    clear hh
    rintro m _ _ env H ⟨a, j, hj, rfl, rfl, rfl⟩ hh
    simp only [puts]
    have htl : ((be8 (N * 8)).take j).length ≤ 8 := by rw [List.length_take]; omega
    have htz : (Z ++ (be8 (N * 8)).take j).length ≤ 1000108 := by rw [List.length_append]; omega
    have hint : Hint byteC (UInt8.ofNat (N * 8 / 256 ^ (7 - j))) := trivial
    refine walk (k := ?_)
    repeat' first | refine And.intro ?_ ?_ | intro
    all_goals refine leaf ?_
    · rename_i hge
      have en := be8_next (N * 8) (j := j) (by omega)
      refine wps_rd (shr8 (N * 8) (7 - j) _ (by omega) (by omega)) ?_
      refine wps_u8 rfl ?_
      refine walk1 (k := ?_)
      repeat' first | refine And.intro ?_ ?_ | intro
      all_goals refine leaf ?_
      rename_i hh
      rw [List.append_assoc, ← en] at hh ⊢
      exact Nx.intro (i := 8 - (j + 1)) (by omega) ⟨_, j + 1, by omega, rfl, l3 rfl rfl (congrArg (V.int .i64) (by omega)), rfl⟩
    · have ej : j = 8 := by omega
      subst ej
      rw [be8_all] at hh ⊢
      exact doneR rfl
end Go.Proofs.YtelgcaacaolgfaaGreatDoor

namespace Go.Proofs.YtelgcaacaolgfaaGreatDoor
open Go Go.CM
set_option maxRecDepth 100000
set_option maxHeartbeats 4000000

theorem eat_app : ∀ (v : List Wd) (a b : List UInt8), eat v (a ++ b) = eat (eat v a).1 ((eat v a).2 ++ b) := by
  intro v a
  induction v, a using eat.induct with
  | case1 v a h ih =>
    intro b
    rw [eat_more h, ← ih b, eat_more (r := a ++ b) (by rw [List.length_append]; omega), List.take_append_of_le_length h, List.drop_append_of_le_length h]
  | case2 v a h =>
    intro b
    rw [eat_end (r := a) (by omega)]
theorem shaL_eq (s : List UInt8) : shaL s = outB (eat V0 (s ++ endL s.length)).1 := by rw [eat_app V0 s (endL s.length)]; rfl
theorem step256 (y : Wd) (c : UInt8) (h : y.toNat < 16777216) : ((y.toNat : Nat) : Int) * 256 + ((wdB c).toNat : Nat) = (((y <<< 8 ||| wdB c).toNat : Nat) : Int) := by
  have hc := UInt8.toNat_lt c
  have h1 : (y <<< 8 ||| wdB c).toNat = y.toNat * 256 + c.toNat := by
    rw [BitVec.toNat_or, BitVec.toNat_shiftLeft, wdB_toNat, Nat.mod_eq_of_lt (by rw [Nat.shiftLeft_eq]; omega), ← Nat.shiftLeft_add_eq_or_of_lt (by omega), Nat.shiftLeft_eq]
  rw [h1, wdB_toNat]
  omega
theorem lt256 (y : Wd) (c : UInt8) {n : Nat} (h : y.toNat < n) (hn : n ≤ 16777216) : (y <<< 8 ||| wdB c).toNat < n * 256 := by
  have hc := UInt8.toNat_lt c
  have h1 := step256 y c (by omega)
  rw [wdB_toNat] at h1
  omega
/-- A word, byte by byte. -/
def pW (t : List UInt8) (p : Nat) : Nat → Wd
  | 0 => 0
  | j + 1 => pW t p j <<< 8 ||| wdB (t.getD (p + j) 0)
theorem pW_lt (t : List UInt8) (p : Nat) : ∀ j, j ≤ 4 → (pW t p j).toNat < 256 ^ j
  | 0, _ => Nat.zero_lt_one
  | j + 1, h => by
    have := lt256 (pW t p j) (t.getD (p + j) 0) (pW_lt t p j (by omega)) (by
      have : j = 0 ∨ j = 1 ∨ j = 2 ∨ j = 3 := by omega
      rcases this with rfl | rfl | rfl | rfl <;> decide)
    rw [Nat.pow_succ]
    exact this
theorem pW_four (t : List UInt8) (at_ i : Nat) (hi : i < 16) : pW t (at_ + 4 * i) 4 = w4 ((t.drop at_).take 64) i := by
  have hg : ∀ k, k < 64 → ((t.drop at_).take 64).getD k 0 = t.getD (at_ + k) 0 := fun k hk => by
    simp only [List.getD_eq_getElem?_getD, List.getElem?_take, hk, if_true, List.getElem?_drop]
  rw [w4, hg _ (by omega), hg _ (by omega), hg _ (by omega), hg _ (by omega)]
  have hz : ∀ c : UInt8, (0#32 : Wd) <<< 8 ||| wdB c = wdB c := fun c => by
    have h0 : (0#32 : Wd) <<< 8 = 0#32 := by decide
    rw [h0, BitVec.zero_or]
  show ((((0#32 : Wd) <<< 8 ||| wdB (t.getD (at_ + 4 * i) 0)) <<< 8 ||| wdB (t.getD (at_ + 4 * i + 1) 0)) <<< 8 ||| wdB (t.getD (at_ + 4 * i + 2) 0)) <<< 8 ||| wdB (t.getD (at_ + 4 * i + 3) 0) = _
  rw [hz]
  simp only [BitVec.shiftLeft_or_distrib, ← BitVec.shiftLeft_add]
  rfl
end Go.Proofs.YtelgcaacaolgfaaGreatDoor
