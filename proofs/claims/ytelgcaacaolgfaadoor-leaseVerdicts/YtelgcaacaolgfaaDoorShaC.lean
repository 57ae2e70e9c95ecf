/-
  Digests: a block more.
-/
import Derived.Test.YtelgcaacaolgfaaDoorShaB
namespace Go.Proofs.YtelgcaacaolgfaaDoor
open Go Go.CM
set_option maxRecDepth 100000
set_option maxHeartbeats 4000000

def KK : List Wd := [1116352408#32, 1899447441#32, 3049323471#32, 3921009573#32, 961987163#32, 1508970993#32, 2453635748#32, 2870763221#32, 3624381080#32, 310598401#32, 607225278#32, 1426881987#32, 1925078388#32, 2162078206#32, 2614888103#32, 3248222580#32, 3835390401#32, 4022224774#32, 264347078#32, 604807628#32, 770255983#32, 1249150122#32, 1555081692#32, 1996064986#32, 2554220882#32, 2821834349#32, 2952996808#32, 3210313671#32, 3336571891#32, 3584528711#32, 113926993#32, 338241895#32, 666307205#32, 773529912#32, 1294757372#32, 1396182291#32, 1695183700#32, 1986661051#32, 2177026350#32, 2456956037#32, 2730485921#32, 2820302411#32, 3259730800#32, 3345764771#32, 3516065817#32, 3600352804#32, 4094571909#32, 275423344#32, 430227734#32, 506948616#32, 659060556#32, 883997877#32, 958139571#32, 1322822218#32, 1537002063#32, 1747873779#32, 1955562222#32, 2024104815#32, 2227730452#32, 2361852424#32, 2428436474#32, 2756734187#32, 3204031479#32, 3329325298#32]
def V0 : List Wd := [1779033703#32, 3144134277#32, 1013904242#32, 2773480762#32, 1359893119#32, 2600822924#32, 528734635#32, 1541459225#32]
def rnd : List Wd → Wd → Wd → List Wd
  | [a, b, c, d, e, f, g, h], k, w =>
    [h + ((rr e 6 ^^^ rr e 11) ^^^ rr e 25) + ((e &&& f) ^^^ ((~~~ e) &&& g)) + k + w + (((rr a 2 ^^^ rr a 13) ^^^ rr a 22) + (((a &&& b) ^^^ (a &&& c)) ^^^ (b &&& c))), a, b, c, d + (h + ((rr e 6 ^^^ rr e 11) ^^^ rr e 25) + ((e &&& f) ^^^ ((~~~ e) &&& g)) + k + w), e, f, g]
  | x, _, _ => x
def rnds (v K W : List Wd) : Nat → List Wd
  | 0 => v
  | n + 1 => rnd (rnds v K W n) (nth K n) (nth W n)
def addL (v x : List Wd) : List Wd := List.zipWith (· + ·) v x
/-- A block more. -/
def stepL (v : List Wd) (b : List UInt8) : List Wd := addL v (rnds v KK (sch b 64) 64)
theorem eight {x : List Wd} (h : x.length = 8) : ∃ a b c d e f g i, x = [a, b, c, d, e, f, g, i] := by
  match x, h with
  | [a, b, c, d, e, f, g, i], _ => exact ⟨a, b, c, d, e, f, g, i, rfl⟩
theorem rnd_len {x : List Wd} (h : x.length = 8) (k w : Wd) : (rnd x k w).length = 8 := by
  obtain ⟨a, b, c, d, e, f, g, i, rfl⟩ := eight h
  rfl
theorem rnds_len {v : List Wd} (h : v.length = 8) (K W : List Wd) : ∀ n, (rnds v K W n).length = 8
  | 0 => h
  | n + 1 => rnd_len (rnds_len h K W n) _ _
theorem addL_len {v x : List Wd} (h : v.length = 8) (h2 : x.length = 8) : (addL v x).length = 8 := by rw [addL, List.length_zipWith, h, h2]; rfl
theorem stepL_len {v : List Wd} (h : v.length = 8) (b : List UInt8) : (stepL v b).length = 8 := addL_len h (rnds_len h _ _ _)
theorem KK_len : KK.length = 64 := rfl
theorem consts_prog : CallsR Tryd.prog nsha_constants [] [] fun v => v = .agg (KK.flatMap wdC) := by
  have hl : (KK.flatMap wdC).length = 64 := by rw [wds_len]; rfl
  refine ssha_constants fun H hh => ?_
  dsimp only [csha_constants]
  refine c_seq (c_ops (wps_alloc hh fun r _ hh => wps_nil (k_seq_n ?_)))
  refine c_seq (c_ops ?_)
  refine wps_rd (v := .agg (KK.flatMap wdC)) (by kernel_rfl) ?_
  refine wps_store hh (n := 63) (cs' := KK.flatMap wdC) (L' := [(r, .cells true (KK.flatMap wdC))]) rfl rfl rfl rfl hl .here1 (by decide) (splice_all hl.symm) fun H' hh => ?_
  refine wps_nil (k_seq_n (c_ret ?_))
  exact f_res (res_cons (res_cn (sz := 63) hh rfl .here hl) res_nil) (doneR rfl)
theorem start_prog : CallsR Tryd.prog nsha_start [] [] fun v => v = .agg (V0.flatMap wdC) := by
  have hl : (V0.flatMap wdC).length = 8 := by rw [wds_len]; rfl
  refine ssha_start fun H hh => ?_
  dsimp only [csha_start]
  refine c_seq (c_ops (wps_alloc hh fun r _ hh => wps_nil (k_seq_n ?_)))
  refine c_seq (c_ops ?_)
  refine wps_rd (v := .agg (V0.flatMap wdC)) (by kernel_rfl) ?_
  refine wps_store hh (n := 7) (cs' := V0.flatMap wdC) (L' := [(r, .cells true (V0.flatMap wdC))]) rfl rfl rfl rfl hl .here1 (by decide) (splice_all hl.symm) fun H' hh => ?_
  refine wps_nil (k_seq_n (c_ret ?_))
  exact f_res (res_cons (res_cn (sz := 7) hh rfl .here hl) res_nil) (doneR rfl)
end Go.Proofs.YtelgcaacaolgfaaDoor
