/-
  A program logic over the model's calls: its texts CmTxt CmWord CmWalk CmCut CmMap CmCap CmOvl CmIter CmIter2 CmMore CmByt, joined.
-/
import Derived.Test.YtdpnaneedjoboaaGreatDoorCmF
import Derived.IntWalk
import Derived.Lib.Overlaps
import Derived.Test.YtdpnaneedjoboaaGreatDoorCmD
import Derived.RangeFuncIn
import Derived.RangeFuncRecord
import Derived.RangeFuncLeaves
import Derived.Lib.Bytealg
namespace Go.CM

section
variable {P : Program} {env : Env} {H : Heap} {Q : Ex → Env → Heap → Prop} {L : List Ob} {K : Env → Heap → Prop} {d : Option Nat} {x : Kx} {is : List I}

theorem wps_mkSlT (hh : Has H L) {t esz bytes : Nat} {z : List V} {l c : X} {kl kc : IntKind} {nl nc : Int} (hl : l.ev env = .int kl nl) (hc : c.ev env = .int kc nc) (hb : 0 ≤ nl ∧ nl ≤ nc ∧ nc ≤ 140737488355328 ∧ nc * bytes ≤ 140737488355328)
    (k : ∀ id H', Has H' ((id, .cells true (rep z nc.toNat)) :: L) → wpOps P is (env.put d (.ty t 0 id (.slice id 0 nl.toNat esz))) H' K) : wpOps P (⟨d, .ef (.mkSlT t esz bytes z l c), none, x⟩ :: is) env H K :=
  ⟨kl, nl, kc, nc, hl, hc, hb.1, hb.2.1, hb.2.2.1, hb.2.2.2, fun id h0 hid => ⟨Kx.le (Heap.le_set _ hid), k id _ (hh.new h0 hid)⟩⟩
theorem wps_allocT (hh : Has H L) {t : Nat} {z : List V} (k : ∀ id H', Has H' ((id, .cells true z) :: L) → wpOps P is (env.put d (.ty t z.length id (.ptr id 0))) H' K) : wpOps P (⟨d, .ef (.allocT t z), none, x⟩ :: is) env H K :=
  fun id h0 hid => ⟨Kx.le (Heap.le_set _ hid), k id _ (hh.new h0 hid)⟩
theorem wps_rangeS (hh : Has H L) {y : X} {s : List UInt8} (hy : y.ev env = .str s) (k : ∀ id H', Has H' ((id, .siter s 0) :: L) → wpOps P is (env.put d (.ptr id 0)) H' K) : wpOps P (⟨d, .ef (.rangeS y), none, x⟩ :: is) env H K :=
  ⟨s, hy, fun id h0 hid => ⟨Kx.le (Heap.le_set _ hid), k id _ (hh.new h0 hid)⟩⟩
theorem wps_s2b (hh : Has H L) {y : X} {s : List UInt8} (hy : y.ev env = .str s) (k : ∀ id H', Has H' ((id, .cells true (s.flatMap byteC)) :: L) → wpOps P is (env.put d (.slice id 0 s.length 1)) H' K) : wpOps P (⟨d, .ef (.s2b y), none, x⟩ :: is) env H K :=
  ⟨s, hy, fun id h0 hid => ⟨Kx.le (Heap.le_set _ hid), k id _ (hh.new h0 hid)⟩⟩
theorem wps_unt {e a b : Nat} {y z : X} {g : Option (Nat × Bool)} (h : wpOps P (⟨d, .ef (.app a b y z), g, x⟩ :: is) env H K) : wpOps P (⟨d, .ef (.appT e a b y z), g, x⟩ :: is) env H K := by
  show I.wp P env H (fun env' H' => wpOps P is env' H' K) _
  have h' : I.wp P env H (fun env' H' => wpOps P is env' H' K) ⟨d, .ef (.app a b y z), g, x⟩ := h
  unfold I.wp at h' ⊢
  cases g with
  | none => exact .inl h'
  | some g =>
    obtain ⟨s, b'⟩ := g
    exact gcond_mono h' (fun h => .inl h) (fun h => h)
theorem wps_unt2 {i : I} {e a b : Nat} {y z : X} {g : Option (Nat × Bool)} (h : wpOps P (i :: ⟨d, .ef (.app a b y z), g, x⟩ :: is) env H K) : wpOps P (i :: ⟨d, .ef (.appT e a b y z), g, x⟩ :: is) env H K :=
  wp_mono_I (fun _ _ h => wps_unt h) h
theorem bytes_mapM {f : V → Option UInt8} (hf : ∀ b : UInt8, f (.int .u8 b.toNat) = some b) (l : List UInt8) : (l.flatMap byteC).mapM f = some l := by
  induction l with
  | nil => rfl
  | cons a l ih =>
    rw [List.flatMap_cons]
    show (V.int .u8 a.toNat :: l.flatMap byteC).mapM _ = _
    rw [List.mapM_cons, ih, hf]
    rfl
theorem wps_b2s (hh : Has H L) {y : X} {id : Nat} {b : Bool} {l : List UInt8} (hy : y.ev env = .slice id 0 l.length 1) (hi : At (id, .cells b (l.flatMap byteC)) L) (k : wpOps P is (env.put d (.str l)) H K) : wpOps P (⟨d, .rd (.b2s y), none, x⟩ :: is) env H K := by
  refine wps_rd (v := .str l) ?_ k
  simp only [R.ev, hy]
  cases l with
  | nil => rfl
  | cons a l =>
    have hne : ((a :: l).flatMap byteC) ≠ [] := by simp [byteC]
    have hb : Nat.beq (a :: l).length 0 = false := rfl
    rw [hb, hh.getc hi.mem hne]
    simp only [cond_false]
    rw [show getCells ((a :: l).flatMap byteC) 0 (a :: l).length = some ((a :: l).flatMap byteC) from getCells_all (by rw [rows_length (sz := 1) (fun _ => rfl), Nat.mul_one])]
    simp only
    rw [bytes_mapM (fun b => by simp)]
theorem tn0 : Int.toNat 0 = 0 := rfl
theorem tn1 : Int.toNat 1 = 1 := rfl
theorem tn2 : Int.toNat 2 = 2 := rfl
theorem tn3 : Int.toNat 3 = 3 := rfl
theorem tn4 : Int.toNat 4 = 4 := rfl
theorem tn5 : Int.toNat 5 = 5 := rfl
theorem tn6 : Int.toNat 6 = 6 := rfl
theorem tn7 : Int.toNat 7 = 7 := rfl
theorem tn8 : Int.toNat 8 = 8 := rfl
theorem tn9 : Int.toNat 9 = 9 := rfl
theorem tn10 : Int.toNat 10 = 10 := rfl
theorem tn11 : Int.toNat 11 = 11 := rfl
theorem wps_isw {y i : X} {s : List UInt8} {ki : IntKind} {n : Int} {m : Nat} (hx : y.ev env = .str s) (hi : i.ev env = .int ki n) (hm : n.toNat = m) (hb : 0 ≤ n ∧ n < (s.length : Int)) (k : wpOps P is (env.put d (.int .u8 (s.getD m 0).toNat)) H K) :
    wpOps P (⟨d, .rd (.idxStr y i), none, x⟩ :: is) env H K := by
  subst hm
  exact wps_is hx hi hb k
theorem wps_toi32 {y : X} {k' : IntKind} {n : Int} (hy : y.ev env = .int k' n) (hb : -2147483648 ≤ n ∧ n ≤ 2147483647) (k : wpOps P is (env.put d (.int .i32 n)) H K) : wpOps P (⟨d, .rd (.toInt .i32 y), none, x⟩ :: is) env H K :=
  wps_rd (v := .int .i32 n) (by simp only [R.ev, hy]; rw [Go.IntWalk.i32_in n hb]) k
theorem wps_addi32 {y z : X} {a b : Int} (hy : y.ev env = .int .i32 a) (hz : z.ev env = .int .i32 b) (hb : -2147483648 ≤ a + b ∧ a + b ≤ 2147483647) (k : wpOps P is (env.put d (.int .i32 (a + b))) H K) : wpOps P (⟨d, .rd (.bin .add y z), none, x⟩ :: is) env H K :=
  wps_rd (v := .int .i32 (a + b)) (by simp only [R.ev, hy, hz, binV, if_pos]; rw [Go.IntWalk.i32_in _ hb]) k
theorem wps_subi32 {y z : X} {a b : Int} (hy : y.ev env = .int .i32 a) (hz : z.ev env = .int .i32 b) (hb : -2147483648 ≤ a - b ∧ a - b ≤ 2147483647) (k : wpOps P is (env.put d (.int .i32 (a - b))) H K) : wpOps P (⟨d, .rd (.bin .sub y z), none, x⟩ :: is) env H K :=
  wps_rd (v := .int .i32 (a - b)) (by simp only [R.ev, hy, hz, binV, if_pos]; rw [Go.IntWalk.i32_in _ hb]) k
theorem wps_muli32 {y z : X} {a b : Int} (hy : y.ev env = .int .i32 a) (hz : z.ev env = .int .i32 b) (hb : -2147483648 ≤ a * b ∧ a * b ≤ 2147483647) (k : wpOps P is (env.put d (.int .i32 (a * b))) H K) : wpOps P (⟨d, .rd (.bin .mul y z), none, x⟩ :: is) env H K :=
  wps_rd (v := .int .i32 (a * b)) (by simp only [R.ev, hy, hz, binV, if_pos]; rw [Go.IntWalk.i32_in _ hb]) k
theorem wps_toi64 {y : X} {k' : IntKind} {n : Int} (hy : y.ev env = .int k' n) (hb : -9223372036854775808 ≤ n ∧ n ≤ 9223372036854775807) (k : wpOps P is (env.put d (.int .i64 n)) H K) : wpOps P (⟨d, .rd (.toInt .i64 y), none, x⟩ :: is) env H K :=
  wps_rd (v := .int .i64 n) (by simp only [R.ev, hy]; rw [Go.IntWalk.i64_in n hb]) k
theorem wps_tou8 {y : X} {k' : IntKind} {n : Int} (hy : y.ev env = .int k' n) (hb : 0 ≤ n ∧ n ≤ 255) (k : wpOps P is (env.put d (.int .u8 n)) H K) : wpOps P (⟨d, .rd (.toInt .u8 y), none, x⟩ :: is) env H K :=
  wps_rd (v := .int .u8 n) (by simp only [R.ev, hy]; rw [Go.IntWalk.u8_in n hb]) k
theorem wps_addu8 {y z : X} {a b : Int} (hy : y.ev env = .int .u8 a) (hz : z.ev env = .int .u8 b) (hb : 0 ≤ a + b ∧ a + b ≤ 255) (k : wpOps P is (env.put d (.int .u8 (a + b))) H K) : wpOps P (⟨d, .rd (.bin .add y z), none, x⟩ :: is) env H K :=
  wps_rd (v := .int .u8 (a + b)) (by simp only [R.ev, hy, hz, binV, if_pos]; rw [Go.IntWalk.u8_in _ hb]) k
theorem wps_subu8 {y z : X} {a b : Int} (hy : y.ev env = .int .u8 a) (hz : z.ev env = .int .u8 b) (hb : 0 ≤ a - b ∧ a - b ≤ 255) (k : wpOps P is (env.put d (.int .u8 (a - b))) H K) : wpOps P (⟨d, .rd (.bin .sub y z), none, x⟩ :: is) env H K :=
  wps_rd (v := .int .u8 (a - b)) (by simp only [R.ev, hy, hz, binV, if_pos]; rw [Go.IntWalk.u8_in _ hb]) k
theorem wps_mulu8 {y z : X} {a b : Int} (hy : y.ev env = .int .u8 a) (hz : z.ev env = .int .u8 b) (hb : 0 ≤ a * b ∧ a * b ≤ 255) (k : wpOps P is (env.put d (.int .u8 (a * b))) H K) : wpOps P (⟨d, .rd (.bin .mul y z), none, x⟩ :: is) env H K :=
  wps_rd (v := .int .u8 (a * b)) (by simp only [R.ev, hy, hz, binV, if_pos]; rw [Go.IntWalk.u8_in _ hb]) k
theorem wps_tou32 {y : X} {k' : IntKind} {n : Int} (hy : y.ev env = .int k' n) (hb : 0 ≤ n ∧ n ≤ 4294967295) (k : wpOps P is (env.put d (.int .u32 n)) H K) : wpOps P (⟨d, .rd (.toInt .u32 y), none, x⟩ :: is) env H K :=
  wps_rd (v := .int .u32 n) (by simp only [R.ev, hy]; rw [Go.IntWalk.u32_in n hb]) k
theorem wps_addu32 {y z : X} {a b : Int} (hy : y.ev env = .int .u32 a) (hz : z.ev env = .int .u32 b) (hb : 0 ≤ a + b ∧ a + b ≤ 4294967295) (k : wpOps P is (env.put d (.int .u32 (a + b))) H K) : wpOps P (⟨d, .rd (.bin .add y z), none, x⟩ :: is) env H K :=
  wps_rd (v := .int .u32 (a + b)) (by simp only [R.ev, hy, hz, binV, if_pos]; rw [Go.IntWalk.u32_in _ hb]) k
theorem wps_subu32 {y z : X} {a b : Int} (hy : y.ev env = .int .u32 a) (hz : z.ev env = .int .u32 b) (hb : 0 ≤ a - b ∧ a - b ≤ 4294967295) (k : wpOps P is (env.put d (.int .u32 (a - b))) H K) : wpOps P (⟨d, .rd (.bin .sub y z), none, x⟩ :: is) env H K :=
  wps_rd (v := .int .u32 (a - b)) (by simp only [R.ev, hy, hz, binV, if_pos]; rw [Go.IntWalk.u32_in _ hb]) k
theorem wps_mulu32 {y z : X} {a b : Int} (hy : y.ev env = .int .u32 a) (hz : z.ev env = .int .u32 b) (hb : 0 ≤ a * b ∧ a * b ≤ 4294967295) (k : wpOps P is (env.put d (.int .u32 (a * b))) H K) : wpOps P (⟨d, .rd (.bin .mul y z), none, x⟩ :: is) env H K :=
  wps_rd (v := .int .u32 (a * b)) (by simp only [R.ev, hy, hz, binV, if_pos]; rw [Go.IntWalk.u32_in _ hb]) k
theorem wps_tou64 {y : X} {k' : IntKind} {n : Int} (hy : y.ev env = .int k' n) (hb : 0 ≤ n ∧ n ≤ 18446744073709551615) (k : wpOps P is (env.put d (.int .u64 n)) H K) : wpOps P (⟨d, .rd (.toInt .u64 y), none, x⟩ :: is) env H K :=
  wps_rd (v := .int .u64 n) (by simp only [R.ev, hy]; rw [Go.IntWalk.u64_in n hb]) k
theorem wps_addu64 {y z : X} {a b : Int} (hy : y.ev env = .int .u64 a) (hz : z.ev env = .int .u64 b) (hb : 0 ≤ a + b ∧ a + b ≤ 18446744073709551615) (k : wpOps P is (env.put d (.int .u64 (a + b))) H K) : wpOps P (⟨d, .rd (.bin .add y z), none, x⟩ :: is) env H K :=
  wps_rd (v := .int .u64 (a + b)) (by simp only [R.ev, hy, hz, binV, if_pos]; rw [Go.IntWalk.u64_in _ hb]) k
theorem wps_subu64 {y z : X} {a b : Int} (hy : y.ev env = .int .u64 a) (hz : z.ev env = .int .u64 b) (hb : 0 ≤ a - b ∧ a - b ≤ 18446744073709551615) (k : wpOps P is (env.put d (.int .u64 (a - b))) H K) : wpOps P (⟨d, .rd (.bin .sub y z), none, x⟩ :: is) env H K :=
  wps_rd (v := .int .u64 (a - b)) (by simp only [R.ev, hy, hz, binV, if_pos]; rw [Go.IntWalk.u64_in _ hb]) k
theorem wps_mulu64 {y z : X} {a b : Int} (hy : y.ev env = .int .u64 a) (hz : z.ev env = .int .u64 b) (hb : 0 ≤ a * b ∧ a * b ≤ 18446744073709551615) (k : wpOps P is (env.put d (.int .u64 (a * b))) H K) : wpOps P (⟨d, .rd (.bin .mul y z), none, x⟩ :: is) env H K :=
  wps_rd (v := .int .u64 (a * b)) (by simp only [R.ev, hy, hz, binV, if_pos]; rw [Go.IntWalk.u64_in _ hb]) k
end
end Go.CM

namespace Go.CM
set_option maxRecDepth 100000

abbrev Wd := BitVec 32
theorem wrap_u32 (n : Int) : IntKind.u32.wrap n = n % 4294967296 := by
  simp only [IntKind.wrap, IntKind.signed, IntKind.bits]
  simp
theorem wrap_u8 (n : Int) : IntKind.u8.wrap n = n % 256 := by
  simp only [IntKind.wrap, IntKind.signed, IntKind.bits]
  simp
theorem ofInt_wd (a : Wd) : BitVec.ofInt IntKind.u32.bits ((a.toNat : Nat) : Int) = a := by
  show BitVec.ofInt 32 _ = a
  rw [BitVec.ofInt_natCast, BitVec.ofNat_toNat, BitVec.setWidth_eq]
theorem wd_lt (a : Wd) : a.toNat < 4294967296 := a.isLt
theorem wd_add (a b : Wd) : binV .add (.int .u32 (a.toNat : Nat)) (.int .u32 (b.toNat : Nat)) = some (.int .u32 ((a + b).toNat : Nat)) := by
  show some (V.int .u32 (IntKind.u32.wrap _)) = _
  rw [wrap_u32, BitVec.toNat_add]
  congr 2
theorem wd_mul (a b : Wd) : binV .mul (.int .u32 (a.toNat : Nat)) (.int .u32 (b.toNat : Nat)) = some (.int .u32 ((a * b).toNat : Nat)) := by
  show some (V.int .u32 (IntKind.u32.wrap _)) = _
  rw [wrap_u32, BitVec.toNat_mul]
  congr 2
theorem wd_wrap (a : Wd) : IntKind.u32.wrap ((a.toNat : Nat) : Int) = ((a.toNat : Nat) : Int) := by
  have := wd_lt a
  rw [wrap_u32]; omega
theorem wd_and (a b : Wd) : binV .and (.int .u32 (a.toNat : Nat)) (.int .u32 (b.toNat : Nat)) = some (.int .u32 ((a &&& b).toNat : Nat)) := by
  show some (V.int .u32 (IntKind.u32.wrap ((BitVec.ofInt IntKind.u32.bits _ &&& BitVec.ofInt IntKind.u32.bits _).toNat : Nat))) = _
  rw [ofInt_wd, ofInt_wd]
  exact congrArg (fun n => some (V.int .u32 n)) (wd_wrap (a &&& b))
theorem wd_or (a b : Wd) : binV .or (.int .u32 (a.toNat : Nat)) (.int .u32 (b.toNat : Nat)) = some (.int .u32 ((a ||| b).toNat : Nat)) := by
  show some (V.int .u32 (IntKind.u32.wrap ((BitVec.ofInt IntKind.u32.bits _ ||| BitVec.ofInt IntKind.u32.bits _).toNat : Nat))) = _
  rw [ofInt_wd, ofInt_wd]
  exact congrArg (fun n => some (V.int .u32 n)) (wd_wrap (a ||| b))
theorem wd_xor (a b : Wd) : binV .xor (.int .u32 (a.toNat : Nat)) (.int .u32 (b.toNat : Nat)) = some (.int .u32 ((a ^^^ b).toNat : Nat)) := by
  show some (V.int .u32 (IntKind.u32.wrap ((BitVec.ofInt IntKind.u32.bits _ ^^^ BitVec.ofInt IntKind.u32.bits _).toNat : Nat))) = _
  rw [ofInt_wd, ofInt_wd]
  exact congrArg (fun n => some (V.int .u32 n)) (wd_wrap (a ^^^ b))
theorem wd_not (a : Wd) : unV .xor (.int .u32 (a.toNat : Nat)) = some (.int .u32 ((~~~ a).toNat : Nat)) := by
  show some (V.int .u32 (IntKind.u32.wrap ((((BitVec.ofInt 32 4294967295 : Wd) ^^^ (BitVec.ofInt 32 ((a.toNat : Nat) : Int))).toNat : Nat) : Int))) = _
  rw [show (BitVec.ofInt 32 4294967295 : Wd) = BitVec.allOnes 32 from by decide, show BitVec.ofInt 32 ((a.toNat : Nat) : Int) = a from ofInt_wd a, BitVec.allOnes_xor]
  exact congrArg (fun n => some (V.int .u32 n)) (wd_wrap (~~~ a))
theorem wd_shl (a : Wd) (k : IntKind) (n : Nat) (hn : n ≤ 32) : binV .shl (.int .u32 (a.toNat : Nat)) (.int k (n : Nat)) = some (.int .u32 ((a <<< n).toNat : Nat)) := by
  show (if ((n : Nat) : Int) < 0 then none else some (V.int .u32 (IntKind.u32.wrap (((a.toNat : Nat) : Int) * 2 ^ min ((n : Nat) : Int).toNat IntKind.u32.bits)))) = _
  rw [if_neg (by omega), wrap_u32, BitVec.toNat_shiftLeft, Int.toNat_natCast, Nat.min_eq_left (show n ≤ IntKind.u32.bits from hn), Nat.shiftLeft_eq]
  have : ((a.toNat : Nat) : Int) * 2 ^ n = ((a.toNat * 2 ^ n : Nat) : Int) := by rw [Int.natCast_mul, Int.natCast_pow]; rfl
  rw [this]
  rfl
theorem wd_shr (a : Wd) (k : IntKind) (n : Nat) (hn : n ≤ 32) : binV .shr (.int .u32 (a.toNat : Nat)) (.int k (n : Nat)) = some (.int .u32 ((a >>> n).toNat : Nat)) := by
  show (if ((n : Nat) : Int) < 0 then none else some (V.int .u32 (((a.toNat : Nat) : Int).fdiv (2 ^ min ((n : Nat) : Int).toNat IntKind.u32.bits)))) = _
  rw [if_neg (by omega), BitVec.toNat_ushiftRight, Int.toNat_natCast, Nat.min_eq_left (show n ≤ IntKind.u32.bits from hn), Nat.shiftRight_eq_div_pow]
  have : (2 ^ n : Int) = ((2 ^ n : Nat) : Int) := by rw [Int.natCast_pow]; rfl
  rw [this]
  exact congrArg (fun n => some (V.int .u32 n)) (Int.ofNat_fdiv _ _).symm
def wdB (c : UInt8) : Wd := BitVec.ofNat 32 c.toNat
def bWd (a : Wd) : UInt8 := UInt8.ofNat a.toNat
theorem wdB_toNat (c : UInt8) : (wdB c).toNat = c.toNat := by
  have := UInt8.toNat_lt c
  rw [wdB, BitVec.toNat_ofNat]; omega
theorem bWd_toNat (a : Wd) : (bWd a).toNat = a.toNat % 256 := by rw [bWd, UInt8.toNat_ofNat']
theorem u32_u8 (c : UInt8) : IntKind.u32.wrap ((c.toNat : Nat) : Int) = (((wdB c).toNat : Nat) : Int) := by
  have := UInt8.toNat_lt c
  rw [wrap_u32, wdB_toNat]; omega
theorem u8_u32 (a : Wd) : IntKind.u8.wrap ((a.toNat : Nat) : Int) = (((bWd a).toNat : Nat) : Int) := by
  rw [wrap_u8, bWd_toNat]; omega
section
variable {P : Program} {env : Env} {H : Heap} {K : Env → Heap → Prop} {d : Option Nat} {x : Kx} {is : List I}
theorem wps_wadd {y z : X} {a b : Wd} (hy : y.ev env = .int .u32 (a.toNat : Nat)) (hz : z.ev env = .int .u32 (b.toNat : Nat)) (k : wpOps P is (env.put d (.int .u32 ((a + b).toNat : Nat))) H K) : wpOps P (⟨d, .rd (.bin .add y z), none, x⟩ :: is) env H K := wps_rd (by simp only [R.ev, hy, hz]; exact wd_add a b) k
theorem wps_wmul {y z : X} {a b : Wd} (hy : y.ev env = .int .u32 (a.toNat : Nat)) (hz : z.ev env = .int .u32 (b.toNat : Nat)) (k : wpOps P is (env.put d (.int .u32 ((a * b).toNat : Nat))) H K) : wpOps P (⟨d, .rd (.bin .mul y z), none, x⟩ :: is) env H K := wps_rd (by simp only [R.ev, hy, hz]; exact wd_mul a b) k
theorem wps_wand {y z : X} {a b : Wd} (hy : y.ev env = .int .u32 (a.toNat : Nat)) (hz : z.ev env = .int .u32 (b.toNat : Nat)) (k : wpOps P is (env.put d (.int .u32 ((a &&& b).toNat : Nat))) H K) : wpOps P (⟨d, .rd (.bin .and y z), none, x⟩ :: is) env H K := wps_rd (by simp only [R.ev, hy, hz]; exact wd_and a b) k
theorem wps_wor {y z : X} {a b : Wd} (hy : y.ev env = .int .u32 (a.toNat : Nat)) (hz : z.ev env = .int .u32 (b.toNat : Nat)) (k : wpOps P is (env.put d (.int .u32 ((a ||| b).toNat : Nat))) H K) : wpOps P (⟨d, .rd (.bin .or y z), none, x⟩ :: is) env H K := wps_rd (by simp only [R.ev, hy, hz]; exact wd_or a b) k
theorem wps_wxor {y z : X} {a b : Wd} (hy : y.ev env = .int .u32 (a.toNat : Nat)) (hz : z.ev env = .int .u32 (b.toNat : Nat)) (k : wpOps P is (env.put d (.int .u32 ((a ^^^ b).toNat : Nat))) H K) : wpOps P (⟨d, .rd (.bin .xor y z), none, x⟩ :: is) env H K := wps_rd (by simp only [R.ev, hy, hz]; exact wd_xor a b) k
theorem wps_wnot {y : X} {a : Wd} (hy : y.ev env = .int .u32 (a.toNat : Nat)) (k : wpOps P is (env.put d (.int .u32 ((~~~ a).toNat : Nat))) H K) : wpOps P (⟨d, .rd (.un .xor y), none, x⟩ :: is) env H K := wps_rd (by simp only [R.ev, hy]; exact wd_not a) k
theorem wps_wshl {y z : X} {a : Wd} {kk : IntKind} {n : Nat} (hy : y.ev env = .int .u32 (a.toNat : Nat)) (hz : z.ev env = .int kk (n : Nat)) (hn : n ≤ 32) (k : wpOps P is (env.put d (.int .u32 ((a <<< n).toNat : Nat))) H K) : wpOps P (⟨d, .rd (.bin .shl y z), none, x⟩ :: is) env H K := wps_rd (by simp only [R.ev, hy, hz]; exact wd_shl a kk n hn) k
theorem wps_wshr {y z : X} {a : Wd} {kk : IntKind} {n : Nat} (hy : y.ev env = .int .u32 (a.toNat : Nat)) (hz : z.ev env = .int kk (n : Nat)) (hn : n ≤ 32) (k : wpOps P is (env.put d (.int .u32 ((a >>> n).toNat : Nat))) H K) : wpOps P (⟨d, .rd (.bin .shr y z), none, x⟩ :: is) env H K := wps_rd (by simp only [R.ev, hy, hz]; exact wd_shr a kk n hn) k
theorem wps_wto {y : X} {c : UInt8} (hy : y.ev env = .int .u8 (c.toNat : Nat)) (k : wpOps P is (env.put d (.int .u32 ((wdB c).toNat : Nat))) H K) : wpOps P (⟨d, .rd (.toInt .u32 y), none, x⟩ :: is) env H K := wps_rd (by simp only [R.ev, hy]; rw [u32_u8]) k
theorem wps_wtb {y : X} {a : Wd} (hy : y.ev env = .int .u32 (a.toNat : Nat)) (k : wpOps P is (env.put d (.int .u8 ((bWd a).toNat : Nat))) H K) : wpOps P (⟨d, .rd (.toInt .u8 y), none, x⟩ :: is) env H K := wps_rd (by simp only [R.ev, hy]; rw [u8_u32]) k
theorem wps_iaw {len esz : Nat} {y i : X} {id : Nat} {ki : IntKind} {n : Int} {m : Nat} (hx : y.ev env = .ptr id 0) (hi : i.ev env = .int ki n) (hm : n.toNat = m) (hb : 0 ≤ n ∧ n < (len : Int)) (k : wpOps P is (env.put d (.ptr id (m * esz))) H K) : wpOps P (⟨d, .rd (.iaddrA len esz y i), none, x⟩ :: is) env H K := by
  subst hm
  refine wps_iaa hx hi hb ?_
  rw [Nat.zero_add]
  exact k
end
theorem fl_nil {env : Env} {cs : List V} : fillV env cs [] = some cs := rfl
theorem fl_cons {env : Env} {cs vs cs' r : List V} {off sz : Nat} {y : X} {ps : List (Nat × Nat × X)} {v : V} (hx : y.ev env = v) (ht : v.isTup = false) (hc : v.cells = vs) (hn : vs.length = sz) (hb : Nat.ble (off + sz) cs.length = true) (hs : splice cs off vs = cs') (k : fillV env cs' ps = some r) : fillV env cs ((off, sz, y) :: ps) = some r := by
  subst hx hc hn hs
  show (bif _ || !(Nat.beq _ _) || !(Nat.ble _ _) then none else fillV env _ ps) = _
  rw [ht, Nat.beq_refl, hb]
  exact k
theorem wps_bld {P : Program} {env : Env} {H : Heap} {K : Env → Heap → Prop} {d : Option Nat} {x : Kx} {is : List I} {z cs : List V} {ps : List (Nat × Nat × X)} (hf : fillV env z ps = some cs) (k : wpOps P is (env.put d (.agg cs)) H K) : wpOps P (⟨d, .rd (.build z ps), none, x⟩ :: is) env H K :=
  wps_rd (by simp only [R.ev, hf]) k
theorem ts1 (i : Nat) : ((i : Int) - 1).toNat = i - 1 := by omega
theorem ts2 (i : Nat) : ((i : Int) - 2).toNat = i - 2 := by omega
theorem ts7 (i : Nat) : ((i : Int) - 7).toNat = i - 7 := by omega
theorem ts15 (i : Nat) : ((i : Int) - 15).toNat = i - 15 := by omega
theorem ts16 (i : Nat) : ((i : Int) - 16).toNat = i - 16 := by omega
end Go.CM

namespace Go.CM
set_option maxRecDepth 100000

def Red (G G' : Prop) : Prop := G' → G
structure Leaf (G : Prop) : Prop where
  out : G
theorem leaf {G : Prop} (h : G) : Leaf G := ⟨h⟩
theorem red_leaf {G : Prop} : Red G (Leaf G) := fun h => h.out
theorem red_by {A B G' : Prop} (f : A → B) (h : Red A G') : Red B G' := fun k => f (h k)

section
variable {P : Program} {env : Env} {H : Heap} {Q : Ex → Env → Heap → Prop} {L : List Ob} {K : Env → Heap → Prop} {d : Option Nat} {x : Kx} {is : List I} {G' A' B' : Prop} {N : Nat → Heap → Prop} {N2 : Nat → Nat → Heap → Prop} {M : Heap → Prop}
variable {α : Type} {enc : α → List V} {sz : Nat}

theorem r_seq {a b : C} (k : Red (C.wp P a (kSeq P b Q) env H) G') : Red (C.wp P (.seq a b) Q env H) G' := red_by (fun k => c_seq k) k
theorem r_ops {l : List I} (k : Red (wpOps P l env H (Q .normal)) G') : Red (C.wp P (.ops l) Q env H) G' := red_by (fun k => c_ops k) k
theorem r_skip  (k : Red (Q .normal env H) G') : Red (C.wp P .skip Q env H) G' := red_by (fun k => c_skip k) k
theorem r_exit {id : Nat} (k : Red (Q (.exit id) env H) G') : Red (C.wp P (.exit id) Q env H) G' := red_by (fun k => c_exit k) k
theorem r_ret  (k : Red (Q .ret env H) G') : Red (C.wp P .ret Q env H) G' := red_by (fun k => c_ret k) k
theorem r_block {id : Nat} {a : C} (k : Red (C.wp P a (kBlk id Q) env H) G') : Red (C.wp P (.block id a) Q env H) G' := red_by (fun k => c_block k) k
theorem r_nil  (k : Red (K env H) G') : Red (wpOps P [] env H K) G' := red_by (fun k => wps_nil k) k
theorem r_sn {b : C} (k : Red (C.wp P b Q env H) G') : Red (kSeq P b Q .normal env H) G' := red_by (fun k => k_seq_n k) k
theorem r_se {b : C} {j : Nat} (k : Red (Q (.exit j) env H) G') : Red (kSeq P b Q (.exit j) env H) G' := red_by (fun k => k_seq_e k) k
theorem r_sr {b : C} (k : Red (Q .ret env H) G') : Red (kSeq P b Q .ret env H) G' := red_by (fun k => k_seq_r k) k
theorem r_bn {id : Nat} (k : Red (Q .normal env H) G') : Red (kBlk id Q .normal env H) G' := red_by (fun k => k_blk_n k) k
theorem r_bx {id : Nat} (k : Red (Q .normal env H) G') : Red (kBlk id Q (.exit id) env H) G' := red_by (fun k => k_blk_x k) k
theorem r_be {id j : Nat} (h : Nat.beq j id = false) (k : Red (Q (.exit j) env H) G') : Red (kBlk id Q (.exit j) env H) G' := red_by (fun k => k_blk_e h k) k
theorem r_br {id : Nat} (k : Red (Q .ret env H) G') : Red (kBlk id Q .ret env H) G' := red_by (fun k => k_blk_r k) k
theorem r_ln {J : Env → Heap → Prop} (k : Red (J env H) G') : Red (kLoop J Q .normal env H) G' := red_by (fun k => k_loop_n k) k
theorem r_le {J : Env → Heap → Prop} {j : Nat} (k : Red (Q (.exit j) env H) G') : Red (kLoop J Q (.exit j) env H) G' := red_by (fun k => k_loop_e k) k
theorem r_lr {J : Env → Heap → Prop} (k : Red (Q .ret env H) G') : Red (kLoop J Q .ret env H) G' := red_by (fun k => k_loop_r k) k
theorem r_ct {y : X} {a b : C} (h : y.ev env = .bool true) (k : Red (C.wp P a Q env H) G') : Red (C.wp P (.cond y a b) Q env H) G' := red_by (fun k => c_cond_t h k) k
theorem r_cf {y : X} {a b : C} (h : y.ev env = .bool false) (k : Red (C.wp P b Q env H) G') : Red (C.wp P (.cond y a b) Q env H) G' := red_by (fun k => c_cond_f h k) k
theorem r_gt {o : O} {s : Nat} {b : Bool} (h : env s = .bool b) (k : Red (wpOps P (⟨d, o, none, x⟩ :: is) env H K) G') : Red (wpOps P (⟨d, o, some (s, b), x⟩ :: is) env H K) G' := red_by (fun k => wps_gt h k) k
theorem r_gf {o : O} {s : Nat} {b : Bool} (h : env s = .bool (!b)) (k : Red (wpOps P is (env.put d V.undef) H K) G') : Red (wpOps P (⟨d, o, some (s, b), x⟩ :: is) env H K) G' := red_by (fun k => wps_gf h k) k
theorem r_gu {o : O} {s : Nat} {b : Bool} (h : env s = V.undef) (k : Red (wpOps P is (env.put d V.undef) H K) G') : Red (wpOps P (⟨d, o, some (s, b), x⟩ :: is) env H K) G' := red_by (fun k => wps_gu h k) k
theorem r_rd {r : R} {v : V} (h : r.ev env H = some v) (k : Red (wpOps P is (env.put d (v)) H K) G') : Red (wpOps P (⟨d, .rd r, none, x⟩ :: is) env H K) G' := red_by (fun k => wps_rd h k) k
theorem r_rda {r : R} {l l' : List V} (h : r.ev env H = some (.agg l)) (hl : l = l') (k : Red (wpOps P is (env.put d (.agg l')) H K) G') : Red (wpOps P (⟨d, .rd r, none, x⟩ :: is) env H K) G' := red_by (fun k => wps_rda h hl k) k
theorem r_ld (hh : Has H L) {a : X} {id off : Nat} {b : Bool} {cs : List V} {v : V} (ha : a.ev env = .ptr id off) (hi : At (id, .cells b cs) L) (hv : cs[off]? = some v) (k : Red (wpOps P is (env.put d (v)) H K) G') : Red (wpOps P (⟨d, .rd (.load1 a), none, x⟩ :: is) env H K) G' := red_by (fun k => wps_ld hh ha hi hv k) k
theorem r_lda (hh : Has H L) {a : X} {id n : Nat} {b : Bool} {cs : List V} (ha : a.ev env = .ptr id 0) (hi : At (id, .cells b cs) L) (hv : cs.length = n + 1) (k : Red (wpOps P is (env.put d (.agg cs)) H K) G') : Red (wpOps P (⟨d, .rd (.loadn (n + 1) a), none, x⟩ :: is) env H K) G' := red_by (fun k => wps_lda hh ha hi hv k) k
theorem r_ldn (hh : Has H L) {a : X} {id off n : Nat} {b : Bool} {cs vs vs' : List V} (ha : a.ev env = .ptr id off) (hi : At (id, .cells b cs) L) (hv : getCells cs off (n + 1) = some vs) (hl : vs = vs') (k : Red (wpOps P is (env.put d (.agg vs')) H K) G') : Red (wpOps P (⟨d, .rd (.loadn (n + 1) a), none, x⟩ :: is) env H K) G' := red_by (fun k => wps_ldn hh ha hi hv hl k) k
theorem r_lm (hh : Has H L) {a : X} {id : Nat} {es : List (V × V)} (ha : a.ev env = .map id) (hi : At (id, .map es) L) (k : Red (wpOps P is (env.put d (.int .i64 es.length)) H K) G') : Red (wpOps P (⟨d, .rd (.lenMap a), none, x⟩ :: is) env H K) G' := red_by (fun k => wps_lenMap hh ha hi k) k
theorem r_lr1 (iα : Inhabited α) (hh : Has H L) {a : X} {id n off : Nat} {b : Bool} {l : List α} {v : V} (ha : a.ev env = .ptr id (n * sz + off)) (hi : At (id, .cells b (l.flatMap enc)) L) (hs : ∀ a, (enc a).length = sz) (hb : n < l.length) (hv : (enc (nth l n))[off]? = some v) (k : Red (wpOps P is (env.put d (v)) H K) G') : Red (wpOps P (⟨d, .rd (.load1 a), none, x⟩ :: is) env H K) G' := red_by (fun k => wps_lr hh ha hi hs hb hv k) k
theorem r_lr12 (iα : Inhabited α) (hh : Has H L) {a : X} {id n off off2 : Nat} {b : Bool} {l : List α} {v : V} (ha : a.ev env = .ptr id (n * sz + off + off2)) (hi : At (id, .cells b (l.flatMap enc)) L) (hs : ∀ a, (enc a).length = sz) (hb : n < l.length) (hv : (enc (nth l n))[off + off2]? = some v) (k : Red (wpOps P is (env.put d (v)) H K) G') : Red (wpOps P (⟨d, .rd (.load1 a), none, x⟩ :: is) env H K) G' := red_by (fun k => wps_lr hh (by rw [ha, Nat.add_assoc]) hi hs hb hv k) k
theorem r_lrn2 (iα : Inhabited α) (hh : Has H L) {a : X} {id n off off2 m : Nat} {b : Bool} {l : List α} {vs : List V} (ha : a.ev env = .ptr id (n * sz + off + off2)) (hi : At (id, .cells b (l.flatMap enc)) L) (hs : ∀ a, (enc a).length = sz) (hb : n < l.length) (hm : Nat.ble (off + off2 + (m + 1)) sz = true) (hv : ((enc (nth l n)).drop (off + off2)).take (m + 1) = vs) (k : Red (wpOps P is (env.put d (.agg vs)) H K) G') : Red (wpOps P (⟨d, .rd (.loadn (m + 1) a), none, x⟩ :: is) env H K) G' := red_by (fun k => wps_lrn hh (by rw [ha, Nat.add_assoc]) hi hs hb hm hv k) k
theorem r_lr0 (iα : Inhabited α) (hh : Has H L) {a : X} {id n : Nat} {b : Bool} {l : List α} {v : V} (ha : a.ev env = .ptr id (n * sz)) (hi : At (id, .cells b (l.flatMap enc)) L) (hs : ∀ a, (enc a).length = sz) (hb : n < l.length) (hv : (enc (nth l n))[0]? = some v) (k : Red (wpOps P is (env.put d (v)) H K) G') : Red (wpOps P (⟨d, .rd (.load1 a), none, x⟩ :: is) env H K) G' := red_by (fun k => wps_lr0 hh ha hi hs hb hv k) k
theorem r_lrn (iα : Inhabited α) (hh : Has H L) {a : X} {id n off m : Nat} {b : Bool} {l : List α} {vs : List V} (ha : a.ev env = .ptr id (n * sz + off)) (hi : At (id, .cells b (l.flatMap enc)) L) (hs : ∀ a, (enc a).length = sz) (hb : n < l.length) (hm : Nat.ble (off + (m + 1)) sz = true) (hv : ((enc (nth l n)).drop off).take (m + 1) = vs) (k : Red (wpOps P is (env.put d (.agg vs)) H K) G') : Red (wpOps P (⟨d, .rd (.loadn (m + 1) a), none, x⟩ :: is) env H K) G' := red_by (fun k => wps_lrn hh ha hi hs hb hm hv k) k
theorem r_lra (iα : Inhabited α) (hh : Has H L) {a : X} {id n m : Nat} {b : Bool} {l : List α} (ha : a.ev env = .ptr id (n * (m + 1))) (hi : At (id, .cells b (l.flatMap enc)) L) (hs : ∀ a, (enc a).length = m + 1) (hb : n < l.length) (k : Red (wpOps P is (env.put d (.agg (enc (nth l n)))) H K) G') : Red (wpOps P (⟨d, .rd (.loadn (m + 1) a), none, x⟩ :: is) env H K) G' := red_by (fun k => wps_lra hh ha hi hs hb k) k
theorem r_ia {esz : Nat} {y i : X} {id len : Nat} {ki : IntKind} {n : Int} (hx : y.ev env = .slice id 0 len esz) (hi : i.ev env = .int ki n) (hb : 0 ≤ n ∧ n < (len : Int)) (k : Red (wpOps P is (env.put d (.ptr id (n.toNat * esz))) H K) G') : Red (wpOps P (⟨d, .rd (.iaddrS esz y i), none, x⟩ :: is) env H K) G' := red_by (fun k => wps_ia hx hi hb k) k
theorem r_iac {esz : Nat} {y i : X} {id off len : Nat} {ki : IntKind} {n : Int} (hx : y.ev env = .slice id off len esz) (hi : i.ev env = .int ki n) (hb : 0 ≤ n ∧ n < (len : Int)) (k : Red (wpOps P is (env.put d (.ptr id (off + n.toNat * esz))) H K) G') : Red (wpOps P (⟨d, .rd (.iaddrS esz y i), none, x⟩ :: is) env H K) G' := red_by (fun k => wps_iac hx hi hb k) k
theorem r_iaz {esz : Nat} {y i : X} {id j len : Nat} {ki : IntKind} (hx : y.ev env = .slice id (j * esz) len esz) (hi : i.ev env = .int ki 0) (hb : 0 < len) (k : Red (wpOps P is (env.put d (.ptr id (j * esz))) H K) G') : Red (wpOps P (⟨d, .rd (.iaddrS esz y i), none, x⟩ :: is) env H K) G' := red_by (fun k => wps_iac hx hi ⟨Int.le_refl 0, by omega⟩ (by simpa using k)) k
theorem r_iaa {len esz : Nat} {y i : X} {id off : Nat} {ki : IntKind} {n : Int} (hx : y.ev env = .ptr id off) (hi : i.ev env = .int ki n) (hb : 0 ≤ n ∧ n < (len : Int)) (k : Red (wpOps P is (env.put d (.ptr id (off + n.toNat * esz))) H K) G') : Red (wpOps P (⟨d, .rd (.iaddrA len esz y i), none, x⟩ :: is) env H K) G' := red_by (fun k => wps_iaa hx hi hb k) k
theorem r_ian {esz : Nat} {y i : X} {id len n : Nat} {ki : IntKind} (hx : y.ev env = .slice id 0 len esz) (hi : i.ev env = .int ki (n : Int)) (hb : n < len) (k : Red (wpOps P is (env.put d (.ptr id (n * esz))) H K) G') : Red (wpOps P (⟨d, .rd (.iaddrS esz y i), none, x⟩ :: is) env H K) G' := red_by (fun k => wps_ian hx hi hb k) k
theorem r_is {y i : X} {s : List UInt8} {ki : IntKind} {n : Int} (hx : y.ev env = .str s) (hi : i.ev env = .int ki n) (hb : 0 ≤ n ∧ n < (s.length : Int)) (k : Red (wpOps P is (env.put d (.int .u8 (s.getD n.toNat 0).toNat)) H K) G') : Red (wpOps P (⟨d, .rd (.idxStr y i), none, x⟩ :: is) env H K) G' := red_by (fun k => wps_is hx hi hb k) k
theorem r_isw {y i : X} {s : List UInt8} {ki : IntKind} {n : Int} {m : Nat} (hx : y.ev env = .str s) (hi : i.ev env = .int ki n) (hm : n.toNat = m) (hb : 0 ≤ n ∧ n < (s.length : Int)) (k : Red (wpOps P is (env.put d (.int .u8 (s.getD m 0).toNat)) H K) G') : Red (wpOps P (⟨d, .rd (.idxStr y i), none, x⟩ :: is) env H K) G' := red_by (fun k => wps_isw hx hi hm hb k) k
theorem r_wadd {y z : X} {a b : Wd} (hy : y.ev env = .int .u32 (a.toNat : Nat)) (hz : z.ev env = .int .u32 (b.toNat : Nat)) (k : Red (wpOps P is (env.put d (.int .u32 ((a + b).toNat : Nat))) H K) G') : Red (wpOps P (⟨d, .rd (.bin .add y z), none, x⟩ :: is) env H K) G' := red_by (fun k => wps_wadd hy hz k) k
theorem r_wmul {y z : X} {a b : Wd} (hy : y.ev env = .int .u32 (a.toNat : Nat)) (hz : z.ev env = .int .u32 (b.toNat : Nat)) (k : Red (wpOps P is (env.put d (.int .u32 ((a * b).toNat : Nat))) H K) G') : Red (wpOps P (⟨d, .rd (.bin .mul y z), none, x⟩ :: is) env H K) G' := red_by (fun k => wps_wmul hy hz k) k
theorem r_wand {y z : X} {a b : Wd} (hy : y.ev env = .int .u32 (a.toNat : Nat)) (hz : z.ev env = .int .u32 (b.toNat : Nat)) (k : Red (wpOps P is (env.put d (.int .u32 ((a &&& b).toNat : Nat))) H K) G') : Red (wpOps P (⟨d, .rd (.bin .and y z), none, x⟩ :: is) env H K) G' := red_by (fun k => wps_wand hy hz k) k
theorem r_wor {y z : X} {a b : Wd} (hy : y.ev env = .int .u32 (a.toNat : Nat)) (hz : z.ev env = .int .u32 (b.toNat : Nat)) (k : Red (wpOps P is (env.put d (.int .u32 ((a ||| b).toNat : Nat))) H K) G') : Red (wpOps P (⟨d, .rd (.bin .or y z), none, x⟩ :: is) env H K) G' := red_by (fun k => wps_wor hy hz k) k
theorem r_wxor {y z : X} {a b : Wd} (hy : y.ev env = .int .u32 (a.toNat : Nat)) (hz : z.ev env = .int .u32 (b.toNat : Nat)) (k : Red (wpOps P is (env.put d (.int .u32 ((a ^^^ b).toNat : Nat))) H K) G') : Red (wpOps P (⟨d, .rd (.bin .xor y z), none, x⟩ :: is) env H K) G' := red_by (fun k => wps_wxor hy hz k) k
theorem r_bld {z cs : List V} {ps : List (Nat × Nat × X)} (hf : fillV env z ps = some cs) (k : Red (wpOps P is (env.put d (.agg cs)) H K) G') : Red (wpOps P (⟨d, .rd (.build z ps), none, x⟩ :: is) env H K) G' := red_by (fun k => wps_bld hf k) k
theorem r_wnot {y : X} {a : Wd} (hy : y.ev env = .int .u32 (a.toNat : Nat)) (k : Red (wpOps P is (env.put d (.int .u32 ((~~~ a).toNat : Nat))) H K) G') : Red (wpOps P (⟨d, .rd (.un .xor y), none, x⟩ :: is) env H K) G' := red_by (fun k => wps_wnot hy k) k
theorem r_wshl {y z : X} {a : Wd} {kk : IntKind} {n : Nat} (hy : y.ev env = .int .u32 (a.toNat : Nat)) (hz : z.ev env = .int kk (n : Nat)) (hn : n ≤ 32) (k : Red (wpOps P is (env.put d (.int .u32 ((a <<< n).toNat : Nat))) H K) G') : Red (wpOps P (⟨d, .rd (.bin .shl y z), none, x⟩ :: is) env H K) G' := red_by (fun k => wps_wshl hy hz hn k) k
theorem r_wshr {y z : X} {a : Wd} {kk : IntKind} {n : Nat} (hy : y.ev env = .int .u32 (a.toNat : Nat)) (hz : z.ev env = .int kk (n : Nat)) (hn : n ≤ 32) (k : Red (wpOps P is (env.put d (.int .u32 ((a >>> n).toNat : Nat))) H K) G') : Red (wpOps P (⟨d, .rd (.bin .shr y z), none, x⟩ :: is) env H K) G' := red_by (fun k => wps_wshr hy hz hn k) k
theorem r_wto {y : X} {c : UInt8} (hy : y.ev env = .int .u8 (c.toNat : Nat)) (k : Red (wpOps P is (env.put d (.int .u32 ((wdB c).toNat : Nat))) H K) G') : Red (wpOps P (⟨d, .rd (.toInt .u32 y), none, x⟩ :: is) env H K) G' := red_by (fun k => wps_wto hy k) k
theorem r_wtb {y : X} {a : Wd} (hy : y.ev env = .int .u32 (a.toNat : Nat)) (k : Red (wpOps P is (env.put d (.int .u8 ((bWd a).toNat : Nat))) H K) G') : Red (wpOps P (⟨d, .rd (.toInt .u8 y), none, x⟩ :: is) env H K) G' := red_by (fun k => wps_wtb hy k) k
theorem r_iaw {len esz : Nat} {y i : X} {id : Nat} {ki : IntKind} {n : Int} {m : Nat} (hx : y.ev env = .ptr id 0) (hi : i.ev env = .int ki n) (hm : n.toNat = m) (hb : 0 ≤ n ∧ n < (len : Int)) (k : Red (wpOps P is (env.put d (.ptr id (m * esz))) H K) G') : Red (wpOps P (⟨d, .rd (.iaddrA len esz y i), none, x⟩ :: is) env H K) G' := red_by (fun k => wps_iaw hx hi hm hb k) k
theorem r_toi32 {y : X} {k' : IntKind} {n : Int} (hy : y.ev env = .int k' n) (hb : -2147483648 ≤ n ∧ n ≤ 2147483647) (k : Red (wpOps P is (env.put d (.int .i32 n)) H K) G') : Red (wpOps P (⟨d, .rd (.toInt .i32 y), none, x⟩ :: is) env H K) G' := red_by (fun k => wps_toi32 hy hb k) k
theorem r_addi32 {y z : X} {a b : Int} (hy : y.ev env = .int .i32 a) (hz : z.ev env = .int .i32 b) (hb : -2147483648 ≤ a + b ∧ a + b ≤ 2147483647) (k : Red (wpOps P is (env.put d (.int .i32 (a + b))) H K) G') : Red (wpOps P (⟨d, .rd (.bin .add y z), none, x⟩ :: is) env H K) G' := red_by (fun k => wps_addi32 hy hz hb k) k
theorem r_subi32 {y z : X} {a b : Int} (hy : y.ev env = .int .i32 a) (hz : z.ev env = .int .i32 b) (hb : -2147483648 ≤ a - b ∧ a - b ≤ 2147483647) (k : Red (wpOps P is (env.put d (.int .i32 (a - b))) H K) G') : Red (wpOps P (⟨d, .rd (.bin .sub y z), none, x⟩ :: is) env H K) G' := red_by (fun k => wps_subi32 hy hz hb k) k
theorem r_muli32 {y z : X} {a b : Int} (hy : y.ev env = .int .i32 a) (hz : z.ev env = .int .i32 b) (hb : -2147483648 ≤ a * b ∧ a * b ≤ 2147483647) (k : Red (wpOps P is (env.put d (.int .i32 (a * b))) H K) G') : Red (wpOps P (⟨d, .rd (.bin .mul y z), none, x⟩ :: is) env H K) G' := red_by (fun k => wps_muli32 hy hz hb k) k
theorem r_toi64 {y : X} {k' : IntKind} {n : Int} (hy : y.ev env = .int k' n) (hb : -9223372036854775808 ≤ n ∧ n ≤ 9223372036854775807) (k : Red (wpOps P is (env.put d (.int .i64 n)) H K) G') : Red (wpOps P (⟨d, .rd (.toInt .i64 y), none, x⟩ :: is) env H K) G' := red_by (fun k => wps_toi64 hy hb k) k
theorem r_tou8 {y : X} {k' : IntKind} {n : Int} (hy : y.ev env = .int k' n) (hb : 0 ≤ n ∧ n ≤ 255) (k : Red (wpOps P is (env.put d (.int .u8 n)) H K) G') : Red (wpOps P (⟨d, .rd (.toInt .u8 y), none, x⟩ :: is) env H K) G' := red_by (fun k => wps_tou8 hy hb k) k
theorem r_addu8 {y z : X} {a b : Int} (hy : y.ev env = .int .u8 a) (hz : z.ev env = .int .u8 b) (hb : 0 ≤ a + b ∧ a + b ≤ 255) (k : Red (wpOps P is (env.put d (.int .u8 (a + b))) H K) G') : Red (wpOps P (⟨d, .rd (.bin .add y z), none, x⟩ :: is) env H K) G' := red_by (fun k => wps_addu8 hy hz hb k) k
theorem r_subu8 {y z : X} {a b : Int} (hy : y.ev env = .int .u8 a) (hz : z.ev env = .int .u8 b) (hb : 0 ≤ a - b ∧ a - b ≤ 255) (k : Red (wpOps P is (env.put d (.int .u8 (a - b))) H K) G') : Red (wpOps P (⟨d, .rd (.bin .sub y z), none, x⟩ :: is) env H K) G' := red_by (fun k => wps_subu8 hy hz hb k) k
theorem r_mulu8 {y z : X} {a b : Int} (hy : y.ev env = .int .u8 a) (hz : z.ev env = .int .u8 b) (hb : 0 ≤ a * b ∧ a * b ≤ 255) (k : Red (wpOps P is (env.put d (.int .u8 (a * b))) H K) G') : Red (wpOps P (⟨d, .rd (.bin .mul y z), none, x⟩ :: is) env H K) G' := red_by (fun k => wps_mulu8 hy hz hb k) k
theorem r_tou32 {y : X} {k' : IntKind} {n : Int} (hy : y.ev env = .int k' n) (hb : 0 ≤ n ∧ n ≤ 4294967295) (k : Red (wpOps P is (env.put d (.int .u32 n)) H K) G') : Red (wpOps P (⟨d, .rd (.toInt .u32 y), none, x⟩ :: is) env H K) G' := red_by (fun k => wps_tou32 hy hb k) k
theorem r_addu32 {y z : X} {a b : Int} (hy : y.ev env = .int .u32 a) (hz : z.ev env = .int .u32 b) (hb : 0 ≤ a + b ∧ a + b ≤ 4294967295) (k : Red (wpOps P is (env.put d (.int .u32 (a + b))) H K) G') : Red (wpOps P (⟨d, .rd (.bin .add y z), none, x⟩ :: is) env H K) G' := red_by (fun k => wps_addu32 hy hz hb k) k
theorem r_subu32 {y z : X} {a b : Int} (hy : y.ev env = .int .u32 a) (hz : z.ev env = .int .u32 b) (hb : 0 ≤ a - b ∧ a - b ≤ 4294967295) (k : Red (wpOps P is (env.put d (.int .u32 (a - b))) H K) G') : Red (wpOps P (⟨d, .rd (.bin .sub y z), none, x⟩ :: is) env H K) G' := red_by (fun k => wps_subu32 hy hz hb k) k
theorem r_mulu32 {y z : X} {a b : Int} (hy : y.ev env = .int .u32 a) (hz : z.ev env = .int .u32 b) (hb : 0 ≤ a * b ∧ a * b ≤ 4294967295) (k : Red (wpOps P is (env.put d (.int .u32 (a * b))) H K) G') : Red (wpOps P (⟨d, .rd (.bin .mul y z), none, x⟩ :: is) env H K) G' := red_by (fun k => wps_mulu32 hy hz hb k) k
theorem r_tou64 {y : X} {k' : IntKind} {n : Int} (hy : y.ev env = .int k' n) (hb : 0 ≤ n ∧ n ≤ 18446744073709551615) (k : Red (wpOps P is (env.put d (.int .u64 n)) H K) G') : Red (wpOps P (⟨d, .rd (.toInt .u64 y), none, x⟩ :: is) env H K) G' := red_by (fun k => wps_tou64 hy hb k) k
theorem r_addu64 {y z : X} {a b : Int} (hy : y.ev env = .int .u64 a) (hz : z.ev env = .int .u64 b) (hb : 0 ≤ a + b ∧ a + b ≤ 18446744073709551615) (k : Red (wpOps P is (env.put d (.int .u64 (a + b))) H K) G') : Red (wpOps P (⟨d, .rd (.bin .add y z), none, x⟩ :: is) env H K) G' := red_by (fun k => wps_addu64 hy hz hb k) k
theorem r_subu64 {y z : X} {a b : Int} (hy : y.ev env = .int .u64 a) (hz : z.ev env = .int .u64 b) (hb : 0 ≤ a - b ∧ a - b ≤ 18446744073709551615) (k : Red (wpOps P is (env.put d (.int .u64 (a - b))) H K) G') : Red (wpOps P (⟨d, .rd (.bin .sub y z), none, x⟩ :: is) env H K) G' := red_by (fun k => wps_subu64 hy hz hb k) k
theorem r_mulu64 {y z : X} {a b : Int} (hy : y.ev env = .int .u64 a) (hz : z.ev env = .int .u64 b) (hb : 0 ≤ a * b ∧ a * b ≤ 18446744073709551615) (k : Red (wpOps P is (env.put d (.int .u64 (a * b))) H K) G') : Red (wpOps P (⟨d, .rd (.bin .mul y z), none, x⟩ :: is) env H K) G' := red_by (fun k => wps_mulu64 hy hz hb k) k
theorem r_add {y z : X} {a b : Int} (hy : y.ev env = .int .i64 a) (hz : z.ev env = .int .i64 b) (hb : -9223372036854775808 ≤ a + b ∧ a + b ≤ 9223372036854775807) (k : Red (wpOps P is (env.put d (.int .i64 (a + b))) H K) G') : Red (wpOps P (⟨d, .rd (.bin .add y z), none, x⟩ :: is) env H K) G' := red_by (fun k => wps_add hy hz hb k) k
theorem r_sub {y z : X} {a b : Int} (hy : y.ev env = .int .i64 a) (hz : z.ev env = .int .i64 b) (hb : -9223372036854775808 ≤ a - b ∧ a - b ≤ 9223372036854775807) (k : Red (wpOps P is (env.put d (.int .i64 (a - b))) H K) G') : Red (wpOps P (⟨d, .rd (.bin .sub y z), none, x⟩ :: is) env H K) G' := red_by (fun k => wps_sub hy hz hb k) k
theorem r_mul {y z : X} {a b : Int} (hy : y.ev env = .int .i64 a) (hz : z.ev env = .int .i64 b) (hb : -9223372036854775808 ≤ a * b ∧ a * b ≤ 9223372036854775807) (k : Red (wpOps P is (env.put d (.int .i64 (a * b))) H K) G') : Red (wpOps P (⟨d, .rd (.bin .mul y z), none, x⟩ :: is) env H K) G' := red_by (fun k => wps_mul hy hz hb k) k
theorem r_quo {y z : X} {a b : Int} (hy : y.ev env = .int .i64 a) (hz : z.ev env = .int .i64 b) (hb : 0 ≤ a ∧ a ≤ 9223372036854775807 ∧ 0 < b) (k : Red (wpOps P is (env.put d (.int .i64 (a / b))) H K) G') : Red (wpOps P (⟨d, .rd (.bin .quo y z), none, x⟩ :: is) env H K) G' := red_by (fun k => wps_quo hy hz hb k) k
theorem r_rem {y z : X} {k' : IntKind} {a b : Int} (hy : y.ev env = .int k' a) (hz : z.ev env = .int k' b) (hb : 0 ≤ a ∧ 0 < b) (k : Red (wpOps P is (env.put d (.int k' (a % b))) H K) G') : Red (wpOps P (⟨d, .rd (.bin .rem y z), none, x⟩ :: is) env H K) G' := red_by (fun k => wps_rem hy hz hb k) k
theorem r_eq {c : EqC} {y z : X} {b : Bool} (h : eqV c (y.ev env) (z.ev env) = some b) (k : Red (wpOps P is (env.put d (.bool b)) H K) G') : Red (wpOps P (⟨d, .rd (.eq c false y z), none, x⟩ :: is) env H K) G' := red_by (fun k => wps_eq h k) k
theorem r_ne {c : EqC} {y z : X} {b : Bool} (h : eqV c (y.ev env) (z.ev env) = some b) (k : Red (wpOps P is (env.put d (.bool (!b))) H K) G') : Red (wpOps P (⟨d, .rd (.eq c true y z), none, x⟩ :: is) env H K) G' := red_by (fun k => wps_ne h k) k
theorem r_cs00 {y : X} {s : List UInt8} (hx : y.ev env = .str s) (k : Red (wpOps P is (env.put d (.str s)) H K) G') : Red (wpOps P (⟨d, .rd (.cutStr y none none), none, x⟩ :: is) env H K) G' := red_by (fun k => wps_cs00 hx k) k
theorem r_cs01 {y h : X} {s : List UInt8} {kh : IntKind} {n : Int} (hx : y.ev env = .str s) (hi : h.ev env = .int kh n) (hb : 0 ≤ n ∧ n ≤ (s.length : Int)) (k : Red (wpOps P is (env.put d (.str (s.take n.toNat))) H K) G') : Red (wpOps P (⟨d, .rd (.cutStr y none (some h)), none, x⟩ :: is) env H K) G' := red_by (fun k => wps_cs01 hx hi hb k) k
theorem r_cs10 {y l : X} {s : List UInt8} {kl : IntKind} {n : Int} (hx : y.ev env = .str s) (hl : l.ev env = .int kl n) (hb : 0 ≤ n ∧ n ≤ (s.length : Int)) (k : Red (wpOps P is (env.put d (.str (s.drop n.toNat))) H K) G') : Red (wpOps P (⟨d, .rd (.cutStr y (some l) none), none, x⟩ :: is) env H K) G' := red_by (fun k => wps_cs10 hx hl hb k) k
theorem r_cs11 {y l h : X} {s : List UInt8} {kl kh : IntKind} {n m : Int} (hx : y.ev env = .str s) (hl : l.ev env = .int kl n) (hi : h.ev env = .int kh m) (hb : 0 ≤ n ∧ n ≤ m ∧ m ≤ (s.length : Int)) (k : Red (wpOps P is (env.put d (.str ((s.take m.toNat).drop n.toNat))) H K) G') : Red (wpOps P (⟨d, .rd (.cutStr y (some l) (some h)), none, x⟩ :: is) env H K) G' := red_by (fun k => wps_cs11 hx hl hi hb k) k
theorem r_cl00 {y : X} {id off len esz : Nat} (hx : y.ev env = .slice id off len esz) (k : Red (wpOps P is (env.put d (.slice id off len esz)) H K) G') : Red (wpOps P (⟨d, .rd (.cutSl esz y none none), none, x⟩ :: is) env H K) G' := red_by (fun k => wps_cl00 hx k) k
theorem r_cl01 {y h : X} {id off len esz : Nat} {kh : IntKind} {n : Int} (hx : y.ev env = .slice id off len esz) (hi : h.ev env = .int kh n) (hb : 0 ≤ n ∧ n ≤ (len : Int)) (k : Red (wpOps P is (env.put d (.slice id off n.toNat esz)) H K) G') : Red (wpOps P (⟨d, .rd (.cutSl esz y none (some h)), none, x⟩ :: is) env H K) G' := red_by (fun k => wps_cl01 hx hi hb k) k
theorem r_cl10 {y l : X} {id off len esz : Nat} {kl : IntKind} {n : Int} (hx : y.ev env = .slice id off len esz) (hl : l.ev env = .int kl n) (hb : 0 ≤ n ∧ n ≤ (len : Int)) (k : Red (wpOps P is (env.put d (.slice id (off + n.toNat * esz) (len - n.toNat) esz)) H K) G') : Red (wpOps P (⟨d, .rd (.cutSl esz y (some l) none), none, x⟩ :: is) env H K) G' := red_by (fun k => wps_cl10 hx hl hb k) k
theorem r_cl11 {y l h : X} {id off len esz : Nat} {kl kh : IntKind} {n m : Int} (hx : y.ev env = .slice id off len esz) (hl : l.ev env = .int kl n) (hi : h.ev env = .int kh m) (hb : 0 ≤ n ∧ n ≤ m ∧ m ≤ (len : Int)) (k : Red (wpOps P is (env.put d (.slice id (off + n.toNat * esz) (m.toNat - n.toNat) esz)) H K) G') : Red (wpOps P (⟨d, .rd (.cutSl esz y (some l) (some h)), none, x⟩ :: is) env H K) G' := red_by (fun k => wps_cl11 hx hl hi hb k) k
theorem r_alloc (hh : Has H L) {z : List V} (k : ∀ id H', Has H' ((id, .cells true z) :: L) → Red (wpOps P is (env.put d (.ptr id 0)) H' K) (N id H')) : Red (wpOps P (⟨d, .ef (.alloc z), none, x⟩ :: is) env H K) (∀ id H', Has H' ((id, .cells true z) :: L) → N id H') := fun g => wps_alloc hh fun id H' h => k id H' h (g id H' h)
theorem r_allocT (hh : Has H L) {t : Nat} {z : List V} (k : ∀ id H', Has H' ((id, .cells true z) :: L) → Red (wpOps P is (env.put d (.ty t z.length id (.ptr id 0))) H' K) (N id H')) : Red (wpOps P (⟨d, .ef (.allocT t z), none, x⟩ :: is) env H K) (∀ id H', Has H' ((id, .cells true z) :: L) → N id H') := fun g => wps_allocT hh fun id H' h => k id H' h (g id H' h)
theorem r_rangeS (hh : Has H L) {y : X} {s : List UInt8} (hy : y.ev env = .str s) (k : ∀ id H', Has H' ((id, .siter s 0) :: L) → Red (wpOps P is (env.put d (.ptr id 0)) H' K) (N id H')) : Red (wpOps P (⟨d, .ef (.rangeS y), none, x⟩ :: is) env H K) (∀ id H', Has H' ((id, .siter s 0) :: L) → N id H') := fun g => wps_rangeS hh hy fun id H' h => k id H' h (g id H' h)
theorem r_s2b (hh : Has H L) {y : X} {s : List UInt8} (hy : y.ev env = .str s) (k : ∀ id H', Has H' ((id, .cells true (s.flatMap byteC)) :: L) → Red (wpOps P is (env.put d (.slice id 0 s.length 1)) H' K) (N id H')) : Red (wpOps P (⟨d, .ef (.s2b y), none, x⟩ :: is) env H K) (∀ id H', Has H' ((id, .cells true (s.flatMap byteC)) :: L) → N id H') := fun g => wps_s2b hh hy fun id H' h => k id H' h (g id H' h)
theorem r_unt {e a b : Nat} {y z : X} {g : Option (Nat × Bool)} (k : Red (wpOps P (⟨d, .ef (.app a b y z), g, x⟩ :: is) env H K) G') : Red (wpOps P (⟨d, .ef (.appT e a b y z), g, x⟩ :: is) env H K) G' := red_by (fun k => wps_unt k) k
theorem r_unt2 {i : I} {e a b : Nat} {y z : X} {g : Option (Nat × Bool)} (k : Red (wpOps P (i :: ⟨d, .ef (.app a b y z), g, x⟩ :: is) env H K) G') : Red (wpOps P (i :: ⟨d, .ef (.appT e a b y z), g, x⟩ :: is) env H K) G' := red_by (fun k => wps_unt2 k) k
theorem r_b2s (hh : Has H L) {y : X} {id : Nat} {b : Bool} {l : List UInt8} (hy : y.ev env = .slice id 0 l.length 1) (hi : At (id, .cells b (l.flatMap byteC)) L) (k : Red (wpOps P is (env.put d (.str l)) H K) G') : Red (wpOps P (⟨d, .rd (.b2s y), none, x⟩ :: is) env H K) G' := red_by (fun k => wps_b2s hh hy hi k) k
theorem r_box (hh : Has H L) {y : X} {v : V} (hy : y.ev env = v) (ht : v.isTup = false) {cs : List V} (hc : v.cells = cs) (k : ∀ id H', Has H' ((id, .cells true cs) :: L) → Red (wpOps P is (env.put d (.ptr id 0)) H' K) (N id H')) : Red (wpOps P (⟨d, .ef (.box y), none, x⟩ :: is) env H K) (∀ id H', Has H' ((id, .cells true cs) :: L) → N id H') := fun g => wps_box hh hy ht hc fun id H' h => k id H' h (g id H' h)
theorem r_lit1 (hh : Has H L) {esz sz : Nat} {z cs : List V} {y : X} {v : V} (hy : y.ev env = v) (ht : v.isTup = false) (hc : v.cells = cs) (hn : cs.length = sz) (hz : z.length = sz) (k : ∀ id H', Has H' ((id, .cells true cs) :: L) → Red (wpOps P is (env.put d (.slice id 0 1 esz)) H' K) (N id H')) : Red (wpOps P (⟨d, .ef (.lit esz 1 z [(0, sz, y)]), none, x⟩ :: is) env H K) (∀ id H', Has H' ((id, .cells true cs) :: L) → N id H') := fun g => wps_lit1 hh hy ht hc hn hz fun id H' h => k id H' h (g id H' h)
theorem r_lit (hh : Has H L) {esz len : Nat} {z cs cs' : List V} {ps : List (Nat × Nat × X)} (hf : fillV env z ps = some cs) (hl : cs = cs') (k : ∀ id H', Has H' ((id, .cells true cs') :: L) → Red (wpOps P is (env.put d (.slice id 0 len esz)) H' K) (N id H')) : Red (wpOps P (⟨d, .ef (.lit esz len z ps), none, x⟩ :: is) env H K) (∀ id H', Has H' ((id, .cells true cs') :: L) → N id H') := fun g => wps_lit hh hf hl fun id H' h => k id H' h (g id H' h)
theorem r_mkMap (hh : Has H L)  (k : ∀ id H', Has H' ((id, .map []) :: L) → Red (wpOps P is (env.put d (.map id)) H' K) (N id H')) : Red (wpOps P (⟨d, .ef .mkMap, none, x⟩ :: is) env H K) (∀ id H', Has H' ((id, .map []) :: L) → N id H') := fun g => wps_mkMap hh fun id H' h => k id H' h (g id H' h)
theorem r_store (hh : Has H L) {n : Nat} {a y : X} {id off : Nat} {cs cs' vs : List V} {v : V} {L' : List Ob} (ha : a.ev env = .ptr id off) (hy : y.ev env = v) (ht : v.isTup = false) (hc : v.cells = vs) (hn : vs.length = n + 1) (_hA : At (id, .cells true cs) L) (hb : Nat.ble (off + (n + 1)) cs.length = true) (hs : splice cs off vs = cs') (hu : Upd (id, .cells true cs) [(id, .cells true cs')] L L') (k : ∀ H', Has H' L' → Red (wpOps P is (env.put d V.undef) H' K) (M H')) : Red (wpOps P (⟨d, .ef (.store (n + 1) a y), none, .no⟩ :: is) env H K) (∀ H', Has H' L' → M H') := fun g => wps_store hh ha hy ht hc hn hu (Nat.le_of_ble_eq_true hb) hs fun H' h => k H' h (g H' h)
theorem r_srow (hh : Has H L) {a y : X} {id n m : Nat} {l : List α} {u : α} {v : V} {L' : List Ob} (ha : a.ev env = .ptr id (n * (m + 1))) (_hA : At (id, .cells true (l.flatMap enc)) L) (hy : y.ev env = v) (ht : v.isTup = false) (hc : v.cells = enc u) (hs : ∀ a, (enc a).length = m + 1) (hb : n < l.length) (hu : Upd (id, .cells true (l.flatMap enc)) [(id, .cells true ((l.set n u).flatMap enc))] L L') (k : ∀ H', Has H' L' → Red (wpOps P is (env.put d V.undef) H' K) (M H')) : Red (wpOps P (⟨d, .ef (.store (m + 1) a y), none, .no⟩ :: is) env H K) (∀ H', Has H' L' → M H') := fun g => wps_sr hh ha hy ht hc hs hb hu fun H' h => k H' h (g H' h)
def Hint {α : Type} (_ : α → List V) (_ : α) : Prop := True
theorem r_push (hh : Has H L) {ya : Nat} {y a : X} {id by_ m : Nat} {z : List V} {l : List α} {u : α} {v : V} {fa : Kx} {L' : Nat → List Ob} (ha : a.ev (env.put (some ya) (.slice 0 0 0 0)) = .slice id 0 l.length (m + 1)) (_hA : At (id, .cells true (l.flatMap enc)) L) (hn : ∀ v, a.ev (env.put (some ya) v) = a.ev (env.put (some ya) (.slice 0 0 0 0))) (hy : y.ev env = v) (ht : v.isTup = false) (hc : v.cells = enc u) (hs : ∀ a, (enc a).length = m + 1) (hz : z.length = m + 1) (hu : ∀ id', Upd (id, .cells true (l.flatMap enc)) [(id', .cells true ((l ++ [u]).flatMap enc))] L (L' id')) (hb : (l.length + 1) * by_ ≤ 140737488355328) (k : ∀ t id' H', Has H' (L' id') → Red (wpOps P is ((env.put (some ya) (.slice t 0 1 (m + 1))).put d (.slice id' 0 (l ++ [u]).length (m + 1))) H' K) (N2 t id' H')) : Red (wpOps P (⟨some ya, .ef (.lit (m + 1) 1 z [(0, m + 1, y)]), none, fa⟩ :: ⟨d, .ef (.app (m + 1) by_ a (.t ya)), none, .no⟩ :: is) env H K) (∀ t id' H', Has H' (L' id') → N2 t id' H') := fun g => wps_push hh ha hn hy ht hc hs hz hu hb fun t id' H' h => k t id' H' h (g t id' H' h)
theorem r_pushH (hh : Has H L) {ya : Nat} {y a : X} {id by_ m : Nat} {z : List V} {l : List α} {u : α} {v : V} {fa : Kx} {L' : Nat → List Ob} (ha : a.ev (env.put (some ya) (.slice 0 0 0 0)) = .slice id 0 l.length (m + 1)) (_hi : Hint enc u) (_hA : At (id, .cells true (l.flatMap enc)) L) (hn : ∀ v, a.ev (env.put (some ya) v) = a.ev (env.put (some ya) (.slice 0 0 0 0))) (hy : y.ev env = v) (ht : v.isTup = false) (hc : v.cells = enc u) (hs : ∀ a, (enc a).length = m + 1) (hz : z.length = m + 1) (hu : ∀ id', Upd (id, .cells true (l.flatMap enc)) [(id', .cells true ((l ++ [u]).flatMap enc))] L (L' id')) (hb : (l.length + 1) * by_ ≤ 140737488355328) (k : ∀ t id' H', Has H' (L' id') → Red (wpOps P is ((env.put (some ya) (.slice t 0 1 (m + 1))).put d (.slice id' 0 (l ++ [u]).length (m + 1))) H' K) (N2 t id' H')) : Red (wpOps P (⟨some ya, .ef (.lit (m + 1) 1 z [(0, m + 1, y)]), none, fa⟩ :: ⟨d, .ef (.app (m + 1) by_ a (.t ya)), none, .no⟩ :: is) env H K) (∀ t id' H', Has H' (L' id') → N2 t id' H') := fun g => wps_push hh ha hn hy ht hc hs hz hu hb fun t id' H' h => k t id' H' h (g t id' H' h)
theorem r_cd {y : X} {a b : C} {p : Prop} {_ : Decidable p} (h : y.ev env = .bool (decide p)) (ht : p → Red (C.wp P a Q env H) A') (hf : ¬p → Red (C.wp P b Q env H) B') : Red (C.wp P (.cond y a b) Q env H) ((p → A') ∧ (¬p → B')) := fun g => c_cond_d h (fun c => ht c (g.1 c)) (fun c => hf c (g.2 c))
theorem r_gd {o : O} {s : Nat} {b : Bool} {p : Prop} {_ : Decidable p} (h : env s = .bool (decide p)) (ht : p → Red (wpOps P (⟨d, o, some (s, b), x⟩ :: is) (env.put (some s) (.bool true)) H K) A') (hf : ¬p → Red (wpOps P (⟨d, o, some (s, b), x⟩ :: is) (env.put (some s) (.bool false)) H K) B') : Red (wpOps P (⟨d, o, some (s, b), x⟩ :: is) env H K) ((p → A') ∧ (¬p → B')) := fun g => wps_gs_d h (fun c => ht c (g.1 c)) (fun c => hf c (g.2 c))
theorem r_pd {s : Nat} {a b : X} {p : Prop} {_ : Decidable p} (h : env s = .bool (decide p)) (ht : p → Red (wpOps P (⟨d, .rd (.pick (.t s) a b), none, x⟩ :: is) (env.put (some s) (.bool true)) H K) A') (hf : ¬p → Red (wpOps P (⟨d, .rd (.pick (.t s) a b), none, x⟩ :: is) (env.put (some s) (.bool false)) H K) B') : Red (wpOps P (⟨d, .rd (.pick (.t s) a b), none, x⟩ :: is) env H K) ((p → A') ∧ (¬p → B')) := fun g => wps_pk_d h (fun c => ht c (g.1 c)) (fun c => hf c (g.2 c))
theorem r_cnd {y : X} {a b : C} {p : Prop} {_ : Decidable p} (h : y.ev env = .bool (!decide p)) (ht : ¬p → Red (C.wp P a Q env H) A') (hf : p → Red (C.wp P b Q env H) B') : Red (C.wp P (.cond y a b) Q env H) ((¬p → A') ∧ (p → B')) := fun g => c_cond_nd h (fun c => ht c (g.1 c)) (fun c => hf c (g.2 c))
theorem r_gnd {o : O} {s : Nat} {b : Bool} {p : Prop} {_ : Decidable p} (h : env s = .bool (!decide p)) (ht : ¬p → Red (wpOps P (⟨d, o, some (s, b), x⟩ :: is) (env.put (some s) (.bool true)) H K) A') (hf : p → Red (wpOps P (⟨d, o, some (s, b), x⟩ :: is) (env.put (some s) (.bool false)) H K) B') : Red (wpOps P (⟨d, o, some (s, b), x⟩ :: is) env H K) ((¬p → A') ∧ (p → B')) := fun g => wps_gs_nd h (fun c => ht c (g.1 c)) (fun c => hf c (g.2 c))
theorem r_pnd {s : Nat} {a b : X} {p : Prop} {_ : Decidable p} (h : env s = .bool (!decide p)) (ht : ¬p → Red (wpOps P (⟨d, .rd (.pick (.t s) a b), none, x⟩ :: is) (env.put (some s) (.bool true)) H K) A') (hf : p → Red (wpOps P (⟨d, .rd (.pick (.t s) a b), none, x⟩ :: is) (env.put (some s) (.bool false)) H K) B') : Red (wpOps P (⟨d, .rd (.pick (.t s) a b), none, x⟩ :: is) env H K) ((¬p → A') ∧ (p → B')) := fun g => wps_pk_nd h (fun c => ht c (g.1 c)) (fun c => hf c (g.2 c))
theorem r_ce {y : X} {a b : C} {u v : Int} (h : y.ev env = .bool (u == v)) (ht : u = v → Red (C.wp P a Q env H) A') (hf : u ≠ v → Red (C.wp P b Q env H) B') : Red (C.wp P (.cond y a b) Q env H) ((u = v → A') ∧ (u ≠ v → B')) := fun g => c_cond_e h (fun c => ht c (g.1 c)) (fun c => hf c (g.2 c))
theorem r_ge {o : O} {s : Nat} {b : Bool} {u v : Int} (h : env s = .bool (u == v)) (ht : u = v → Red (wpOps P (⟨d, o, some (s, b), x⟩ :: is) (env.put (some s) (.bool true)) H K) A') (hf : u ≠ v → Red (wpOps P (⟨d, o, some (s, b), x⟩ :: is) (env.put (some s) (.bool false)) H K) B') : Red (wpOps P (⟨d, o, some (s, b), x⟩ :: is) env H K) ((u = v → A') ∧ (u ≠ v → B')) := fun g => wps_gs_e h (fun c => ht c (g.1 c)) (fun c => hf c (g.2 c))
theorem r_pe {s : Nat} {a b : X} {u v : Int} (h : env s = .bool (u == v)) (ht : u = v → Red (wpOps P (⟨d, .rd (.pick (.t s) a b), none, x⟩ :: is) (env.put (some s) (.bool true)) H K) A') (hf : u ≠ v → Red (wpOps P (⟨d, .rd (.pick (.t s) a b), none, x⟩ :: is) (env.put (some s) (.bool false)) H K) B') : Red (wpOps P (⟨d, .rd (.pick (.t s) a b), none, x⟩ :: is) env H K) ((u = v → A') ∧ (u ≠ v → B')) := fun g => wps_pk_e h (fun c => ht c (g.1 c)) (fun c => hf c (g.2 c))
theorem r_cn {y : X} {a b : C} {u v : Int} (h : y.ev env = .bool (u != v)) (ht : u ≠ v → Red (C.wp P a Q env H) A') (hf : u = v → Red (C.wp P b Q env H) B') : Red (C.wp P (.cond y a b) Q env H) ((u ≠ v → A') ∧ (u = v → B')) := fun g => c_cond_n h (fun c => ht c (g.1 c)) (fun c => hf c (g.2 c))
theorem r_gn {o : O} {s : Nat} {b : Bool} {u v : Int} (h : env s = .bool (u != v)) (ht : u ≠ v → Red (wpOps P (⟨d, o, some (s, b), x⟩ :: is) (env.put (some s) (.bool true)) H K) A') (hf : u = v → Red (wpOps P (⟨d, o, some (s, b), x⟩ :: is) (env.put (some s) (.bool false)) H K) B') : Red (wpOps P (⟨d, o, some (s, b), x⟩ :: is) env H K) ((u ≠ v → A') ∧ (u = v → B')) := fun g => wps_gs_n h (fun c => ht c (g.1 c)) (fun c => hf c (g.2 c))
theorem r_pn {s : Nat} {a b : X} {u v : Int} (h : env s = .bool (u != v)) (ht : u ≠ v → Red (wpOps P (⟨d, .rd (.pick (.t s) a b), none, x⟩ :: is) (env.put (some s) (.bool true)) H K) A') (hf : u = v → Red (wpOps P (⟨d, .rd (.pick (.t s) a b), none, x⟩ :: is) (env.put (some s) (.bool false)) H K) B') : Red (wpOps P (⟨d, .rd (.pick (.t s) a b), none, x⟩ :: is) env H K) ((u ≠ v → A') ∧ (u = v → B')) := fun g => wps_pk_n h (fun c => ht c (g.1 c)) (fun c => hf c (g.2 c))
theorem r_cs {y : X} {a b : C} {u v : List UInt8} (h : y.ev env = .bool (u == v)) (ht : u = v → Red (C.wp P a Q env H) A') (hf : u ≠ v → Red (C.wp P b Q env H) B') : Red (C.wp P (.cond y a b) Q env H) ((u = v → A') ∧ (u ≠ v → B')) := fun g => c_cond_s h (fun c => ht c (g.1 c)) (fun c => hf c (g.2 c))
theorem r_gs {o : O} {s : Nat} {b : Bool} {u v : List UInt8} (h : env s = .bool (u == v)) (ht : u = v → Red (wpOps P (⟨d, o, some (s, b), x⟩ :: is) (env.put (some s) (.bool true)) H K) A') (hf : u ≠ v → Red (wpOps P (⟨d, o, some (s, b), x⟩ :: is) (env.put (some s) (.bool false)) H K) B') : Red (wpOps P (⟨d, o, some (s, b), x⟩ :: is) env H K) ((u = v → A') ∧ (u ≠ v → B')) := fun g => wps_gs_s h (fun c => ht c (g.1 c)) (fun c => hf c (g.2 c))
theorem r_ps {s : Nat} {a b : X} {u v : List UInt8} (h : env s = .bool (u == v)) (ht : u = v → Red (wpOps P (⟨d, .rd (.pick (.t s) a b), none, x⟩ :: is) (env.put (some s) (.bool true)) H K) A') (hf : u ≠ v → Red (wpOps P (⟨d, .rd (.pick (.t s) a b), none, x⟩ :: is) (env.put (some s) (.bool false)) H K) B') : Red (wpOps P (⟨d, .rd (.pick (.t s) a b), none, x⟩ :: is) env H K) ((u = v → A') ∧ (u ≠ v → B')) := fun g => wps_pk_s h (fun c => ht c (g.1 c)) (fun c => hf c (g.2 c))
theorem r_cns {y : X} {a b : C} {u v : List UInt8} (h : y.ev env = .bool (!(u == v))) (ht : u ≠ v → Red (C.wp P a Q env H) A') (hf : u = v → Red (C.wp P b Q env H) B') : Red (C.wp P (.cond y a b) Q env H) ((u ≠ v → A') ∧ (u = v → B')) := fun g => c_cond_ns h (fun c => ht c (g.1 c)) (fun c => hf c (g.2 c))
theorem r_gns {o : O} {s : Nat} {b : Bool} {u v : List UInt8} (h : env s = .bool (!(u == v))) (ht : u ≠ v → Red (wpOps P (⟨d, o, some (s, b), x⟩ :: is) (env.put (some s) (.bool true)) H K) A') (hf : u = v → Red (wpOps P (⟨d, o, some (s, b), x⟩ :: is) (env.put (some s) (.bool false)) H K) B') : Red (wpOps P (⟨d, o, some (s, b), x⟩ :: is) env H K) ((u ≠ v → A') ∧ (u = v → B')) := fun g => wps_gs_ns h (fun c => ht c (g.1 c)) (fun c => hf c (g.2 c))
theorem r_pns {s : Nat} {a b : X} {u v : List UInt8} (h : env s = .bool (!(u == v))) (ht : u ≠ v → Red (wpOps P (⟨d, .rd (.pick (.t s) a b), none, x⟩ :: is) (env.put (some s) (.bool true)) H K) A') (hf : u = v → Red (wpOps P (⟨d, .rd (.pick (.t s) a b), none, x⟩ :: is) (env.put (some s) (.bool false)) H K) B') : Red (wpOps P (⟨d, .rd (.pick (.t s) a b), none, x⟩ :: is) env H K) ((u ≠ v → A') ∧ (u = v → B')) := fun g => wps_pk_ns h (fun c => ht c (g.1 c)) (fun c => hf c (g.2 c))
theorem r_c {y : X} {a b : C} {c : Bool} (h : y.ev env = .bool (c)) (ht : c = true → Red (C.wp P a Q env H) A') (hf : c = false → Red (C.wp P b Q env H) B') : Red (C.wp P (.cond y a b) Q env H) ((c = true → A') ∧ (c = false → B')) := fun g => c_cond h (fun c => ht c (g.1 c)) (fun c => hf c (g.2 c))
theorem r_g {o : O} {s : Nat} {b : Bool} {c : Bool} (h : env s = .bool (c)) (ht : c = true → Red (wpOps P (⟨d, o, some (s, b), x⟩ :: is) (env.put (some s) (.bool true)) H K) A') (hf : c = false → Red (wpOps P (⟨d, o, some (s, b), x⟩ :: is) (env.put (some s) (.bool false)) H K) B') : Red (wpOps P (⟨d, o, some (s, b), x⟩ :: is) env H K) ((c = true → A') ∧ (c = false → B')) := fun g => wps_gs h (fun c => ht c (g.1 c)) (fun c => hf c (g.2 c))
theorem r_p {s : Nat} {a b : X} {c : Bool} (h : env s = .bool (c)) (ht : c = true → Red (wpOps P (⟨d, .rd (.pick (.t s) a b), none, x⟩ :: is) (env.put (some s) (.bool true)) H K) A') (hf : c = false → Red (wpOps P (⟨d, .rd (.pick (.t s) a b), none, x⟩ :: is) (env.put (some s) (.bool false)) H K) B') : Red (wpOps P (⟨d, .rd (.pick (.t s) a b), none, x⟩ :: is) env H K) ((c = true → A') ∧ (c = false → B')) := fun g => wps_pk h (fun c => ht c (g.1 c)) (fun c => hf c (g.2 c))
theorem r_e0 {q : V → Heap → Prop} (k : Red (q (.tup []) H) G') : Red (kEnd [] q .ret env H) G' := red_by (fun k => f_ret0 k) k
theorem r_e0n {q : V → Heap → Prop} (k : Red (q (.tup []) H) G') : Red (kEnd [] q .normal env H) G' := red_by (fun k => f_nrm0 k) k
theorem r_e1 {n : Nat} {q : V → Heap → Prop} {v : V} (h : env n = v) (k : Red (q v H) G') : Red (kEnd [.t n] q .ret env H) G' := red_by (fun k => f_ret1 h k) k
theorem r_e2 {n m : Nat} {q : V → Heap → Prop} {v v' : V} (h : env n = v) (h' : env m = v') (k : Red (q (.tup [v, v']) H) G') : Red (kEnd [.t n, .t m] q .ret env H) G' := red_by (fun k => f_ret2 h h' k) k
theorem r_e3 {n m j : Nat} {q : V → Heap → Prop} {v v' v3 : V} (h : env n = v) (h' : env m = v') (h3 : env j = v3) (k : Red (q (.tup [v, v', v3]) H) G') : Red (kEnd [.t n, .t m, .t j] q .ret env H) G' := red_by (fun k => f_ret3 h h' h3 k) k
theorem r_e4 {n m j i : Nat} {q : V → Heap → Prop} {v v' v3 v4 : V} (h : env n = v) (h' : env m = v') (h3 : env j = v3) (h4 : env i = v4) (k : Red (q (.tup [v, v', v3, v4]) H) G') : Red (kEnd [.t n, .t m, .t j, .t i] q .ret env H) G' := red_by (fun k => f_ret4 h h' h3 h4 k) k
theorem r_ecn (hh : Has H L) {n sz id : Nat} {b : Bool} {cs : List V} {q : V → Heap → Prop} (ha : env n = .ptr id 0) (hi : At (id, .cells b cs) L) (hl : cs.length = sz + 1) (k : Red (q (.agg cs) H) G') : Red (kEnd [.cn n (sz + 1)] q .ret env H) G' := red_by (fun k => f_res (res_cons (res_cn hh ha hi hl) res_nil) k) k
theorem r_ec1 (hh : Has H L) {n id off : Nat} {b : Bool} {cs : List V} {v : V} {q : V → Heap → Prop} (ha : env n = .ptr id off) (hi : At (id, .cells b cs) L) (hv : cs[off]? = some v) (k : Red (q v H) G') : Red (kEnd [.c1 n] q .ret env H) G' := red_by (fun k => f_res (res_cons (res_c1 hh ha hi hv) res_nil) k) k
theorem r_ecnt (hh : Has H L) {n sz id m : Nat} {b : Bool} {cs : List V} {v : V} {q : V → Heap → Prop} (ha : env n = .ptr id 0) (hi : At (id, .cells b cs) L) (hl : cs.length = sz + 1) (hv : env m = v) (k : Red (q (.tup [.agg cs, v]) H) G') : Red (kEnd [.cn n (sz + 1), .t m] q .ret env H) G' := red_by (fun k => f_res (res_cons (res_cn hh ha hi hl) (res_cons (res_t hv) res_nil)) k) k
end

theorem walk {G G' : Prop} (h : Red G G' := by
  repeat' (first
    | ((with_reducible apply r_seq))
    | ((with_reducible apply r_ops))
    | ((with_reducible apply r_nil))
    | ((with_reducible apply r_sn))
    | ((with_reducible apply r_unt))
    | ((with_reducible apply r_unt2))
    | ((with_reducible apply r_gt); (case h => exact rfl))
    | ((with_reducible apply r_gf); (case h => exact rfl))
    | ((with_reducible apply r_gu); (case h => exact rfl))
    | ((with_reducible apply r_bld); (case hf => (repeat (first | with_reducible exact fl_nil | ((with_reducible apply fl_cons); (case hx => ((conv => lhs; whnf) <;> exact rfl)); (case ht => exact rfl); (case hc => ((dsimp only [V.cells]) <;> exact rfl)); (case hn => exact rfl); (case hb => exact rfl); (case hs => (repeat (first | exact sp_nil rfl | ((with_reducible apply sp_cons); (case h => exact rfl); (case ha => ((conv => lhs; whnf) <;> exact rfl)))))))))))
    | ((with_reducible apply r_rda (r := .build _ _)); (case h => exact rfl); (case hl => (repeat (first | exact sp_nil rfl | ((with_reducible apply sp_cons); (case h => exact rfl); (case ha => ((conv => lhs; whnf) <;> exact rfl)))))))
    | ((with_reducible apply r_rda (r := .fieldn _ _ _)); (case h => exact rfl); (case hl => (repeat (first | exact sp_nil rfl | ((with_reducible apply sp_cons); (case h => exact rfl); (case ha => ((conv => lhs; whnf) <;> exact rfl)))))))
    | ((with_reducible apply r_lr1); (case hh => assumption); (case ha => exact rfl); (case hi => repeat (first | with_reducible apply At.cns | with_reducible apply At.nl | with_reducible apply At.asc | exact At.here | with_reducible apply At.there | with_reducible apply At.skip)); (case hs => exact fun _ => rfl); (case iα => infer_instance); (case hb => first | omega | (simp only [List.length_set, List.length_append, List.length_map, List.length_cons, List.length_nil, swapL_length]; omega)); (case hv => ((conv => lhs; whnf; arg 1; whnf) <;> exact rfl)))
    | ((with_reducible apply r_lr12); (case hh => assumption); (case ha => exact rfl); (case hi => repeat (first | with_reducible apply At.cns | with_reducible apply At.nl | with_reducible apply At.asc | exact At.here | with_reducible apply At.there | with_reducible apply At.skip)); (case hs => exact fun _ => rfl); (case iα => infer_instance); (case hb => first | omega | (simp only [List.length_set, List.length_append, List.length_map, List.length_cons, List.length_nil, swapL_length]; omega)); (case hv => ((conv => lhs; whnf; arg 1; whnf) <;> exact rfl)))
    | ((with_reducible apply r_lr0); (case hh => assumption); (case ha => exact rfl); (case hi => repeat (first | with_reducible apply At.cns | with_reducible apply At.nl | with_reducible apply At.asc | exact At.here | with_reducible apply At.there | with_reducible apply At.skip)); (case hs => exact fun _ => rfl); (case iα => infer_instance); (case hb => first | omega | (simp only [List.length_set, List.length_append, List.length_map, List.length_cons, List.length_nil, swapL_length]; omega)); (case hv => ((conv => lhs; whnf; arg 1; whnf) <;> exact rfl)))
    | ((with_reducible apply r_ld); (case hh => assumption); (case ha => exact rfl); (case hi => repeat (first | with_reducible apply At.cns | with_reducible apply At.nl | with_reducible apply At.asc | exact At.here | with_reducible apply At.there | with_reducible apply At.skip)); (case hv => ((conv => lhs; whnf; arg 1; whnf) <;> exact rfl)))
    | ((with_reducible apply r_lra); (case hh => assumption); (case ha => exact rfl); (case hi => repeat (first | with_reducible apply At.cns | with_reducible apply At.nl | with_reducible apply At.asc | exact At.here | with_reducible apply At.there | with_reducible apply At.skip)); (case hs => exact fun _ => rfl); (case iα => infer_instance); (case hb => first | omega | (simp only [List.length_set, List.length_append, List.length_map, List.length_cons, List.length_nil, swapL_length]; omega)))
    | ((with_reducible apply r_lda); (case hh => assumption); (case ha => exact rfl); (case hi => repeat (first | with_reducible apply At.cns | with_reducible apply At.nl | with_reducible apply At.asc | exact At.here | with_reducible apply At.there | with_reducible apply At.skip)); (case hv => exact rfl))
    | ((with_reducible apply r_lrn); (case hh => assumption); (case ha => exact rfl); (case hi => repeat (first | with_reducible apply At.cns | with_reducible apply At.nl | with_reducible apply At.asc | exact At.here | with_reducible apply At.there | with_reducible apply At.skip)); (case hs => exact fun _ => rfl); (case iα => infer_instance); (case hb => first | omega | (simp only [List.length_set, List.length_append, List.length_map, List.length_cons, List.length_nil, swapL_length]; omega)); (case hm => exact rfl); (case hv => (repeat (first | exact sp_nil rfl | ((with_reducible apply sp_cons); (case h => exact rfl); (case ha => ((conv => lhs; whnf) <;> exact rfl)))))))
    | ((with_reducible apply r_lrn2); (case hh => assumption); (case ha => exact rfl); (case hi => repeat (first | with_reducible apply At.cns | with_reducible apply At.nl | with_reducible apply At.asc | exact At.here | with_reducible apply At.there | with_reducible apply At.skip)); (case hs => exact fun _ => rfl); (case iα => infer_instance); (case hb => first | omega | (simp only [List.length_set, List.length_append, List.length_map, List.length_cons, List.length_nil, swapL_length]; omega)); (case hm => exact rfl); (case hv => (repeat (first | exact sp_nil rfl | ((with_reducible apply sp_cons); (case h => exact rfl); (case ha => ((conv => lhs; whnf) <;> exact rfl)))))))
    | ((with_reducible apply r_ldn); (case hh => assumption); (case ha => exact rfl); (case hi => repeat (first | with_reducible apply At.cns | with_reducible apply At.nl | with_reducible apply At.asc | exact At.here | with_reducible apply At.there | with_reducible apply At.skip)); (case hv => exact rfl); (case hl => (repeat (first | exact sp_nil rfl | ((with_reducible apply sp_cons); (case h => exact rfl); (case ha => ((conv => lhs; whnf) <;> exact rfl)))))))
    | ((with_reducible apply r_wadd); (case hy => exact rfl); (case hz => exact rfl))
    | ((with_reducible apply r_wmul); (case hy => exact rfl); (case hz => exact rfl))
    | ((with_reducible apply r_wand); (case hy => exact rfl); (case hz => exact rfl))
    | ((with_reducible apply r_wor); (case hy => exact rfl); (case hz => exact rfl))
    | ((with_reducible apply r_wxor); (case hy => exact rfl); (case hz => exact rfl))
    | ((with_reducible apply r_wnot); (case hy => exact rfl))
    | ((with_reducible apply r_wshl); (case hy => exact rfl); (case hz => exact rfl); (case hn => first | omega | exact Nat.le_of_ble_eq_true rfl))
    | ((with_reducible apply r_wshr); (case hy => exact rfl); (case hz => exact rfl); (case hn => first | omega | exact Nat.le_of_ble_eq_true rfl))
    | ((with_reducible apply r_wto); (case hy => exact rfl))
    | ((with_reducible apply r_wtb); (case hy => exact rfl))
    | ((with_reducible apply r_iaw); (case hx => exact rfl); (case hi => exact rfl); (case hm => first | with_reducible exact Int.toNat_natCast _ | with_reducible exact tn0 | with_reducible exact tn1 | with_reducible exact tn2 | with_reducible exact tn3 | with_reducible exact tn4 | with_reducible exact tn5 | with_reducible exact tn6 | with_reducible exact tn7 | with_reducible exact tn8 | with_reducible exact tn9 | with_reducible exact tn10 | with_reducible exact tn11 | with_reducible exact ts1 _ | with_reducible exact ts2 _ | with_reducible exact ts7 _ | with_reducible exact ts15 _ | with_reducible exact ts16 _); (case hb => first | omega | (simp only [List.length_set, List.length_append, List.length_map, List.length_cons, List.length_nil, swapL_length]; omega)))
    | ((with_reducible apply r_ian); (case hx => exact rfl); (case hi => exact rfl); (case hb => first | omega | (simp only [List.length_set, List.length_append, List.length_map, List.length_cons, List.length_nil, swapL_length]; omega)))
    | ((with_reducible apply r_ia); (case hx => exact rfl); (case hi => exact rfl); (case hb => first | omega | (simp only [List.length_set, List.length_append, List.length_map, List.length_cons, List.length_nil, swapL_length]; omega)))
    | ((with_reducible apply r_iaz); (case hx => exact rfl); (case hi => exact rfl); (case hb => first | omega | (simp only [List.length_set, List.length_append, List.length_map, List.length_cons, List.length_nil, swapL_length]; omega)))
    | ((with_reducible apply r_iac); (case hx => exact rfl); (case hi => exact rfl); (case hb => first | omega | (simp only [List.length_set, List.length_append, List.length_map, List.length_cons, List.length_nil, swapL_length]; omega)))
    | ((with_reducible apply r_iaa); (case hx => exact rfl); (case hi => exact rfl); (case hb => first | omega | (simp only [List.length_set, List.length_append, List.length_map, List.length_cons, List.length_nil, swapL_length]; omega)))
    | ((with_reducible apply r_isw); (case hx => exact rfl); (case hi => exact rfl); (case hm => first | with_reducible exact Int.toNat_natCast _ | with_reducible exact tn0 | with_reducible exact tn1 | with_reducible exact tn2 | with_reducible exact tn3 | with_reducible exact tn4 | with_reducible exact tn5 | with_reducible exact tn6 | with_reducible exact tn7 | with_reducible exact tn8 | with_reducible exact tn9 | with_reducible exact tn10 | with_reducible exact tn11 | ((conv => lhs; whnf) <;> exact rfl)); (case hb => first | omega | (simp only [List.length_set, List.length_append, List.length_map, List.length_cons, List.length_nil, swapL_length]; omega)))
    | ((with_reducible apply r_toi32); (case hy => exact rfl); (case hb => first | omega | (simp only [List.length_set, List.length_append, List.length_map, List.length_cons, List.length_nil, swapL_length]; omega)))
    | ((with_reducible apply r_toi64); (case hy => exact rfl); (case hb => first | omega | (simp only [List.length_set, List.length_append, List.length_map, List.length_cons, List.length_nil, swapL_length]; omega)))
    | ((with_reducible apply r_tou8); (case hy => exact rfl); (case hb => first | omega | (simp only [List.length_set, List.length_append, List.length_map, List.length_cons, List.length_nil, swapL_length]; omega)))
    | ((with_reducible apply r_tou32); (case hy => exact rfl); (case hb => first | omega | (simp only [List.length_set, List.length_append, List.length_map, List.length_cons, List.length_nil, swapL_length]; omega)))
    | ((with_reducible apply r_tou64); (case hy => exact rfl); (case hb => first | omega | (simp only [List.length_set, List.length_append, List.length_map, List.length_cons, List.length_nil, swapL_length]; omega)))
    | ((with_reducible apply r_addi32); (case hy => exact rfl); (case hz => exact rfl); (case hb => first | omega | (simp only [List.length_set, List.length_append, List.length_map, List.length_cons, List.length_nil, swapL_length]; omega)))
    | ((with_reducible apply r_subi32); (case hy => exact rfl); (case hz => exact rfl); (case hb => first | omega | (simp only [List.length_set, List.length_append, List.length_map, List.length_cons, List.length_nil, swapL_length]; omega)))
    | ((with_reducible apply r_muli32); (case hy => exact rfl); (case hz => exact rfl); (case hb => first | omega | (simp only [List.length_set, List.length_append, List.length_map, List.length_cons, List.length_nil, swapL_length]; omega)))
    | ((with_reducible apply r_addu8); (case hy => exact rfl); (case hz => exact rfl); (case hb => first | omega | (simp only [List.length_set, List.length_append, List.length_map, List.length_cons, List.length_nil, swapL_length]; omega)))
    | ((with_reducible apply r_subu8); (case hy => exact rfl); (case hz => exact rfl); (case hb => first | omega | (simp only [List.length_set, List.length_append, List.length_map, List.length_cons, List.length_nil, swapL_length]; omega)))
    | ((with_reducible apply r_mulu8); (case hy => exact rfl); (case hz => exact rfl); (case hb => first | omega | (simp only [List.length_set, List.length_append, List.length_map, List.length_cons, List.length_nil, swapL_length]; omega)))
    | ((with_reducible apply r_addu32); (case hy => exact rfl); (case hz => exact rfl); (case hb => first | omega | (simp only [List.length_set, List.length_append, List.length_map, List.length_cons, List.length_nil, swapL_length]; omega)))
    | ((with_reducible apply r_subu32); (case hy => exact rfl); (case hz => exact rfl); (case hb => first | omega | (simp only [List.length_set, List.length_append, List.length_map, List.length_cons, List.length_nil, swapL_length]; omega)))
    | ((with_reducible apply r_mulu32); (case hy => exact rfl); (case hz => exact rfl); (case hb => first | omega | (simp only [List.length_set, List.length_append, List.length_map, List.length_cons, List.length_nil, swapL_length]; omega)))
    | ((with_reducible apply r_addu64); (case hy => exact rfl); (case hz => exact rfl); (case hb => first | omega | (simp only [List.length_set, List.length_append, List.length_map, List.length_cons, List.length_nil, swapL_length]; omega)))
    | ((with_reducible apply r_subu64); (case hy => exact rfl); (case hz => exact rfl); (case hb => first | omega | (simp only [List.length_set, List.length_append, List.length_map, List.length_cons, List.length_nil, swapL_length]; omega)))
    | ((with_reducible apply r_mulu64); (case hy => exact rfl); (case hz => exact rfl); (case hb => first | omega | (simp only [List.length_set, List.length_append, List.length_map, List.length_cons, List.length_nil, swapL_length]; omega)))
    | ((with_reducible apply r_is); (case hx => exact rfl); (case hi => exact rfl); (case hb => first | omega | (simp only [List.length_set, List.length_append, List.length_map, List.length_cons, List.length_nil, swapL_length]; omega)))
    | ((with_reducible apply r_add); (case hy => exact rfl); (case hz => exact rfl); (case hb => first | omega | (simp only [List.length_set, List.length_append, List.length_map, List.length_cons, List.length_nil, swapL_length]; omega)))
    | ((with_reducible apply r_sub); (case hy => exact rfl); (case hz => exact rfl); (case hb => first | omega | (simp only [List.length_set, List.length_append, List.length_map, List.length_cons, List.length_nil, swapL_length]; omega)))
    | ((with_reducible apply r_mul); (case hy => exact rfl); (case hz => exact rfl); (case hb => omega))
    | ((with_reducible apply r_quo); (case hy => exact rfl); (case hz => exact rfl); (case hb => omega))
    | ((with_reducible apply r_rem); (case hy => exact rfl); (case hz => exact rfl); (case hb => omega))
    | ((with_reducible apply r_eq); (case h => ((conv => lhs; whnf) <;> exact rfl)))
    | ((with_reducible apply r_ne); (case h => ((conv => lhs; whnf) <;> exact rfl)))
    | ((with_reducible apply r_cs00); (case hx => exact rfl))
    | ((with_reducible apply r_cs01); (case hx => exact rfl); (case hi => exact rfl); (case hb => first | omega | (simp only [List.length_set, List.length_append, List.length_map, List.length_cons, List.length_nil, swapL_length]; omega)))
    | ((with_reducible apply r_cs10); (case hx => exact rfl); (case hl => exact rfl); (case hb => first | omega | (simp only [List.length_set, List.length_append, List.length_map, List.length_cons, List.length_nil, swapL_length]; omega)))
    | ((with_reducible apply r_cs11); (case hx => exact rfl); (case hl => exact rfl); (case hi => exact rfl); (case hb => first | omega | (simp only [List.length_set, List.length_append, List.length_map, List.length_cons, List.length_nil, swapL_length]; omega)))
    | ((with_reducible apply r_cl00); (case hx => exact rfl))
    | ((with_reducible apply r_cl01); (case hx => exact rfl); (case hi => exact rfl); (case hb => first | omega | (simp only [List.length_set, List.length_append, List.length_map, List.length_cons, List.length_nil, swapL_length]; omega)))
    | ((with_reducible apply r_cl10); (case hx => exact rfl); (case hl => exact rfl); (case hb => first | omega | (simp only [List.length_set, List.length_append, List.length_map, List.length_cons, List.length_nil, swapL_length]; omega)))
    | ((with_reducible apply r_cl11); (case hx => exact rfl); (case hl => exact rfl); (case hi => exact rfl); (case hb => first | omega | (simp only [List.length_set, List.length_append, List.length_map, List.length_cons, List.length_nil, swapL_length]; omega)))
    | ((with_reducible apply r_lm); (case hh => assumption); (case ha => exact rfl); (case hi => repeat (first | with_reducible apply At.cns | with_reducible apply At.nl | with_reducible apply At.asc | exact At.here | with_reducible apply At.there | with_reducible apply At.skip)))
    | ((with_reducible apply r_b2s); (case hh => assumption); (case hy => exact rfl); (case hi => repeat (first | with_reducible apply At.cns | with_reducible apply At.nl | with_reducible apply At.asc | exact At.here | with_reducible apply At.there | with_reducible apply At.skip)))
    | ((with_reducible apply r_rd); (case h => ((conv => lhs; whnf; arg 1; whnf) <;> exact rfl)))
    | ((with_reducible apply r_srow); (case hh => assumption); (case ha => exact rfl); (case _hA => repeat (first | with_reducible apply At.cns | with_reducible apply At.nl | with_reducible apply At.asc | exact At.here | with_reducible apply At.there | with_reducible apply At.skip)); (case hy => ((conv => lhs; whnf) <;> exact rfl)); (case ht => exact rfl); (case hc => exact rfl); (case hs => exact fun _ => rfl); (case hb => first | omega | (simp only [List.length_set, List.length_append, List.length_map, List.length_cons, List.length_nil, swapL_length]; omega)); (case hu => repeat (first | with_reducible apply Upd.cns | with_reducible apply Upd.nl | with_reducible apply Upd.asc | exact Upd.here1 | with_reducible apply Upd.there | with_reducible apply Upd.skip)); intro _ _)
    | ((with_reducible apply r_store); (case hh => assumption); (case ha => exact rfl); (case hy => ((conv => lhs; whnf) <;> exact rfl)); (case ht => exact rfl); (case hc => ((dsimp only [V.cells]) <;> exact rfl)); (case hn => exact rfl); (case _hA => repeat (first | with_reducible apply At.cns | with_reducible apply At.nl | with_reducible apply At.asc | exact At.here | with_reducible apply At.there | with_reducible apply At.skip)); (case hb => exact rfl); (case hs => first | ((with_reducible apply splice_all); (case h => exact rfl)) | (repeat (first | exact sp_nil rfl | ((with_reducible apply sp_cons); (case h => exact rfl); (case ha => ((conv => lhs; whnf) <;> exact rfl)))))); (case hu => repeat (first | with_reducible apply Upd.cns | with_reducible apply Upd.nl | with_reducible apply Upd.asc | exact Upd.here1 | with_reducible apply Upd.there | with_reducible apply Upd.skip)); intro _ _)
    | ((with_reducible apply r_alloc); (case hh => assumption); intro _ _ _)
    | ((with_reducible apply r_box); (case hh => assumption); (case hy => ((conv => lhs; whnf) <;> exact rfl)); (case ht => exact rfl); (case hc => ((dsimp only [V.cells]) <;> exact rfl)); intro _ _ _)
    | ((with_reducible apply r_push); (case hh => assumption); (case ha => exact rfl); (case _hA => repeat (first | with_reducible apply At.cns | with_reducible apply At.nl | with_reducible apply At.asc | exact At.here | with_reducible apply At.there | with_reducible apply At.skip)); (case hn => exact fun _ => rfl); (case hy => ((conv => lhs; whnf) <;> exact rfl)); (case ht => exact rfl); (case hc => exact rfl); (case hs => exact fun _ => rfl); (case hz => exact rfl); (case hb => first | omega | (simp only [List.length_set, List.length_append, List.length_map, List.length_cons, List.length_nil, swapL_length]; omega)); (case hu => ((intro _) <;> (repeat (first | with_reducible apply Upd.cns | with_reducible apply Upd.nl | with_reducible apply Upd.asc | exact Upd.here1 | with_reducible apply Upd.there | with_reducible apply Upd.skip)))); intro _ _ _ _)
    | ((with_reducible apply r_pushH); (case hh => assumption); (case ha => exact rfl); (case _hA => repeat (first | with_reducible apply At.cns | with_reducible apply At.nl | with_reducible apply At.asc | exact At.here | with_reducible apply At.there | with_reducible apply At.skip)); (case _hi => assumption); (case hn => exact fun _ => rfl); (case hy => ((conv => lhs; whnf) <;> exact rfl)); (case ht => exact rfl); (case hc => exact rfl); (case hs => exact fun _ => rfl); (case hz => exact rfl); (case hb => first | omega | (simp only [List.length_set, List.length_append, List.length_map, List.length_cons, List.length_nil, swapL_length]; omega)); (case hu => ((intro _) <;> (repeat (first | with_reducible apply Upd.cns | with_reducible apply Upd.nl | with_reducible apply Upd.asc | exact Upd.here1 | with_reducible apply Upd.there | with_reducible apply Upd.skip)))); intro _ _ _ _)
    | ((with_reducible apply r_allocT); (case hh => assumption); intro _ _ _)
    | ((with_reducible apply r_rangeS); (case hh => assumption); (case hy => exact rfl); intro _ _ _)
    | ((with_reducible apply r_s2b); (case hh => assumption); (case hy => exact rfl); intro _ _ _)
    | ((with_reducible apply r_lit1); (case hh => assumption); (case hy => ((conv => lhs; whnf) <;> exact rfl)); (case ht => exact rfl); (case hc => ((dsimp only [V.cells]) <;> exact rfl)); (case hn => exact rfl); (case hz => exact rfl); intro _ _ _)
    | ((with_reducible apply r_lit); (case hh => assumption); (case hf => (repeat (first | with_reducible exact fl_nil | ((with_reducible apply fl_cons); (case hx => ((conv => lhs; whnf) <;> exact rfl)); (case ht => exact rfl); (case hc => ((dsimp only [V.cells]) <;> exact rfl)); (case hn => exact rfl); (case hb => exact rfl); (case hs => (repeat (first | exact sp_nil rfl | ((with_reducible apply sp_cons); (case h => exact rfl); (case ha => ((conv => lhs; whnf) <;> exact rfl)))))))))); (case hl => exact rfl); intro _ _ _)
    | ((with_reducible apply r_lit); (case hh => assumption); (case hf => exact rfl); (case hl => (repeat (first | exact sp_nil rfl | ((with_reducible apply sp_cons); (case h => exact rfl); (case ha => ((conv => lhs; whnf) <;> exact rfl)))))); intro _ _ _)
    | ((with_reducible apply r_mkMap); (case hh => assumption); intro _ _ _)
    | ((with_reducible apply r_ct); (case h => exact rfl))
    | ((with_reducible apply r_cf); (case h => exact rfl))
    | ((with_reducible apply r_skip))
    | ((with_reducible apply r_exit))
    | ((with_reducible apply r_ret))
    | ((with_reducible apply r_block))
    | ((with_reducible apply r_se))
    | ((with_reducible apply r_sr))
    | ((with_reducible apply r_bn))
    | ((with_reducible apply r_bx))
    | ((with_reducible apply r_be); (case h => exact rfl))
    | ((with_reducible apply r_br))
    | ((with_reducible apply r_ln))
    | ((with_reducible apply r_le))
    | ((with_reducible apply r_lr))
    | ((with_reducible apply r_e0))
    | ((with_reducible apply r_e0n))
    | ((with_reducible apply r_e1); (case h => ((conv => lhs; whnf) <;> exact rfl)))
    | ((with_reducible apply r_e2); (case h => ((conv => lhs; whnf) <;> exact rfl)); (case h' => ((conv => lhs; whnf) <;> exact rfl)))
    | ((with_reducible apply r_e3); (case h => ((conv => lhs; whnf) <;> exact rfl)); (case h' => ((conv => lhs; whnf) <;> exact rfl)); (case h3 => ((conv => lhs; whnf) <;> exact rfl)))
    | ((with_reducible apply r_e4); (case h => ((conv => lhs; whnf) <;> exact rfl)); (case h' => ((conv => lhs; whnf) <;> exact rfl)); (case h3 => ((conv => lhs; whnf) <;> exact rfl)); (case h4 => ((conv => lhs; whnf) <;> exact rfl)))
    | ((with_reducible apply r_ecn); (case hh => assumption); (case ha => exact rfl); (case hi => repeat (first | with_reducible apply At.cns | with_reducible apply At.nl | with_reducible apply At.asc | exact At.here | with_reducible apply At.there | with_reducible apply At.skip)); (case hl => exact rfl))
    | ((with_reducible apply r_ec1); (case hh => assumption); (case ha => exact rfl); (case hi => repeat (first | with_reducible apply At.cns | with_reducible apply At.nl | with_reducible apply At.asc | exact At.here | with_reducible apply At.there | with_reducible apply At.skip)); (case hv => ((conv => lhs; whnf; arg 1; whnf) <;> exact rfl)))
    | ((with_reducible apply r_ecnt); (case hh => assumption); (case ha => exact rfl); (case hi => repeat (first | with_reducible apply At.cns | with_reducible apply At.nl | with_reducible apply At.asc | exact At.here | with_reducible apply At.there | with_reducible apply At.skip)); (case hl => exact rfl); (case hv => ((conv => lhs; whnf) <;> exact rfl)))
    | ((with_reducible apply r_cd); (case h => exact rfl); any_goals intro _)
    | ((with_reducible apply r_cnd); (case h => exact rfl); any_goals intro _)
    | ((with_reducible apply r_ce); (case h => exact rfl); any_goals intro _)
    | ((with_reducible apply r_cn); (case h => exact rfl); any_goals intro _)
    | ((with_reducible apply r_cs); (case h => exact rfl); any_goals intro _)
    | ((with_reducible apply r_cns); (case h => exact rfl); any_goals intro _)
    | ((with_reducible apply r_c); (case h => exact rfl); any_goals intro _)
    | ((with_reducible apply r_gd); (case h => exact rfl); any_goals intro _)
    | ((with_reducible apply r_gnd); (case h => exact rfl); any_goals intro _)
    | ((with_reducible apply r_ge); (case h => exact rfl); any_goals intro _)
    | ((with_reducible apply r_gn); (case h => exact rfl); any_goals intro _)
    | ((with_reducible apply r_gs); (case h => exact rfl); any_goals intro _)
    | ((with_reducible apply r_gns); (case h => exact rfl); any_goals intro _)
    | ((with_reducible apply r_g); (case h => exact rfl); any_goals intro _)
    | ((with_reducible apply r_pd); (case h => exact rfl); any_goals intro _)
    | ((with_reducible apply r_pnd); (case h => exact rfl); any_goals intro _)
    | ((with_reducible apply r_pe); (case h => exact rfl); any_goals intro _)
    | ((with_reducible apply r_pn); (case h => exact rfl); any_goals intro _)
    | ((with_reducible apply r_ps); (case h => exact rfl); any_goals intro _)
    | ((with_reducible apply r_pns); (case h => exact rfl); any_goals intro _)
    | ((with_reducible apply r_p); (case h => exact rfl); any_goals intro _)
    | exact red_leaf)) (k : G') : G := h k
theorem walk1 {G G' : Prop} (h : Red G G' := by
  repeat' (first
    | ((with_reducible apply r_seq))
    | ((with_reducible apply r_ops))
    | ((with_reducible apply r_nil))
    | ((with_reducible apply r_sn))
    | ((with_reducible apply r_unt))
    | ((with_reducible apply r_unt2))
    | ((with_reducible apply r_gt); (case h => exact rfl))
    | ((with_reducible apply r_gf); (case h => exact rfl))
    | ((with_reducible apply r_gu); (case h => exact rfl))
    | ((with_reducible apply r_bld); (case hf => (repeat (first | with_reducible exact fl_nil | ((with_reducible apply fl_cons); (case hx => ((conv => lhs; whnf) <;> exact rfl)); (case ht => exact rfl); (case hc => ((dsimp only [V.cells]) <;> exact rfl)); (case hn => exact rfl); (case hb => exact rfl); (case hs => (repeat (first | exact sp_nil rfl | ((with_reducible apply sp_cons); (case h => exact rfl); (case ha => ((conv => lhs; whnf) <;> exact rfl)))))))))))
    | ((with_reducible apply r_rda (r := .build _ _)); (case h => exact rfl); (case hl => (repeat (first | exact sp_nil rfl | ((with_reducible apply sp_cons); (case h => exact rfl); (case ha => ((conv => lhs; whnf) <;> exact rfl)))))))
    | ((with_reducible apply r_rda (r := .fieldn _ _ _)); (case h => exact rfl); (case hl => (repeat (first | exact sp_nil rfl | ((with_reducible apply sp_cons); (case h => exact rfl); (case ha => ((conv => lhs; whnf) <;> exact rfl)))))))
    | ((with_reducible apply r_lr1); (case hh => assumption); (case ha => exact rfl); (case hi => repeat (first | with_reducible apply At.cns | with_reducible apply At.nl | with_reducible apply At.asc | exact At.here | with_reducible apply At.there | with_reducible apply At.skip)); (case hs => exact fun _ => rfl); (case iα => infer_instance); (case hb => first | omega | (simp only [List.length_set, List.length_append, List.length_map, List.length_cons, List.length_nil, swapL_length]; omega)); (case hv => ((conv => lhs; whnf; arg 1; whnf) <;> exact rfl)))
    | ((with_reducible apply r_lr12); (case hh => assumption); (case ha => exact rfl); (case hi => repeat (first | with_reducible apply At.cns | with_reducible apply At.nl | with_reducible apply At.asc | exact At.here | with_reducible apply At.there | with_reducible apply At.skip)); (case hs => exact fun _ => rfl); (case iα => infer_instance); (case hb => first | omega | (simp only [List.length_set, List.length_append, List.length_map, List.length_cons, List.length_nil, swapL_length]; omega)); (case hv => ((conv => lhs; whnf; arg 1; whnf) <;> exact rfl)))
    | ((with_reducible apply r_lr0); (case hh => assumption); (case ha => exact rfl); (case hi => repeat (first | with_reducible apply At.cns | with_reducible apply At.nl | with_reducible apply At.asc | exact At.here | with_reducible apply At.there | with_reducible apply At.skip)); (case hs => exact fun _ => rfl); (case iα => infer_instance); (case hb => first | omega | (simp only [List.length_set, List.length_append, List.length_map, List.length_cons, List.length_nil, swapL_length]; omega)); (case hv => ((conv => lhs; whnf; arg 1; whnf) <;> exact rfl)))
    | ((with_reducible apply r_ld); (case hh => assumption); (case ha => exact rfl); (case hi => repeat (first | with_reducible apply At.cns | with_reducible apply At.nl | with_reducible apply At.asc | exact At.here | with_reducible apply At.there | with_reducible apply At.skip)); (case hv => ((conv => lhs; whnf; arg 1; whnf) <;> exact rfl)))
    | ((with_reducible apply r_lra); (case hh => assumption); (case ha => exact rfl); (case hi => repeat (first | with_reducible apply At.cns | with_reducible apply At.nl | with_reducible apply At.asc | exact At.here | with_reducible apply At.there | with_reducible apply At.skip)); (case hs => exact fun _ => rfl); (case iα => infer_instance); (case hb => first | omega | (simp only [List.length_set, List.length_append, List.length_map, List.length_cons, List.length_nil, swapL_length]; omega)))
    | ((with_reducible apply r_lda); (case hh => assumption); (case ha => exact rfl); (case hi => repeat (first | with_reducible apply At.cns | with_reducible apply At.nl | with_reducible apply At.asc | exact At.here | with_reducible apply At.there | with_reducible apply At.skip)); (case hv => exact rfl))
    | ((with_reducible apply r_lrn); (case hh => assumption); (case ha => exact rfl); (case hi => repeat (first | with_reducible apply At.cns | with_reducible apply At.nl | with_reducible apply At.asc | exact At.here | with_reducible apply At.there | with_reducible apply At.skip)); (case hs => exact fun _ => rfl); (case iα => infer_instance); (case hb => first | omega | (simp only [List.length_set, List.length_append, List.length_map, List.length_cons, List.length_nil, swapL_length]; omega)); (case hm => exact rfl); (case hv => (repeat (first | exact sp_nil rfl | ((with_reducible apply sp_cons); (case h => exact rfl); (case ha => ((conv => lhs; whnf) <;> exact rfl)))))))
    | ((with_reducible apply r_lrn2); (case hh => assumption); (case ha => exact rfl); (case hi => repeat (first | with_reducible apply At.cns | with_reducible apply At.nl | with_reducible apply At.asc | exact At.here | with_reducible apply At.there | with_reducible apply At.skip)); (case hs => exact fun _ => rfl); (case iα => infer_instance); (case hb => first | omega | (simp only [List.length_set, List.length_append, List.length_map, List.length_cons, List.length_nil, swapL_length]; omega)); (case hm => exact rfl); (case hv => (repeat (first | exact sp_nil rfl | ((with_reducible apply sp_cons); (case h => exact rfl); (case ha => ((conv => lhs; whnf) <;> exact rfl)))))))
    | ((with_reducible apply r_ldn); (case hh => assumption); (case ha => exact rfl); (case hi => repeat (first | with_reducible apply At.cns | with_reducible apply At.nl | with_reducible apply At.asc | exact At.here | with_reducible apply At.there | with_reducible apply At.skip)); (case hv => exact rfl); (case hl => (repeat (first | exact sp_nil rfl | ((with_reducible apply sp_cons); (case h => exact rfl); (case ha => ((conv => lhs; whnf) <;> exact rfl)))))))
    | ((with_reducible apply r_wadd); (case hy => exact rfl); (case hz => exact rfl))
    | ((with_reducible apply r_wmul); (case hy => exact rfl); (case hz => exact rfl))
    | ((with_reducible apply r_wand); (case hy => exact rfl); (case hz => exact rfl))
    | ((with_reducible apply r_wor); (case hy => exact rfl); (case hz => exact rfl))
    | ((with_reducible apply r_wxor); (case hy => exact rfl); (case hz => exact rfl))
    | ((with_reducible apply r_wnot); (case hy => exact rfl))
    | ((with_reducible apply r_wshl); (case hy => exact rfl); (case hz => exact rfl); (case hn => first | omega | exact Nat.le_of_ble_eq_true rfl))
    | ((with_reducible apply r_wshr); (case hy => exact rfl); (case hz => exact rfl); (case hn => first | omega | exact Nat.le_of_ble_eq_true rfl))
    | ((with_reducible apply r_wto); (case hy => exact rfl))
    | ((with_reducible apply r_wtb); (case hy => exact rfl))
    | ((with_reducible apply r_iaw); (case hx => exact rfl); (case hi => exact rfl); (case hm => first | with_reducible exact Int.toNat_natCast _ | with_reducible exact tn0 | with_reducible exact tn1 | with_reducible exact tn2 | with_reducible exact tn3 | with_reducible exact tn4 | with_reducible exact tn5 | with_reducible exact tn6 | with_reducible exact tn7 | with_reducible exact tn8 | with_reducible exact tn9 | with_reducible exact tn10 | with_reducible exact tn11 | with_reducible exact ts1 _ | with_reducible exact ts2 _ | with_reducible exact ts7 _ | with_reducible exact ts15 _ | with_reducible exact ts16 _); (case hb => first | omega | (simp only [List.length_set, List.length_append, List.length_map, List.length_cons, List.length_nil, swapL_length]; omega)))
    | ((with_reducible apply r_ian); (case hx => exact rfl); (case hi => exact rfl); (case hb => first | omega | (simp only [List.length_set, List.length_append, List.length_map, List.length_cons, List.length_nil, swapL_length]; omega)))
    | ((with_reducible apply r_ia); (case hx => exact rfl); (case hi => exact rfl); (case hb => first | omega | (simp only [List.length_set, List.length_append, List.length_map, List.length_cons, List.length_nil, swapL_length]; omega)))
    | ((with_reducible apply r_iaz); (case hx => exact rfl); (case hi => exact rfl); (case hb => first | omega | (simp only [List.length_set, List.length_append, List.length_map, List.length_cons, List.length_nil, swapL_length]; omega)))
    | ((with_reducible apply r_iac); (case hx => exact rfl); (case hi => exact rfl); (case hb => first | omega | (simp only [List.length_set, List.length_append, List.length_map, List.length_cons, List.length_nil, swapL_length]; omega)))
    | ((with_reducible apply r_iaa); (case hx => exact rfl); (case hi => exact rfl); (case hb => first | omega | (simp only [List.length_set, List.length_append, List.length_map, List.length_cons, List.length_nil, swapL_length]; omega)))
    | ((with_reducible apply r_isw); (case hx => exact rfl); (case hi => exact rfl); (case hm => first | with_reducible exact Int.toNat_natCast _ | with_reducible exact tn0 | with_reducible exact tn1 | with_reducible exact tn2 | with_reducible exact tn3 | with_reducible exact tn4 | with_reducible exact tn5 | with_reducible exact tn6 | with_reducible exact tn7 | with_reducible exact tn8 | with_reducible exact tn9 | with_reducible exact tn10 | with_reducible exact tn11 | ((conv => lhs; whnf) <;> exact rfl)); (case hb => first | omega | (simp only [List.length_set, List.length_append, List.length_map, List.length_cons, List.length_nil, swapL_length]; omega)))
    | ((with_reducible apply r_toi32); (case hy => exact rfl); (case hb => first | omega | (simp only [List.length_set, List.length_append, List.length_map, List.length_cons, List.length_nil, swapL_length]; omega)))
    | ((with_reducible apply r_toi64); (case hy => exact rfl); (case hb => first | omega | (simp only [List.length_set, List.length_append, List.length_map, List.length_cons, List.length_nil, swapL_length]; omega)))
    | ((with_reducible apply r_tou8); (case hy => exact rfl); (case hb => first | omega | (simp only [List.length_set, List.length_append, List.length_map, List.length_cons, List.length_nil, swapL_length]; omega)))
    | ((with_reducible apply r_tou32); (case hy => exact rfl); (case hb => first | omega | (simp only [List.length_set, List.length_append, List.length_map, List.length_cons, List.length_nil, swapL_length]; omega)))
    | ((with_reducible apply r_tou64); (case hy => exact rfl); (case hb => first | omega | (simp only [List.length_set, List.length_append, List.length_map, List.length_cons, List.length_nil, swapL_length]; omega)))
    | ((with_reducible apply r_addi32); (case hy => exact rfl); (case hz => exact rfl); (case hb => first | omega | (simp only [List.length_set, List.length_append, List.length_map, List.length_cons, List.length_nil, swapL_length]; omega)))
    | ((with_reducible apply r_subi32); (case hy => exact rfl); (case hz => exact rfl); (case hb => first | omega | (simp only [List.length_set, List.length_append, List.length_map, List.length_cons, List.length_nil, swapL_length]; omega)))
    | ((with_reducible apply r_muli32); (case hy => exact rfl); (case hz => exact rfl); (case hb => first | omega | (simp only [List.length_set, List.length_append, List.length_map, List.length_cons, List.length_nil, swapL_length]; omega)))
    | ((with_reducible apply r_addu8); (case hy => exact rfl); (case hz => exact rfl); (case hb => first | omega | (simp only [List.length_set, List.length_append, List.length_map, List.length_cons, List.length_nil, swapL_length]; omega)))
    | ((with_reducible apply r_subu8); (case hy => exact rfl); (case hz => exact rfl); (case hb => first | omega | (simp only [List.length_set, List.length_append, List.length_map, List.length_cons, List.length_nil, swapL_length]; omega)))
    | ((with_reducible apply r_mulu8); (case hy => exact rfl); (case hz => exact rfl); (case hb => first | omega | (simp only [List.length_set, List.length_append, List.length_map, List.length_cons, List.length_nil, swapL_length]; omega)))
    | ((with_reducible apply r_addu32); (case hy => exact rfl); (case hz => exact rfl); (case hb => first | omega | (simp only [List.length_set, List.length_append, List.length_map, List.length_cons, List.length_nil, swapL_length]; omega)))
    | ((with_reducible apply r_subu32); (case hy => exact rfl); (case hz => exact rfl); (case hb => first | omega | (simp only [List.length_set, List.length_append, List.length_map, List.length_cons, List.length_nil, swapL_length]; omega)))
    | ((with_reducible apply r_mulu32); (case hy => exact rfl); (case hz => exact rfl); (case hb => first | omega | (simp only [List.length_set, List.length_append, List.length_map, List.length_cons, List.length_nil, swapL_length]; omega)))
    | ((with_reducible apply r_addu64); (case hy => exact rfl); (case hz => exact rfl); (case hb => first | omega | (simp only [List.length_set, List.length_append, List.length_map, List.length_cons, List.length_nil, swapL_length]; omega)))
    | ((with_reducible apply r_subu64); (case hy => exact rfl); (case hz => exact rfl); (case hb => first | omega | (simp only [List.length_set, List.length_append, List.length_map, List.length_cons, List.length_nil, swapL_length]; omega)))
    | ((with_reducible apply r_mulu64); (case hy => exact rfl); (case hz => exact rfl); (case hb => first | omega | (simp only [List.length_set, List.length_append, List.length_map, List.length_cons, List.length_nil, swapL_length]; omega)))
    | ((with_reducible apply r_is); (case hx => exact rfl); (case hi => exact rfl); (case hb => first | omega | (simp only [List.length_set, List.length_append, List.length_map, List.length_cons, List.length_nil, swapL_length]; omega)))
    | ((with_reducible apply r_add); (case hy => exact rfl); (case hz => exact rfl); (case hb => first | omega | (simp only [List.length_set, List.length_append, List.length_map, List.length_cons, List.length_nil, swapL_length]; omega)))
    | ((with_reducible apply r_sub); (case hy => exact rfl); (case hz => exact rfl); (case hb => first | omega | (simp only [List.length_set, List.length_append, List.length_map, List.length_cons, List.length_nil, swapL_length]; omega)))
    | ((with_reducible apply r_mul); (case hy => exact rfl); (case hz => exact rfl); (case hb => omega))
    | ((with_reducible apply r_quo); (case hy => exact rfl); (case hz => exact rfl); (case hb => omega))
    | ((with_reducible apply r_rem); (case hy => exact rfl); (case hz => exact rfl); (case hb => omega))
    | ((with_reducible apply r_eq); (case h => ((conv => lhs; whnf) <;> exact rfl)))
    | ((with_reducible apply r_ne); (case h => ((conv => lhs; whnf) <;> exact rfl)))
    | ((with_reducible apply r_cs00); (case hx => exact rfl))
    | ((with_reducible apply r_cs01); (case hx => exact rfl); (case hi => exact rfl); (case hb => first | omega | (simp only [List.length_set, List.length_append, List.length_map, List.length_cons, List.length_nil, swapL_length]; omega)))
    | ((with_reducible apply r_cs10); (case hx => exact rfl); (case hl => exact rfl); (case hb => first | omega | (simp only [List.length_set, List.length_append, List.length_map, List.length_cons, List.length_nil, swapL_length]; omega)))
    | ((with_reducible apply r_cs11); (case hx => exact rfl); (case hl => exact rfl); (case hi => exact rfl); (case hb => first | omega | (simp only [List.length_set, List.length_append, List.length_map, List.length_cons, List.length_nil, swapL_length]; omega)))
    | ((with_reducible apply r_cl00); (case hx => exact rfl))
    | ((with_reducible apply r_cl01); (case hx => exact rfl); (case hi => exact rfl); (case hb => first | omega | (simp only [List.length_set, List.length_append, List.length_map, List.length_cons, List.length_nil, swapL_length]; omega)))
    | ((with_reducible apply r_cl10); (case hx => exact rfl); (case hl => exact rfl); (case hb => first | omega | (simp only [List.length_set, List.length_append, List.length_map, List.length_cons, List.length_nil, swapL_length]; omega)))
    | ((with_reducible apply r_cl11); (case hx => exact rfl); (case hl => exact rfl); (case hi => exact rfl); (case hb => first | omega | (simp only [List.length_set, List.length_append, List.length_map, List.length_cons, List.length_nil, swapL_length]; omega)))
    | ((with_reducible apply r_lm); (case hh => assumption); (case ha => exact rfl); (case hi => repeat (first | with_reducible apply At.cns | with_reducible apply At.nl | with_reducible apply At.asc | exact At.here | with_reducible apply At.there | with_reducible apply At.skip)))
    | ((with_reducible apply r_b2s); (case hh => assumption); (case hy => exact rfl); (case hi => repeat (first | with_reducible apply At.cns | with_reducible apply At.nl | with_reducible apply At.asc | exact At.here | with_reducible apply At.there | with_reducible apply At.skip)))
    | ((with_reducible apply r_rd); (case h => ((conv => lhs; whnf; arg 1; whnf) <;> exact rfl)))
    | ((with_reducible apply r_srow); (case hh => assumption); (case ha => exact rfl); (case _hA => repeat (first | with_reducible apply At.cns | with_reducible apply At.nl | with_reducible apply At.asc | exact At.here | with_reducible apply At.there | with_reducible apply At.skip)); (case hy => ((conv => lhs; whnf) <;> exact rfl)); (case ht => exact rfl); (case hc => exact rfl); (case hs => exact fun _ => rfl); (case hb => first | omega | (simp only [List.length_set, List.length_append, List.length_map, List.length_cons, List.length_nil, swapL_length]; omega)); (case hu => repeat (first | with_reducible apply Upd.cns | with_reducible apply Upd.nl | with_reducible apply Upd.asc | exact Upd.here1 | with_reducible apply Upd.there | with_reducible apply Upd.skip)); intro _ _)
    | ((with_reducible apply r_store); (case hh => assumption); (case ha => exact rfl); (case hy => ((conv => lhs; whnf) <;> exact rfl)); (case ht => exact rfl); (case hc => ((dsimp only [V.cells]) <;> exact rfl)); (case hn => exact rfl); (case _hA => repeat (first | with_reducible apply At.cns | with_reducible apply At.nl | with_reducible apply At.asc | exact At.here | with_reducible apply At.there | with_reducible apply At.skip)); (case hb => exact rfl); (case hs => first | ((with_reducible apply splice_all); (case h => exact rfl)) | (repeat (first | exact sp_nil rfl | ((with_reducible apply sp_cons); (case h => exact rfl); (case ha => ((conv => lhs; whnf) <;> exact rfl)))))); (case hu => repeat (first | with_reducible apply Upd.cns | with_reducible apply Upd.nl | with_reducible apply Upd.asc | exact Upd.here1 | with_reducible apply Upd.there | with_reducible apply Upd.skip)); intro _ _)
    | ((with_reducible apply r_alloc); (case hh => assumption); intro _ _ _)
    | ((with_reducible apply r_box); (case hh => assumption); (case hy => ((conv => lhs; whnf) <;> exact rfl)); (case ht => exact rfl); (case hc => ((dsimp only [V.cells]) <;> exact rfl)); intro _ _ _)
    | ((with_reducible apply r_push); (case hh => assumption); (case ha => exact rfl); (case _hA => repeat (first | with_reducible apply At.cns | with_reducible apply At.nl | with_reducible apply At.asc | exact At.here | with_reducible apply At.there | with_reducible apply At.skip)); (case hn => exact fun _ => rfl); (case hy => ((conv => lhs; whnf) <;> exact rfl)); (case ht => exact rfl); (case hc => exact rfl); (case hs => exact fun _ => rfl); (case hz => exact rfl); (case hb => first | omega | (simp only [List.length_set, List.length_append, List.length_map, List.length_cons, List.length_nil, swapL_length]; omega)); (case hu => ((intro _) <;> (repeat (first | with_reducible apply Upd.cns | with_reducible apply Upd.nl | with_reducible apply Upd.asc | exact Upd.here1 | with_reducible apply Upd.there | with_reducible apply Upd.skip)))); intro _ _ _ _)
    | ((with_reducible apply r_pushH); (case hh => assumption); (case ha => exact rfl); (case _hA => repeat (first | with_reducible apply At.cns | with_reducible apply At.nl | with_reducible apply At.asc | exact At.here | with_reducible apply At.there | with_reducible apply At.skip)); (case _hi => assumption); (case hn => exact fun _ => rfl); (case hy => ((conv => lhs; whnf) <;> exact rfl)); (case ht => exact rfl); (case hc => exact rfl); (case hs => exact fun _ => rfl); (case hz => exact rfl); (case hb => first | omega | (simp only [List.length_set, List.length_append, List.length_map, List.length_cons, List.length_nil, swapL_length]; omega)); (case hu => ((intro _) <;> (repeat (first | with_reducible apply Upd.cns | with_reducible apply Upd.nl | with_reducible apply Upd.asc | exact Upd.here1 | with_reducible apply Upd.there | with_reducible apply Upd.skip)))); intro _ _ _ _)
    | ((with_reducible apply r_allocT); (case hh => assumption); intro _ _ _)
    | ((with_reducible apply r_rangeS); (case hh => assumption); (case hy => exact rfl); intro _ _ _)
    | ((with_reducible apply r_s2b); (case hh => assumption); (case hy => exact rfl); intro _ _ _)
    | ((with_reducible apply r_lit1); (case hh => assumption); (case hy => ((conv => lhs; whnf) <;> exact rfl)); (case ht => exact rfl); (case hc => ((dsimp only [V.cells]) <;> exact rfl)); (case hn => exact rfl); (case hz => exact rfl); intro _ _ _)
    | ((with_reducible apply r_lit); (case hh => assumption); (case hf => (repeat (first | with_reducible exact fl_nil | ((with_reducible apply fl_cons); (case hx => ((conv => lhs; whnf) <;> exact rfl)); (case ht => exact rfl); (case hc => ((dsimp only [V.cells]) <;> exact rfl)); (case hn => exact rfl); (case hb => exact rfl); (case hs => (repeat (first | exact sp_nil rfl | ((with_reducible apply sp_cons); (case h => exact rfl); (case ha => ((conv => lhs; whnf) <;> exact rfl)))))))))); (case hl => exact rfl); intro _ _ _)
    | ((with_reducible apply r_lit); (case hh => assumption); (case hf => exact rfl); (case hl => (repeat (first | exact sp_nil rfl | ((with_reducible apply sp_cons); (case h => exact rfl); (case ha => ((conv => lhs; whnf) <;> exact rfl)))))); intro _ _ _)
    | ((with_reducible apply r_mkMap); (case hh => assumption); intro _ _ _)
    | ((with_reducible apply r_ct); (case h => exact rfl))
    | ((with_reducible apply r_cf); (case h => exact rfl))
    | ((with_reducible apply r_skip))
    | ((with_reducible apply r_exit))
    | ((with_reducible apply r_ret))
    | ((with_reducible apply r_block))
    | ((with_reducible apply r_se))
    | ((with_reducible apply r_sr))
    | ((with_reducible apply r_bn))
    | ((with_reducible apply r_bx))
    | ((with_reducible apply r_be); (case h => exact rfl))
    | ((with_reducible apply r_br))
    | ((with_reducible apply r_ln))
    | ((with_reducible apply r_le))
    | ((with_reducible apply r_lr))
    | ((with_reducible apply r_e0))
    | ((with_reducible apply r_e0n))
    | ((with_reducible apply r_e1); (case h => ((conv => lhs; whnf) <;> exact rfl)))
    | ((with_reducible apply r_e2); (case h => ((conv => lhs; whnf) <;> exact rfl)); (case h' => ((conv => lhs; whnf) <;> exact rfl)))
    | ((with_reducible apply r_e3); (case h => ((conv => lhs; whnf) <;> exact rfl)); (case h' => ((conv => lhs; whnf) <;> exact rfl)); (case h3 => ((conv => lhs; whnf) <;> exact rfl)))
    | ((with_reducible apply r_e4); (case h => ((conv => lhs; whnf) <;> exact rfl)); (case h' => ((conv => lhs; whnf) <;> exact rfl)); (case h3 => ((conv => lhs; whnf) <;> exact rfl)); (case h4 => ((conv => lhs; whnf) <;> exact rfl)))
    | ((with_reducible apply r_ecn); (case hh => assumption); (case ha => exact rfl); (case hi => repeat (first | with_reducible apply At.cns | with_reducible apply At.nl | with_reducible apply At.asc | exact At.here | with_reducible apply At.there | with_reducible apply At.skip)); (case hl => exact rfl))
    | ((with_reducible apply r_ec1); (case hh => assumption); (case ha => exact rfl); (case hi => repeat (first | with_reducible apply At.cns | with_reducible apply At.nl | with_reducible apply At.asc | exact At.here | with_reducible apply At.there | with_reducible apply At.skip)); (case hv => ((conv => lhs; whnf; arg 1; whnf) <;> exact rfl)))
    | ((with_reducible apply r_ecnt); (case hh => assumption); (case ha => exact rfl); (case hi => repeat (first | with_reducible apply At.cns | with_reducible apply At.nl | with_reducible apply At.asc | exact At.here | with_reducible apply At.there | with_reducible apply At.skip)); (case hl => exact rfl); (case hv => ((conv => lhs; whnf) <;> exact rfl)))
    | exact red_leaf)) (k : G') : G := h k
section
variable {P : Program} {env : Env} {H : Heap} {L N R : List Ob} {K : Env → Heap → Prop} {d : Option Nat} {x : Kx} {is : List I} {Q : V → List Ob → Prop}
theorem callE {f : FuncId} {args : List X} {vs : List V} {v : V} (hs : CallsR P f vs N fun u => u = v) (k : wpOps P is (env.put d v) H K) (ha : args.map (X.ev env) = vs := by exact rfl) (hh : Has H L := by assumption) (ht : Tk N L R := by (repeat (first | with_reducible apply Tk.cns | with_reducible apply Tk.nl | with_reducible apply Tk.asc | with_reducible apply Rm.cns | with_reducible apply Rm.nl | with_reducible apply Rm.asc | with_reducible apply Rc.cns | with_reducible apply Rc.nl | with_reducible apply Rc.asc | exact Tk.nil | exact Rm.here | exact Rc.here | exact Rc.all | with_reducible apply Tk.cons | with_reducible apply Rm.there | with_reducible apply Rm.skip | with_reducible apply Tk.app | with_reducible apply Tk.one | with_reducible apply Rc.there | with_reducible apply Rc.skip))) :
    wpOps P (⟨d, .ef (.call f args), none, x⟩ :: is) env H K := wps_callE hs hh ht ha k
theorem callR {f : FuncId} {args : List X} {vs : List V} {φ : V → Prop} (hs : CallsR P f vs N φ) (k : ∀ v, φ v → wpOps P is (env.put d v) H K) (ha : args.map (X.ev env) = vs := by exact rfl) (hh : Has H L := by assumption) (ht : Tk N L R := by (repeat (first | with_reducible apply Tk.cns | with_reducible apply Tk.nl | with_reducible apply Tk.asc | with_reducible apply Rm.cns | with_reducible apply Rm.nl | with_reducible apply Rm.asc | with_reducible apply Rc.cns | with_reducible apply Rc.nl | with_reducible apply Rc.asc | exact Tk.nil | exact Rm.here | exact Rc.here | exact Rc.all | with_reducible apply Tk.cons | with_reducible apply Rm.there | with_reducible apply Rm.skip | with_reducible apply Tk.app | with_reducible apply Tk.one | with_reducible apply Rc.there | with_reducible apply Rc.skip))) :
    wpOps P (⟨d, .ef (.call f args), none, x⟩ :: is) env H K := wps_callR hs hh ht ha k
theorem callL {f : FuncId} {args : List X} {vs : List V} {φ : V → List Ob → Prop} (hs : CallsL P f vs N φ) (k : ∀ v L' H', φ v L' → Has H' (L' ++ R) → wpOps P is (env.put d v) H' K) (ha : args.map (X.ev env) = vs := by exact rfl) (hh : Has H L := by assumption) (ht : Tk N L R := by (repeat (first | with_reducible apply Tk.cns | with_reducible apply Tk.nl | with_reducible apply Tk.asc | with_reducible apply Rm.cns | with_reducible apply Rm.nl | with_reducible apply Rm.asc | with_reducible apply Rc.cns | with_reducible apply Rc.nl | with_reducible apply Rc.asc | exact Tk.nil | exact Rm.here | exact Rc.here | exact Rc.all | with_reducible apply Tk.cons | with_reducible apply Rm.there | with_reducible apply Rm.skip | with_reducible apply Tk.app | with_reducible apply Tk.one | with_reducible apply Rc.there | with_reducible apply Rc.skip))) :
    wpOps P (⟨d, .ef (.call f args), none, .no⟩ :: is) env H K := wps_call hs hh ht ha k
def Nx (sl : List Nat) (I : Nat → List V → List Ob → Prop) (B : Nat → Prop) (env : Env) (H : Heap) : Prop := ∃ i vs L, B i ∧ Wks (sl.map env) vs ∧ Has H L ∧ I i vs L
theorem Nx.intro {sl : List Nat} {I : Nat → List V → List Ob → Prop} {B : Nat → Prop} {i : Nat} (hi : B i) (hI : I i (sl.map env) N) (hh : Has H L := by assumption) (ht : Tk N L R := by (repeat (first | with_reducible apply Tk.cns | with_reducible apply Tk.nl | with_reducible apply Tk.asc | with_reducible apply Rm.cns | with_reducible apply Rm.nl | with_reducible apply Rm.asc | with_reducible apply Rc.cns | with_reducible apply Rc.nl | with_reducible apply Rc.asc | exact Tk.nil | exact Rm.here | exact Rc.here | exact Rc.all | with_reducible apply Tk.cons | with_reducible apply Rm.there | with_reducible apply Rm.skip | with_reducible apply Tk.app | with_reducible apply Tk.one | with_reducible apply Rc.there | with_reducible apply Rc.skip))) : Nx sl I B env H :=
  ⟨i, _, N, hi, Wks.refl _, hh.ord ht, hI⟩
theorem Nx.weak {sl : List Nat} {I : Nat → List V → List Ob → Prop} {B : Nat → Prop} {i : Nat} {vs : List V} (hi : B i) (hw : Wks (sl.map env) vs) (hI : I i vs N) (hh : Has H L := by assumption) (ht : Tk N L R := by (repeat (first | with_reducible apply Tk.cns | with_reducible apply Tk.nl | with_reducible apply Tk.asc | with_reducible apply Rm.cns | with_reducible apply Rm.nl | with_reducible apply Rm.asc | with_reducible apply Rc.cns | with_reducible apply Rc.nl | with_reducible apply Rc.asc | exact Tk.nil | exact Rm.here | exact Rc.here | exact Rc.all | with_reducible apply Tk.cons | with_reducible apply Rm.there | with_reducible apply Rm.skip | with_reducible apply Tk.app | with_reducible apply Tk.one | with_reducible apply Rc.there | with_reducible apply Rc.skip))) : Nx sl I B env H :=
  ⟨i, _, N, hi, hw, hh.ord ht, hI⟩
theorem loopM {Q : Ex → Env → Heap → Prop} {a : C} (sl : List Nat) (I : Nat → List V → List Ob → Prop) (h0 : Nx sl I (fun _ => True) env H)
    (step : ∀ (n : Nat) (vs : List V) (L : List Ob) (e : Env) (H : Heap), I n vs L → Has H L → a.wp P (kLoop (Nx sl I (fun m => m < n)) Q) (puts sl vs e) H) : C.wp P (.loop a) Q env H := by
  obtain ⟨n, vs, L, _, h1, h2, h3⟩ := h0
  refine c_loop sl (fun n vs H => ∃ L, Has H L ∧ I n vs L) n ⟨vs, H, h1, HWk.refl H, L, h2, h3⟩ ?_
  rintro n vs e H ⟨L, hh, hi⟩
  refine C.mono ?_ (step n vs L e H hi hh)
  intro x env' H' hx
  cases x with
  | normal =>
    exact Wkn.mono hx fun e1 H1 ⟨m, vs', L', hm, g3, g4, g5⟩ => ⟨m, vs', H1, hm, g3, HWk.refl _, L', g4, g5⟩
  | exit j => exact hx
  | ret => exact hx
theorem loopN {Q : Ex → Env → Heap → Prop} {a : C} (sl : List Nat) (M : Nat) (I : Nat → List V → List Ob → Prop) (h0 : Nx sl I (fun i => i = 0) env H)
    (step : ∀ (i : Nat) (vs : List V) (L : List Ob) (e : Env) (H : Heap), i ≤ M → I i vs L → Has H L → a.wp P (kLoop (Nx sl I (fun k => k = i + 1 ∧ i < M)) Q) (puts sl vs e) H) : C.wp P (.loop a) Q env H := by
  refine loopM sl (fun n vs L => ∃ i, n = M - i ∧ i ≤ M ∧ I i vs L) ?_ ?_
  · obtain ⟨n, vs, L, rfl, h1, h2, h3⟩ := h0
    exact ⟨M, vs, L, trivial, h1, h2, 0, rfl, Nat.zero_le _, h3⟩
  · rintro n vs L e H ⟨i, rfl, hi, hI⟩ hh
    refine C.mono ?_ (step i vs L e H hi hI hh)
    intro x env' H' hx
    cases x with
    | normal =>
      refine Wkn.mono hx ?_
      rintro e1 H1 ⟨m, vs', L', ⟨rfl, hm⟩, g3, g4, g5⟩
      exact ⟨M - (i + 1), vs', L', by omega, g3, g4, i + 1, rfl, hm, g5⟩
    | exit j => exact hx
    | ret => exact hx
theorem Nx.here {sl : List Nat} {I : Nat → List V → List Ob → Prop} (hI : I 0 (sl.map env) N) (hh : Has H L := by assumption) (ht : Tk N L R := by (repeat (first | with_reducible apply Tk.cns | with_reducible apply Tk.nl | with_reducible apply Tk.asc | with_reducible apply Rm.cns | with_reducible apply Rm.nl | with_reducible apply Rm.asc | with_reducible apply Rc.cns | with_reducible apply Rc.nl | with_reducible apply Rc.asc | exact Tk.nil | exact Rm.here | exact Rc.here | exact Rc.all | with_reducible apply Tk.cons | with_reducible apply Rm.there | with_reducible apply Rm.skip | with_reducible apply Tk.app | with_reducible apply Tk.one | with_reducible apply Rc.there | with_reducible apply Rc.skip))) : Nx sl I (fun i => i = 0) env H :=
  Nx.intro (i := 0) rfl hI hh ht
theorem Nx.cut {sl : List Nat} {I : List V → List Ob → Prop} (hI : I (sl.map env) N) (hh : Has H L := by assumption) (ht : Tk N L R := by (repeat (first | with_reducible apply Tk.cns | with_reducible apply Tk.nl | with_reducible apply Tk.asc | with_reducible apply Rm.cns | with_reducible apply Rm.nl | with_reducible apply Rm.asc | with_reducible apply Rc.cns | with_reducible apply Rc.nl | with_reducible apply Rc.asc | exact Tk.nil | exact Rm.here | exact Rc.here | exact Rc.all | with_reducible apply Tk.cons | with_reducible apply Rm.there | with_reducible apply Rm.skip | with_reducible apply Tk.app | with_reducible apply Tk.one | with_reducible apply Rc.there | with_reducible apply Rc.skip))) : Nx sl (fun _ => I) (fun _ => True) env H :=
  Nx.intro (i := 0) trivial hI hh ht
theorem Nx.next {sl : List Nat} {I : Nat → List V → List Ob → Prop} {i M : Nat} (hi : i < M) (hI : I (i + 1) (sl.map env) N) (hh : Has H L := by assumption) (ht : Tk N L R := by (repeat (first | with_reducible apply Tk.cns | with_reducible apply Tk.nl | with_reducible apply Tk.asc | with_reducible apply Rm.cns | with_reducible apply Rm.nl | with_reducible apply Rm.asc | with_reducible apply Rc.cns | with_reducible apply Rc.nl | with_reducible apply Rc.asc | exact Tk.nil | exact Rm.here | exact Rc.here | exact Rc.all | with_reducible apply Tk.cons | with_reducible apply Rm.there | with_reducible apply Rm.skip | with_reducible apply Tk.app | with_reducible apply Tk.one | with_reducible apply Rc.there | with_reducible apply Rc.skip))) : Nx sl I (fun k => k = i + 1 ∧ i < M) env H :=
  Nx.intro (i := i + 1) ⟨rfl, hi⟩ hI hh ht
theorem done {v : V} (hq : Q v N) (hh : Has H L := by assumption) (ht : Tk N L R := by (repeat (first | with_reducible apply Tk.cns | with_reducible apply Tk.nl | with_reducible apply Tk.asc | with_reducible apply Rm.cns | with_reducible apply Rm.nl | with_reducible apply Rm.asc | with_reducible apply Rc.cns | with_reducible apply Rc.nl | with_reducible apply Rc.asc | exact Tk.nil | exact Rm.here | exact Rc.here | exact Rc.all | with_reducible apply Tk.cons | with_reducible apply Rm.there | with_reducible apply Rm.skip | with_reducible apply Tk.app | with_reducible apply Tk.one | with_reducible apply Rc.there | with_reducible apply Rc.skip))) : CEnds Q v H := CEnds.tk hh ht hq
theorem doneR {v : V} {φ : V → Prop} (hq : φ v) (hh : Has H L := by assumption) (ht : Tk N L R := by (repeat (first | with_reducible apply Tk.cns | with_reducible apply Tk.nl | with_reducible apply Tk.asc | with_reducible apply Rm.cns | with_reducible apply Rm.nl | with_reducible apply Rm.asc | with_reducible apply Rc.cns | with_reducible apply Rc.nl | with_reducible apply Rc.asc | exact Tk.nil | exact Rm.here | exact Rc.here | exact Rc.all | with_reducible apply Tk.cons | with_reducible apply Rm.there | with_reducible apply Rm.skip | with_reducible apply Tk.app | with_reducible apply Tk.one | with_reducible apply Rc.there | with_reducible apply Rc.skip))) : CEnds (fun v L' => φ v ∧ L' = N) v H := CEnds.tk hh ht ⟨hq, rfl⟩
theorem doneN {v : V} {φ : V → List Ob → Prop} {Lo : List Ob} (hq : φ v Lo) (hh : Has H L := by assumption) (ht : Tk (Lo ++ N) L R := by (repeat (first | with_reducible apply Tk.cns | with_reducible apply Tk.nl | with_reducible apply Tk.asc | with_reducible apply Rm.cns | with_reducible apply Rm.nl | with_reducible apply Rm.asc | with_reducible apply Rc.cns | with_reducible apply Rc.nl | with_reducible apply Rc.asc | exact Tk.nil | exact Rm.here | exact Rc.here | exact Rc.all | with_reducible apply Tk.cons | with_reducible apply Rm.there | with_reducible apply Rm.skip | with_reducible apply Tk.app | with_reducible apply Tk.one | with_reducible apply Rc.there | with_reducible apply Rc.skip))) : CEnds (fun v L' => ∃ Lo, φ v Lo ∧ L' = Lo ++ N) v H := CEnds.tk hh ht ⟨Lo, hq, rfl⟩
end
end Go.CM

namespace Go.CM
section
variable {P : Program} {env : Env} {H : Heap} {L N R : List Ob}

def Nw (sl : List Nat) (I : List V → List Ob → Prop) (env : Env) (H : Heap) : Prop := Wkn env H (Nx sl (fun _ => I) (fun _ => True))
theorem Nw.mk {sl : List Nat} {I : List V → List Ob → Prop} (h : Nx sl (fun _ => I) (fun _ => True) env H) : Nw sl I env H := .here h
theorem Nw.base {sl : List Nat} {I : List V → List Ob → Prop} {L' : Nat → List Ob} {id off len e : Nat} {cs cs' : List V} (s : Nat) (hh : Has H L) (hs : env s = .slice id off len e)
    (hu : ∀ id', Upd (id, .cells true cs) [(id', .cells true cs')] L (L' id')) (hd : cs.drop off = cs') (ho : off ≤ cs.length) (hc : cs ≠ [])
    (k : ∀ id' H', Has H' (L' id') → Nw sl I (env.put (some s) (.slice id' 0 len e)) H') : Nw sl I env H := by
  subst hd
  have h0 := hh.ne0 (hu 0).at hc
  refine Wkn.base hs (hh.get (hu 0).at h0) ho fun id' h0' hid => k id' _ (hh.move h0 h0' (hu id') ?_)
  by_cases h : id' = id
  · subst h; exact Heap.del_same _ _
  · rw [Heap.del_ne _ h]; exact hid
end
end Go.CM

namespace Go.CM
section
variable {P : Program} {env : Env} {H : Heap} {L : List Ob} {K : Env → Heap → Prop} {d : Option Nat} {is : List I}

end
end Go.CM

namespace Go.CM
section
variable {P : Program} {env : Env} {H : Heap} {Q : Ex → Env → Heap → Prop} {L : List Ob} {K : Env → Heap → Prop} {d : Option Nat} {x : Kx} {is : List I}

theorem wps_copyT (hh : Has H L) {ty tk ti esz m id off len : Nat} {y s : X} {cs cs' vs : List V} {L' : List Ob} (hd : y.ev env = .ty ty tk ti (.slice id off len (esz + 1))) (hs : srcTake H (esz + 1) len (s.ev env) = some (m, vs)) (ho : off ≤ cs.length) (hc : cs ≠ []) (he : splice cs off vs = cs')
    (hu : Upd (id, .cells true cs) [(id, .cells true cs')] L L') (k : ∀ H', Has H' L' → wpOps P is (env.put d (.int .i64 (min m len : Nat))) H' K) : wpOps P (⟨d, .ef (.copy (esz + 1) y s), none, .no⟩ :: is) env H K := by
  subst he
  have h0 := hh.ne0 hu.at hc
  exact .inr ⟨id, off, len, cs, m, vs, .inl (by rw [hd]; rfl), hs, hh.get hu.at h0, ho, trivial, k _ (hh.set h0 hu)⟩
end
end Go.CM

namespace Go.CM

def elemOf (P : Program) (t : TypeId) : TypeId := match P.underlying t with
  | some (.slice e) => e
  | _ => 0
theorem rep_length' {z : List V} {k : Nat} (hz : z.length = k) : ∀ n, (rep z n).length = n * k
  | 0 => by simp [rep]
  | n + 1 => by simp [rep, rep_length' hz n, hz, Nat.succ_mul, Nat.add_comm]
theorem Has.two {H : Heap} {L : List Ob} {x y : Ob} {R : List Ob} (h : Has H L) (hp : L = x :: y :: R) (hx : x.1 ≠ 0) (hy : y.1 ≠ 0) : x.1 ≠ y.1 := by
  subst hp
  exact fun e => h.head_ne hx y (by simp) hy e.symm
end Go.CM

namespace Go.CM

section
variable {P : Program}

theorem Ext.block {ι ι1 : Pl} {H H1 : Heap} {w w1 : World} (hX : Ext ι H w ι1 H1 w1) {b : Nat} (hb : b < w.heap.size) (hn : ∀ id o off, H id = some o → ι id = some (b, off) → False) : w1.heap[b]? = w.heap[b]? :=
  hX.frame b hb fun ⟨i, x, off, g1, _, g3⟩ => hn i x off g1 g3

set_option maxHeartbeats 2000000 in
end
end Go.CM

namespace Go.CM
section
variable {P : Program} {env : Env} {H : Heap} {L N R : List Ob} {is : List I} {K : Env → Heap → Prop} {d : Option Nat}

end
end Go.CM

namespace Go.CM

theorem CallsL.nilArg {P : Program} {f : FuncId} {args args' : List V} {L L' : List Ob} {Q : V → List Ob → Prop} (hw : Wks args args') (h : CallsL P f args' L Q) (hg : ∀ H, Has H L' → Has H L) : CallsL P f args L' Q :=
  fun H hh => CallsC.wkArgs hw (h H (hg H hh))
theorem CallsN.nilArg {P : Program} {f : FuncId} {args args' : List V} {L : List Ob} {b : Bool} {Q : V → List Ob → Prop} (hw : Wks args args') (h : CallsN P f args' (L ++ [(0, .cells b [])]) Q) : CallsN P f args L Q :=
  fun H hh => CallsC.wkArgs hw ((h H ((hh.ghost b).perm (show List.Perm ([(0, HObj.cells b [])] ++ L) _ from List.perm_append_comm))).mono fun v H' ⟨L', ⟨Lo, hq, e⟩, hh'⟩ => ⟨Lo ++ L, ⟨Lo, hq, rfl⟩, by
    subst e
    exact hh'.sub (by rw [← List.append_assoc]; exact List.sublist_append_left _ _)⟩)
theorem CallsR.nilArg {P : Program} {f : FuncId} {args args' : List V} {L : List Ob} {b : Bool} {Q : V → Prop} (hw : Wks args args') (h : CallsR P f args' (L ++ [(0, .cells b [])]) Q) : CallsR P f args L Q :=
  fun H hh => CallsC.wkArgs hw ((h H ((hh.ghost b).perm (show List.Perm ([(0, HObj.cells b [])] ++ L) _ from List.perm_append_comm))).mono fun v H' ⟨L', ⟨hq, e⟩, hh'⟩ => ⟨L, ⟨hq, rfl⟩, by
    subst e
    exact hh'.sub (List.sublist_append_left _ _)⟩)
end Go.CM
namespace Go.CM
section
variable {P : Program} {env : Env} {H : Heap}
end
end Go.CM
namespace Go.CM
end Go.CM

namespace Go.CM

end Go.CM
