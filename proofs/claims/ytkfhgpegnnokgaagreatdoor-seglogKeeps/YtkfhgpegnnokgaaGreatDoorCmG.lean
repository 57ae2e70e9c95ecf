/-
  A program logic over the model's calls: its texts CmTxt CmWord CmWalk CmCut CmMap CmCap CmOvl CmIter CmIter2 CmMore CmByt, joined.
-/
import Derived.Test.YtkfhgpegnnokgaaGreatDoorCmF
import Derived.IntWalk
import Derived.Lib.Overlaps
import Derived.Test.YtkfhgpegnnokgaaGreatDoorCmD
import Derived.RangeFuncIn
import Derived.RangeFuncRecord
import Derived.RangeFuncLeaves
import Derived.Lib.Bytealg
namespace Go.CM

section
variable {P : Program} {env : Env} {H : Heap} {Q : Ex → Env → Heap → Prop} {L : List Ob} {K : Env → Heap → Prop} {d : Option Nat} {x : Kx} {is : List I}

theorem wps_mkSlT (hh : Has H L) {t esz bytes : Nat} {z : List V} {l c : X} {kl kc : IntKind} {nl nc : Int} (hl : l.ev env = .int kl nl) (hc : c.ev env = .int kc nc) (hb : 0 ≤ nl ∧ nl ≤ nc ∧ nc ≤ 140737488355328 ∧ nc * bytes ≤ 140737488355328)
    (k : ∀ id H', Has H' ((id, .cells true (rep z nc.toNat)) :: L) → wpOps P is (env.put d (.ty t 0 id (.slice id 0 nl.toNat esz))) H' K) : wpOps P (⟨d, .ef (.mkSlT t esz bytes z l c), none, x⟩ :: is) env H K :=
  ⟨kl, nl, kc, nc, hl, hc, hb.1, hb.2.1, hb.2.2.1, hb.2.2.2, .inl fun id h0 hid => ⟨Kx.le (Heap.le_set _ hid), k id _ (hh.new h0 hid)⟩⟩
theorem wps_allocT (hh : Has H L) {t : Nat} {z : List V} (k : ∀ id H', Has H' ((id, .cells true z) :: L) → wpOps P is (env.put d (.ty t z.length id (.ptr id 0))) H' K) : wpOps P (⟨d, .ef (.allocT t z), none, x⟩ :: is) env H K :=
  fun id h0 hid => ⟨Kx.le (Heap.le_set _ hid), k id _ (hh.new h0 hid)⟩
theorem wps_rangeS (hh : Has H L) {y : X} {s : List UInt8} (hy : y.ev env = .str s) (k : ∀ id H', Has H' ((id, .siter s 0) :: L) → wpOps P is (env.put d (.ptr id 0)) H' K) : wpOps P (⟨d, .ef (.rangeS y), none, x⟩ :: is) env H K :=
  ⟨s, hy, fun id h0 hid => ⟨Kx.le (Heap.le_set _ hid), k id _ (hh.new h0 hid)⟩⟩
theorem wps_s2b (hh : Has H L) {y : X} {s : List UInt8} (hy : y.ev env = .str s) (k : ∀ id H', Has H' ((id, .cells true (s.flatMap byteC)) :: L) → wpOps P is (env.put d (.slice id 0 s.length 1)) H' K) : wpOps P (⟨d, .ef (.s2b y), none, x⟩ :: is) env H K :=
  ⟨s, hy, fun id h0 hid => ⟨Kx.le (Heap.le_set _ hid), k id _ (hh.new h0 hid)⟩⟩
theorem Has.gets {H : Heap} {L : List Ob} (h : Has H L) {id : Nat} {s : List UInt8} {pos : Nat} (hm : (id, .siter s pos) ∈ L) : id ≠ 0 ∧ H id = some (.siter s pos) := by
  have h0 : id ≠ 0 := fun e => by obtain ⟨b', h1⟩ := h.zero _ hm e; cases h1
  exact ⟨h0, h.get hm h0⟩
theorem wps_unt {e a b : Nat} {y z : X} {g : Option (Nat × Bool)} (h : wpOps P (⟨d, .ef (.app a b y z), g, x⟩ :: is) env H K) : wpOps P (⟨d, .ef (.appT e a b y z), g, x⟩ :: is) env H K := by
  show I.wp P env H (fun env' H' => wpOps P is env' H' K) _
  have h' : I.wp P env H (fun env' H' => wpOps P is env' H' K) ⟨d, .ef (.app a b y z), g, x⟩ := h
  unfold I.wp at h' ⊢
  cases g with
  | none => exact .inl h'
  | some g =>
    obtain ⟨s, b'⟩ := g
    exact gcond_mono h' (fun h => .inl h) (fun h => h)
theorem wps_unt2 {i : I} {e a b : Nat} {y z : X} {g : Option (Nat × Bool)} (h : wpOps P (i :: ⟨d, .ef (.app a b y z), g, x⟩ :: is) env H K) : wpOps P (i :: ⟨d, .ef (.appT e a b y z), g, x⟩ :: is) env H K :=
  wp_mono_I (fun _ _ h => wps_unt h) h
theorem bytes_mapM {f : V → Option UInt8} (hf : ∀ b : UInt8, f (.int .u8 b.toNat) = some b) (l : List UInt8) : (l.flatMap byteC).mapM f = some l := by
  induction l with
  | nil => rfl
  | cons a l ih =>
    rw [List.flatMap_cons]
    show (V.int .u8 a.toNat :: l.flatMap byteC).mapM _ = _
    rw [List.mapM_cons, ih, hf]
    rfl
theorem wps_b2s (hh : Has H L) {y : X} {id : Nat} {b : Bool} {l : List UInt8} (hy : y.ev env = .slice id 0 l.length 1) (hi : At (id, .cells b (l.flatMap byteC)) L) (k : wpOps P is (env.put d (.str l)) H K) : wpOps P (⟨d, .rd (.b2s y), none, x⟩ :: is) env H K := by
  refine wps_rd (v := .str l) ?_ k
  simp only [R.ev, hy]
  cases l with
  | nil => rfl
  | cons a l =>
    have hne : ((a :: l).flatMap byteC) ≠ [] := by simp [byteC]
    have hb : Nat.beq (a :: l).length 0 = false := rfl
    rw [hb, hh.getc hi.mem hne]
    simp only [cond_false]
    rw [show getCells ((a :: l).flatMap byteC) 0 (a :: l).length = some ((a :: l).flatMap byteC) from getCells_all (by rw [rows_length (sz := 1) (fun _ => rfl), Nat.mul_one])]
    simp only
    rw [bytes_mapM (fun b => by simp)]
theorem tn0 : Int.toNat 0 = 0 := rfl
theorem tn1 : Int.toNat 1 = 1 := rfl
theorem tn2 : Int.toNat 2 = 2 := rfl
theorem tn3 : Int.toNat 3 = 3 := rfl
theorem tn4 : Int.toNat 4 = 4 := rfl
theorem tn5 : Int.toNat 5 = 5 := rfl
theorem tn6 : Int.toNat 6 = 6 := rfl
theorem tn7 : Int.toNat 7 = 7 := rfl
theorem tn8 : Int.toNat 8 = 8 := rfl
theorem tn9 : Int.toNat 9 = 9 := rfl
theorem tn10 : Int.toNat 10 = 10 := rfl
theorem tn11 : Int.toNat 11 = 11 := rfl
theorem wps_isw {y i : X} {s : List UInt8} {ki : IntKind} {n : Int} {m : Nat} (hx : y.ev env = .str s) (hi : i.ev env = .int ki n) (hm : n.toNat = m) (hb : 0 ≤ n ∧ n < (s.length : Int)) (k : wpOps P is (env.put d (.int .u8 (s.getD m 0).toNat)) H K) :
    wpOps P (⟨d, .rd (.idxStr y i), none, x⟩ :: is) env H K := by
  subst hm
  exact wps_is hx hi hb k
theorem wps_toi32 {y : X} {k' : IntKind} {n : Int} (hy : y.ev env = .int k' n) (hb : -2147483648 ≤ n ∧ n ≤ 2147483647) (k : wpOps P is (env.put d (.int .i32 n)) H K) : wpOps P (⟨d, .rd (.toInt .i32 y), none, x⟩ :: is) env H K :=
  wps_rd (v := .int .i32 n) (by simp only [R.ev, hy]; rw [Go.IntWalk.i32_in n hb]) k
theorem wps_addi32 {y z : X} {a b : Int} (hy : y.ev env = .int .i32 a) (hz : z.ev env = .int .i32 b) (hb : -2147483648 ≤ a + b ∧ a + b ≤ 2147483647) (k : wpOps P is (env.put d (.int .i32 (a + b))) H K) : wpOps P (⟨d, .rd (.bin .add y z), none, x⟩ :: is) env H K :=
  wps_rd (v := .int .i32 (a + b)) (by simp only [R.ev, hy, hz, binV, if_pos]; rw [Go.IntWalk.i32_in _ hb]) k
theorem wps_subi32 {y z : X} {a b : Int} (hy : y.ev env = .int .i32 a) (hz : z.ev env = .int .i32 b) (hb : -2147483648 ≤ a - b ∧ a - b ≤ 2147483647) (k : wpOps P is (env.put d (.int .i32 (a - b))) H K) : wpOps P (⟨d, .rd (.bin .sub y z), none, x⟩ :: is) env H K :=
  wps_rd (v := .int .i32 (a - b)) (by simp only [R.ev, hy, hz, binV, if_pos]; rw [Go.IntWalk.i32_in _ hb]) k
theorem wps_muli32 {y z : X} {a b : Int} (hy : y.ev env = .int .i32 a) (hz : z.ev env = .int .i32 b) (hb : -2147483648 ≤ a * b ∧ a * b ≤ 2147483647) (k : wpOps P is (env.put d (.int .i32 (a * b))) H K) : wpOps P (⟨d, .rd (.bin .mul y z), none, x⟩ :: is) env H K :=
  wps_rd (v := .int .i32 (a * b)) (by simp only [R.ev, hy, hz, binV, if_pos]; rw [Go.IntWalk.i32_in _ hb]) k
theorem wps_toi64 {y : X} {k' : IntKind} {n : Int} (hy : y.ev env = .int k' n) (hb : -9223372036854775808 ≤ n ∧ n ≤ 9223372036854775807) (k : wpOps P is (env.put d (.int .i64 n)) H K) : wpOps P (⟨d, .rd (.toInt .i64 y), none, x⟩ :: is) env H K :=
  wps_rd (v := .int .i64 n) (by simp only [R.ev, hy]; rw [Go.IntWalk.i64_in n hb]) k
theorem wps_tou8 {y : X} {k' : IntKind} {n : Int} (hy : y.ev env = .int k' n) (hb : 0 ≤ n ∧ n ≤ 255) (k : wpOps P is (env.put d (.int .u8 n)) H K) : wpOps P (⟨d, .rd (.toInt .u8 y), none, x⟩ :: is) env H K :=
  wps_rd (v := .int .u8 n) (by simp only [R.ev, hy]; rw [Go.IntWalk.u8_in n hb]) k
theorem wps_addu8 {y z : X} {a b : Int} (hy : y.ev env = .int .u8 a) (hz : z.ev env = .int .u8 b) (hb : 0 ≤ a + b ∧ a + b ≤ 255) (k : wpOps P is (env.put d (.int .u8 (a + b))) H K) : wpOps P (⟨d, .rd (.bin .add y z), none, x⟩ :: is) env H K :=
  wps_rd (v := .int .u8 (a + b)) (by simp only [R.ev, hy, hz, binV, if_pos]; rw [Go.IntWalk.u8_in _ hb]) k
theorem wps_subu8 {y z : X} {a b : Int} (hy : y.ev env = .int .u8 a) (hz : z.ev env = .int .u8 b) (hb : 0 ≤ a - b ∧ a - b ≤ 255) (k : wpOps P is (env.put d (.int .u8 (a - b))) H K) : wpOps P (⟨d, .rd (.bin .sub y z), none, x⟩ :: is) env H K :=
  wps_rd (v := .int .u8 (a - b)) (by simp only [R.ev, hy, hz, binV, if_pos]; rw [Go.IntWalk.u8_in _ hb]) k
theorem wps_mulu8 {y z : X} {a b : Int} (hy : y.ev env = .int .u8 a) (hz : z.ev env = .int .u8 b) (hb : 0 ≤ a * b ∧ a * b ≤ 255) (k : wpOps P is (env.put d (.int .u8 (a * b))) H K) : wpOps P (⟨d, .rd (.bin .mul y z), none, x⟩ :: is) env H K :=
  wps_rd (v := .int .u8 (a * b)) (by simp only [R.ev, hy, hz, binV, if_pos]; rw [Go.IntWalk.u8_in _ hb]) k
theorem wps_tou32 {y : X} {k' : IntKind} {n : Int} (hy : y.ev env = .int k' n) (hb : 0 ≤ n ∧ n ≤ 4294967295) (k : wpOps P is (env.put d (.int .u32 n)) H K) : wpOps P (⟨d, .rd (.toInt .u32 y), none, x⟩ :: is) env H K :=
  wps_rd (v := .int .u32 n) (by simp only [R.ev, hy]; rw [Go.IntWalk.u32_in n hb]) k
theorem wps_addu32 {y z : X} {a b : Int} (hy : y.ev env = .int .u32 a) (hz : z.ev env = .int .u32 b) (hb : 0 ≤ a + b ∧ a + b ≤ 4294967295) (k : wpOps P is (env.put d (.int .u32 (a + b))) H K) : wpOps P (⟨d, .rd (.bin .add y z), none, x⟩ :: is) env H K :=
  wps_rd (v := .int .u32 (a + b)) (by simp only [R.ev, hy, hz, binV, if_pos]; rw [Go.IntWalk.u32_in _ hb]) k
theorem wps_subu32 {y z : X} {a b : Int} (hy : y.ev env = .int .u32 a) (hz : z.ev env = .int .u32 b) (hb : 0 ≤ a - b ∧ a - b ≤ 4294967295) (k : wpOps P is (env.put d (.int .u32 (a - b))) H K) : wpOps P (⟨d, .rd (.bin .sub y z), none, x⟩ :: is) env H K :=
  wps_rd (v := .int .u32 (a - b)) (by simp only [R.ev, hy, hz, binV, if_pos]; rw [Go.IntWalk.u32_in _ hb]) k
theorem wps_mulu32 {y z : X} {a b : Int} (hy : y.ev env = .int .u32 a) (hz : z.ev env = .int .u32 b) (hb : 0 ≤ a * b ∧ a * b ≤ 4294967295) (k : wpOps P is (env.put d (.int .u32 (a * b))) H K) : wpOps P (⟨d, .rd (.bin .mul y z), none, x⟩ :: is) env H K :=
  wps_rd (v := .int .u32 (a * b)) (by simp only [R.ev, hy, hz, binV, if_pos]; rw [Go.IntWalk.u32_in _ hb]) k
theorem wps_tou64 {y : X} {k' : IntKind} {n : Int} (hy : y.ev env = .int k' n) (hb : 0 ≤ n ∧ n ≤ 18446744073709551615) (k : wpOps P is (env.put d (.int .u64 n)) H K) : wpOps P (⟨d, .rd (.toInt .u64 y), none, x⟩ :: is) env H K :=
  wps_rd (v := .int .u64 n) (by simp only [R.ev, hy]; rw [Go.IntWalk.u64_in n hb]) k
theorem wps_addu64 {y z : X} {a b : Int} (hy : y.ev env = .int .u64 a) (hz : z.ev env = .int .u64 b) (hb : 0 ≤ a + b ∧ a + b ≤ 18446744073709551615) (k : wpOps P is (env.put d (.int .u64 (a + b))) H K) : wpOps P (⟨d, .rd (.bin .add y z), none, x⟩ :: is) env H K :=
  wps_rd (v := .int .u64 (a + b)) (by simp only [R.ev, hy, hz, binV, if_pos]; rw [Go.IntWalk.u64_in _ hb]) k
theorem wps_subu64 {y z : X} {a b : Int} (hy : y.ev env = .int .u64 a) (hz : z.ev env = .int .u64 b) (hb : 0 ≤ a - b ∧ a - b ≤ 18446744073709551615) (k : wpOps P is (env.put d (.int .u64 (a - b))) H K) : wpOps P (⟨d, .rd (.bin .sub y z), none, x⟩ :: is) env H K :=
  wps_rd (v := .int .u64 (a - b)) (by simp only [R.ev, hy, hz, binV, if_pos]; rw [Go.IntWalk.u64_in _ hb]) k
theorem wps_mulu64 {y z : X} {a b : Int} (hy : y.ev env = .int .u64 a) (hz : z.ev env = .int .u64 b) (hb : 0 ≤ a * b ∧ a * b ≤ 18446744073709551615) (k : wpOps P is (env.put d (.int .u64 (a * b))) H K) : wpOps P (⟨d, .rd (.bin .mul y z), none, x⟩ :: is) env H K :=
  wps_rd (v := .int .u64 (a * b)) (by simp only [R.ev, hy, hz, binV, if_pos]; rw [Go.IntWalk.u64_in _ hb]) k
end
end Go.CM

namespace Go.CM
set_option maxRecDepth 100000

abbrev Wd := BitVec 32
theorem wrap_u32 (n : Int) : IntKind.u32.wrap n = n % 4294967296 := by
  simp only [IntKind.wrap, IntKind.signed, IntKind.bits]
  simp
theorem wrap_u8 (n : Int) : IntKind.u8.wrap n = n % 256 := by
  simp only [IntKind.wrap, IntKind.signed, IntKind.bits]
  simp
theorem ofInt_wd (a : Wd) : BitVec.ofInt IntKind.u32.bits ((a.toNat : Nat) : Int) = a := by
  show BitVec.ofInt 32 _ = a
  rw [BitVec.ofInt_natCast, BitVec.ofNat_toNat, BitVec.setWidth_eq]
theorem wd_lt (a : Wd) : a.toNat < 4294967296 := a.isLt
theorem wd_add (a b : Wd) : binV .add (.int .u32 (a.toNat : Nat)) (.int .u32 (b.toNat : Nat)) = some (.int .u32 ((a + b).toNat : Nat)) := by
  show some (V.int .u32 (IntKind.u32.wrap _)) = _
  rw [wrap_u32, BitVec.toNat_add]
  congr 2
theorem wd_mul (a b : Wd) : binV .mul (.int .u32 (a.toNat : Nat)) (.int .u32 (b.toNat : Nat)) = some (.int .u32 ((a * b).toNat : Nat)) := by
  show some (V.int .u32 (IntKind.u32.wrap _)) = _
  rw [wrap_u32, BitVec.toNat_mul]
  congr 2
theorem wd_wrap (a : Wd) : IntKind.u32.wrap ((a.toNat : Nat) : Int) = ((a.toNat : Nat) : Int) := by
  have := wd_lt a
  rw [wrap_u32]; omega
theorem wd_and (a b : Wd) : binV .and (.int .u32 (a.toNat : Nat)) (.int .u32 (b.toNat : Nat)) = some (.int .u32 ((a &&& b).toNat : Nat)) := by
  show some (V.int .u32 (IntKind.u32.wrap ((BitVec.ofInt IntKind.u32.bits _ &&& BitVec.ofInt IntKind.u32.bits _).toNat : Nat))) = _
  rw [ofInt_wd, ofInt_wd]
  exact congrArg (fun n => some (V.int .u32 n)) (wd_wrap (a &&& b))
theorem wd_or (a b : Wd) : binV .or (.int .u32 (a.toNat : Nat)) (.int .u32 (b.toNat : Nat)) = some (.int .u32 ((a ||| b).toNat : Nat)) := by
  show some (V.int .u32 (IntKind.u32.wrap ((BitVec.ofInt IntKind.u32.bits _ ||| BitVec.ofInt IntKind.u32.bits _).toNat : Nat))) = _
  rw [ofInt_wd, ofInt_wd]
  exact congrArg (fun n => some (V.int .u32 n)) (wd_wrap (a ||| b))
theorem wd_xor (a b : Wd) : binV .xor (.int .u32 (a.toNat : Nat)) (.int .u32 (b.toNat : Nat)) = some (.int .u32 ((a ^^^ b).toNat : Nat)) := by
  show some (V.int .u32 (IntKind.u32.wrap ((BitVec.ofInt IntKind.u32.bits _ ^^^ BitVec.ofInt IntKind.u32.bits _).toNat : Nat))) = _
  rw [ofInt_wd, ofInt_wd]
  exact congrArg (fun n => some (V.int .u32 n)) (wd_wrap (a ^^^ b))
theorem wd_not (a : Wd) : unV .xor (.int .u32 (a.toNat : Nat)) = some (.int .u32 ((~~~ a).toNat : Nat)) := by
  show some (V.int .u32 (IntKind.u32.wrap ((((BitVec.ofInt 32 4294967295 : Wd) ^^^ (BitVec.ofInt 32 ((a.toNat : Nat) : Int))).toNat : Nat) : Int))) = _
  rw [show (BitVec.ofInt 32 4294967295 : Wd) = BitVec.allOnes 32 from by decide, show BitVec.ofInt 32 ((a.toNat : Nat) : Int) = a from ofInt_wd a, BitVec.allOnes_xor]
  exact congrArg (fun n => some (V.int .u32 n)) (wd_wrap (~~~ a))
theorem wd_shl (a : Wd) (k : IntKind) (n : Nat) (hn : n ≤ 32) : binV .shl (.int .u32 (a.toNat : Nat)) (.int k (n : Nat)) = some (.int .u32 ((a <<< n).toNat : Nat)) := by
  show (if ((n : Nat) : Int) < 0 then none else some (V.int .u32 (IntKind.u32.wrap (((a.toNat : Nat) : Int) * 2 ^ min ((n : Nat) : Int).toNat IntKind.u32.bits)))) = _
  rw [if_neg (by omega), wrap_u32, BitVec.toNat_shiftLeft, Int.toNat_natCast, Nat.min_eq_left (show n ≤ IntKind.u32.bits from hn), Nat.shiftLeft_eq]
  have : ((a.toNat : Nat) : Int) * 2 ^ n = ((a.toNat * 2 ^ n : Nat) : Int) := by rw [Int.natCast_mul, Int.natCast_pow]; rfl
  rw [this]
  rfl
theorem wd_shr (a : Wd) (k : IntKind) (n : Nat) (hn : n ≤ 32) : binV .shr (.int .u32 (a.toNat : Nat)) (.int k (n : Nat)) = some (.int .u32 ((a >>> n).toNat : Nat)) := by
  show (if ((n : Nat) : Int) < 0 then none else some (V.int .u32 (((a.toNat : Nat) : Int).fdiv (2 ^ min ((n : Nat) : Int).toNat IntKind.u32.bits)))) = _
  rw [if_neg (by omega), BitVec.toNat_ushiftRight, Int.toNat_natCast, Nat.min_eq_left (show n ≤ IntKind.u32.bits from hn), Nat.shiftRight_eq_div_pow]
  have : (2 ^ n : Int) = ((2 ^ n : Nat) : Int) := by rw [Int.natCast_pow]; rfl
  rw [this]
  exact congrArg (fun n => some (V.int .u32 n)) (Int.ofNat_fdiv _ _).symm
def wdB (c : UInt8) : Wd := BitVec.ofNat 32 c.toNat
def bWd (a : Wd) : UInt8 := UInt8.ofNat a.toNat
theorem wdB_toNat (c : UInt8) : (wdB c).toNat = c.toNat := by
  have := UInt8.toNat_lt c
  rw [wdB, BitVec.toNat_ofNat]; omega
theorem bWd_toNat (a : Wd) : (bWd a).toNat = a.toNat % 256 := by rw [bWd, UInt8.toNat_ofNat']
theorem u32_u8 (c : UInt8) : IntKind.u32.wrap ((c.toNat : Nat) : Int) = (((wdB c).toNat : Nat) : Int) := by
  have := UInt8.toNat_lt c
  rw [wrap_u32, wdB_toNat]; omega
theorem u8_u32 (a : Wd) : IntKind.u8.wrap ((a.toNat : Nat) : Int) = (((bWd a).toNat : Nat) : Int) := by
  rw [wrap_u8, bWd_toNat]; omega
section
variable {P : Program} {env : Env} {H : Heap} {K : Env → Heap → Prop} {d : Option Nat} {x : Kx} {is : List I}
theorem wps_wadd {y z : X} {a b : Wd} (hy : y.ev env = .int .u32 (a.toNat : Nat)) (hz : z.ev env = .int .u32 (b.toNat : Nat)) (k : wpOps P is (env.put d (.int .u32 ((a + b).toNat : Nat))) H K) : wpOps P (⟨d, .rd (.bin .add y z), none, x⟩ :: is) env H K := wps_rd (by simp only [R.ev, hy, hz]; exact wd_add a b) k
theorem wps_wmul {y z : X} {a b : Wd} (hy : y.ev env = .int .u32 (a.toNat : Nat)) (hz : z.ev env = .int .u32 (b.toNat : Nat)) (k : wpOps P is (env.put d (.int .u32 ((a * b).toNat : Nat))) H K) : wpOps P (⟨d, .rd (.bin .mul y z), none, x⟩ :: is) env H K := wps_rd (by simp only [R.ev, hy, hz]; exact wd_mul a b) k
theorem wps_wand {y z : X} {a b : Wd} (hy : y.ev env = .int .u32 (a.toNat : Nat)) (hz : z.ev env = .int .u32 (b.toNat : Nat)) (k : wpOps P is (env.put d (.int .u32 ((a &&& b).toNat : Nat))) H K) : wpOps P (⟨d, .rd (.bin .and y z), none, x⟩ :: is) env H K := wps_rd (by simp only [R.ev, hy, hz]; exact wd_and a b) k
theorem wps_wor {y z : X} {a b : Wd} (hy : y.ev env = .int .u32 (a.toNat : Nat)) (hz : z.ev env = .int .u32 (b.toNat : Nat)) (k : wpOps P is (env.put d (.int .u32 ((a ||| b).toNat : Nat))) H K) : wpOps P (⟨d, .rd (.bin .or y z), none, x⟩ :: is) env H K := wps_rd (by simp only [R.ev, hy, hz]; exact wd_or a b) k
theorem wps_wxor {y z : X} {a b : Wd} (hy : y.ev env = .int .u32 (a.toNat : Nat)) (hz : z.ev env = .int .u32 (b.toNat : Nat)) (k : wpOps P is (env.put d (.int .u32 ((a ^^^ b).toNat : Nat))) H K) : wpOps P (⟨d, .rd (.bin .xor y z), none, x⟩ :: is) env H K := wps_rd (by simp only [R.ev, hy, hz]; exact wd_xor a b) k
theorem wps_wnot {y : X} {a : Wd} (hy : y.ev env = .int .u32 (a.toNat : Nat)) (k : wpOps P is (env.put d (.int .u32 ((~~~ a).toNat : Nat))) H K) : wpOps P (⟨d, .rd (.un .xor y), none, x⟩ :: is) env H K := wps_rd (by simp only [R.ev, hy]; exact wd_not a) k
theorem wps_wshl {y z : X} {a : Wd} {kk : IntKind} {n : Nat} (hy : y.ev env = .int .u32 (a.toNat : Nat)) (hz : z.ev env = .int kk (n : Nat)) (hn : n ≤ 32) (k : wpOps P is (env.put d (.int .u32 ((a <<< n).toNat : Nat))) H K) : wpOps P (⟨d, .rd (.bin .shl y z), none, x⟩ :: is) env H K := wps_rd (by simp only [R.ev, hy, hz]; exact wd_shl a kk n hn) k
theorem wps_wshr {y z : X} {a : Wd} {kk : IntKind} {n : Nat} (hy : y.ev env = .int .u32 (a.toNat : Nat)) (hz : z.ev env = .int kk (n : Nat)) (hn : n ≤ 32) (k : wpOps P is (env.put d (.int .u32 ((a >>> n).toNat : Nat))) H K) : wpOps P (⟨d, .rd (.bin .shr y z), none, x⟩ :: is) env H K := wps_rd (by simp only [R.ev, hy, hz]; exact wd_shr a kk n hn) k
theorem wps_wto {y : X} {c : UInt8} (hy : y.ev env = .int .u8 (c.toNat : Nat)) (k : wpOps P is (env.put d (.int .u32 ((wdB c).toNat : Nat))) H K) : wpOps P (⟨d, .rd (.toInt .u32 y), none, x⟩ :: is) env H K := wps_rd (by simp only [R.ev, hy]; rw [u32_u8]) k
theorem wps_wtb {y : X} {a : Wd} (hy : y.ev env = .int .u32 (a.toNat : Nat)) (k : wpOps P is (env.put d (.int .u8 ((bWd a).toNat : Nat))) H K) : wpOps P (⟨d, .rd (.toInt .u8 y), none, x⟩ :: is) env H K := wps_rd (by simp only [R.ev, hy]; rw [u8_u32]) k
theorem wps_iaw {len esz : Nat} {y i : X} {id : Nat} {ki : IntKind} {n : Int} {m : Nat} (hx : y.ev env = .ptr id 0) (hi : i.ev env = .int ki n) (hm : n.toNat = m) (hb : 0 ≤ n ∧ n < (len : Int)) (k : wpOps P is (env.put d (.ptr id (m * esz))) H K) : wpOps P (⟨d, .rd (.iaddrA len esz y i), none, x⟩ :: is) env H K := by
  subst hm
  refine wps_iaa hx hi hb ?_
  rw [Nat.zero_add]
  exact k
end
theorem fl_nil {env : Env} {cs : List V} : fillV env cs [] = some cs := rfl
theorem fl_cons {env : Env} {cs vs cs' r : List V} {off sz : Nat} {y : X} {ps : List (Nat × Nat × X)} {v : V} (hx : y.ev env = v) (ht : v.isTup = false) (hc : v.cells = vs) (hn : vs.length = sz) (hb : Nat.ble (off + sz) cs.length = true) (hs : splice cs off vs = cs') (k : fillV env cs' ps = some r) : fillV env cs ((off, sz, y) :: ps) = some r := by
  subst hx hc hn hs
  show (bif _ || !(Nat.beq _ _) || !(Nat.ble _ _) then none else fillV env _ ps) = _
  rw [ht, Nat.beq_refl, hb]
  exact k
theorem wps_bld {P : Program} {env : Env} {H : Heap} {K : Env → Heap → Prop} {d : Option Nat} {x : Kx} {is : List I} {z cs : List V} {ps : List (Nat × Nat × X)} (hf : fillV env z ps = some cs) (k : wpOps P is (env.put d (.agg cs)) H K) : wpOps P (⟨d, .rd (.build z ps), none, x⟩ :: is) env H K :=
  wps_rd (by simp only [R.ev, hf]) k
theorem ts1 (i : Nat) : ((i : Int) - 1).toNat = i - 1 := by omega
theorem ts2 (i : Nat) : ((i : Int) - 2).toNat = i - 2 := by omega
theorem ts7 (i : Nat) : ((i : Int) - 7).toNat = i - 7 := by omega
theorem ts15 (i : Nat) : ((i : Int) - 15).toNat = i - 15 := by omega
theorem ts16 (i : Nat) : ((i : Int) - 16).toNat = i - 16 := by omega
end Go.CM

namespace Go.CM
set_option maxRecDepth 100000

def Red (G G' : Prop) : Prop := G' → G
structure Leaf (G : Prop) : Prop where
  out : G
theorem leaf {G : Prop} (h : G) : Leaf G := ⟨h⟩
theorem red_leaf {G : Prop} : Red G (Leaf G) := fun h => h.out
theorem red_by {A B G' : Prop} (f : A → B) (h : Red A G') : Red B G' := fun k => f (h k)

section
variable {P : Program} {env : Env} {H : Heap} {Q : Ex → Env → Heap → Prop} {L : List Ob} {K : Env → Heap → Prop} {d : Option Nat} {x : Kx} {is : List I} {G' A' B' : Prop} {N : Nat → Heap → Prop} {N2 : Nat → Nat → Heap → Prop} {M : Heap → Prop}
variable {α : Type} {enc : α → List V} {sz : Nat}

theorem r_seq {a b : C} (k : Red (C.wp P a (kSeq P b Q) env H) G') : Red (C.wp P (.seq a b) Q env H) G' := red_by (fun k => c_seq k) k
theorem r_ops {l : List I} (k : Red (wpOps P l env H (Q .normal)) G') : Red (C.wp P (.ops l) Q env H) G' := red_by (fun k => c_ops k) k
theorem r_skip  (k : Red (Q .normal env H) G') : Red (C.wp P .skip Q env H) G' := red_by (fun k => c_skip k) k
theorem r_exit {id : Nat} (k : Red (Q (.exit id) env H) G') : Red (C.wp P (.exit id) Q env H) G' := red_by (fun k => c_exit k) k
theorem r_ret  (k : Red (Q .ret env H) G') : Red (C.wp P .ret Q env H) G' := red_by (fun k => c_ret k) k
theorem r_block {id : Nat} {a : C} (k : Red (C.wp P a (kBlk id Q) env H) G') : Red (C.wp P (.block id a) Q env H) G' := red_by (fun k => c_block k) k
theorem r_nil  (k : Red (K env H) G') : Red (wpOps P [] env H K) G' := red_by (fun k => wps_nil k) k
theorem r_sn {b : C} (k : Red (C.wp P b Q env H) G') : Red (kSeq P b Q .normal env H) G' := red_by (fun k => k_seq_n k) k
theorem r_se {b : C} {j : Nat} (k : Red (Q (.exit j) env H) G') : Red (kSeq P b Q (.exit j) env H) G' := red_by (fun k => k_seq_e k) k
theorem r_sr {b : C} (k : Red (Q .ret env H) G') : Red (kSeq P b Q .ret env H) G' := red_by (fun k => k_seq_r k) k
theorem r_bn {id : Nat} (k : Red (Q .normal env H) G') : Red (kBlk id Q .normal env H) G' := red_by (fun k => k_blk_n k) k
theorem r_bx {id : Nat} (k : Red (Q .normal env H) G') : Red (kBlk id Q (.exit id) env H) G' := red_by (fun k => k_blk_x k) k
theorem r_be {id j : Nat} (h : Nat.beq j id = false) (k : Red (Q (.exit j) env H) G') : Red (kBlk id Q (.exit j) env H) G' := red_by (fun k => k_blk_e h k) k
theorem r_br {id : Nat} (k : Red (Q .ret env H) G') : Red (kBlk id Q .ret env H) G' := red_by (fun k => k_blk_r k) k
theorem r_ln {J : Env → Heap → Prop} (k : Red (J env H) G') : Red (kLoop J Q .normal env H) G' := red_by (fun k => k_loop_n k) k
theorem r_le {J : Env → Heap → Prop} {j : Nat} (k : Red (Q (.exit j) env H) G') : Red (kLoop J Q (.exit j) env H) G' := red_by (fun k => k_loop_e k) k
theorem r_lr {J : Env → Heap → Prop} (k : Red (Q .ret env H) G') : Red (kLoop J Q .ret env H) G' := red_by (fun k => k_loop_r k) k
theorem r_ct {y : X} {a b : C} (h : y.ev env = .bool true) (k : Red (C.wp P a Q env H) G') : Red (C.wp P (.cond y a b) Q env H) G' := red_by (fun k => c_cond_t h k) k
theorem r_cf {y : X} {a b : C} (h : y.ev env = .bool false) (k : Red (C.wp P b Q env H) G') : Red (C.wp P (.cond y a b) Q env H) G' := red_by (fun k => c_cond_f h k) k
theorem r_gt {o : O} {s : Nat} {b : Bool} (h : env s = .bool b) (k : Red (wpOps P (⟨d, o, none, x⟩ :: is) env H K) G') : Red (wpOps P (⟨d, o, some (s, b), x⟩ :: is) env H K) G' := red_by (fun k => wps_gt h k) k
theorem r_gf {o : O} {s : Nat} {b : Bool} (h : env s = .bool (!b)) (k : Red (wpOps P is (env.put d V.undef) H K) G') : Red (wpOps P (⟨d, o, some (s, b), x⟩ :: is) env H K) G' := red_by (fun k => wps_gf h k) k
theorem r_gu {o : O} {s : Nat} {b : Bool} (h : env s = V.undef) (k : Red (wpOps P is (env.put d V.undef) H K) G') : Red (wpOps P (⟨d, o, some (s, b), x⟩ :: is) env H K) G' := red_by (fun k => wps_gu h k) k
theorem r_rd {r : R} {v : V} (h : r.ev env H = some v) (k : Red (wpOps P is (env.put d (v)) H K) G') : Red (wpOps P (⟨d, .rd r, none, x⟩ :: is) env H K) G' := red_by (fun k => wps_rd h k) k
theorem r_rda {r : R} {l l' : List V} (h : r.ev env H = some (.agg l)) (hl : l = l') (k : Red (wpOps P is (env.put d (.agg l')) H K) G') : Red (wpOps P (⟨d, .rd r, none, x⟩ :: is) env H K) G' := red_by (fun k => wps_rda h hl k) k
theorem r_ld (hh : Has H L) {a : X} {id off : Nat} {b : Bool} {cs : List V} {v : V} (ha : a.ev env = .ptr id off) (hi : At (id, .cells b cs) L) (hv : cs[off]? = some v) (k : Red (wpOps P is (env.put d (v)) H K) G') : Red (wpOps P (⟨d, .rd (.load1 a), none, x⟩ :: is) env H K) G' := red_by (fun k => wps_ld hh ha hi hv k) k
theorem r_lda (hh : Has H L) {a : X} {id n : Nat} {b : Bool} {cs : List V} (ha : a.ev env = .ptr id 0) (hi : At (id, .cells b cs) L) (hv : cs.length = n + 1) (k : Red (wpOps P is (env.put d (.agg cs)) H K) G') : Red (wpOps P (⟨d, .rd (.loadn (n + 1) a), none, x⟩ :: is) env H K) G' := red_by (fun k => wps_lda hh ha hi hv k) k
theorem r_ldn (hh : Has H L) {a : X} {id off n : Nat} {b : Bool} {cs vs vs' : List V} (ha : a.ev env = .ptr id off) (hi : At (id, .cells b cs) L) (hv : getCells cs off (n + 1) = some vs) (hl : vs = vs') (k : Red (wpOps P is (env.put d (.agg vs')) H K) G') : Red (wpOps P (⟨d, .rd (.loadn (n + 1) a), none, x⟩ :: is) env H K) G' := red_by (fun k => wps_ldn hh ha hi hv hl k) k
theorem r_lm (hh : Has H L) {a : X} {id : Nat} {es : List (V × V)} (ha : a.ev env = .map id) (hi : At (id, .map es) L) (k : Red (wpOps P is (env.put d (.int .i64 es.length)) H K) G') : Red (wpOps P (⟨d, .rd (.lenMap a), none, x⟩ :: is) env H K) G' := red_by (fun k => wps_lenMap hh ha hi k) k
theorem r_lr1 (iα : Inhabited α) (hh : Has H L) {a : X} {id n off : Nat} {b : Bool} {l : List α} {v : V} (ha : a.ev env = .ptr id (n * sz + off)) (hi : At (id, .cells b (l.flatMap enc)) L) (hs : ∀ a, (enc a).length = sz) (hb : n < l.length) (hv : (enc (nth l n))[off]? = some v) (k : Red (wpOps P is (env.put d (v)) H K) G') : Red (wpOps P (⟨d, .rd (.load1 a), none, x⟩ :: is) env H K) G' := red_by (fun k => wps_lr hh ha hi hs hb hv k) k
theorem r_lr12 (iα : Inhabited α) (hh : Has H L) {a : X} {id n off off2 : Nat} {b : Bool} {l : List α} {v : V} (ha : a.ev env = .ptr id (n * sz + off + off2)) (hi : At (id, .cells b (l.flatMap enc)) L) (hs : ∀ a, (enc a).length = sz) (hb : n < l.length) (hv : (enc (nth l n))[off + off2]? = some v) (k : Red (wpOps P is (env.put d (v)) H K) G') : Red (wpOps P (⟨d, .rd (.load1 a), none, x⟩ :: is) env H K) G' := red_by (fun k => wps_lr hh (by rw [ha, Nat.add_assoc]) hi hs hb hv k) k
theorem r_lrn2 (iα : Inhabited α) (hh : Has H L) {a : X} {id n off off2 m : Nat} {b : Bool} {l : List α} {vs : List V} (ha : a.ev env = .ptr id (n * sz + off + off2)) (hi : At (id, .cells b (l.flatMap enc)) L) (hs : ∀ a, (enc a).length = sz) (hb : n < l.length) (hm : Nat.ble (off + off2 + (m + 1)) sz = true) (hv : ((enc (nth l n)).drop (off + off2)).take (m + 1) = vs) (k : Red (wpOps P is (env.put d (.agg vs)) H K) G') : Red (wpOps P (⟨d, .rd (.loadn (m + 1) a), none, x⟩ :: is) env H K) G' := red_by (fun k => wps_lrn hh (by rw [ha, Nat.add_assoc]) hi hs hb hm hv k) k
theorem r_lr0 (iα : Inhabited α) (hh : Has H L) {a : X} {id n : Nat} {b : Bool} {l : List α} {v : V} (ha : a.ev env = .ptr id (n * sz)) (hi : At (id, .cells b (l.flatMap enc)) L) (hs : ∀ a, (enc a).length = sz) (hb : n < l.length) (hv : (enc (nth l n))[0]? = some v) (k : Red (wpOps P is (env.put d (v)) H K) G') : Red (wpOps P (⟨d, .rd (.load1 a), none, x⟩ :: is) env H K) G' := red_by (fun k => wps_lr0 hh ha hi hs hb hv k) k
theorem r_lrn (iα : Inhabited α) (hh : Has H L) {a : X} {id n off m : Nat} {b : Bool} {l : List α} {vs : List V} (ha : a.ev env = .ptr id (n * sz + off)) (hi : At (id, .cells b (l.flatMap enc)) L) (hs : ∀ a, (enc a).length = sz) (hb : n < l.length) (hm : Nat.ble (off + (m + 1)) sz = true) (hv : ((enc (nth l n)).drop off).take (m + 1) = vs) (k : Red (wpOps P is (env.put d (.agg vs)) H K) G') : Red (wpOps P (⟨d, .rd (.loadn (m + 1) a), none, x⟩ :: is) env H K) G' := red_by (fun k => wps_lrn hh ha hi hs hb hm hv k) k
theorem r_lra (iα : Inhabited α) (hh : Has H L) {a : X} {id n m : Nat} {b : Bool} {l : List α} (ha : a.ev env = .ptr id (n * (m + 1))) (hi : At (id, .cells b (l.flatMap enc)) L) (hs : ∀ a, (enc a).length = m + 1) (hb : n < l.length) (k : Red (wpOps P is (env.put d (.agg (enc (nth l n)))) H K) G') : Red (wpOps P (⟨d, .rd (.loadn (m + 1) a), none, x⟩ :: is) env H K) G' := red_by (fun k => wps_lra hh ha hi hs hb k) k
theorem r_ia {esz : Nat} {y i : X} {id len : Nat} {ki : IntKind} {n : Int} (hx : y.ev env = .slice id 0 len esz) (hi : i.ev env = .int ki n) (hb : 0 ≤ n ∧ n < (len : Int)) (k : Red (wpOps P is (env.put d (.ptr id (n.toNat * esz))) H K) G') : Red (wpOps P (⟨d, .rd (.iaddrS esz y i), none, x⟩ :: is) env H K) G' := red_by (fun k => wps_ia hx hi hb k) k
theorem r_iac {esz : Nat} {y i : X} {id off len : Nat} {ki : IntKind} {n : Int} (hx : y.ev env = .slice id off len esz) (hi : i.ev env = .int ki n) (hb : 0 ≤ n ∧ n < (len : Int)) (k : Red (wpOps P is (env.put d (.ptr id (off + n.toNat * esz))) H K) G') : Red (wpOps P (⟨d, .rd (.iaddrS esz y i), none, x⟩ :: is) env H K) G' := red_by (fun k => wps_iac hx hi hb k) k
theorem r_iaz {esz : Nat} {y i : X} {id j len : Nat} {ki : IntKind} (hx : y.ev env = .slice id (j * esz) len esz) (hi : i.ev env = .int ki 0) (hb : 0 < len) (k : Red (wpOps P is (env.put d (.ptr id (j * esz))) H K) G') : Red (wpOps P (⟨d, .rd (.iaddrS esz y i), none, x⟩ :: is) env H K) G' := red_by (fun k => wps_iac hx hi ⟨Int.le_refl 0, by omega⟩ (by simpa using k)) k
theorem r_iaa {len esz : Nat} {y i : X} {id off : Nat} {ki : IntKind} {n : Int} (hx : y.ev env = .ptr id off) (hi : i.ev env = .int ki n) (hb : 0 ≤ n ∧ n < (len : Int)) (k : Red (wpOps P is (env.put d (.ptr id (off + n.toNat * esz))) H K) G') : Red (wpOps P (⟨d, .rd (.iaddrA len esz y i), none, x⟩ :: is) env H K) G' := red_by (fun k => wps_iaa hx hi hb k) k
theorem r_ian {esz : Nat} {y i : X} {id len n : Nat} {ki : IntKind} (hx : y.ev env = .slice id 0 len esz) (hi : i.ev env = .int ki (n : Int)) (hb : n < len) (k : Red (wpOps P is (env.put d (.ptr id (n * esz))) H K) G') : Red (wpOps P (⟨d, .rd (.iaddrS esz y i), none, x⟩ :: is) env H K) G' := red_by (fun k => wps_ian hx hi hb k) k
theorem r_is {y i : X} {s : List UInt8} {ki : IntKind} {n : Int} (hx : y.ev env = .str s) (hi : i.ev env = .int ki n) (hb : 0 ≤ n ∧ n < (s.length : Int)) (k : Red (wpOps P is (env.put d (.int .u8 (s.getD n.toNat 0).toNat)) H K) G') : Red (wpOps P (⟨d, .rd (.idxStr y i), none, x⟩ :: is) env H K) G' := red_by (fun k => wps_is hx hi hb k) k
theorem r_isw {y i : X} {s : List UInt8} {ki : IntKind} {n : Int} {m : Nat} (hx : y.ev env = .str s) (hi : i.ev env = .int ki n) (hm : n.toNat = m) (hb : 0 ≤ n ∧ n < (s.length : Int)) (k : Red (wpOps P is (env.put d (.int .u8 (s.getD m 0).toNat)) H K) G') : Red (wpOps P (⟨d, .rd (.idxStr y i), none, x⟩ :: is) env H K) G' := red_by (fun k => wps_isw hx hi hm hb k) k
theorem r_wadd {y z : X} {a b : Wd} (hy : y.ev env = .int .u32 (a.toNat : Nat)) (hz : z.ev env = .int .u32 (b.toNat : Nat)) (k : Red (wpOps P is (env.put d (.int .u32 ((a + b).toNat : Nat))) H K) G') : Red (wpOps P (⟨d, .rd (.bin .add y z), none, x⟩ :: is) env H K) G' := red_by (fun k => wps_wadd hy hz k) k
theorem r_wmul {y z : X} {a b : Wd} (hy : y.ev env = .int .u32 (a.toNat : Nat)) (hz : z.ev env = .int .u32 (b.toNat : Nat)) (k : Red (wpOps P is (env.put d (.int .u32 ((a * b).toNat : Nat))) H K) G') : Red (wpOps P (⟨d, .rd (.bin .mul y z), none, x⟩ :: is) env H K) G' := red_by (fun k => wps_wmul hy hz k) k
theorem r_wand {y z : X} {a b : Wd} (hy : y.ev env = .int .u32 (a.toNat : Nat)) (hz : z.ev env = .int .u32 (b.toNat : Nat)) (k : Red (wpOps P is (env.put d (.int .u32 ((a &&& b).toNat : Nat))) H K) G') : Red (wpOps P (⟨d, .rd (.bin .and y z), none, x⟩ :: is) env H K) G' := red_by (fun k => wps_wand hy hz k) k
theorem r_wor {y z : X} {a b : Wd} (hy : y.ev env = .int .u32 (a.toNat : Nat)) (hz : z.ev env = .int .u32 (b.toNat : Nat)) (k : Red (wpOps P is (env.put d (.int .u32 ((a ||| b).toNat : Nat))) H K) G') : Red (wpOps P (⟨d, .rd (.bin .or y z), none, x⟩ :: is) env H K) G' := red_by (fun k => wps_wor hy hz k) k
theorem r_wxor {y z : X} {a b : Wd} (hy : y.ev env = .int .u32 (a.toNat : Nat)) (hz : z.ev env = .int .u32 (b.toNat : Nat)) (k : Red (wpOps P is (env.put d (.int .u32 ((a ^^^ b).toNat : Nat))) H K) G') : Red (wpOps P (⟨d, .rd (.bin .xor y z), none, x⟩ :: is) env H K) G' := red_by (fun k => wps_wxor hy hz k) k
theorem r_bld {z cs : List V} {ps : List (Nat × Nat × X)} (hf : fillV env z ps = some cs) (k : Red (wpOps P is (env.put d (.agg cs)) H K) G') : Red (wpOps P (⟨d, .rd (.build z ps), none, x⟩ :: is) env H K) G' := red_by (fun k => wps_bld hf k) k
theorem r_wnot {y : X} {a : Wd} (hy : y.ev env = .int .u32 (a.toNat : Nat)) (k : Red (wpOps P is (env.put d (.int .u32 ((~~~ a).toNat : Nat))) H K) G') : Red (wpOps P (⟨d, .rd (.un .xor y), none, x⟩ :: is) env H K) G' := red_by (fun k => wps_wnot hy k) k
theorem r_wshl {y z : X} {a : Wd} {kk : IntKind} {n : Nat} (hy : y.ev env = .int .u32 (a.toNat : Nat)) (hz : z.ev env = .int kk (n : Nat)) (hn : n ≤ 32) (k : Red (wpOps P is (env.put d (.int .u32 ((a <<< n).toNat : Nat))) H K) G') : Red (wpOps P (⟨d, .rd (.bin .shl y z), none, x⟩ :: is) env H K) G' := red_by (fun k => wps_wshl hy hz hn k) k
theorem r_wshr {y z : X} {a : Wd} {kk : IntKind} {n : Nat} (hy : y.ev env = .int .u32 (a.toNat : Nat)) (hz : z.ev env = .int kk (n : Nat)) (hn : n ≤ 32) (k : Red (wpOps P is (env.put d (.int .u32 ((a >>> n).toNat : Nat))) H K) G') : Red (wpOps P (⟨d, .rd (.bin .shr y z), none, x⟩ :: is) env H K) G' := red_by (fun k => wps_wshr hy hz hn k) k
theorem r_wto {y : X} {c : UInt8} (hy : y.ev env = .int .u8 (c.toNat : Nat)) (k : Red (wpOps P is (env.put d (.int .u32 ((wdB c).toNat : Nat))) H K) G') : Red (wpOps P (⟨d, .rd (.toInt .u32 y), none, x⟩ :: is) env H K) G' := red_by (fun k => wps_wto hy k) k
theorem r_wtb {y : X} {a : Wd} (hy : y.ev env = .int .u32 (a.toNat : Nat)) (k : Red (wpOps P is (env.put d (.int .u8 ((bWd a).toNat : Nat))) H K) G') : Red (wpOps P (⟨d, .rd (.toInt .u8 y), none, x⟩ :: is) env H K) G' := red_by (fun k => wps_wtb hy k) k
theorem r_iaw {len esz : Nat} {y i : X} {id : Nat} {ki : IntKind} {n : Int} {m : Nat} (hx : y.ev env = .ptr id 0) (hi : i.ev env = .int ki n) (hm : n.toNat = m) (hb : 0 ≤ n ∧ n < (len : Int)) (k : Red (wpOps P is (env.put d (.ptr id (m * esz))) H K) G') : Red (wpOps P (⟨d, .rd (.iaddrA len esz y i), none, x⟩ :: is) env H K) G' := red_by (fun k => wps_iaw hx hi hm hb k) k
theorem r_toi32 {y : X} {k' : IntKind} {n : Int} (hy : y.ev env = .int k' n) (hb : -2147483648 ≤ n ∧ n ≤ 2147483647) (k : Red (wpOps P is (env.put d (.int .i32 n)) H K) G') : Red (wpOps P (⟨d, .rd (.toInt .i32 y), none, x⟩ :: is) env H K) G' := red_by (fun k => wps_toi32 hy hb k) k
theorem r_addi32 {y z : X} {a b : Int} (hy : y.ev env = .int .i32 a) (hz : z.ev env = .int .i32 b) (hb : -2147483648 ≤ a + b ∧ a + b ≤ 2147483647) (k : Red (wpOps P is (env.put d (.int .i32 (a + b))) H K) G') : Red (wpOps P (⟨d, .rd (.bin .add y z), none, x⟩ :: is) env H K) G' := red_by (fun k => wps_addi32 hy hz hb k) k
theorem r_subi32 {y z : X} {a b : Int} (hy : y.ev env = .int .i32 a) (hz : z.ev env = .int .i32 b) (hb : -2147483648 ≤ a - b ∧ a - b ≤ 2147483647) (k : Red (wpOps P is (env.put d (.int .i32 (a - b))) H K) G') : Red (wpOps P (⟨d, .rd (.bin .sub y z), none, x⟩ :: is) env H K) G' := red_by (fun k => wps_subi32 hy hz hb k) k
theorem r_muli32 {y z : X} {a b : Int} (hy : y.ev env = .int .i32 a) (hz : z.ev env = .int .i32 b) (hb : -2147483648 ≤ a * b ∧ a * b ≤ 2147483647) (k : Red (wpOps P is (env.put d (.int .i32 (a * b))) H K) G') : Red (wpOps P (⟨d, .rd (.bin .mul y z), none, x⟩ :: is) env H K) G' := red_by (fun k => wps_muli32 hy hz hb k) k
theorem r_toi64 {y : X} {k' : IntKind} {n : Int} (hy : y.ev env = .int k' n) (hb : -9223372036854775808 ≤ n ∧ n ≤ 9223372036854775807) (k : Red (wpOps P is (env.put d (.int .i64 n)) H K) G') : Red (wpOps P (⟨d, .rd (.toInt .i64 y), none, x⟩ :: is) env H K) G' := red_by (fun k => wps_toi64 hy hb k) k
theorem r_tou8 {y : X} {k' : IntKind} {n : Int} (hy : y.ev env = .int k' n) (hb : 0 ≤ n ∧ n ≤ 255) (k : Red (wpOps P is (env.put d (.int .u8 n)) H K) G') : Red (wpOps P (⟨d, .rd (.toInt .u8 y), none, x⟩ :: is) env H K) G' := red_by (fun k => wps_tou8 hy hb k) k
theorem r_addu8 {y z : X} {a b : Int} (hy : y.ev env = .int .u8 a) (hz : z.ev env = .int .u8 b) (hb : 0 ≤ a + b ∧ a + b ≤ 255) (k : Red (wpOps P is (env.put d (.int .u8 (a + b))) H K) G') : Red (wpOps P (⟨d, .rd (.bin .add y z), none, x⟩ :: is) env H K) G' := red_by (fun k => wps_addu8 hy hz hb k) k
theorem r_subu8 {y z : X} {a b : Int} (hy : y.ev env = .int .u8 a) (hz : z.ev env = .int .u8 b) (hb : 0 ≤ a - b ∧ a - b ≤ 255) (k : Red (wpOps P is (env.put d (.int .u8 (a - b))) H K) G') : Red (wpOps P (⟨d, .rd (.bin .sub y z), none, x⟩ :: is) env H K) G' := red_by (fun k => wps_subu8 hy hz hb k) k
theorem r_mulu8 {y z : X} {a b : Int} (hy : y.ev env = .int .u8 a) (hz : z.ev env = .int .u8 b) (hb : 0 ≤ a * b ∧ a * b ≤ 255) (k : Red (wpOps P is (env.put d (.int .u8 (a * b))) H K) G') : Red (wpOps P (⟨d, .rd (.bin .mul y z), none, x⟩ :: is) env H K) G' := red_by (fun k => wps_mulu8 hy hz hb k) k
theorem r_tou32 {y : X} {k' : IntKind} {n : Int} (hy : y.ev env = .int k' n) (hb : 0 ≤ n ∧ n ≤ 4294967295) (k : Red (wpOps P is (env.put d (.int .u32 n)) H K) G') : Red (wpOps P (⟨d, .rd (.toInt .u32 y), none, x⟩ :: is) env H K) G' := red_by (fun k => wps_tou32 hy hb k) k
theorem r_addu32 {y z : X} {a b : Int} (hy : y.ev env = .int .u32 a) (hz : z.ev env = .int .u32 b) (hb : 0 ≤ a + b ∧ a + b ≤ 4294967295) (k : Red (wpOps P is (env.put d (.int .u32 (a + b))) H K) G') : Red (wpOps P (⟨d, .rd (.bin .add y z), none, x⟩ :: is) env H K) G' := red_by (fun k => wps_addu32 hy hz hb k) k
theorem r_subu32 {y z : X} {a b : Int} (hy : y.ev env = .int .u32 a) (hz : z.ev env = .int .u32 b) (hb : 0 ≤ a - b ∧ a - b ≤ 4294967295) (k : Red (wpOps P is (env.put d (.int .u32 (a - b))) H K) G') : Red (wpOps P (⟨d, .rd (.bin .sub y z), none, x⟩ :: is) env H K) G' := red_by (fun k => wps_subu32 hy hz hb k) k
theorem r_mulu32 {y z : X} {a b : Int} (hy : y.ev env = .int .u32 a) (hz : z.ev env = .int .u32 b) (hb : 0 ≤ a * b ∧ a * b ≤ 4294967295) (k : Red (wpOps P is (env.put d (.int .u32 (a * b))) H K) G') : Red (wpOps P (⟨d, .rd (.bin .mul y z), none, x⟩ :: is) env H K) G' := red_by (fun k => wps_mulu32 hy hz hb k) k
theorem r_tou64 {y : X} {k' : IntKind} {n : Int} (hy : y.ev env = .int k' n) (hb : 0 ≤ n ∧ n ≤ 18446744073709551615) (k : Red (wpOps P is (env.put d (.int .u64 n)) H K) G') : Red (wpOps P (⟨d, .rd (.toInt .u64 y), none, x⟩ :: is) env H K) G' := red_by (fun k => wps_tou64 hy hb k) k
theorem r_addu64 {y z : X} {a b : Int} (hy : y.ev env = .int .u64 a) (hz : z.ev env = .int .u64 b) (hb : 0 ≤ a + b ∧ a + b ≤ 18446744073709551615) (k : Red (wpOps P is (env.put d (.int .u64 (a + b))) H K) G') : Red (wpOps P (⟨d, .rd (.bin .add y z), none, x⟩ :: is) env H K) G' := red_by (fun k => wps_addu64 hy hz hb k) k
theorem r_subu64 {y z : X} {a b : Int} (hy : y.ev env = .int .u64 a) (hz : z.ev env = .int .u64 b) (hb : 0 ≤ a - b ∧ a - b ≤ 18446744073709551615) (k : Red (wpOps P is (env.put d (.int .u64 (a - b))) H K) G') : Red (wpOps P (⟨d, .rd (.bin .sub y z), none, x⟩ :: is) env H K) G' := red_by (fun k => wps_subu64 hy hz hb k) k
theorem r_mulu64 {y z : X} {a b : Int} (hy : y.ev env = .int .u64 a) (hz : z.ev env = .int .u64 b) (hb : 0 ≤ a * b ∧ a * b ≤ 18446744073709551615) (k : Red (wpOps P is (env.put d (.int .u64 (a * b))) H K) G') : Red (wpOps P (⟨d, .rd (.bin .mul y z), none, x⟩ :: is) env H K) G' := red_by (fun k => wps_mulu64 hy hz hb k) k
theorem r_add {y z : X} {a b : Int} (hy : y.ev env = .int .i64 a) (hz : z.ev env = .int .i64 b) (hb : -9223372036854775808 ≤ a + b ∧ a + b ≤ 9223372036854775807) (k : Red (wpOps P is (env.put d (.int .i64 (a + b))) H K) G') : Red (wpOps P (⟨d, .rd (.bin .add y z), none, x⟩ :: is) env H K) G' := red_by (fun k => wps_add hy hz hb k) k
theorem r_sub {y z : X} {a b : Int} (hy : y.ev env = .int .i64 a) (hz : z.ev env = .int .i64 b) (hb : -9223372036854775808 ≤ a - b ∧ a - b ≤ 9223372036854775807) (k : Red (wpOps P is (env.put d (.int .i64 (a - b))) H K) G') : Red (wpOps P (⟨d, .rd (.bin .sub y z), none, x⟩ :: is) env H K) G' := red_by (fun k => wps_sub hy hz hb k) k
theorem r_mul {y z : X} {a b : Int} (hy : y.ev env = .int .i64 a) (hz : z.ev env = .int .i64 b) (hb : -9223372036854775808 ≤ a * b ∧ a * b ≤ 9223372036854775807) (k : Red (wpOps P is (env.put d (.int .i64 (a * b))) H K) G') : Red (wpOps P (⟨d, .rd (.bin .mul y z), none, x⟩ :: is) env H K) G' := red_by (fun k => wps_mul hy hz hb k) k
theorem r_quo {y z : X} {a b : Int} (hy : y.ev env = .int .i64 a) (hz : z.ev env = .int .i64 b) (hb : 0 ≤ a ∧ a ≤ 9223372036854775807 ∧ 0 < b) (k : Red (wpOps P is (env.put d (.int .i64 (a / b))) H K) G') : Red (wpOps P (⟨d, .rd (.bin .quo y z), none, x⟩ :: is) env H K) G' := red_by (fun k => wps_quo hy hz hb k) k
theorem r_rem {y z : X} {k' : IntKind} {a b : Int} (hy : y.ev env = .int k' a) (hz : z.ev env = .int k' b) (hb : 0 ≤ a ∧ 0 < b) (k : Red (wpOps P is (env.put d (.int k' (a % b))) H K) G') : Red (wpOps P (⟨d, .rd (.bin .rem y z), none, x⟩ :: is) env H K) G' := red_by (fun k => wps_rem hy hz hb k) k
theorem r_eq {c : EqC} {y z : X} {b : Bool} (h : eqV c (y.ev env) (z.ev env) = some b) (k : Red (wpOps P is (env.put d (.bool b)) H K) G') : Red (wpOps P (⟨d, .rd (.eq c false y z), none, x⟩ :: is) env H K) G' := red_by (fun k => wps_eq h k) k
theorem r_ne {c : EqC} {y z : X} {b : Bool} (h : eqV c (y.ev env) (z.ev env) = some b) (k : Red (wpOps P is (env.put d (.bool (!b))) H K) G') : Red (wpOps P (⟨d, .rd (.eq c true y z), none, x⟩ :: is) env H K) G' := red_by (fun k => wps_ne h k) k
theorem r_cs00 {y : X} {s : List UInt8} (hx : y.ev env = .str s) (k : Red (wpOps P is (env.put d (.str s)) H K) G') : Red (wpOps P (⟨d, .rd (.cutStr y none none), none, x⟩ :: is) env H K) G' := red_by (fun k => wps_cs00 hx k) k
theorem r_cs01 {y h : X} {s : List UInt8} {kh : IntKind} {n : Int} (hx : y.ev env = .str s) (hi : h.ev env = .int kh n) (hb : 0 ≤ n ∧ n ≤ (s.length : Int)) (k : Red (wpOps P is (env.put d (.str (s.take n.toNat))) H K) G') : Red (wpOps P (⟨d, .rd (.cutStr y none (some h)), none, x⟩ :: is) env H K) G' := red_by (fun k => wps_cs01 hx hi hb k) k
theorem r_cs10 {y l : X} {s : List UInt8} {kl : IntKind} {n : Int} (hx : y.ev env = .str s) (hl : l.ev env = .int kl n) (hb : 0 ≤ n ∧ n ≤ (s.length : Int)) (k : Red (wpOps P is (env.put d (.str (s.drop n.toNat))) H K) G') : Red (wpOps P (⟨d, .rd (.cutStr y (some l) none), none, x⟩ :: is) env H K) G' := red_by (fun k => wps_cs10 hx hl hb k) k
theorem r_cs11 {y l h : X} {s : List UInt8} {kl kh : IntKind} {n m : Int} (hx : y.ev env = .str s) (hl : l.ev env = .int kl n) (hi : h.ev env = .int kh m) (hb : 0 ≤ n ∧ n ≤ m ∧ m ≤ (s.length : Int)) (k : Red (wpOps P is (env.put d (.str ((s.take m.toNat).drop n.toNat))) H K) G') : Red (wpOps P (⟨d, .rd (.cutStr y (some l) (some h)), none, x⟩ :: is) env H K) G' := red_by (fun k => wps_cs11 hx hl hi hb k) k
theorem r_cl00 {y : X} {id off len esz : Nat} (hx : y.ev env = .slice id off len esz) (k : Red (wpOps P is (env.put d (.slice id off len esz)) H K) G') : Red (wpOps P (⟨d, .rd (.cutSl esz y none none), none, x⟩ :: is) env H K) G' := red_by (fun k => wps_cl00 hx k) k
theorem r_cl01 {y h : X} {id off len esz : Nat} {kh : IntKind} {n : Int} (hx : y.ev env = .slice id off len esz) (hi : h.ev env = .int kh n) (hb : 0 ≤ n ∧ n ≤ (len : Int)) (k : Red (wpOps P is (env.put d (.slice id off n.toNat esz)) H K) G') : Red (wpOps P (⟨d, .rd (.cutSl esz y none (some h)), none, x⟩ :: is) env H K) G' := red_by (fun k => wps_cl01 hx hi hb k) k
theorem r_cl10 {y l : X} {id off len esz : Nat} {kl : IntKind} {n : Int} (hx : y.ev env = .slice id off len esz) (hl : l.ev env = .int kl n) (hb : 0 ≤ n ∧ n ≤ (len : Int)) (k : Red (wpOps P is (env.put d (.slice id (off + n.toNat * esz) (len - n.toNat) esz)) H K) G') : Red (wpOps P (⟨d, .rd (.cutSl esz y (some l) none), none, x⟩ :: is) env H K) G' := red_by (fun k => wps_cl10 hx hl hb k) k
theorem r_cl11 {y l h : X} {id off len esz : Nat} {kl kh : IntKind} {n m : Int} (hx : y.ev env = .slice id off len esz) (hl : l.ev env = .int kl n) (hi : h.ev env = .int kh m) (hb : 0 ≤ n ∧ n ≤ m ∧ m ≤ (len : Int)) (k : Red (wpOps P is (env.put d (.slice id (off + n.toNat * esz) (m.toNat - n.toNat) esz)) H K) G') : Red (wpOps P (⟨d, .rd (.cutSl esz y (some l) (some h)), none, x⟩ :: is) env H K) G' := red_by (fun k => wps_cl11 hx hl hi hb k) k
theorem r_alloc (hh : Has H L) {z : List V} (k : ∀ id H', Has H' ((id, .cells true z) :: L) → Red (wpOps P is (env.put d (.ptr id 0)) H' K) (N id H')) : Red (wpOps P (⟨d, .ef (.alloc z), none, x⟩ :: is) env H K) (∀ id H', Has H' ((id, .cells true z) :: L) → N id H') := fun g => wps_alloc hh fun id H' h => k id H' h (g id H' h)
theorem r_allocT (hh : Has H L) {t : Nat} {z : List V} (k : ∀ id H', Has H' ((id, .cells true z) :: L) → Red (wpOps P is (env.put d (.ty t z.length id (.ptr id 0))) H' K) (N id H')) : Red (wpOps P (⟨d, .ef (.allocT t z), none, x⟩ :: is) env H K) (∀ id H', Has H' ((id, .cells true z) :: L) → N id H') := fun g => wps_allocT hh fun id H' h => k id H' h (g id H' h)
theorem r_rangeS (hh : Has H L) {y : X} {s : List UInt8} (hy : y.ev env = .str s) (k : ∀ id H', Has H' ((id, .siter s 0) :: L) → Red (wpOps P is (env.put d (.ptr id 0)) H' K) (N id H')) : Red (wpOps P (⟨d, .ef (.rangeS y), none, x⟩ :: is) env H K) (∀ id H', Has H' ((id, .siter s 0) :: L) → N id H') := fun g => wps_rangeS hh hy fun id H' h => k id H' h (g id H' h)
theorem r_s2b (hh : Has H L) {y : X} {s : List UInt8} (hy : y.ev env = .str s) (k : ∀ id H', Has H' ((id, .cells true (s.flatMap byteC)) :: L) → Red (wpOps P is (env.put d (.slice id 0 s.length 1)) H' K) (N id H')) : Red (wpOps P (⟨d, .ef (.s2b y), none, x⟩ :: is) env H K) (∀ id H', Has H' ((id, .cells true (s.flatMap byteC)) :: L) → N id H') := fun g => wps_s2b hh hy fun id H' h => k id H' h (g id H' h)
theorem r_unt {e a b : Nat} {y z : X} {g : Option (Nat × Bool)} (k : Red (wpOps P (⟨d, .ef (.app a b y z), g, x⟩ :: is) env H K) G') : Red (wpOps P (⟨d, .ef (.appT e a b y z), g, x⟩ :: is) env H K) G' := red_by (fun k => wps_unt k) k
theorem r_unt2 {i : I} {e a b : Nat} {y z : X} {g : Option (Nat × Bool)} (k : Red (wpOps P (i :: ⟨d, .ef (.app a b y z), g, x⟩ :: is) env H K) G') : Red (wpOps P (i :: ⟨d, .ef (.appT e a b y z), g, x⟩ :: is) env H K) G' := red_by (fun k => wps_unt2 k) k
theorem r_b2s (hh : Has H L) {y : X} {id : Nat} {b : Bool} {l : List UInt8} (hy : y.ev env = .slice id 0 l.length 1) (hi : At (id, .cells b (l.flatMap byteC)) L) (k : Red (wpOps P is (env.put d (.str l)) H K) G') : Red (wpOps P (⟨d, .rd (.b2s y), none, x⟩ :: is) env H K) G' := red_by (fun k => wps_b2s hh hy hi k) k
theorem r_box (hh : Has H L) {y : X} {v : V} (hy : y.ev env = v) (ht : v.isTup = false) {cs : List V} (hc : v.cells = cs) (k : ∀ id H', Has H' ((id, .cells true cs) :: L) → Red (wpOps P is (env.put d (.ptr id 0)) H' K) (N id H')) : Red (wpOps P (⟨d, .ef (.box y), none, x⟩ :: is) env H K) (∀ id H', Has H' ((id, .cells true cs) :: L) → N id H') := fun g => wps_box hh hy ht hc fun id H' h => k id H' h (g id H' h)
theorem r_lit1 (hh : Has H L) {esz sz : Nat} {z cs : List V} {y : X} {v : V} (hy : y.ev env = v) (ht : v.isTup = false) (hc : v.cells = cs) (hn : cs.length = sz) (hz : z.length = sz) (k : ∀ id H', Has H' ((id, .cells true cs) :: L) → Red (wpOps P is (env.put d (.slice id 0 1 esz)) H' K) (N id H')) : Red (wpOps P (⟨d, .ef (.lit esz 1 z [(0, sz, y)]), none, x⟩ :: is) env H K) (∀ id H', Has H' ((id, .cells true cs) :: L) → N id H') := fun g => wps_lit1 hh hy ht hc hn hz fun id H' h => k id H' h (g id H' h)
theorem r_lit (hh : Has H L) {esz len : Nat} {z cs cs' : List V} {ps : List (Nat × Nat × X)} (hf : fillV env z ps = some cs) (hl : cs = cs') (k : ∀ id H', Has H' ((id, .cells true cs') :: L) → Red (wpOps P is (env.put d (.slice id 0 len esz)) H' K) (N id H')) : Red (wpOps P (⟨d, .ef (.lit esz len z ps), none, x⟩ :: is) env H K) (∀ id H', Has H' ((id, .cells true cs') :: L) → N id H') := fun g => wps_lit hh hf hl fun id H' h => k id H' h (g id H' h)
theorem r_mkMap (hh : Has H L)  (k : ∀ id H', Has H' ((id, .map []) :: L) → Red (wpOps P is (env.put d (.map id)) H' K) (N id H')) : Red (wpOps P (⟨d, .ef .mkMap, none, x⟩ :: is) env H K) (∀ id H', Has H' ((id, .map []) :: L) → N id H') := fun g => wps_mkMap hh fun id H' h => k id H' h (g id H' h)
theorem r_store (hh : Has H L) {n : Nat} {a y : X} {id off : Nat} {cs cs' vs : List V} {v : V} {L' : List Ob} (ha : a.ev env = .ptr id off) (hy : y.ev env = v) (ht : v.isTup = false) (hc : v.cells = vs) (hn : vs.length = n + 1) (_hA : At (id, .cells true cs) L) (hb : Nat.ble (off + (n + 1)) cs.length = true) (hs : splice cs off vs = cs') (hu : Upd (id, .cells true cs) [(id, .cells true cs')] L L') (k : ∀ H', Has H' L' → Red (wpOps P is (env.put d V.undef) H' K) (M H')) : Red (wpOps P (⟨d, .ef (.store (n + 1) a y), none, .no⟩ :: is) env H K) (∀ H', Has H' L' → M H') := fun g => wps_store hh ha hy ht hc hn hu (Nat.le_of_ble_eq_true hb) hs fun H' h => k H' h (g H' h)
theorem r_srow (hh : Has H L) {a y : X} {id n m : Nat} {l : List α} {u : α} {v : V} {L' : List Ob} (ha : a.ev env = .ptr id (n * (m + 1))) (_hA : At (id, .cells true (l.flatMap enc)) L) (hy : y.ev env = v) (ht : v.isTup = false) (hc : v.cells = enc u) (hs : ∀ a, (enc a).length = m + 1) (hb : n < l.length) (hu : Upd (id, .cells true (l.flatMap enc)) [(id, .cells true ((l.set n u).flatMap enc))] L L') (k : ∀ H', Has H' L' → Red (wpOps P is (env.put d V.undef) H' K) (M H')) : Red (wpOps P (⟨d, .ef (.store (m + 1) a y), none, .no⟩ :: is) env H K) (∀ H', Has H' L' → M H') := fun g => wps_sr hh ha hy ht hc hs hb hu fun H' h => k H' h (g H' h)
def Hint {α : Type} (_ : α → List V) (_ : α) : Prop := True
theorem r_push (hh : Has H L) {ya : Nat} {y a : X} {id by_ m : Nat} {z : List V} {l : List α} {u : α} {v : V} {fa : Kx} {L' : Nat → List Ob} (ha : a.ev (env.put (some ya) (.slice 0 0 0 0)) = .slice id 0 l.length (m + 1)) (_hA : At (id, .cells true (l.flatMap enc)) L) (hn : ∀ v, a.ev (env.put (some ya) v) = a.ev (env.put (some ya) (.slice 0 0 0 0))) (hy : y.ev env = v) (ht : v.isTup = false) (hc : v.cells = enc u) (hs : ∀ a, (enc a).length = m + 1) (hz : z.length = m + 1) (hu : ∀ id', Upd (id, .cells true (l.flatMap enc)) [(id', .cells true ((l ++ [u]).flatMap enc))] L (L' id')) (hb : (l.length + 1) * by_ ≤ 140737488355328) (k : ∀ t id' H', Has H' (L' id') → Red (wpOps P is ((env.put (some ya) (.slice t 0 1 (m + 1))).put d (.slice id' 0 (l ++ [u]).length (m + 1))) H' K) (N2 t id' H')) : Red (wpOps P (⟨some ya, .ef (.lit (m + 1) 1 z [(0, m + 1, y)]), none, fa⟩ :: ⟨d, .ef (.app (m + 1) by_ a (.t ya)), none, .no⟩ :: is) env H K) (∀ t id' H', Has H' (L' id') → N2 t id' H') := fun g => wps_push hh ha hn hy ht hc hs hz hu hb fun t id' H' h => k t id' H' h (g t id' H' h)
theorem r_pushH (hh : Has H L) {ya : Nat} {y a : X} {id by_ m : Nat} {z : List V} {l : List α} {u : α} {v : V} {fa : Kx} {L' : Nat → List Ob} (ha : a.ev (env.put (some ya) (.slice 0 0 0 0)) = .slice id 0 l.length (m + 1)) (_hi : Hint enc u) (_hA : At (id, .cells true (l.flatMap enc)) L) (hn : ∀ v, a.ev (env.put (some ya) v) = a.ev (env.put (some ya) (.slice 0 0 0 0))) (hy : y.ev env = v) (ht : v.isTup = false) (hc : v.cells = enc u) (hs : ∀ a, (enc a).length = m + 1) (hz : z.length = m + 1) (hu : ∀ id', Upd (id, .cells true (l.flatMap enc)) [(id', .cells true ((l ++ [u]).flatMap enc))] L (L' id')) (hb : (l.length + 1) * by_ ≤ 140737488355328) (k : ∀ t id' H', Has H' (L' id') → Red (wpOps P is ((env.put (some ya) (.slice t 0 1 (m + 1))).put d (.slice id' 0 (l ++ [u]).length (m + 1))) H' K) (N2 t id' H')) : Red (wpOps P (⟨some ya, .ef (.lit (m + 1) 1 z [(0, m + 1, y)]), none, fa⟩ :: ⟨d, .ef (.app (m + 1) by_ a (.t ya)), none, .no⟩ :: is) env H K) (∀ t id' H', Has H' (L' id') → N2 t id' H') := fun g => wps_push hh ha hn hy ht hc hs hz hu hb fun t id' H' h => k t id' H' h (g t id' H' h)
theorem r_cd {y : X} {a b : C} {p : Prop} {_ : Decidable p} (h : y.ev env = .bool (decide p)) (ht : p → Red (C.wp P a Q env H) A') (hf : ¬p → Red (C.wp P b Q env H) B') : Red (C.wp P (.cond y a b) Q env H) ((p → A') ∧ (¬p → B')) := fun g => c_cond_d h (fun c => ht c (g.1 c)) (fun c => hf c (g.2 c))
theorem r_gd {o : O} {s : Nat} {b : Bool} {p : Prop} {_ : Decidable p} (h : env s = .bool (decide p)) (ht : p → Red (wpOps P (⟨d, o, some (s, b), x⟩ :: is) (env.put (some s) (.bool true)) H K) A') (hf : ¬p → Red (wpOps P (⟨d, o, some (s, b), x⟩ :: is) (env.put (some s) (.bool false)) H K) B') : Red (wpOps P (⟨d, o, some (s, b), x⟩ :: is) env H K) ((p → A') ∧ (¬p → B')) := fun g => wps_gs_d h (fun c => ht c (g.1 c)) (fun c => hf c (g.2 c))
theorem r_pd {s : Nat} {a b : X} {p : Prop} {_ : Decidable p} (h : env s = .bool (decide p)) (ht : p → Red (wpOps P (⟨d, .rd (.pick (.t s) a b), none, x⟩ :: is) (env.put (some s) (.bool true)) H K) A') (hf : ¬p → Red (wpOps P (⟨d, .rd (.pick (.t s) a b), none, x⟩ :: is) (env.put (some s) (.bool false)) H K) B') : Red (wpOps P (⟨d, .rd (.pick (.t s) a b), none, x⟩ :: is) env H K) ((p → A') ∧ (¬p → B')) := fun g => wps_pk_d h (fun c => ht c (g.1 c)) (fun c => hf c (g.2 c))
theorem r_cnd {y : X} {a b : C} {p : Prop} {_ : Decidable p} (h : y.ev env = .bool (!decide p)) (ht : ¬p → Red (C.wp P a Q env H) A') (hf : p → Red (C.wp P b Q env H) B') : Red (C.wp P (.cond y a b) Q env H) ((¬p → A') ∧ (p → B')) := fun g => c_cond_nd h (fun c => ht c (g.1 c)) (fun c => hf c (g.2 c))
theorem r_gnd {o : O} {s : Nat} {b : Bool} {p : Prop} {_ : Decidable p} (h : env s = .bool (!decide p)) (ht : ¬p → Red (wpOps P (⟨d, o, some (s, b), x⟩ :: is) (env.put (some s) (.bool true)) H K) A') (hf : p → Red (wpOps P (⟨d, o, some (s, b), x⟩ :: is) (env.put (some s) (.bool false)) H K) B') : Red (wpOps P (⟨d, o, some (s, b), x⟩ :: is) env H K) ((¬p → A') ∧ (p → B')) := fun g => wps_gs_nd h (fun c => ht c (g.1 c)) (fun c => hf c (g.2 c))
theorem r_pnd {s : Nat} {a b : X} {p : Prop} {_ : Decidable p} (h : env s = .bool (!decide p)) (ht : ¬p → Red (wpOps P (⟨d, .rd (.pick (.t s) a b), none, x⟩ :: is) (env.put (some s) (.bool true)) H K) A') (hf : p → Red (wpOps P (⟨d, .rd (.pick (.t s) a b), none, x⟩ :: is) (env.put (some s) (.bool false)) H K) B') : Red (wpOps P (⟨d, .rd (.pick (.t s) a b), none, x⟩ :: is) env H K) ((¬p → A') ∧ (p → B')) := fun g => wps_pk_nd h (fun c => ht c (g.1 c)) (fun c => hf c (g.2 c))
theorem r_ce {y : X} {a b : C} {u v : Int} (h : y.ev env = .bool (u == v)) (ht : u = v → Red (C.wp P a Q env H) A') (hf : u ≠ v → Red (C.wp P b Q env H) B') : Red (C.wp P (.cond y a b) Q env H) ((u = v → A') ∧ (u ≠ v → B')) := fun g => c_cond_e h (fun c => ht c (g.1 c)) (fun c => hf c (g.2 c))
theorem r_ge {o : O} {s : Nat} {b : Bool} {u v : Int} (h : env s = .bool (u == v)) (ht : u = v → Red (wpOps P (⟨d, o, some (s, b), x⟩ :: is) (env.put (some s) (.bool true)) H K) A') (hf : u ≠ v → Red (wpOps P (⟨d, o, some (s, b), x⟩ :: is) (env.put (some s) (.bool false)) H K) B') : Red (wpOps P (⟨d, o, some (s, b), x⟩ :: is) env H K) ((u = v → A') ∧ (u ≠ v → B')) := fun g => wps_gs_e h (fun c => ht c (g.1 c)) (fun c => hf c (g.2 c))
theorem r_pe {s : Nat} {a b : X} {u v : Int} (h : env s = .bool (u == v)) (ht : u = v → Red (wpOps P (⟨d, .rd (.pick (.t s) a b), none, x⟩ :: is) (env.put (some s) (.bool true)) H K) A') (hf : u ≠ v → Red (wpOps P (⟨d, .rd (.pick (.t s) a b), none, x⟩ :: is) (env.put (some s) (.bool false)) H K) B') : Red (wpOps P (⟨d, .rd (.pick (.t s) a b), none, x⟩ :: is) env H K) ((u = v → A') ∧ (u ≠ v → B')) := fun g => wps_pk_e h (fun c => ht c (g.1 c)) (fun c => hf c (g.2 c))
theorem r_cn {y : X} {a b : C} {u v : Int} (h : y.ev env = .bool (u != v)) (ht : u ≠ v → Red (C.wp P a Q env H) A') (hf : u = v → Red (C.wp P b Q env H) B') : Red (C.wp P (.cond y a b) Q env H) ((u ≠ v → A') ∧ (u = v → B')) := fun g => c_cond_n h (fun c => ht c (g.1 c)) (fun c => hf c (g.2 c))
theorem r_gn {o : O} {s : Nat} {b : Bool} {u v : Int} (h : env s = .bool (u != v)) (ht : u ≠ v → Red (wpOps P (⟨d, o, some (s, b), x⟩ :: is) (env.put (some s) (.bool true)) H K) A') (hf : u = v → Red (wpOps P (⟨d, o, some (s, b), x⟩ :: is) (env.put (some s) (.bool false)) H K) B') : Red (wpOps P (⟨d, o, some (s, b), x⟩ :: is) env H K) ((u ≠ v → A') ∧ (u = v → B')) := fun g => wps_gs_n h (fun c => ht c (g.1 c)) (fun c => hf c (g.2 c))
theorem r_pn {s : Nat} {a b : X} {u v : Int} (h : env s = .bool (u != v)) (ht : u ≠ v → Red (wpOps P (⟨d, .rd (.pick (.t s) a b), none, x⟩ :: is) (env.put (some s) (.bool true)) H K) A') (hf : u = v → Red (wpOps P (⟨d, .rd (.pick (.t s) a b), none, x⟩ :: is) (env.put (some s) (.bool false)) H K) B') : Red (wpOps P (⟨d, .rd (.pick (.t s) a b), none, x⟩ :: is) env H K) ((u ≠ v → A') ∧ (u = v → B')) := fun g => wps_pk_n h (fun c => ht c (g.1 c)) (fun c => hf c (g.2 c))
theorem r_cs {y : X} {a b : C} {u v : List UInt8} (h : y.ev env = .bool (u == v)) (ht : u = v → Red (C.wp P a Q env H) A') (hf : u ≠ v → Red (C.wp P b Q env H) B') : Red (C.wp P (.cond y a b) Q env H) ((u = v → A') ∧ (u ≠ v → B')) := fun g => c_cond_s h (fun c => ht c (g.1 c)) (fun c => hf c (g.2 c))
theorem r_gs {o : O} {s : Nat} {b : Bool} {u v : List UInt8} (h : env s = .bool (u == v)) (ht : u = v → Red (wpOps P (⟨d, o, some (s, b), x⟩ :: is) (env.put (some s) (.bool true)) H K) A') (hf : u ≠ v → Red (wpOps P (⟨d, o, some (s, b), x⟩ :: is) (env.put (some s) (.bool false)) H K) B') : Red (wpOps P (⟨d, o, some (s, b), x⟩ :: is) env H K) ((u = v → A') ∧ (u ≠ v → B')) := fun g => wps_gs_s h (fun c => ht c (g.1 c)) (fun c => hf c (g.2 c))
theorem r_ps {s : Nat} {a b : X} {u v : List UInt8} (h : env s = .bool (u == v)) (ht : u = v → Red (wpOps P (⟨d, .rd (.pick (.t s) a b), none, x⟩ :: is) (env.put (some s) (.bool true)) H K) A') (hf : u ≠ v → Red (wpOps P (⟨d, .rd (.pick (.t s) a b), none, x⟩ :: is) (env.put (some s) (.bool false)) H K) B') : Red (wpOps P (⟨d, .rd (.pick (.t s) a b), none, x⟩ :: is) env H K) ((u = v → A') ∧ (u ≠ v → B')) := fun g => wps_pk_s h (fun c => ht c (g.1 c)) (fun c => hf c (g.2 c))
theorem r_cns {y : X} {a b : C} {u v : List UInt8} (h : y.ev env = .bool (!(u == v))) (ht : u ≠ v → Red (C.wp P a Q env H) A') (hf : u = v → Red (C.wp P b Q env H) B') : Red (C.wp P (.cond y a b) Q env H) ((u ≠ v → A') ∧ (u = v → B')) := fun g => c_cond_ns h (fun c => ht c (g.1 c)) (fun c => hf c (g.2 c))
theorem r_gns {o : O} {s : Nat} {b : Bool} {u v : List UInt8} (h : env s = .bool (!(u == v))) (ht : u ≠ v → Red (wpOps P (⟨d, o, some (s, b), x⟩ :: is) (env.put (some s) (.bool true)) H K) A') (hf : u = v → Red (wpOps P (⟨d, o, some (s, b), x⟩ :: is) (env.put (some s) (.bool false)) H K) B') : Red (wpOps P (⟨d, o, some (s, b), x⟩ :: is) env H K) ((u ≠ v → A') ∧ (u = v → B')) := fun g => wps_gs_ns h (fun c => ht c (g.1 c)) (fun c => hf c (g.2 c))
theorem r_pns {s : Nat} {a b : X} {u v : List UInt8} (h : env s = .bool (!(u == v))) (ht : u ≠ v → Red (wpOps P (⟨d, .rd (.pick (.t s) a b), none, x⟩ :: is) (env.put (some s) (.bool true)) H K) A') (hf : u = v → Red (wpOps P (⟨d, .rd (.pick (.t s) a b), none, x⟩ :: is) (env.put (some s) (.bool false)) H K) B') : Red (wpOps P (⟨d, .rd (.pick (.t s) a b), none, x⟩ :: is) env H K) ((u ≠ v → A') ∧ (u = v → B')) := fun g => wps_pk_ns h (fun c => ht c (g.1 c)) (fun c => hf c (g.2 c))
theorem r_c {y : X} {a b : C} {c : Bool} (h : y.ev env = .bool (c)) (ht : c = true → Red (C.wp P a Q env H) A') (hf : c = false → Red (C.wp P b Q env H) B') : Red (C.wp P (.cond y a b) Q env H) ((c = true → A') ∧ (c = false → B')) := fun g => c_cond h (fun c => ht c (g.1 c)) (fun c => hf c (g.2 c))
theorem r_g {o : O} {s : Nat} {b : Bool} {c : Bool} (h : env s = .bool (c)) (ht : c = true → Red (wpOps P (⟨d, o, some (s, b), x⟩ :: is) (env.put (some s) (.bool true)) H K) A') (hf : c = false → Red (wpOps P (⟨d, o, some (s, b), x⟩ :: is) (env.put (some s) (.bool false)) H K) B') : Red (wpOps P (⟨d, o, some (s, b), x⟩ :: is) env H K) ((c = true → A') ∧ (c = false → B')) := fun g => wps_gs h (fun c => ht c (g.1 c)) (fun c => hf c (g.2 c))
theorem r_p {s : Nat} {a b : X} {c : Bool} (h : env s = .bool (c)) (ht : c = true → Red (wpOps P (⟨d, .rd (.pick (.t s) a b), none, x⟩ :: is) (env.put (some s) (.bool true)) H K) A') (hf : c = false → Red (wpOps P (⟨d, .rd (.pick (.t s) a b), none, x⟩ :: is) (env.put (some s) (.bool false)) H K) B') : Red (wpOps P (⟨d, .rd (.pick (.t s) a b), none, x⟩ :: is) env H K) ((c = true → A') ∧ (c = false → B')) := fun g => wps_pk h (fun c => ht c (g.1 c)) (fun c => hf c (g.2 c))
theorem r_e0 {q : V → Heap → Prop} (k : Red (q (.tup []) H) G') : Red (kEnd [] q .ret env H) G' := red_by (fun k => f_ret0 k) k
theorem r_e0n {q : V → Heap → Prop} (k : Red (q (.tup []) H) G') : Red (kEnd [] q .normal env H) G' := red_by (fun k => f_nrm0 k) k
theorem r_e1 {n : Nat} {q : V → Heap → Prop} {v : V} (h : env n = v) (k : Red (q v H) G') : Red (kEnd [.t n] q .ret env H) G' := red_by (fun k => f_ret1 h k) k
theorem r_e2 {n m : Nat} {q : V → Heap → Prop} {v v' : V} (h : env n = v) (h' : env m = v') (k : Red (q (.tup [v, v']) H) G') : Red (kEnd [.t n, .t m] q .ret env H) G' := red_by (fun k => f_ret2 h h' k) k
theorem r_e3 {n m j : Nat} {q : V → Heap → Prop} {v v' v3 : V} (h : env n = v) (h' : env m = v') (h3 : env j = v3) (k : Red (q (.tup [v, v', v3]) H) G') : Red (kEnd [.t n, .t m, .t j] q .ret env H) G' := red_by (fun k => f_ret3 h h' h3 k) k
theorem r_e4 {n m j i : Nat} {q : V → Heap → Prop} {v v' v3 v4 : V} (h : env n = v) (h' : env m = v') (h3 : env j = v3) (h4 : env i = v4) (k : Red (q (.tup [v, v', v3, v4]) H) G') : Red (kEnd [.t n, .t m, .t j, .t i] q .ret env H) G' := red_by (fun k => f_ret4 h h' h3 h4 k) k
theorem r_ecn (hh : Has H L) {n sz id : Nat} {b : Bool} {cs : List V} {q : V → Heap → Prop} (ha : env n = .ptr id 0) (hi : At (id, .cells b cs) L) (hl : cs.length = sz + 1) (k : Red (q (.agg cs) H) G') : Red (kEnd [.cn n (sz + 1)] q .ret env H) G' := red_by (fun k => f_res (res_cons (res_cn hh ha hi hl) res_nil) k) k
theorem r_ec1 (hh : Has H L) {n id off : Nat} {b : Bool} {cs : List V} {v : V} {q : V → Heap → Prop} (ha : env n = .ptr id off) (hi : At (id, .cells b cs) L) (hv : cs[off]? = some v) (k : Red (q v H) G') : Red (kEnd [.c1 n] q .ret env H) G' := red_by (fun k => f_res (res_cons (res_c1 hh ha hi hv) res_nil) k) k
theorem r_ecnt (hh : Has H L) {n sz id m : Nat} {b : Bool} {cs : List V} {v : V} {q : V → Heap → Prop} (ha : env n = .ptr id 0) (hi : At (id, .cells b cs) L) (hl : cs.length = sz + 1) (hv : env m = v) (k : Red (q (.tup [.agg cs, v]) H) G') : Red (kEnd [.cn n (sz + 1), .t m] q .ret env H) G' := red_by (fun k => f_res (res_cons (res_cn hh ha hi hl) (res_cons (res_t hv) res_nil)) k) k
end

theorem walk {G G' : Prop} (h : Red G G' := by
  repeat' (first
    | ((with_reducible apply r_seq))
    | ((with_reducible apply r_ops))
    | ((with_reducible apply r_nil))
    | ((with_reducible apply r_sn))
    | ((with_reducible apply r_unt))
    | ((with_reducible apply r_unt2))
    | ((with_reducible apply r_gt); (case h => exact rfl))
    | ((with_reducible apply r_gf); (case h => exact rfl))
    | ((with_reducible apply r_gu); (case h => exact rfl))
    | ((with_reducible apply r_bld); (case hf => (repeat (first | with_reducible exact fl_nil | ((with_reducible apply fl_cons); (case hx => ((conv => lhs; whnf) <;> exact rfl)); (case ht => exact rfl); (case hc => ((dsimp only [V.cells]) <;> exact rfl)); (case hn => exact rfl); (case hb => exact rfl); (case hs => (repeat (first | exact sp_nil rfl | ((with_reducible apply sp_cons); (case h => exact rfl); (case ha => ((conv => lhs; whnf) <;> exact rfl)))))))))))
    | ((with_reducible apply r_rda (r := .build _ _)); (case h => exact rfl); (case hl => (repeat (first | exact sp_nil rfl | ((with_reducible apply sp_cons); (case h => exact rfl); (case ha => ((conv => lhs; whnf) <;> exact rfl)))))))
    | ((with_reducible apply r_rda (r := .fieldn _ _ _)); (case h => exact rfl); (case hl => (repeat (first | exact sp_nil rfl | ((with_reducible apply sp_cons); (case h => exact rfl); (case ha => ((conv => lhs; whnf) <;> exact rfl)))))))
    | ((with_reducible apply r_lr1); (case hh => assumption); (case ha => exact rfl); (case hi => repeat (first | with_reducible apply At.cns | with_reducible apply At.nl | with_reducible apply At.asc | exact At.here | with_reducible apply At.there | with_reducible apply At.skip)); (case hs => exact fun _ => rfl); (case iα => infer_instance); (case hb => first | omega | (simp only [List.length_set, List.length_append, List.length_map, List.length_cons, List.length_nil, swapL_length]; omega)); (case hv => ((conv => lhs; whnf; arg 1; whnf) <;> exact rfl)))
    | ((with_reducible apply r_lr12); (case hh => assumption); (case ha => exact rfl); (case hi => repeat (first | with_reducible apply At.cns | with_reducible apply At.nl | with_reducible apply At.asc | exact At.here | with_reducible apply At.there | with_reducible apply At.skip)); (case hs => exact fun _ => rfl); (case iα => infer_instance); (case hb => first | omega | (simp only [List.length_set, List.length_append, List.length_map, List.length_cons, List.length_nil, swapL_length]; omega)); (case hv => ((conv => lhs; whnf; arg 1; whnf) <;> exact rfl)))
    | ((with_reducible apply r_lr0); (case hh => assumption); (case ha => exact rfl); (case hi => repeat (first | with_reducible apply At.cns | with_reducible apply At.nl | with_reducible apply At.asc | exact At.here | with_reducible apply At.there | with_reducible apply At.skip)); (case hs => exact fun _ => rfl); (case iα => infer_instance); (case hb => first | omega | (simp only [List.length_set, List.length_append, List.length_map, List.length_cons, List.length_nil, swapL_length]; omega)); (case hv => ((conv => lhs; whnf; arg 1; whnf) <;> exact rfl)))
    | ((with_reducible apply r_ld); (case hh => assumption); (case ha => exact rfl); (case hi => repeat (first | with_reducible apply At.cns | with_reducible apply At.nl | with_reducible apply At.asc | exact At.here | with_reducible apply At.there | with_reducible apply At.skip)); (case hv => ((conv => lhs; whnf; arg 1; whnf) <;> exact rfl)))
    | ((with_reducible apply r_lra); (case hh => assumption); (case ha => exact rfl); (case hi => repeat (first | with_reducible apply At.cns | with_reducible apply At.nl | with_reducible apply At.asc | exact At.here | with_reducible apply At.there | with_reducible apply At.skip)); (case hs => exact fun _ => rfl); (case iα => infer_instance); (case hb => first | omega | (simp only [List.length_set, List.length_append, List.length_map, List.length_cons, List.length_nil, swapL_length]; omega)))
    | ((with_reducible apply r_lda); (case hh => assumption); (case ha => exact rfl); (case hi => repeat (first | with_reducible apply At.cns | with_reducible apply At.nl | with_reducible apply At.asc | exact At.here | with_reducible apply At.there | with_reducible apply At.skip)); (case hv => exact rfl))
    | ((with_reducible apply r_lrn); (case hh => assumption); (case ha => exact rfl); (case hi => repeat (first | with_reducible apply At.cns | with_reducible apply At.nl | with_reducible apply At.asc | exact At.here | with_reducible apply At.there | with_reducible apply At.skip)); (case hs => exact fun _ => rfl); (case iα => infer_instance); (case hb => first | omega | (simp only [List.length_set, List.length_append, List.length_map, List.length_cons, List.length_nil, swapL_length]; omega)); (case hm => exact rfl); (case hv => (repeat (first | exact sp_nil rfl | ((with_reducible apply sp_cons); (case h => exact rfl); (case ha => ((conv => lhs; whnf) <;> exact rfl)))))))
    | ((with_reducible apply r_lrn2); (case hh => assumption); (case ha => exact rfl); (case hi => repeat (first | with_reducible apply At.cns | with_reducible apply At.nl | with_reducible apply At.asc | exact At.here | with_reducible apply At.there | with_reducible apply At.skip)); (case hs => exact fun _ => rfl); (case iα => infer_instance); (case hb => first | omega | (simp only [List.length_set, List.length_append, List.length_map, List.length_cons, List.length_nil, swapL_length]; omega)); (case hm => exact rfl); (case hv => (repeat (first | exact sp_nil rfl | ((with_reducible apply sp_cons); (case h => exact rfl); (case ha => ((conv => lhs; whnf) <;> exact rfl)))))))
    | ((with_reducible apply r_ldn); (case hh => assumption); (case ha => exact rfl); (case hi => repeat (first | with_reducible apply At.cns | with_reducible apply At.nl | with_reducible apply At.asc | exact At.here | with_reducible apply At.there | with_reducible apply At.skip)); (case hv => exact rfl); (case hl => (repeat (first | exact sp_nil rfl | ((with_reducible apply sp_cons); (case h => exact rfl); (case ha => ((conv => lhs; whnf) <;> exact rfl)))))))
    | ((with_reducible apply r_wadd); (case hy => exact rfl); (case hz => exact rfl))
    | ((with_reducible apply r_wmul); (case hy => exact rfl); (case hz => exact rfl))
    | ((with_reducible apply r_wand); (case hy => exact rfl); (case hz => exact rfl))
    | ((with_reducible apply r_wor); (case hy => exact rfl); (case hz => exact rfl))
    | ((with_reducible apply r_wxor); (case hy => exact rfl); (case hz => exact rfl))
    | ((with_reducible apply r_wnot); (case hy => exact rfl))
    | ((with_reducible apply r_wshl); (case hy => exact rfl); (case hz => exact rfl); (case hn => first | omega | exact Nat.le_of_ble_eq_true rfl))
    | ((with_reducible apply r_wshr); (case hy => exact rfl); (case hz => exact rfl); (case hn => first | omega | exact Nat.le_of_ble_eq_true rfl))
    | ((with_reducible apply r_wto); (case hy => exact rfl))
    | ((with_reducible apply r_wtb); (case hy => exact rfl))
    | ((with_reducible apply r_iaw); (case hx => exact rfl); (case hi => exact rfl); (case hm => first | with_reducible exact Int.toNat_natCast _ | with_reducible exact tn0 | with_reducible exact tn1 | with_reducible exact tn2 | with_reducible exact tn3 | with_reducible exact tn4 | with_reducible exact tn5 | with_reducible exact tn6 | with_reducible exact tn7 | with_reducible exact tn8 | with_reducible exact tn9 | with_reducible exact tn10 | with_reducible exact tn11 | with_reducible exact ts1 _ | with_reducible exact ts2 _ | with_reducible exact ts7 _ | with_reducible exact ts15 _ | with_reducible exact ts16 _); (case hb => first | omega | (simp only [List.length_set, List.length_append, List.length_map, List.length_cons, List.length_nil, swapL_length]; omega)))
    | ((with_reducible apply r_ian); (case hx => exact rfl); (case hi => exact rfl); (case hb => first | omega | (simp only [List.length_set, List.length_append, List.length_map, List.length_cons, List.length_nil, swapL_length]; omega)))
    | ((with_reducible apply r_ia); (case hx => exact rfl); (case hi => exact rfl); (case hb => first | omega | (simp only [List.length_set, List.length_append, List.length_map, List.length_cons, List.length_nil, swapL_length]; omega)))
    | ((with_reducible apply r_iaz); (case hx => exact rfl); (case hi => exact rfl); (case hb => first | omega | (simp only [List.length_set, List.length_append, List.length_map, List.length_cons, List.length_nil, swapL_length]; omega)))
    | ((with_reducible apply r_iac); (case hx => exact rfl); (case hi => exact rfl); (case hb => first | omega | (simp only [List.length_set, List.length_append, List.length_map, List.length_cons, List.length_nil, swapL_length]; omega)))
    | ((with_reducible apply r_iaa); (case hx => exact rfl); (case hi => exact rfl); (case hb => first | omega | (simp only [List.length_set, List.length_append, List.length_map, List.length_cons, List.length_nil, swapL_length]; omega)))
    | ((with_reducible apply r_isw); (case hx => exact rfl); (case hi => exact rfl); (case hm => first | with_reducible exact Int.toNat_natCast _ | with_reducible exact tn0 | with_reducible exact tn1 | with_reducible exact tn2 | with_reducible exact tn3 | with_reducible exact tn4 | with_reducible exact tn5 | with_reducible exact tn6 | with_reducible exact tn7 | with_reducible exact tn8 | with_reducible exact tn9 | with_reducible exact tn10 | with_reducible exact tn11 | ((conv => lhs; whnf) <;> exact rfl)); (case hb => first | omega | (simp only [List.length_set, List.length_append, List.length_map, List.length_cons, List.length_nil, swapL_length]; omega)))
    | ((with_reducible apply r_toi32); (case hy => exact rfl); (case hb => first | omega | (simp only [List.length_set, List.length_append, List.length_map, List.length_cons, List.length_nil, swapL_length]; omega)))
    | ((with_reducible apply r_toi64); (case hy => exact rfl); (case hb => first | omega | (simp only [List.length_set, List.length_append, List.length_map, List.length_cons, List.length_nil, swapL_length]; omega)))
    | ((with_reducible apply r_tou8); (case hy => exact rfl); (case hb => first | omega | (simp only [List.length_set, List.length_append, List.length_map, List.length_cons, List.length_nil, swapL_length]; omega)))
    | ((with_reducible apply r_tou32); (case hy => exact rfl); (case hb => first | omega | (simp only [List.length_set, List.length_append, List.length_map, List.length_cons, List.length_nil, swapL_length]; omega)))
    | ((with_reducible apply r_tou64); (case hy => exact rfl); (case hb => first | omega | (simp only [List.length_set, List.length_append, List.length_map, List.length_cons, List.length_nil, swapL_length]; omega)))
    | ((with_reducible apply r_addi32); (case hy => exact rfl); (case hz => exact rfl); (case hb => first | omega | (simp only [List.length_set, List.length_append, List.length_map, List.length_cons, List.length_nil, swapL_length]; omega)))
    | ((with_reducible apply r_subi32); (case hy => exact rfl); (case hz => exact rfl); (case hb => first | omega | (simp only [List.length_set, List.length_append, List.length_map, List.length_cons, List.length_nil, swapL_length]; omega)))
    | ((with_reducible apply r_muli32); (case hy => exact rfl); (case hz => exact rfl); (case hb => first | omega | (simp only [List.length_set, List.length_append, List.length_map, List.length_cons, List.length_nil, swapL_length]; omega)))
    | ((with_reducible apply r_addu8); (case hy => exact rfl); (case hz => exact rfl); (case hb => first | omega | (simp only [List.length_set, List.length_append, List.length_map, List.length_cons, List.length_nil, swapL_length]; omega)))
    | ((with_reducible apply r_subu8); (case hy => exact rfl); (case hz => exact rfl); (case hb => first | omega | (simp only [List.length_set, List.length_append, List.length_map, List.length_cons, List.length_nil, swapL_length]; omega)))
    | ((with_reducible apply r_mulu8); (case hy => exact rfl); (case hz => exact rfl); (case hb => first | omega | (simp only [List.length_set, List.length_append, List.length_map, List.length_cons, List.length_nil, swapL_length]; omega)))
    | ((with_reducible apply r_addu32); (case hy => exact rfl); (case hz => exact rfl); (case hb => first | omega | (simp only [List.length_set, List.length_append, List.length_map, List.length_cons, List.length_nil, swapL_length]; omega)))
    | ((with_reducible apply r_subu32); (case hy => exact rfl); (case hz => exact rfl); (case hb => first | omega | (simp only [List.length_set, List.length_append, List.length_map, List.length_cons, List.length_nil, swapL_length]; omega)))
    | ((with_reducible apply r_mulu32); (case hy => exact rfl); (case hz => exact rfl); (case hb => first | omega | (simp only [List.length_set, List.length_append, List.length_map, List.length_cons, List.length_nil, swapL_length]; omega)))
    | ((with_reducible apply r_addu64); (case hy => exact rfl); (case hz => exact rfl); (case hb => first | omega | (simp only [List.length_set, List.length_append, List.length_map, List.length_cons, List.length_nil, swapL_length]; omega)))
    | ((with_reducible apply r_subu64); (case hy => exact rfl); (case hz => exact rfl); (case hb => first | omega | (simp only [List.length_set, List.length_append, List.length_map, List.length_cons, List.length_nil, swapL_length]; omega)))
    | ((with_reducible apply r_mulu64); (case hy => exact rfl); (case hz => exact rfl); (case hb => first | omega | (simp only [List.length_set, List.length_append, List.length_map, List.length_cons, List.length_nil, swapL_length]; omega)))
    | ((with_reducible apply r_is); (case hx => exact rfl); (case hi => exact rfl); (case hb => first | omega | (simp only [List.length_set, List.length_append, List.length_map, List.length_cons, List.length_nil, swapL_length]; omega)))
    | ((with_reducible apply r_add); (case hy => exact rfl); (case hz => exact rfl); (case hb => first | omega | (simp only [List.length_set, List.length_append, List.length_map, List.length_cons, List.length_nil, swapL_length]; omega)))
    | ((with_reducible apply r_sub); (case hy => exact rfl); (case hz => exact rfl); (case hb => first | omega | (simp only [List.length_set, List.length_append, List.length_map, List.length_cons, List.length_nil, swapL_length]; omega)))
    | ((with_reducible apply r_mul); (case hy => exact rfl); (case hz => exact rfl); (case hb => omega))
    | ((with_reducible apply r_quo); (case hy => exact rfl); (case hz => exact rfl); (case hb => omega))
    | ((with_reducible apply r_rem); (case hy => exact rfl); (case hz => exact rfl); (case hb => omega))
    | ((with_reducible apply r_eq); (case h => ((conv => lhs; whnf) <;> exact rfl)))
    | ((with_reducible apply r_ne); (case h => ((conv => lhs; whnf) <;> exact rfl)))
    | ((with_reducible apply r_cs00); (case hx => exact rfl))
    | ((with_reducible apply r_cs01); (case hx => exact rfl); (case hi => exact rfl); (case hb => first | omega | (simp only [List.length_set, List.length_append, List.length_map, List.length_cons, List.length_nil, swapL_length]; omega)))
    | ((with_reducible apply r_cs10); (case hx => exact rfl); (case hl => exact rfl); (case hb => first | omega | (simp only [List.length_set, List.length_append, List.length_map, List.length_cons, List.length_nil, swapL_length]; omega)))
    | ((with_reducible apply r_cs11); (case hx => exact rfl); (case hl => exact rfl); (case hi => exact rfl); (case hb => first | omega | (simp only [List.length_set, List.length_append, List.length_map, List.length_cons, List.length_nil, swapL_length]; omega)))
    | ((with_reducible apply r_cl00); (case hx => exact rfl))
    | ((with_reducible apply r_cl01); (case hx => exact rfl); (case hi => exact rfl); (case hb => first | omega | (simp only [List.length_set, List.length_append, List.length_map, List.length_cons, List.length_nil, swapL_length]; omega)))
    | ((with_reducible apply r_cl10); (case hx => exact rfl); (case hl => exact rfl); (case hb => first | omega | (simp only [List.length_set, List.length_append, List.length_map, List.length_cons, List.length_nil, swapL_length]; omega)))
    | ((with_reducible apply r_cl11); (case hx => exact rfl); (case hl => exact rfl); (case hi => exact rfl); (case hb => first | omega | (simp only [List.length_set, List.length_append, List.length_map, List.length_cons, List.length_nil, swapL_length]; omega)))
    | ((with_reducible apply r_lm); (case hh => assumption); (case ha => exact rfl); (case hi => repeat (first | with_reducible apply At.cns | with_reducible apply At.nl | with_reducible apply At.asc | exact At.here | with_reducible apply At.there | with_reducible apply At.skip)))
    | ((with_reducible apply r_b2s); (case hh => assumption); (case hy => exact rfl); (case hi => repeat (first | with_reducible apply At.cns | with_reducible apply At.nl | with_reducible apply At.asc | exact At.here | with_reducible apply At.there | with_reducible apply At.skip)))
    | ((with_reducible apply r_rd); (case h => ((conv => lhs; whnf; arg 1; whnf) <;> exact rfl)))
    | ((with_reducible apply r_srow); (case hh => assumption); (case ha => exact rfl); (case _hA => repeat (first | with_reducible apply At.cns | with_reducible apply At.nl | with_reducible apply At.asc | exact At.here | with_reducible apply At.there | with_reducible apply At.skip)); (case hy => ((conv => lhs; whnf) <;> exact rfl)); (case ht => exact rfl); (case hc => exact rfl); (case hs => exact fun _ => rfl); (case hb => first | omega | (simp only [List.length_set, List.length_append, List.length_map, List.length_cons, List.length_nil, swapL_length]; omega)); (case hu => repeat (first | with_reducible apply Upd.cns | with_reducible apply Upd.nl | with_reducible apply Upd.asc | exact Upd.here1 | with_reducible apply Upd.there | with_reducible apply Upd.skip)); intro _ _)
    | ((with_reducible apply r_store); (case hh => assumption); (case ha => exact rfl); (case hy => ((conv => lhs; whnf) <;> exact rfl)); (case ht => exact rfl); (case hc => ((dsimp only [V.cells]) <;> exact rfl)); (case hn => exact rfl); (case _hA => repeat (first | with_reducible apply At.cns | with_reducible apply At.nl | with_reducible apply At.asc | exact At.here | with_reducible apply At.there | with_reducible apply At.skip)); (case hb => exact rfl); (case hs => first | ((with_reducible apply splice_all); (case h => exact rfl)) | (repeat (first | exact sp_nil rfl | ((with_reducible apply sp_cons); (case h => exact rfl); (case ha => ((conv => lhs; whnf) <;> exact rfl)))))); (case hu => repeat (first | with_reducible apply Upd.cns | with_reducible apply Upd.nl | with_reducible apply Upd.asc | exact Upd.here1 | with_reducible apply Upd.there | with_reducible apply Upd.skip)); intro _ _)
    | ((with_reducible apply r_alloc); (case hh => assumption); intro _ _ _)
    | ((with_reducible apply r_box); (case hh => assumption); (case hy => ((conv => lhs; whnf) <;> exact rfl)); (case ht => exact rfl); (case hc => ((dsimp only [V.cells]) <;> exact rfl)); intro _ _ _)
    | ((with_reducible apply r_push); (case hh => assumption); (case ha => exact rfl); (case _hA => repeat (first | with_reducible apply At.cns | with_reducible apply At.nl | with_reducible apply At.asc | exact At.here | with_reducible apply At.there | with_reducible apply At.skip)); (case hn => exact fun _ => rfl); (case hy => ((conv => lhs; whnf) <;> exact rfl)); (case ht => exact rfl); (case hc => exact rfl); (case hs => exact fun _ => rfl); (case hz => exact rfl); (case hb => first | omega | (simp only [List.length_set, List.length_append, List.length_map, List.length_cons, List.length_nil, swapL_length]; omega)); (case hu => ((intro _) <;> (repeat (first | with_reducible apply Upd.cns | with_reducible apply Upd.nl | with_reducible apply Upd.asc | exact Upd.here1 | with_reducible apply Upd.there | with_reducible apply Upd.skip)))); intro _ _ _ _)
    | ((with_reducible apply r_pushH); (case hh => assumption); (case ha => exact rfl); (case _hA => repeat (first | with_reducible apply At.cns | with_reducible apply At.nl | with_reducible apply At.asc | exact At.here | with_reducible apply At.there | with_reducible apply At.skip)); (case _hi => assumption); (case hn => exact fun _ => rfl); (case hy => ((conv => lhs; whnf) <;> exact rfl)); (case ht => exact rfl); (case hc => exact rfl); (case hs => exact fun _ => rfl); (case hz => exact rfl); (case hb => first | omega | (simp only [List.length_set, List.length_append, List.length_map, List.length_cons, List.length_nil, swapL_length]; omega)); (case hu => ((intro _) <;> (repeat (first | with_reducible apply Upd.cns | with_reducible apply Upd.nl | with_reducible apply Upd.asc | exact Upd.here1 | with_reducible apply Upd.there | with_reducible apply Upd.skip)))); intro _ _ _ _)
    | ((with_reducible apply r_allocT); (case hh => assumption); intro _ _ _)
    | ((with_reducible apply r_rangeS); (case hh => assumption); (case hy => exact rfl); intro _ _ _)
    | ((with_reducible apply r_s2b); (case hh => assumption); (case hy => exact rfl); intro _ _ _)
    | ((with_reducible apply r_lit1); (case hh => assumption); (case hy => ((conv => lhs; whnf) <;> exact rfl)); (case ht => exact rfl); (case hc => ((dsimp only [V.cells]) <;> exact rfl)); (case hn => exact rfl); (case hz => exact rfl); intro _ _ _)
    | ((with_reducible apply r_lit); (case hh => assumption); (case hf => (repeat (first | with_reducible exact fl_nil | ((with_reducible apply fl_cons); (case hx => ((conv => lhs; whnf) <;> exact rfl)); (case ht => exact rfl); (case hc => ((dsimp only [V.cells]) <;> exact rfl)); (case hn => exact rfl); (case hb => exact rfl); (case hs => (repeat (first | exact sp_nil rfl | ((with_reducible apply sp_cons); (case h => exact rfl); (case ha => ((conv => lhs; whnf) <;> exact rfl)))))))))); (case hl => exact rfl); intro _ _ _)
    | ((with_reducible apply r_lit); (case hh => assumption); (case hf => exact rfl); (case hl => (repeat (first | exact sp_nil rfl | ((with_reducible apply sp_cons); (case h => exact rfl); (case ha => ((conv => lhs; whnf) <;> exact rfl)))))); intro _ _ _)
    | ((with_reducible apply r_mkMap); (case hh => assumption); intro _ _ _)
    | ((with_reducible apply r_ct); (case h => exact rfl))
    | ((with_reducible apply r_cf); (case h => exact rfl))
    | ((with_reducible apply r_skip))
    | ((with_reducible apply r_exit))
    | ((with_reducible apply r_ret))
    | ((with_reducible apply r_block))
    | ((with_reducible apply r_se))
    | ((with_reducible apply r_sr))
    | ((with_reducible apply r_bn))
    | ((with_reducible apply r_bx))
    | ((with_reducible apply r_be); (case h => exact rfl))
    | ((with_reducible apply r_br))
    | ((with_reducible apply r_ln))
    | ((with_reducible apply r_le))
    | ((with_reducible apply r_lr))
    | ((with_reducible apply r_e0))
    | ((with_reducible apply r_e0n))
    | ((with_reducible apply r_e1); (case h => ((conv => lhs; whnf) <;> exact rfl)))
    | ((with_reducible apply r_e2); (case h => ((conv => lhs; whnf) <;> exact rfl)); (case h' => ((conv => lhs; whnf) <;> exact rfl)))
    | ((with_reducible apply r_e3); (case h => ((conv => lhs; whnf) <;> exact rfl)); (case h' => ((conv => lhs; whnf) <;> exact rfl)); (case h3 => ((conv => lhs; whnf) <;> exact rfl)))
    | ((with_reducible apply r_e4); (case h => ((conv => lhs; whnf) <;> exact rfl)); (case h' => ((conv => lhs; whnf) <;> exact rfl)); (case h3 => ((conv => lhs; whnf) <;> exact rfl)); (case h4 => ((conv => lhs; whnf) <;> exact rfl)))
    | ((with_reducible apply r_ecn); (case hh => assumption); (case ha => exact rfl); (case hi => repeat (first | with_reducible apply At.cns | with_reducible apply At.nl | with_reducible apply At.asc | exact At.here | with_reducible apply At.there | with_reducible apply At.skip)); (case hl => exact rfl))
    | ((with_reducible apply r_ec1); (case hh => assumption); (case ha => exact rfl); (case hi => repeat (first | with_reducible apply At.cns | with_reducible apply At.nl | with_reducible apply At.asc | exact At.here | with_reducible apply At.there | with_reducible apply At.skip)); (case hv => ((conv => lhs; whnf; arg 1; whnf) <;> exact rfl)))
    | ((with_reducible apply r_ecnt); (case hh => assumption); (case ha => exact rfl); (case hi => repeat (first | with_reducible apply At.cns | with_reducible apply At.nl | with_reducible apply At.asc | exact At.here | with_reducible apply At.there | with_reducible apply At.skip)); (case hl => exact rfl); (case hv => ((conv => lhs; whnf) <;> exact rfl)))
    | ((with_reducible apply r_cd); (case h => exact rfl); any_goals intro _)
    | ((with_reducible apply r_cnd); (case h => exact rfl); any_goals intro _)
    | ((with_reducible apply r_ce); (case h => exact rfl); any_goals intro _)
    | ((with_reducible apply r_cn); (case h => exact rfl); any_goals intro _)
    | ((with_reducible apply r_cs); (case h => exact rfl); any_goals intro _)
    | ((with_reducible apply r_cns); (case h => exact rfl); any_goals intro _)
    | ((with_reducible apply r_c); (case h => exact rfl); any_goals intro _)
    | ((with_reducible apply r_gd); (case h => exact rfl); any_goals intro _)
    | ((with_reducible apply r_gnd); (case h => exact rfl); any_goals intro _)
    | ((with_reducible apply r_ge); (case h => exact rfl); any_goals intro _)
    | ((with_reducible apply r_gn); (case h => exact rfl); any_goals intro _)
    | ((with_reducible apply r_gs); (case h => exact rfl); any_goals intro _)
    | ((with_reducible apply r_gns); (case h => exact rfl); any_goals intro _)
    | ((with_reducible apply r_g); (case h => exact rfl); any_goals intro _)
    | ((with_reducible apply r_pd); (case h => exact rfl); any_goals intro _)
    | ((with_reducible apply r_pnd); (case h => exact rfl); any_goals intro _)
    | ((with_reducible apply r_pe); (case h => exact rfl); any_goals intro _)
    | ((with_reducible apply r_pn); (case h => exact rfl); any_goals intro _)
    | ((with_reducible apply r_ps); (case h => exact rfl); any_goals intro _)
    | ((with_reducible apply r_pns); (case h => exact rfl); any_goals intro _)
    | ((with_reducible apply r_p); (case h => exact rfl); any_goals intro _)
    | exact red_leaf)) (k : G') : G := h k
theorem walk1 {G G' : Prop} (h : Red G G' := by
  repeat' (first
    | ((with_reducible apply r_seq))
    | ((with_reducible apply r_ops))
    | ((with_reducible apply r_nil))
    | ((with_reducible apply r_sn))
    | ((with_reducible apply r_unt))
    | ((with_reducible apply r_unt2))
    | ((with_reducible apply r_gt); (case h => exact rfl))
    | ((with_reducible apply r_gf); (case h => exact rfl))
    | ((with_reducible apply r_gu); (case h => exact rfl))
    | ((with_reducible apply r_bld); (case hf => (repeat (first | with_reducible exact fl_nil | ((with_reducible apply fl_cons); (case hx => ((conv => lhs; whnf) <;> exact rfl)); (case ht => exact rfl); (case hc => ((dsimp only [V.cells]) <;> exact rfl)); (case hn => exact rfl); (case hb => exact rfl); (case hs => (repeat (first | exact sp_nil rfl | ((with_reducible apply sp_cons); (case h => exact rfl); (case ha => ((conv => lhs; whnf) <;> exact rfl)))))))))))
    | ((with_reducible apply r_rda (r := .build _ _)); (case h => exact rfl); (case hl => (repeat (first | exact sp_nil rfl | ((with_reducible apply sp_cons); (case h => exact rfl); (case ha => ((conv => lhs; whnf) <;> exact rfl)))))))
    | ((with_reducible apply r_rda (r := .fieldn _ _ _)); (case h => exact rfl); (case hl => (repeat (first | exact sp_nil rfl | ((with_reducible apply sp_cons); (case h => exact rfl); (case ha => ((conv => lhs; whnf) <;> exact rfl)))))))
    | ((with_reducible apply r_lr1); (case hh => assumption); (case ha => exact rfl); (case hi => repeat (first | with_reducible apply At.cns | with_reducible apply At.nl | with_reducible apply At.asc | exact At.here | with_reducible apply At.there | with_reducible apply At.skip)); (case hs => exact fun _ => rfl); (case iα => infer_instance); (case hb => first | omega | (simp only [List.length_set, List.length_append, List.length_map, List.length_cons, List.length_nil, swapL_length]; omega)); (case hv => ((conv => lhs; whnf; arg 1; whnf) <;> exact rfl)))
    | ((with_reducible apply r_lr12); (case hh => assumption); (case ha => exact rfl); (case hi => repeat (first | with_reducible apply At.cns | with_reducible apply At.nl | with_reducible apply At.asc | exact At.here | with_reducible apply At.there | with_reducible apply At.skip)); (case hs => exact fun _ => rfl); (case iα => infer_instance); (case hb => first | omega | (simp only [List.length_set, List.length_append, List.length_map, List.length_cons, List.length_nil, swapL_length]; omega)); (case hv => ((conv => lhs; whnf; arg 1; whnf) <;> exact rfl)))
    | ((with_reducible apply r_lr0); (case hh => assumption); (case ha => exact rfl); (case hi => repeat (first | with_reducible apply At.cns | with_reducible apply At.nl | with_reducible apply At.asc | exact At.here | with_reducible apply At.there | with_reducible apply At.skip)); (case hs => exact fun _ => rfl); (case iα => infer_instance); (case hb => first | omega | (simp only [List.length_set, List.length_append, List.length_map, List.length_cons, List.length_nil, swapL_length]; omega)); (case hv => ((conv => lhs; whnf; arg 1; whnf) <;> exact rfl)))
    | ((with_reducible apply r_ld); (case hh => assumption); (case ha => exact rfl); (case hi => repeat (first | with_reducible apply At.cns | with_reducible apply At.nl | with_reducible apply At.asc | exact At.here | with_reducible apply At.there | with_reducible apply At.skip)); (case hv => ((conv => lhs; whnf; arg 1; whnf) <;> exact rfl)))
    | ((with_reducible apply r_lra); (case hh => assumption); (case ha => exact rfl); (case hi => repeat (first | with_reducible apply At.cns | with_reducible apply At.nl | with_reducible apply At.asc | exact At.here | with_reducible apply At.there | with_reducible apply At.skip)); (case hs => exact fun _ => rfl); (case iα => infer_instance); (case hb => first | omega | (simp only [List.length_set, List.length_append, List.length_map, List.length_cons, List.length_nil, swapL_length]; omega)))
    | ((with_reducible apply r_lda); (case hh => assumption); (case ha => exact rfl); (case hi => repeat (first | with_reducible apply At.cns | with_reducible apply At.nl | with_reducible apply At.asc | exact At.here | with_reducible apply At.there | with_reducible apply At.skip)); (case hv => exact rfl))
    | ((with_reducible apply r_lrn); (case hh => assumption); (case ha => exact rfl); (case hi => repeat (first | with_reducible apply At.cns | with_reducible apply At.nl | with_reducible apply At.asc | exact At.here | with_reducible apply At.there | with_reducible apply At.skip)); (case hs => exact fun _ => rfl); (case iα => infer_instance); (case hb => first | omega | (simp only [List.length_set, List.length_append, List.length_map, List.length_cons, List.length_nil, swapL_length]; omega)); (case hm => exact rfl); (case hv => (repeat (first | exact sp_nil rfl | ((with_reducible apply sp_cons); (case h => exact rfl); (case ha => ((conv => lhs; whnf) <;> exact rfl)))))))
    | ((with_reducible apply r_lrn2); (case hh => assumption); (case ha => exact rfl); (case hi => repeat (first | with_reducible apply At.cns | with_reducible apply At.nl | with_reducible apply At.asc | exact At.here | with_reducible apply At.there | with_reducible apply At.skip)); (case hs => exact fun _ => rfl); (case iα => infer_instance); (case hb => first | omega | (simp only [List.length_set, List.length_append, List.length_map, List.length_cons, List.length_nil, swapL_length]; omega)); (case hm => exact rfl); (case hv => (repeat (first | exact sp_nil rfl | ((with_reducible apply sp_cons); (case h => exact rfl); (case ha => ((conv => lhs; whnf) <;> exact rfl)))))))
    | ((with_reducible apply r_ldn); (case hh => assumption); (case ha => exact rfl); (case hi => repeat (first | with_reducible apply At.cns | with_reducible apply At.nl | with_reducible apply At.asc | exact At.here | with_reducible apply At.there | with_reducible apply At.skip)); (case hv => exact rfl); (case hl => (repeat (first | exact sp_nil rfl | ((with_reducible apply sp_cons); (case h => exact rfl); (case ha => ((conv => lhs; whnf) <;> exact rfl)))))))
    | ((with_reducible apply r_wadd); (case hy => exact rfl); (case hz => exact rfl))
    | ((with_reducible apply r_wmul); (case hy => exact rfl); (case hz => exact rfl))
    | ((with_reducible apply r_wand); (case hy => exact rfl); (case hz => exact rfl))
    | ((with_reducible apply r_wor); (case hy => exact rfl); (case hz => exact rfl))
    | ((with_reducible apply r_wxor); (case hy => exact rfl); (case hz => exact rfl))
    | ((with_reducible apply r_wnot); (case hy => exact rfl))
    | ((with_reducible apply r_wshl); (case hy => exact rfl); (case hz => exact rfl); (case hn => first | omega | exact Nat.le_of_ble_eq_true rfl))
    | ((with_reducible apply r_wshr); (case hy => exact rfl); (case hz => exact rfl); (case hn => first | omega | exact Nat.le_of_ble_eq_true rfl))
    | ((with_reducible apply r_wto); (case hy => exact rfl))
    | ((with_reducible apply r_wtb); (case hy => exact rfl))
    | ((with_reducible apply r_iaw); (case hx => exact rfl); (case hi => exact rfl); (case hm => first | with_reducible exact Int.toNat_natCast _ | with_reducible exact tn0 | with_reducible exact tn1 | with_reducible exact tn2 | with_reducible exact tn3 | with_reducible exact tn4 | with_reducible exact tn5 | with_reducible exact tn6 | with_reducible exact tn7 | with_reducible exact tn8 | with_reducible exact tn9 | with_reducible exact tn10 | with_reducible exact tn11 | with_reducible exact ts1 _ | with_reducible exact ts2 _ | with_reducible exact ts7 _ | with_reducible exact ts15 _ | with_reducible exact ts16 _); (case hb => first | omega | (simp only [List.length_set, List.length_append, List.length_map, List.length_cons, List.length_nil, swapL_length]; omega)))
    | ((with_reducible apply r_ian); (case hx => exact rfl); (case hi => exact rfl); (case hb => first | omega | (simp only [List.length_set, List.length_append, List.length_map, List.length_cons, List.length_nil, swapL_length]; omega)))
    | ((with_reducible apply r_ia); (case hx => exact rfl); (case hi => exact rfl); (case hb => first | omega | (simp only [List.length_set, List.length_append, List.length_map, List.length_cons, List.length_nil, swapL_length]; omega)))
    | ((with_reducible apply r_iaz); (case hx => exact rfl); (case hi => exact rfl); (case hb => first | omega | (simp only [List.length_set, List.length_append, List.length_map, List.length_cons, List.length_nil, swapL_length]; omega)))
    | ((with_reducible apply r_iac); (case hx => exact rfl); (case hi => exact rfl); (case hb => first | omega | (simp only [List.length_set, List.length_append, List.length_map, List.length_cons, List.length_nil, swapL_length]; omega)))
    | ((with_reducible apply r_iaa); (case hx => exact rfl); (case hi => exact rfl); (case hb => first | omega | (simp only [List.length_set, List.length_append, List.length_map, List.length_cons, List.length_nil, swapL_length]; omega)))
    | ((with_reducible apply r_isw); (case hx => exact rfl); (case hi => exact rfl); (case hm => first | with_reducible exact Int.toNat_natCast _ | with_reducible exact tn0 | with_reducible exact tn1 | with_reducible exact tn2 | with_reducible exact tn3 | with_reducible exact tn4 | with_reducible exact tn5 | with_reducible exact tn6 | with_reducible exact tn7 | with_reducible exact tn8 | with_reducible exact tn9 | with_reducible exact tn10 | with_reducible exact tn11 | ((conv => lhs; whnf) <;> exact rfl)); (case hb => first | omega | (simp only [List.length_set, List.length_append, List.length_map, List.length_cons, List.length_nil, swapL_length]; omega)))
    | ((with_reducible apply r_toi32); (case hy => exact rfl); (case hb => first | omega | (simp only [List.length_set, List.length_append, List.length_map, List.length_cons, List.length_nil, swapL_length]; omega)))
    | ((with_reducible apply r_toi64); (case hy => exact rfl); (case hb => first | omega | (simp only [List.length_set, List.length_append, List.length_map, List.length_cons, List.length_nil, swapL_length]; omega)))
    | ((with_reducible apply r_tou8); (case hy => exact rfl); (case hb => first | omega | (simp only [List.length_set, List.length_append, List.length_map, List.length_cons, List.length_nil, swapL_length]; omega)))
    | ((with_reducible apply r_tou32); (case hy => exact rfl); (case hb => first | omega | (simp only [List.length_set, List.length_append, List.length_map, List.length_cons, List.length_nil, swapL_length]; omega)))
    | ((with_reducible apply r_tou64); (case hy => exact rfl); (case hb => first | omega | (simp only [List.length_set, List.length_append, List.length_map, List.length_cons, List.length_nil, swapL_length]; omega)))
    | ((with_reducible apply r_addi32); (case hy => exact rfl); (case hz => exact rfl); (case hb => first | omega | (simp only [List.length_set, List.length_append, List.length_map, List.length_cons, List.length_nil, swapL_length]; omega)))
    | ((with_reducible apply r_subi32); (case hy => exact rfl); (case hz => exact rfl); (case hb => first | omega | (simp only [List.length_set, List.length_append, List.length_map, List.length_cons, List.length_nil, swapL_length]; omega)))
    | ((with_reducible apply r_muli32); (case hy => exact rfl); (case hz => exact rfl); (case hb => first | omega | (simp only [List.length_set, List.length_append, List.length_map, List.length_cons, List.length_nil, swapL_length]; omega)))
    | ((with_reducible apply r_addu8); (case hy => exact rfl); (case hz => exact rfl); (case hb => first | omega | (simp only [List.length_set, List.length_append, List.length_map, List.length_cons, List.length_nil, swapL_length]; omega)))
    | ((with_reducible apply r_subu8); (case hy => exact rfl); (case hz => exact rfl); (case hb => first | omega | (simp only [List.length_set, List.length_append, List.length_map, List.length_cons, List.length_nil, swapL_length]; omega)))
    | ((with_reducible apply r_mulu8); (case hy => exact rfl); (case hz => exact rfl); (case hb => first | omega | (simp only [List.length_set, List.length_append, List.length_map, List.length_cons, List.length_nil, swapL_length]; omega)))
    | ((with_reducible apply r_addu32); (case hy => exact rfl); (case hz => exact rfl); (case hb => first | omega | (simp only [List.length_set, List.length_append, List.length_map, List.length_cons, List.length_nil, swapL_length]; omega)))
    | ((with_reducible apply r_subu32); (case hy => exact rfl); (case hz => exact rfl); (case hb => first | omega | (simp only [List.length_set, List.length_append, List.length_map, List.length_cons, List.length_nil, swapL_length]; omega)))
    | ((with_reducible apply r_mulu32); (case hy => exact rfl); (case hz => exact rfl); (case hb => first | omega | (simp only [List.length_set, List.length_append, List.length_map, List.length_cons, List.length_nil, swapL_length]; omega)))
    | ((with_reducible apply r_addu64); (case hy => exact rfl); (case hz => exact rfl); (case hb => first | omega | (simp only [List.length_set, List.length_append, List.length_map, List.length_cons, List.length_nil, swapL_length]; omega)))
    | ((with_reducible apply r_subu64); (case hy => exact rfl); (case hz => exact rfl); (case hb => first | omega | (simp only [List.length_set, List.length_append, List.length_map, List.length_cons, List.length_nil, swapL_length]; omega)))
    | ((with_reducible apply r_mulu64); (case hy => exact rfl); (case hz => exact rfl); (case hb => first | omega | (simp only [List.length_set, List.length_append, List.length_map, List.length_cons, List.length_nil, swapL_length]; omega)))
    | ((with_reducible apply r_is); (case hx => exact rfl); (case hi => exact rfl); (case hb => first | omega | (simp only [List.length_set, List.length_append, List.length_map, List.length_cons, List.length_nil, swapL_length]; omega)))
    | ((with_reducible apply r_add); (case hy => exact rfl); (case hz => exact rfl); (case hb => first | omega | (simp only [List.length_set, List.length_append, List.length_map, List.length_cons, List.length_nil, swapL_length]; omega)))
    | ((with_reducible apply r_sub); (case hy => exact rfl); (case hz => exact rfl); (case hb => first | omega | (simp only [List.length_set, List.length_append, List.length_map, List.length_cons, List.length_nil, swapL_length]; omega)))
    | ((with_reducible apply r_mul); (case hy => exact rfl); (case hz => exact rfl); (case hb => omega))
    | ((with_reducible apply r_quo); (case hy => exact rfl); (case hz => exact rfl); (case hb => omega))
    | ((with_reducible apply r_rem); (case hy => exact rfl); (case hz => exact rfl); (case hb => omega))
    | ((with_reducible apply r_eq); (case h => ((conv => lhs; whnf) <;> exact rfl)))
    | ((with_reducible apply r_ne); (case h => ((conv => lhs; whnf) <;> exact rfl)))
    | ((with_reducible apply r_cs00); (case hx => exact rfl))
    | ((with_reducible apply r_cs01); (case hx => exact rfl); (case hi => exact rfl); (case hb => first | omega | (simp only [List.length_set, List.length_append, List.length_map, List.length_cons, List.length_nil, swapL_length]; omega)))
    | ((with_reducible apply r_cs10); (case hx => exact rfl); (case hl => exact rfl); (case hb => first | omega | (simp only [List.length_set, List.length_append, List.length_map, List.length_cons, List.length_nil, swapL_length]; omega)))
    | ((with_reducible apply r_cs11); (case hx => exact rfl); (case hl => exact rfl); (case hi => exact rfl); (case hb => first | omega | (simp only [List.length_set, List.length_append, List.length_map, List.length_cons, List.length_nil, swapL_length]; omega)))
    | ((with_reducible apply r_cl00); (case hx => exact rfl))
    | ((with_reducible apply r_cl01); (case hx => exact rfl); (case hi => exact rfl); (case hb => first | omega | (simp only [List.length_set, List.length_append, List.length_map, List.length_cons, List.length_nil, swapL_length]; omega)))
    | ((with_reducible apply r_cl10); (case hx => exact rfl); (case hl => exact rfl); (case hb => first | omega | (simp only [List.length_set, List.length_append, List.length_map, List.length_cons, List.length_nil, swapL_length]; omega)))
    | ((with_reducible apply r_cl11); (case hx => exact rfl); (case hl => exact rfl); (case hi => exact rfl); (case hb => first | omega | (simp only [List.length_set, List.length_append, List.length_map, List.length_cons, List.length_nil, swapL_length]; omega)))
    | ((with_reducible apply r_lm); (case hh => assumption); (case ha => exact rfl); (case hi => repeat (first | with_reducible apply At.cns | with_reducible apply At.nl | with_reducible apply At.asc | exact At.here | with_reducible apply At.there | with_reducible apply At.skip)))
    | ((with_reducible apply r_b2s); (case hh => assumption); (case hy => exact rfl); (case hi => repeat (first | with_reducible apply At.cns | with_reducible apply At.nl | with_reducible apply At.asc | exact At.here | with_reducible apply At.there | with_reducible apply At.skip)))
    | ((with_reducible apply r_rd); (case h => ((conv => lhs; whnf; arg 1; whnf) <;> exact rfl)))
    | ((with_reducible apply r_srow); (case hh => assumption); (case ha => exact rfl); (case _hA => repeat (first | with_reducible apply At.cns | with_reducible apply At.nl | with_reducible apply At.asc | exact At.here | with_reducible apply At.there | with_reducible apply At.skip)); (case hy => ((conv => lhs; whnf) <;> exact rfl)); (case ht => exact rfl); (case hc => exact rfl); (case hs => exact fun _ => rfl); (case hb => first | omega | (simp only [List.length_set, List.length_append, List.length_map, List.length_cons, List.length_nil, swapL_length]; omega)); (case hu => repeat (first | with_reducible apply Upd.cns | with_reducible apply Upd.nl | with_reducible apply Upd.asc | exact Upd.here1 | with_reducible apply Upd.there | with_reducible apply Upd.skip)); intro _ _)
    | ((with_reducible apply r_store); (case hh => assumption); (case ha => exact rfl); (case hy => ((conv => lhs; whnf) <;> exact rfl)); (case ht => exact rfl); (case hc => ((dsimp only [V.cells]) <;> exact rfl)); (case hn => exact rfl); (case _hA => repeat (first | with_reducible apply At.cns | with_reducible apply At.nl | with_reducible apply At.asc | exact At.here | with_reducible apply At.there | with_reducible apply At.skip)); (case hb => exact rfl); (case hs => first | ((with_reducible apply splice_all); (case h => exact rfl)) | (repeat (first | exact sp_nil rfl | ((with_reducible apply sp_cons); (case h => exact rfl); (case ha => ((conv => lhs; whnf) <;> exact rfl)))))); (case hu => repeat (first | with_reducible apply Upd.cns | with_reducible apply Upd.nl | with_reducible apply Upd.asc | exact Upd.here1 | with_reducible apply Upd.there | with_reducible apply Upd.skip)); intro _ _)
    | ((with_reducible apply r_alloc); (case hh => assumption); intro _ _ _)
    | ((with_reducible apply r_box); (case hh => assumption); (case hy => ((conv => lhs; whnf) <;> exact rfl)); (case ht => exact rfl); (case hc => ((dsimp only [V.cells]) <;> exact rfl)); intro _ _ _)
    | ((with_reducible apply r_push); (case hh => assumption); (case ha => exact rfl); (case _hA => repeat (first | with_reducible apply At.cns | with_reducible apply At.nl | with_reducible apply At.asc | exact At.here | with_reducible apply At.there | with_reducible apply At.skip)); (case hn => exact fun _ => rfl); (case hy => ((conv => lhs; whnf) <;> exact rfl)); (case ht => exact rfl); (case hc => exact rfl); (case hs => exact fun _ => rfl); (case hz => exact rfl); (case hb => first | omega | (simp only [List.length_set, List.length_append, List.length_map, List.length_cons, List.length_nil, swapL_length]; omega)); (case hu => ((intro _) <;> (repeat (first | with_reducible apply Upd.cns | with_reducible apply Upd.nl | with_reducible apply Upd.asc | exact Upd.here1 | with_reducible apply Upd.there | with_reducible apply Upd.skip)))); intro _ _ _ _)
    | ((with_reducible apply r_pushH); (case hh => assumption); (case ha => exact rfl); (case _hA => repeat (first | with_reducible apply At.cns | with_reducible apply At.nl | with_reducible apply At.asc | exact At.here | with_reducible apply At.there | with_reducible apply At.skip)); (case _hi => assumption); (case hn => exact fun _ => rfl); (case hy => ((conv => lhs; whnf) <;> exact rfl)); (case ht => exact rfl); (case hc => exact rfl); (case hs => exact fun _ => rfl); (case hz => exact rfl); (case hb => first | omega | (simp only [List.length_set, List.length_append, List.length_map, List.length_cons, List.length_nil, swapL_length]; omega)); (case hu => ((intro _) <;> (repeat (first | with_reducible apply Upd.cns | with_reducible apply Upd.nl | with_reducible apply Upd.asc | exact Upd.here1 | with_reducible apply Upd.there | with_reducible apply Upd.skip)))); intro _ _ _ _)
    | ((with_reducible apply r_allocT); (case hh => assumption); intro _ _ _)
    | ((with_reducible apply r_rangeS); (case hh => assumption); (case hy => exact rfl); intro _ _ _)
    | ((with_reducible apply r_s2b); (case hh => assumption); (case hy => exact rfl); intro _ _ _)
    | ((with_reducible apply r_lit1); (case hh => assumption); (case hy => ((conv => lhs; whnf) <;> exact rfl)); (case ht => exact rfl); (case hc => ((dsimp only [V.cells]) <;> exact rfl)); (case hn => exact rfl); (case hz => exact rfl); intro _ _ _)
    | ((with_reducible apply r_lit); (case hh => assumption); (case hf => (repeat (first | with_reducible exact fl_nil | ((with_reducible apply fl_cons); (case hx => ((conv => lhs; whnf) <;> exact rfl)); (case ht => exact rfl); (case hc => ((dsimp only [V.cells]) <;> exact rfl)); (case hn => exact rfl); (case hb => exact rfl); (case hs => (repeat (first | exact sp_nil rfl | ((with_reducible apply sp_cons); (case h => exact rfl); (case ha => ((conv => lhs; whnf) <;> exact rfl)))))))))); (case hl => exact rfl); intro _ _ _)
    | ((with_reducible apply r_lit); (case hh => assumption); (case hf => exact rfl); (case hl => (repeat (first | exact sp_nil rfl | ((with_reducible apply sp_cons); (case h => exact rfl); (case ha => ((conv => lhs; whnf) <;> exact rfl)))))); intro _ _ _)
    | ((with_reducible apply r_mkMap); (case hh => assumption); intro _ _ _)
    | ((with_reducible apply r_ct); (case h => exact rfl))
    | ((with_reducible apply r_cf); (case h => exact rfl))
    | ((with_reducible apply r_skip))
    | ((with_reducible apply r_exit))
    | ((with_reducible apply r_ret))
    | ((with_reducible apply r_block))
    | ((with_reducible apply r_se))
    | ((with_reducible apply r_sr))
    | ((with_reducible apply r_bn))
    | ((with_reducible apply r_bx))
    | ((with_reducible apply r_be); (case h => exact rfl))
    | ((with_reducible apply r_br))
    | ((with_reducible apply r_ln))
    | ((with_reducible apply r_le))
    | ((with_reducible apply r_lr))
    | ((with_reducible apply r_e0))
    | ((with_reducible apply r_e0n))
    | ((with_reducible apply r_e1); (case h => ((conv => lhs; whnf) <;> exact rfl)))
    | ((with_reducible apply r_e2); (case h => ((conv => lhs; whnf) <;> exact rfl)); (case h' => ((conv => lhs; whnf) <;> exact rfl)))
    | ((with_reducible apply r_e3); (case h => ((conv => lhs; whnf) <;> exact rfl)); (case h' => ((conv => lhs; whnf) <;> exact rfl)); (case h3 => ((conv => lhs; whnf) <;> exact rfl)))
    | ((with_reducible apply r_e4); (case h => ((conv => lhs; whnf) <;> exact rfl)); (case h' => ((conv => lhs; whnf) <;> exact rfl)); (case h3 => ((conv => lhs; whnf) <;> exact rfl)); (case h4 => ((conv => lhs; whnf) <;> exact rfl)))
    | ((with_reducible apply r_ecn); (case hh => assumption); (case ha => exact rfl); (case hi => repeat (first | with_reducible apply At.cns | with_reducible apply At.nl | with_reducible apply At.asc | exact At.here | with_reducible apply At.there | with_reducible apply At.skip)); (case hl => exact rfl))
    | ((with_reducible apply r_ec1); (case hh => assumption); (case ha => exact rfl); (case hi => repeat (first | with_reducible apply At.cns | with_reducible apply At.nl | with_reducible apply At.asc | exact At.here | with_reducible apply At.there | with_reducible apply At.skip)); (case hv => ((conv => lhs; whnf; arg 1; whnf) <;> exact rfl)))
    | ((with_reducible apply r_ecnt); (case hh => assumption); (case ha => exact rfl); (case hi => repeat (first | with_reducible apply At.cns | with_reducible apply At.nl | with_reducible apply At.asc | exact At.here | with_reducible apply At.there | with_reducible apply At.skip)); (case hl => exact rfl); (case hv => ((conv => lhs; whnf) <;> exact rfl)))
    | exact red_leaf)) (k : G') : G := h k
section
variable {P : Program} {env : Env} {H : Heap} {L N R : List Ob} {K : Env → Heap → Prop} {d : Option Nat} {x : Kx} {is : List I} {Q : V → List Ob → Prop}
theorem callE {f : FuncId} {args : List X} {vs : List V} {v : V} (hs : CallsR P f vs N fun u => u = v) (k : wpOps P is (env.put d v) H K) (ha : args.map (X.ev env) = vs := by exact rfl) (hh : Has H L := by assumption) (ht : Tk N L R := by (repeat (first | with_reducible apply Tk.cns | with_reducible apply Tk.nl | with_reducible apply Tk.asc | with_reducible apply Rm.cns | with_reducible apply Rm.nl | with_reducible apply Rm.asc | with_reducible apply Rc.cns | with_reducible apply Rc.nl | with_reducible apply Rc.asc | exact Tk.nil | exact Rm.here | exact Rc.here | exact Rc.all | with_reducible apply Tk.cons | with_reducible apply Rm.there | with_reducible apply Rm.skip | with_reducible apply Tk.app | with_reducible apply Tk.one | with_reducible apply Rc.there | with_reducible apply Rc.skip))) :
    wpOps P (⟨d, .ef (.call f args), none, x⟩ :: is) env H K := wps_callE hs hh ht ha k
theorem callR {f : FuncId} {args : List X} {vs : List V} {φ : V → Prop} (hs : CallsR P f vs N φ) (k : ∀ v, φ v → wpOps P is (env.put d v) H K) (ha : args.map (X.ev env) = vs := by exact rfl) (hh : Has H L := by assumption) (ht : Tk N L R := by (repeat (first | with_reducible apply Tk.cns | with_reducible apply Tk.nl | with_reducible apply Tk.asc | with_reducible apply Rm.cns | with_reducible apply Rm.nl | with_reducible apply Rm.asc | with_reducible apply Rc.cns | with_reducible apply Rc.nl | with_reducible apply Rc.asc | exact Tk.nil | exact Rm.here | exact Rc.here | exact Rc.all | with_reducible apply Tk.cons | with_reducible apply Rm.there | with_reducible apply Rm.skip | with_reducible apply Tk.app | with_reducible apply Tk.one | with_reducible apply Rc.there | with_reducible apply Rc.skip))) :
    wpOps P (⟨d, .ef (.call f args), none, x⟩ :: is) env H K := wps_callR hs hh ht ha k
theorem callL {f : FuncId} {args : List X} {vs : List V} {φ : V → List Ob → Prop} (hs : CallsL P f vs N φ) (k : ∀ v L' H', φ v L' → Has H' (L' ++ R) → wpOps P is (env.put d v) H' K) (ha : args.map (X.ev env) = vs := by exact rfl) (hh : Has H L := by assumption) (ht : Tk N L R := by (repeat (first | with_reducible apply Tk.cns | with_reducible apply Tk.nl | with_reducible apply Tk.asc | with_reducible apply Rm.cns | with_reducible apply Rm.nl | with_reducible apply Rm.asc | with_reducible apply Rc.cns | with_reducible apply Rc.nl | with_reducible apply Rc.asc | exact Tk.nil | exact Rm.here | exact Rc.here | exact Rc.all | with_reducible apply Tk.cons | with_reducible apply Rm.there | with_reducible apply Rm.skip | with_reducible apply Tk.app | with_reducible apply Tk.one | with_reducible apply Rc.there | with_reducible apply Rc.skip))) :
    wpOps P (⟨d, .ef (.call f args), none, .no⟩ :: is) env H K := wps_call hs hh ht ha k
theorem callN {f : FuncId} {args : List X} {vs : List V} {φ : V → List Ob → Prop} (hs : CallsN P f vs N φ) (k : ∀ v Lo H', φ v Lo → Has H' (Lo ++ L) → wpOps P is (env.put d v) H' K) (ha : args.map (X.ev env) = vs := by exact rfl) (hh : Has H L := by assumption) (ht : Tk N L R := by (repeat (first | with_reducible apply Tk.cns | with_reducible apply Tk.nl | with_reducible apply Tk.asc | with_reducible apply Rm.cns | with_reducible apply Rm.nl | with_reducible apply Rm.asc | with_reducible apply Rc.cns | with_reducible apply Rc.nl | with_reducible apply Rc.asc | exact Tk.nil | exact Rm.here | exact Rc.here | exact Rc.all | with_reducible apply Tk.cons | with_reducible apply Rm.there | with_reducible apply Rm.skip | with_reducible apply Tk.app | with_reducible apply Tk.one | with_reducible apply Rc.there | with_reducible apply Rc.skip))) :
    wpOps P (⟨d, .ef (.call f args), none, x⟩ :: is) env H K := wps_callN hs hh ht ha k
theorem vcallE {y : X} {f : FuncId} {cap : List V} {args : List X} {vs : List V} {v : V} (hs : CallsR P f vs N fun u => u = v) (k : wpOps P is (env.put d v) H K) (hy : y.ev env = .func f cap := by exact rfl) (ha : args.map (X.ev env) ++ cap = vs := by exact rfl) (hh : Has H L := by assumption) (ht : Tk N L R := by (repeat (first | with_reducible apply Tk.cns | with_reducible apply Tk.nl | with_reducible apply Tk.asc | with_reducible apply Rm.cns | with_reducible apply Rm.nl | with_reducible apply Rm.asc | with_reducible apply Rc.cns | with_reducible apply Rc.nl | with_reducible apply Rc.asc | exact Tk.nil | exact Rm.here | exact Rc.here | exact Rc.all | with_reducible apply Tk.cons | with_reducible apply Rm.there | with_reducible apply Rm.skip | with_reducible apply Tk.app | with_reducible apply Tk.one | with_reducible apply Rc.there | with_reducible apply Rc.skip))) :
    wpOps P (⟨d, .ef (.callv y args), none, x⟩ :: is) env H K := wps_vcallE hy hs hh ht ha k
def Nx (sl : List Nat) (I : Nat → List V → List Ob → Prop) (B : Nat → Prop) (env : Env) (H : Heap) : Prop := ∃ i vs L, B i ∧ Wks (sl.map env) vs ∧ Has H L ∧ I i vs L
theorem Nx.intro {sl : List Nat} {I : Nat → List V → List Ob → Prop} {B : Nat → Prop} {i : Nat} (hi : B i) (hI : I i (sl.map env) N) (hh : Has H L := by assumption) (ht : Tk N L R := by (repeat (first | with_reducible apply Tk.cns | with_reducible apply Tk.nl | with_reducible apply Tk.asc | with_reducible apply Rm.cns | with_reducible apply Rm.nl | with_reducible apply Rm.asc | with_reducible apply Rc.cns | with_reducible apply Rc.nl | with_reducible apply Rc.asc | exact Tk.nil | exact Rm.here | exact Rc.here | exact Rc.all | with_reducible apply Tk.cons | with_reducible apply Rm.there | with_reducible apply Rm.skip | with_reducible apply Tk.app | with_reducible apply Tk.one | with_reducible apply Rc.there | with_reducible apply Rc.skip))) : Nx sl I B env H :=
  ⟨i, _, N, hi, Wks.refl _, hh.ord ht, hI⟩
theorem Nx.weak {sl : List Nat} {I : Nat → List V → List Ob → Prop} {B : Nat → Prop} {i : Nat} {vs : List V} (hi : B i) (hw : Wks (sl.map env) vs) (hI : I i vs N) (hh : Has H L := by assumption) (ht : Tk N L R := by (repeat (first | with_reducible apply Tk.cns | with_reducible apply Tk.nl | with_reducible apply Tk.asc | with_reducible apply Rm.cns | with_reducible apply Rm.nl | with_reducible apply Rm.asc | with_reducible apply Rc.cns | with_reducible apply Rc.nl | with_reducible apply Rc.asc | exact Tk.nil | exact Rm.here | exact Rc.here | exact Rc.all | with_reducible apply Tk.cons | with_reducible apply Rm.there | with_reducible apply Rm.skip | with_reducible apply Tk.app | with_reducible apply Tk.one | with_reducible apply Rc.there | with_reducible apply Rc.skip))) : Nx sl I B env H :=
  ⟨i, _, N, hi, hw, hh.ord ht, hI⟩
theorem loopM {Q : Ex → Env → Heap → Prop} {a : C} (sl : List Nat) (I : Nat → List V → List Ob → Prop) (h0 : Nx sl I (fun _ => True) env H)
    (step : ∀ (n : Nat) (vs : List V) (L : List Ob) (e : Env) (H : Heap), I n vs L → Has H L → a.wp P (kLoop (Nx sl I (fun m => m < n)) Q) (puts sl vs e) H) : C.wp P (.loop a) Q env H := by
  obtain ⟨n, vs, L, _, h1, h2, h3⟩ := h0
  refine c_loop sl (fun n vs H => ∃ L, Has H L ∧ I n vs L) n ⟨vs, H, h1, HWk.refl H, L, h2, h3⟩ ?_
  rintro n vs e H ⟨L, hh, hi⟩
  refine C.mono ?_ (step n vs L e H hi hh)
  intro x env' H' hx
  cases x with
  | normal =>
    exact Wkn.mono hx fun e1 H1 ⟨m, vs', L', hm, g3, g4, g5⟩ => ⟨m, vs', H1, hm, g3, HWk.refl _, L', g4, g5⟩
  | exit j => exact hx
  | ret => exact hx
theorem loopN {Q : Ex → Env → Heap → Prop} {a : C} (sl : List Nat) (M : Nat) (I : Nat → List V → List Ob → Prop) (h0 : Nx sl I (fun i => i = 0) env H)
    (step : ∀ (i : Nat) (vs : List V) (L : List Ob) (e : Env) (H : Heap), i ≤ M → I i vs L → Has H L → a.wp P (kLoop (Nx sl I (fun k => k = i + 1 ∧ i < M)) Q) (puts sl vs e) H) : C.wp P (.loop a) Q env H := by
  refine loopM sl (fun n vs L => ∃ i, n = M - i ∧ i ≤ M ∧ I i vs L) ?_ ?_
  · obtain ⟨n, vs, L, rfl, h1, h2, h3⟩ := h0
    exact ⟨M, vs, L, trivial, h1, h2, 0, rfl, Nat.zero_le _, h3⟩
  · rintro n vs L e H ⟨i, rfl, hi, hI⟩ hh
    refine C.mono ?_ (step i vs L e H hi hI hh)
    intro x env' H' hx
    cases x with
    | normal =>
      refine Wkn.mono hx ?_
      rintro e1 H1 ⟨m, vs', L', ⟨rfl, hm⟩, g3, g4, g5⟩
      exact ⟨M - (i + 1), vs', L', by omega, g3, g4, i + 1, rfl, hm, g5⟩
    | exit j => exact hx
    | ret => exact hx
theorem Nx.here {sl : List Nat} {I : Nat → List V → List Ob → Prop} (hI : I 0 (sl.map env) N) (hh : Has H L := by assumption) (ht : Tk N L R := by (repeat (first | with_reducible apply Tk.cns | with_reducible apply Tk.nl | with_reducible apply Tk.asc | with_reducible apply Rm.cns | with_reducible apply Rm.nl | with_reducible apply Rm.asc | with_reducible apply Rc.cns | with_reducible apply Rc.nl | with_reducible apply Rc.asc | exact Tk.nil | exact Rm.here | exact Rc.here | exact Rc.all | with_reducible apply Tk.cons | with_reducible apply Rm.there | with_reducible apply Rm.skip | with_reducible apply Tk.app | with_reducible apply Tk.one | with_reducible apply Rc.there | with_reducible apply Rc.skip))) : Nx sl I (fun i => i = 0) env H :=
  Nx.intro (i := 0) rfl hI hh ht
theorem Nx.cut {sl : List Nat} {I : List V → List Ob → Prop} (hI : I (sl.map env) N) (hh : Has H L := by assumption) (ht : Tk N L R := by (repeat (first | with_reducible apply Tk.cns | with_reducible apply Tk.nl | with_reducible apply Tk.asc | with_reducible apply Rm.cns | with_reducible apply Rm.nl | with_reducible apply Rm.asc | with_reducible apply Rc.cns | with_reducible apply Rc.nl | with_reducible apply Rc.asc | exact Tk.nil | exact Rm.here | exact Rc.here | exact Rc.all | with_reducible apply Tk.cons | with_reducible apply Rm.there | with_reducible apply Rm.skip | with_reducible apply Tk.app | with_reducible apply Tk.one | with_reducible apply Rc.there | with_reducible apply Rc.skip))) : Nx sl (fun _ => I) (fun _ => True) env H :=
  Nx.intro (i := 0) trivial hI hh ht
theorem Nx.next {sl : List Nat} {I : Nat → List V → List Ob → Prop} {i M : Nat} (hi : i < M) (hI : I (i + 1) (sl.map env) N) (hh : Has H L := by assumption) (ht : Tk N L R := by (repeat (first | with_reducible apply Tk.cns | with_reducible apply Tk.nl | with_reducible apply Tk.asc | with_reducible apply Rm.cns | with_reducible apply Rm.nl | with_reducible apply Rm.asc | with_reducible apply Rc.cns | with_reducible apply Rc.nl | with_reducible apply Rc.asc | exact Tk.nil | exact Rm.here | exact Rc.here | exact Rc.all | with_reducible apply Tk.cons | with_reducible apply Rm.there | with_reducible apply Rm.skip | with_reducible apply Tk.app | with_reducible apply Tk.one | with_reducible apply Rc.there | with_reducible apply Rc.skip))) : Nx sl I (fun k => k = i + 1 ∧ i < M) env H :=
  Nx.intro (i := i + 1) ⟨rfl, hi⟩ hI hh ht
theorem Nx.hereW {sl : List Nat} {I : Nat → List V → List Ob → Prop} (vs : List V) (hI : I 0 vs N) (hw : Wks (sl.map env) vs := by repeat (first | exact Wks.nil | apply Wks.cons (Wk.refl _) | apply Wks.cons (Wk.nils _ _))) (hh : Has H L := by assumption) (ht : Tk N ((0, .cells true []) :: L) R := by (repeat (first | with_reducible apply Tk.cns | with_reducible apply Tk.nl | with_reducible apply Tk.asc | with_reducible apply Rm.cns | with_reducible apply Rm.nl | with_reducible apply Rm.asc | with_reducible apply Rc.cns | with_reducible apply Rc.nl | with_reducible apply Rc.asc | exact Tk.nil | exact Rm.here | exact Rc.here | exact Rc.all | with_reducible apply Tk.cons | with_reducible apply Rm.there | with_reducible apply Rm.skip | with_reducible apply Tk.app | with_reducible apply Tk.one | with_reducible apply Rc.there | with_reducible apply Rc.skip))) : Nx sl I (fun i => i = 0) env H :=
  ⟨0, vs, N, rfl, hw, (hh.ghost true).ord ht, hI⟩
theorem done {v : V} (hq : Q v N) (hh : Has H L := by assumption) (ht : Tk N L R := by (repeat (first | with_reducible apply Tk.cns | with_reducible apply Tk.nl | with_reducible apply Tk.asc | with_reducible apply Rm.cns | with_reducible apply Rm.nl | with_reducible apply Rm.asc | with_reducible apply Rc.cns | with_reducible apply Rc.nl | with_reducible apply Rc.asc | exact Tk.nil | exact Rm.here | exact Rc.here | exact Rc.all | with_reducible apply Tk.cons | with_reducible apply Rm.there | with_reducible apply Rm.skip | with_reducible apply Tk.app | with_reducible apply Tk.one | with_reducible apply Rc.there | with_reducible apply Rc.skip))) : CEnds Q v H := CEnds.tk hh ht hq
theorem doneR {v : V} {φ : V → Prop} (hq : φ v) (hh : Has H L := by assumption) (ht : Tk N L R := by (repeat (first | with_reducible apply Tk.cns | with_reducible apply Tk.nl | with_reducible apply Tk.asc | with_reducible apply Rm.cns | with_reducible apply Rm.nl | with_reducible apply Rm.asc | with_reducible apply Rc.cns | with_reducible apply Rc.nl | with_reducible apply Rc.asc | exact Tk.nil | exact Rm.here | exact Rc.here | exact Rc.all | with_reducible apply Tk.cons | with_reducible apply Rm.there | with_reducible apply Rm.skip | with_reducible apply Tk.app | with_reducible apply Tk.one | with_reducible apply Rc.there | with_reducible apply Rc.skip))) : CEnds (fun v L' => φ v ∧ L' = N) v H := CEnds.tk hh ht ⟨hq, rfl⟩
theorem doneN {v : V} {φ : V → List Ob → Prop} {Lo : List Ob} (hq : φ v Lo) (hh : Has H L := by assumption) (ht : Tk (Lo ++ N) L R := by (repeat (first | with_reducible apply Tk.cns | with_reducible apply Tk.nl | with_reducible apply Tk.asc | with_reducible apply Rm.cns | with_reducible apply Rm.nl | with_reducible apply Rm.asc | with_reducible apply Rc.cns | with_reducible apply Rc.nl | with_reducible apply Rc.asc | exact Tk.nil | exact Rm.here | exact Rc.here | exact Rc.all | with_reducible apply Tk.cons | with_reducible apply Rm.there | with_reducible apply Rm.skip | with_reducible apply Tk.app | with_reducible apply Tk.one | with_reducible apply Rc.there | with_reducible apply Rc.skip))) : CEnds (fun v L' => ∃ Lo, φ v Lo ∧ L' = Lo ++ N) v H := CEnds.tk hh ht ⟨Lo, hq, rfl⟩
end
end Go.CM

namespace Go.CM
section
variable {P : Program} {env : Env} {H : Heap} {L N R : List Ob}

def Nw (sl : List Nat) (I : List V → List Ob → Prop) (env : Env) (H : Heap) : Prop := Wkn env H (Nx sl (fun _ => I) (fun _ => True))
theorem Nw.mk {sl : List Nat} {I : List V → List Ob → Prop} (h : Nx sl (fun _ => I) (fun _ => True) env H) : Nw sl I env H := .here h
theorem Nw.base {sl : List Nat} {I : List V → List Ob → Prop} {L' : Nat → List Ob} {id off len e : Nat} {cs cs' : List V} (s : Nat) (hh : Has H L) (hs : env s = .slice id off len e)
    (hu : ∀ id', Upd (id, .cells true cs) [(id', .cells true cs')] L (L' id')) (hd : cs.drop off = cs') (ho : off ≤ cs.length) (hc : cs ≠ [])
    (k : ∀ id' H', Has H' (L' id') → Nw sl I (env.put (some s) (.slice id' 0 len e)) H') : Nw sl I env H := by
  subst hd
  have h0 := hh.ne0 (hu 0).at hc
  refine Wkn.base hs (hh.get (hu 0).at h0) ho fun id' h0' hid => k id' _ (hh.move h0 h0' (hu id') ?_)
  by_cases h : id' = id
  · subst h; exact Heap.del_same _ _
  · rw [Heap.del_ne _ h]; exact hid
end
end Go.CM

namespace Go.CM
theorem givenRowsA {H : Heap} {i sz : Nat} {α : Type} {enc : α → List V} {l : List α} {v : V} (h : RowsAt H i sz (l.map enc) v) : ∃ t, v = .slice t 0 l.length sz ∧ (t = 0 ∨ t = i) ∧ ∀ L, Has H L → (∀ x ∈ L, x.1 = 0 ∨ x.1 ≠ i) → Has H ((t, .cells false (l.flatMap enc)) :: L) := by
  obtain ⟨s, h1, h2⟩ := h
  rw [List.length_map] at h1
  refine ⟨s, h1, ?_⟩
  rcases h2 with ⟨rfl, h2⟩ | ⟨rfl, h0, h2⟩
  · have : l = [] := by simpa using h2
    subst this
    exact ⟨.inl rfl, fun L hL _ => hL.ghost false⟩
  · refine ⟨.inr rfl, fun L hL hn => hL.cons h0 (by rw [h2]; rfl) fun hm => ?_⟩
    obtain ⟨h0', x, hx, e⟩ := mem_ids.1 hm
    rcases hn x hx with h3 | h3
    · exact h0' (e ▸ h3)
    · exact h3 e
section
variable {P : Program} {env : Env} {H : Heap} {L : List Ob} {K : Env → Heap → Prop} {d : Option Nat} {is : List I}

theorem wps_clr (hh : Has H L) {esz : Nat} {z : List V} {y : X} {id off len : Nat} {cs cs' : List V} {L' : List Ob} (hy : y.ev env = .slice id off len esz) (hfit : off + len * esz ≤ cs.length) (hc : cs ≠ []) (hs : splice cs off (rep z len) = cs')
    (hu : Upd (id, .cells true cs) [(id, .cells true cs')] L L') (k : ∀ H', Has H' L' → wpOps P is (env.put d V.undef) H' K) : wpOps P (⟨d, .ef (.clr esz z y), none, .no⟩ :: is) env H K := by
  subst hs
  have h0 := hh.ne0 hu.at hc
  exact .inr (.inr (.inl ⟨id, off, len, cs, hy, hh.get hu.at h0, hfit, ⟨trivial, k _ (hh.set h0 hu)⟩⟩))
end
end Go.CM

namespace Go.CM
section
variable {P : Program} {env : Env} {H : Heap} {Q : Ex → Env → Heap → Prop} {L : List Ob} {K : Env → Heap → Prop} {d : Option Nat} {x : Kx} {is : List I}

theorem wps_copyT (hh : Has H L) {ty tk ti esz m id off len : Nat} {y s : X} {cs cs' vs : List V} {L' : List Ob} (hd : y.ev env = .ty ty tk ti (.slice id off len (esz + 1))) (hs : srcTake H (esz + 1) len (s.ev env) = some (m, vs)) (ho : off ≤ cs.length) (hc : cs ≠ []) (he : splice cs off vs = cs')
    (hu : Upd (id, .cells true cs) [(id, .cells true cs')] L L') (k : ∀ H', Has H' L' → wpOps P is (env.put d (.int .i64 (min m len : Nat))) H' K) : wpOps P (⟨d, .ef (.copy (esz + 1) y s), none, .no⟩ :: is) env H K := by
  subst he
  have h0 := hh.ne0 hu.at hc
  exact .inr ⟨id, off, len, cs, m, vs, .inl (by rw [hd]; rfl), hs, hh.get hu.at h0, ho, trivial, k _ (hh.set h0 hu)⟩
end
end Go.CM

namespace Go.CM

def elemOf (P : Program) (t : TypeId) : TypeId := match P.underlying t with
  | some (.slice e) => e
  | _ => 0
theorem rep_length' {z : List V} {k : Nat} (hz : z.length = k) : ∀ n, (rep z n).length = n * k
  | 0 => by simp [rep]
  | n + 1 => by simp [rep, rep_length' hz n, hz, Nat.succ_mul, Nat.add_comm]
theorem Has.two {H : Heap} {L : List Ob} {x y : Ob} {R : List Ob} (h : Has H L) (hp : L = x :: y :: R) (hx : x.1 ≠ 0) (hy : y.1 ≠ 0) : x.1 ≠ y.1 := by
  subst hp
  exact fun e => h.head_ne hx y (by simp) hy e.symm
end Go.CM

namespace Go.CM

section
variable {P : Program}

theorem Rel.aside {ι : Pl} {H : Heap} {w w' : World} (h : Rel ι H w) {b : Nat} (hb : ∀ id o off, H id = some o → ι id = some (b, off) → False) (hs : Shp w w') (hf : ∀ k, k ≠ b → w'.heap[k]? = w.heap[k]?) : Rel ι H w' :=
  ⟨fun i x hx => by
    obtain ⟨b2, o2, g1, g2⟩ := h.obj i x hx
    exact ⟨b2, o2, g1, g2.keep (fun _ _ h => h) hs (hf b2 (by rintro rfl; exact hb i x o2 hx g1))⟩, h.inj, h.fin, h.zero, h.glob⟩
theorem shp_loop {w : World} {b : Nat} {r : Loop} {o' : Obj} (h : w.heap[b]? = some (.loop r)) : Shp w (w.putObj b o') := by
  intro b2 c e f g
  by_cases hb : b2 = b
  · subst hb; rw [h] at g; cases g
  · exact ⟨c, f, (World.putObj_heap_other hb).trans g, keepF rfl⟩
theorem Ext.not_at {ι ι1 : Pl} {H H1 : Heap} {w w1 : World} (hX : Ext ι H w ι1 H1 w1) (hR : Rel ι H w) {b : Nat} (hb : b < w.heap.size) (hn : ∀ id o off, H id = some o → ι id = some (b, off) → False) :
    ∀ id o off, H1 id = some o → ι1 id = some (b, off) → False := by
  intro id o off h1 h2
  cases hr : o.rw with
  | true =>
    rcases hX.owns b ⟨id, o, off, h1, hr, h2⟩ with ⟨i, x, off', g1, _, g3⟩ | g
    · exact hn i x off' g1 g3
    · omega
  | false =>
    have h3 := hX.ro id o h1 hr
    obtain ⟨b2, o2, g1, _⟩ := hR.obj _ _ h3
    have g2 := hX.pl _ _ g1
    rw [h2] at g2; cases g2
    exact hn id o _ h3 g1
theorem Ext.block {ι ι1 : Pl} {H H1 : Heap} {w w1 : World} (hX : Ext ι H w ι1 H1 w1) {b : Nat} (hb : b < w.heap.size) (hn : ∀ id o off, H id = some o → ι id = some (b, off) → False) : w1.heap[b]? = w.heap[b]? :=
  hX.frame b hb fun ⟨i, x, off, g1, _, g3⟩ => hn i x off g1 g3

theorem round_yield (hm : P.follows .mixedOrders = true) {n l : Nat} {H : Heap} {vs : List V} {D fn : Nat} {asg bdy : Code} {ca cb : C} {p : Nat} (hl : H l = some (.round vs D fn #[p] asg bdy)) (hca : comp P n asg = some ca) (hcb : comp P n bdy = some cb) (hn : vs.length = n)
    (hp : p < n) {v : V} {Q : V → Heap → Prop}
    (hk : ca.wp P (fun x env1 H1 => x = .normal ∧ cb.wp P (fun x _ H2 => x = .normal ∧ (H2 l = none → Q (.bool true) (H2.set l (.round vs D fn #[p] asg bdy)))) env1 H1) ((env0 vs).put (some p) v) (H.del l)) : YieldC P l [v] H Q := by
  intro ι w us b o hR hv hι
  cases hv with
  | cons _ u _ us' hvu hv' =>
  cases hv'
  obtain ⟨b', off, hι', us0, hvs, hb⟩ := hR.obj _ _ hl
  rw [hι] at hι'; cases hι'
  have hblt := (Array.getElem?_eq_some_iff.1 hb).1
  have hdel : ∀ i x, (H.del l) i = some x → i ≠ l ∧ H i = some x := fun i x h => by
    by_cases hi : i = l
    · subst hi; rw [Heap.del_same] at h; cases h
    · rw [Heap.del_ne _ hi] at h; exact ⟨hi, h⟩
  have hns : ∀ id o off, (H.del l) id = some o → ι id = some (b, off) → False := fun id x off' h1 h2 => by
    obtain ⟨h3, h4⟩ := hdel _ _ h1
    exact h3 (hR.inj l id _ _ b _ _ hl h4 rfl hι h2).symm
  have hul : us0.length = n := by rw [← hvs.length]; exact hn
  have hE0 : EnvR n ι w (env0 vs) { tmps := ⟨us0⟩, defers := [] } := by
    refine ⟨by simpa using hul, rfl, hR.glob, fun t ht => ?_⟩
    obtain ⟨x, g1, g2⟩ := hvs.get (i := t) (v := vs[t]'(by omega)) (by simp [hn, ht])
    have e1 : (⟨us0⟩ : Array Value).getD t Go.undef = x := by
      rw [Array.getD_eq_getD_getElem?, ← Array.getElem?_toList, g1]; rfl
    rw [e1]
    simpa [env0, hn, ht] using g2
  have hE := hE0.put (d := some p) (by simpa [dstOk, Nat.blt, Nat.lt_iff_add_one_le] using hp) hvu
  have hR0 : Rel ι (H.del l) w := hR.weaken fun i x h => (hdel i x h).2
  refine ⟨fn, _, asg, bdy, run_yield (P := P) (args := ⟨[u]⟩) hb rfl, roundIn_of_wpIn trivial ?_⟩
  have htm : ({ tmps := ((#[p] : Array Tmp).zip (⟨[u]⟩ : Array Value)).foldl (fun tmps (t, a) => tmps.setIfInBounds t a) (⟨us0⟩ : Array Value), defers := [] } : Act) = ({ tmps := ⟨us0⟩, defers := [] } : Act).put (some p) u := by
    simp [Act.put]
  rw [htm]
  refine wpIn_mono (C.sound hm (some b) asg ca hca _ _ _ hk ι w _ hE hR0) ?_
  rintro e a1 w1 ⟨x, ι1, env1, H1, g1, g2, g3, g4, rfl, g5⟩
  cases e <;> simp only [exitR] at g1
  have hb1 := (g4.block hblt hns).trans hb
  have hn1 := Ext.not_at g4 hR0 hblt hns
  refine ⟨_, run_beginRound hb1 rfl, ?_⟩
  have hs2 := shp_loop (o' := .loop { ({ state := .ready, pending := none, fn, tmps := ⟨us0⟩, params := #[p], assign := asg, body := bdy, defers := D } : Loop) with state := .busy }) hb1
  have hblt1 := (Array.getElem?_eq_some_iff.1 hb1).1
  have hb2 := World.putObj_heap_same (w := w1) (o := .loop { ({ state := .ready, pending := none, fn, tmps := ⟨us0⟩, params := #[p], assign := asg, body := bdy, defers := D } : Loop) with state := .busy }) hblt1
  have hf2 : ∀ k, k ≠ b → (w1.putObj b (.loop { ({ state := .ready, pending := none, fn, tmps := ⟨us0⟩, params := #[p], assign := asg, body := bdy, defers := D } : Loop) with state := .busy })).heap[k]? = w1.heap[k]? := fun k hk => World.putObj_heap_other hk
  have hR2 := g3.aside hn1 hs2 hf2
  have hE2 := g2.mono (fun _ _ h => h) hs2
  have hos2 : (w1.putObj b (.loop { ({ state := .ready, pending := none, fn, tmps := ⟨us0⟩, params := #[p], assign := asg, body := bdy, defers := D } : Loop) with state := .busy })).os = w1.os := rfl
  have hout2 : (w1.putObj b (.loop { ({ state := .ready, pending := none, fn, tmps := ⟨us0⟩, params := #[p], assign := asg, body := bdy, defers := D } : Loop) with state := .busy })).output = w1.output := rfl
  have ht2 : Tape w1 (w1.putObj b (.loop { ({ state := .ready, pending := none, fn, tmps := ⟨us0⟩, params := #[p], assign := asg, body := bdy, defers := D } : Loop) with state := .busy })) := ⟨rfl, Nat.le_refl _⟩
  have hsz2 : (w1.putObj b (.loop { ({ state := .ready, pending := none, fn, tmps := ⟨us0⟩, params := #[p], assign := asg, body := bdy, defers := D } : Loop) with state := .busy })).heap.size = w1.heap.size := by simp [World.putObj]
  generalize (w1.putObj b (.loop { ({ state := .ready, pending := none, fn, tmps := ⟨us0⟩, params := #[p], assign := asg, body := bdy, defers := D } : Loop) with state := .busy })) = w2 at *
  refine wpIn_mono (C.sound hm (some b) bdy cb hcb _ _ _ g5 ι1 w2 a1 hE2 hR2) ?_
  rintro e a2 w3 ⟨x, ι2, env2, H2, k1, k2, k3, k4, rfl, k5⟩
  cases e <;> simp only [exitR] at k1
  have hlt2 := (Array.getElem?_eq_some_iff.1 hb2).1
  have hb3 := (k4.block hlt2 hn1).trans hb2
  have hn3 := Ext.not_at k4 hR2 hlt2 hn1
  have hlt3 := (Array.getElem?_eq_some_iff.1 hb3).1
  refine ⟨_, _, run_endRound none hb3, ι2, H2.set l (.round vs D fn #[p] asg bdy), .bool true, _, rfl, .bool true, ?_⟩
  have hs4 := shp_loop (o' := .loop { state := .ready, pending := none, fn, tmps := ⟨us0⟩, params := #[p], assign := asg, body := bdy, defers := D }) hb3
  have hb4 := World.putObj_heap_same (w := w3) (o := .loop { state := .ready, pending := none, fn, tmps := ⟨us0⟩, params := #[p], assign := asg, body := bdy, defers := D }) hlt3
  have hf4 : ∀ k, k ≠ b → (w3.putObj b (.loop { state := .ready, pending := none, fn, tmps := ⟨us0⟩, params := #[p], assign := asg, body := bdy, defers := D })).heap[k]? = w3.heap[k]? := fun k hk => World.putObj_heap_other hk
  have hsz4 : (w3.putObj b (.loop { state := .ready, pending := none, fn, tmps := ⟨us0⟩, params := #[p], assign := asg, body := bdy, defers := D })).heap.size = w3.heap.size := by simp [World.putObj]
  show Rel ι2 _ (w3.putObj b (.loop { state := .ready, pending := none, fn, tmps := ⟨us0⟩, params := #[p], assign := asg, body := bdy, defers := D })) ∧ Ext ι H w ι2 _ (w3.putObj b (.loop { state := .ready, pending := none, fn, tmps := ⟨us0⟩, params := #[p], assign := asg, body := bdy, defers := D })) ∧ _
  have hos4 : (w3.putObj b (.loop { state := .ready, pending := none, fn, tmps := ⟨us0⟩, params := #[p], assign := asg, body := bdy, defers := D })).os = w3.os := rfl
  have hout4 : (w3.putObj b (.loop { state := .ready, pending := none, fn, tmps := ⟨us0⟩, params := #[p], assign := asg, body := bdy, defers := D })).output = w3.output := rfl
  have ht4 : Tape w3 (w3.putObj b (.loop { state := .ready, pending := none, fn, tmps := ⟨us0⟩, params := #[p], assign := asg, body := bdy, defers := D })) := ⟨rfl, Nat.le_refl _⟩
  generalize (w3.putObj b (.loop { state := .ready, pending := none, fn, tmps := ⟨us0⟩, params := #[p], assign := asg, body := bdy, defers := D })) = w4 at *
  have hιl : ι2 l = some (b, o) := k4.pl _ _ (g4.pl _ _ hι)
  have hset : ∀ i x, (H2.set l (.round vs D fn #[p] asg bdy)) i = some x → (i = l ∧ x = .round vs D fn #[p] asg bdy) ∨ (i ≠ l ∧ H2 i = some x) := fun i x h => by
    by_cases hi : i = l
    · subst hi; rw [Heap.set_same] at h; cases h; exact .inl ⟨rfl, rfl⟩
    · rw [Heap.set_ne _ _ hi] at h; exact .inr ⟨hi, h⟩
  have hnone : H2 l = none := by
    cases hx : H2 l with
    | none => rfl
    | some x =>
      have hι1 := g4.pl _ _ hι
      cases hy : H1 l with
      | none => have := k4.ids l x hx hy; rw [hι1] at this; cases this
      | some y => have := g4.ids l y hy (Heap.del_same _ _); rw [hι] at this; cases this
  have hshp : Shp w w4 := ((g4.shp.trans hs2).trans k4.shp).trans hs4
  refine ⟨⟨fun i x hx => ?_, fun i i' x x' b1 o1 o2 h1 h2 hr h3 h4 => ?_, k3.fin, k3.zero, k3.glob⟩, ⟨fun i x hx => k4.pl _ _ (g4.pl _ _ hx), hos4.trans (k4.os.trans (hos2.trans g4.os)), ((g4.tape.trans ht2).trans k4.tape).trans ht4, hout4.trans (k4.output.trans (hout2.trans g4.output)), ?_, hshp, ?_, ?_, ?_, ?_⟩, k5 hnone⟩
  · rcases hset i x hx with ⟨rfl, rfl⟩ | ⟨hi, h⟩
    · exact ⟨b, o, hιl, us0, hvs.mono (fun i x hx => k4.pl _ _ (g4.pl _ _ hx)) hshp, hb4⟩
    · obtain ⟨b2, o2, q1, q2⟩ := k3.obj i x h
      exact ⟨b2, o2, q1, q2.keep (fun _ _ h => h) hs4 (hf4 b2 (by rintro rfl; exact hn3 i x o2 h q1))⟩
  · rcases hset i x h1 with ⟨e1, rfl⟩ | ⟨hi, q1⟩ <;> rcases hset i' x' h2 with ⟨e2, rfl⟩ | ⟨hi', q2⟩
    · rw [e1, e2]
    · rw [e1, hιl] at h3; cases h3
      exact (hn3 i' x' _ q2 h4).elim
    · rw [e2, hιl] at h4; cases h4
      exact (hn3 i x _ q1 h3).elim
    · exact k3.inj i i' x x' b1 o1 o2 q1 q2 hr h3 h4
  · have := g4.size; have := k4.size; omega
  · intro k hk hno
    have hkb : k ≠ b := by rintro rfl; exact hno ⟨l, _, o, hl, rfl, hι⟩
    have h1 : ¬ Owns ι (H.del l) k := fun ⟨i, x, off', q1, q2, q3⟩ => hno ⟨i, x, off', (hdel i x q1).2, q2, q3⟩
    have h2 : ¬ Owns ι1 H1 k := fun h => (g4.owns k h).elim h1 (by omega)
    rw [hf4 k hkb, k4.frame k (by have := g4.size; omega) h2, hf2 k hkb, g4.frame k hk h1]
  · rintro k ⟨i, x, off', q1, q2, q3⟩
    rcases hset i x q1 with ⟨rfl, rfl⟩ | ⟨hi, q1⟩
    · rw [hιl] at q3; cases q3
      exact .inl ⟨i, _, o, hl, rfl, hι⟩
    · rcases k4.owns k ⟨i, x, off', q1, q2, q3⟩ with h | h
      · rcases g4.owns k h with ⟨j, y, off2, r1, r2, r3⟩ | h
        · exact .inl ⟨j, y, off2, (hdel j y r1).2, r2, r3⟩
        · exact .inr h
      · exact .inr (by have := g4.size; omega)
  · intro i x h1 h2
    rcases hset i x h1 with ⟨rfl, rfl⟩ | ⟨hi, h1⟩
    · rw [hl] at h2; cases h2
    · have h3 : (H.del l) i = none := by rw [Heap.del_ne _ hi]; exact h2
      cases h4 : H1 i with
      | none =>
        have := k4.ids i x h1 h4
        cases h5 : ι i with
        | none => rfl
        | some y => rw [g4.pl _ _ h5] at this; cases this
      | some y => exact g4.ids i y h4 h3
  · intro i x h1 hr
    rcases hset i x h1 with ⟨rfl, rfl⟩ | ⟨hi, h1⟩
    · cases hr
    · exact (hdel i x (g4.ro i x (k4.ro i x h1 hr) hr)).2
theorem ObjR.not_deferred {ι : Pl} {w : World} {b off : Nat} {o : HObj} {x : Option (List Deferred)} (h : ObjR ι w b off o) (hb : w.heap[b]? = some (.deferred x)) : False := by
  cases o with
  | cells rw cs => obtain ⟨c, e, f, h1, _⟩ := h; rw [hb] at h1; cases h1
  | map es => obtain ⟨ms, clock, h1, _⟩ := h; rw [hb] at h1; cases h1
  | siter s pos => obtain ⟨_, bs, h1, _⟩ := h; rw [hb] at h1; cases h1
  | mapE es i n => obtain ⟨ms, clock, h1, _⟩ := h; rw [hb] at h1; cases h1
  | mapS es bs clk => obtain ⟨ms, h1, _⟩ := h; rw [hb] at h1; cases h1
  | miter mid since seen stepped => obtain ⟨_, mb, mo, _, h2⟩ := h; rw [hb] at h2; cases h2
  | round vs D fn ps as bd => obtain ⟨us, _, h2⟩ := h; rw [hb] at h2; cases h2
theorem shp_deferred {w : World} {b : Nat} {r : Option (List Deferred)} {o' : Obj} (h : w.heap[b]? = some (.deferred r)) : Shp w (w.putObj b o') := by
  intro b2 c e f g
  by_cases hb : b2 = b
  · subst hb; rw [h] at g; cases g
  · exact ⟨c, f, (World.putObj_heap_other hb).trans g, keepF rfl⟩
theorem EnvR.start {n : Nat} {ι : Pl} {w : World} {args : List V} {us : List Value} (hg : ∀ g, ι (2 * g + 1) = some (g, 0)) (hv : VRs ι w args us) (hlen : args.length ≤ n) : EnvR n ι w (env0 args) { tmps := ⟨us⟩ ++ Array.replicate (n - (⟨us⟩ : Array Value).size) Go.undef, defers := [] } := by
  have hl := hv.length
  refine ⟨by simp; omega, rfl, hg, fun t ht => ?_⟩
  simp only [env0]
  by_cases hta : t < args.length
  · obtain ⟨u, g1, g2⟩ := hv.get (i := t) (v := args[t]) (by simp [hta])
    have : ((⟨us⟩ : Array Value) ++ Array.replicate (n - (⟨us⟩ : Array Value).size) Go.undef).getD t Go.undef = u := by
      rw [Array.getD_eq_getD_getElem?, Array.getElem?_append_left (by simp; omega)]
      rw [← Array.getElem?_toList, g1]; rfl
    rw [this]
    simpa [hta] using g2
  · have : ((⟨us⟩ : Array Value) ++ Array.replicate (n - (⟨us⟩ : Array Value).size) Go.undef).getD t Go.undef = Go.undef := by
      rw [Array.getD_eq_getD_getElem?, Array.getElem?_append_right (by simp; omega), Array.getElem?_replicate]
      split <;> rfl
    rw [this, List.getElem?_eq_none (by omega)]
    exact VR.undef _ _

set_option maxHeartbeats 2000000 in
theorem loopF_sound (hm : P.follows .mixedOrders = true) {f : FuncId} {fn : Func} (hf : P.funcs[f]? = some fn) (hname : (fn.name == "runtime.NumGoroutine") = false) {r0 r1 asg bdy : Code} {o1 o2 : Oper} {i4 bid g p : Nat}
    (hb : fn.body = some (.seq r0 (.seq (.seq r1 (.block bid (.rangeFunc (.tmp g) #[p] asg bdy))) (.seq (.region i4 #[o1, o2] false) .ret))))
    (hg : g < fn.ntmps) {c0 c1 : C} (hc0 : comp P fn.ntmps r0 = some c0) (hc1 : comp P fn.ntmps r1 = some c1)
    {t2 t12 t4 : Nat} (h1 : compOp P fn.ntmps o1.op o1.type = some (.rd (.load1 (.t t2)))) (h2 : compOp P fn.ntmps o2.op o2.type = some (.rd (.mov (.t t12)))) (d1 : o1.dst = some t12) (d2 : o2.dst = some t4) (q1 : o1.guard = none) (q2 : o2.guard = none)
    (l12 : t12 < fn.ntmps) (l4 : t4 < fn.ntmps) (hres : fn.results = #[.tmp t4]) {args : List V} (hlen : args.length ≤ fn.ntmps) {H : Heap} {Q : V → Heap → Prop}
    (hk : c0.wp P (fun x env1 H1 => x = .normal ∧ c1.wp P (fun x env2 H2 => x = .normal ∧ ∃ gf caps, env2 g = .func gf caps ∧ ∀ (l D fnid : Nat), l ≠ 0 → H2 l = none →
      CallsC P gf (.yield l :: caps) (H2.set l (.round ((List.range fn.ntmps).map env2) D fnid #[p] asg bdy)) fun _ H3 => H3 l = some (.round ((List.range fn.ntmps).map env2) D fnid #[p] asg bdy) ∧ ∃ v, (R.load1 (.t t2)).ev env2 (H3.del l) = some v ∧ Q v (H3.del l)) env1 H1) (env0 args) H) :
    CallsC P f args H Q := by
  refine ⟨⟨fn, hf, hname, by rw [hb]; rfl⟩, fun ι w us hR hv => ?_⟩
  have hE := EnvR.start hR.glob hv hlen
  refine (callsIn_wide (n := 0)).1 (callsIn_of_wp_marks hf hb trivial ?_)
  refine wpIn_seq (wpIn_mono (C.sound hm none r0 c0 hc0 _ _ _ hk ι w _ hE hR) ?_)
  rintro e a1 w1 ⟨x, ι1, env1, H1, g1, g2, g3, g4, rfl, hk1⟩
  cases e <;> simp only [exitR] at g1
  refine wpIn_seq (wpIn_seq (wpIn_mono (C.sound hm none r1 c1 hc1 _ _ _ hk1 ι1 w1 a1 g2 g3) ?_))
  rintro e a2 w2 ⟨x, ι2, env2, H2, j1, j2, j3, j4, rfl, gf, caps, hgf, hk2⟩
  cases e <;> simp only [exitR] at j1
  refine wpIn_block (wpIn_rangeFunc fun fnid _ => ?_)
  have hvg := j2.vals g hg
  rw [hgf] at hvg
  generalize hug : a2.tmps.getD g Go.undef = ug at hvg
  cases hvg with
  | func _ _ cs hcs =>
  have hD0 := j2.defers
  obtain ⟨l, hl0, hl1, hl2⟩ := j3.fresh
  have hp1 := Push.mk' w2 (.deferred (some []))
  generalize hWa : ({ w2 with heap := w2.heap.push (.deferred (some [])) } : World) = Wa at hp1
  have hRa : Rel ι2 H2 Wa := ⟨fun i x hx => by
    obtain ⟨b2, o2, e1, e2⟩ := j3.obj i x hx
    exact ⟨b2, o2, e1, e2.keep (fun _ _ h => h) hp1.shp (hp1.old b2 e2.lt)⟩, j3.inj, j3.fin, j3.zero, j3.glob⟩
  have hbs : Wa.heap.size = w2.heap.size + 1 := hp1.size
  have hDa : Wa.heap[w2.heap.size]? = some (.deferred (some [])) := hp1.new
  have hp2 := Push.mk' Wa (.loop { state := .ready, pending := none, fn := fnid, tmps := a2.tmps, params := #[p], assign := asg, body := bdy, defers := w2.heap.size })
  generalize hWb : ({ Wa with heap := Wa.heap.push (.loop { state := .ready, pending := none, fn := fnid, tmps := a2.tmps, params := #[p], assign := asg, body := bdy, defers := w2.heap.size }) } : World) = Wb at hp2
  have hlb : (ι2.add l (Wa.heap.size, 0)) l = some (Wa.heap.size, 0) := Pl.add_same _ _ _
  have hle : Pl.le ι2 (ι2.add l (Wa.heap.size, 0)) := Pl.le_add _ hl2
  have hvs : VRs (ι2.add l (Wa.heap.size, 0)) Wb ((List.range fn.ntmps).map env2) a2.tmps.toList := by
    refine VRs.of_get (by simp [j2.size]) fun t v ht => ?_
    rw [List.getElem?_map] at ht
    obtain ⟨t', ht', rfl⟩ := Option.map_eq_some_iff.1 ht
    obtain ⟨hlt, ht2⟩ := List.getElem?_eq_some_iff.1 ht'
    rw [List.getElem_range] at ht2
    subst ht2
    have hlt : t < fn.ntmps := by simpa using hlt
    have hv := (j2.vals t hlt).mono hle (hp1.shp.trans hp2.shp)
    refine ⟨_, ?_, hv⟩
    rw [Array.getElem?_toList, Array.getD_eq_getD_getElem?, Array.getElem?_eq_getElem (by rw [j2.size]; exact hlt)]
    rfl
  have hRb : Rel (ι2.add l (Wa.heap.size, 0)) (H2.set l (.round ((List.range fn.ntmps).map env2) w2.heap.size fnid #[p] asg bdy)) Wb :=
    hRa.new hl0 hl1 hl2 hp2.shp hp2.old ⟨a2.tmps.toList, hvs, hp2.new⟩
  have hcall := hk2 l w2.heap.size fnid hl0 hl1
  have hent := hcall.1
  have hcall := hcall.2 (ι2.add l (Wa.heap.size, 0)) Wb (.func (.yield Wa.heap.size) #[] #[] :: cs) hRb (.cons _ _ _ _ (.yield l _ _ hlb) (hcs.mono hle (hp1.shp.trans hp2.shp)))
  have hev : a2.eval (.tmp g) = .func (.func gf) #[] ⟨cs⟩ := hug
  refine ⟨Wa.heap.size, [{ target := .collected w2.heap.size, args := #[] }], Wb, { target := .fn (.func gf) ⟨cs⟩, args := #[.func (.yield Wa.heap.size) #[] #[]] }, Wb, gf, #[.func (.yield Wa.heap.size) #[] #[]] ++ ⟨cs⟩, Wb, ?_, ?_, fun _ _ => trivial, ?_, fun h => (by cases h), ?_⟩
  · have := run_enterLoop_outer (P := P) (w := w2) fnid a2.tmps #[p] asg bdy
    show (Instr.enterLoop fnid a2.tmps #[p] asg bdy none).run P w2 = _
    rw [this, hbs, ← hWb, ← hWa]
    rfl
  · simp only [resolve, hev]
    simp [go_sem]
  · simp [invoke, go_sem, enters_run hent]
  have hargs : (#[.func (.yield Wa.heap.size) #[] #[]] ++ ⟨cs⟩ : Array Value) = ⟨.func (.yield Wa.heap.size) #[] #[] :: cs⟩ := by apply Array.ext'; simp
  rw [hargs]
  refine callsIn_wide.2 (hcall.mono ?_)
  rintro e W2 ⟨ι3, H3, v3, u3, rfl, _, m2, m3, hl3, v, hload, hq⟩
  obtain ⟨b', off, hι', us0, hvs0, hb3⟩ := m2.obj _ _ hl3
  have hl33 := m3.pl _ _ hlb
  rw [hl33] at hι'; cases hι'
  have hnD : ∀ id o off, (H2.set l (.round ((List.range fn.ntmps).map env2) w2.heap.size fnid #[p] asg bdy)) id = some o → (ι2.add l (Wa.heap.size, 0)) id = some (w2.heap.size, off) → False := fun id o off e1 e2 => by
    obtain ⟨b4, o4, e3, e4⟩ := hRb.obj id o e1
    rw [e2] at e3; cases e3
    exact e4.not_deferred ((hp2.old _ (by omega)).trans hDa)
  have hDb : Wb.heap[w2.heap.size]? = some (.deferred (some [])) := (hp2.old _ (by omega)).trans hDa
  have hDlt : w2.heap.size < Wb.heap.size := by rw [hp2.size]; omega
  have hD2 : W2.heap[w2.heap.size]? = some (.deferred (some [])) := (m3.block hDlt hnD).trans hDb
  have hblt := (Array.getElem?_eq_some_iff.1 hb3).1
  refine ⟨none, _, run_endLoop hb3 (by simp), ?_⟩
  have hs3 := shp_loop (o' := .loop { state := .exhausted, pending := none, fn := fnid, tmps := ⟨us0⟩, params := #[p], assign := asg, body := bdy, defers := w2.heap.size }) hb3
  have hf3 : ∀ k, k ≠ Wa.heap.size → (W2.putObj Wa.heap.size (.loop { state := .exhausted, pending := none, fn := fnid, tmps := ⟨us0⟩, params := #[p], assign := asg, body := bdy, defers := w2.heap.size })).heap[k]? = W2.heap[k]? := fun k hk => World.putObj_heap_other hk
  have hsz3 : (W2.putObj Wa.heap.size (.loop { state := .exhausted, pending := none, fn := fnid, tmps := ⟨us0⟩, params := #[p], assign := asg, body := bdy, defers := w2.heap.size })).heap.size = W2.heap.size := by simp [World.putObj]
  have hos3 : (W2.putObj Wa.heap.size (.loop { state := .exhausted, pending := none, fn := fnid, tmps := ⟨us0⟩, params := #[p], assign := asg, body := bdy, defers := w2.heap.size })).os = W2.os := rfl
  have hout3 : (W2.putObj Wa.heap.size (.loop { state := .exhausted, pending := none, fn := fnid, tmps := ⟨us0⟩, params := #[p], assign := asg, body := bdy, defers := w2.heap.size })).output = W2.output := rfl
  have ht3 : Tape W2 (W2.putObj Wa.heap.size (.loop { state := .exhausted, pending := none, fn := fnid, tmps := ⟨us0⟩, params := #[p], assign := asg, body := bdy, defers := w2.heap.size })) := ⟨rfl, Nat.le_refl _⟩
  show (Code.seq (.region i4 #[o1, o2] false) .ret).wpIn Fence.wide 0 P _ _ (W2.putObj Wa.heap.size (.loop { state := .exhausted, pending := none, fn := fnid, tmps := ⟨us0⟩, params := #[p], assign := asg, body := bdy, defers := w2.heap.size }))
  generalize (W2.putObj Wa.heap.size (.loop { state := .exhausted, pending := none, fn := fnid, tmps := ⟨us0⟩, params := #[p], assign := asg, body := bdy, defers := w2.heap.size })) = W3 at *
  have hdel : ∀ i x, (H3.del l) i = some x → i ≠ l ∧ H3 i = some x := fun i x h => by
    by_cases hi : i = l
    · subst hi; rw [Heap.del_same] at h; cases h
    · rw [Heap.del_ne _ hi] at h; exact ⟨hi, h⟩
  have hn4 : ∀ id o off, (H3.del l) id = some o → ι3 id = some (Wa.heap.size, off) → False := fun id x off' e1 e2 => by
    obtain ⟨e3, e4⟩ := hdel _ _ e1
    exact e3 (m2.inj l id _ _ _ _ _ hl3 e4 rfl hl33 e2).symm
  have hR4 : Rel ι3 (H3.del l) W3 := (m2.weaken fun i x h => (hdel i x h).2).aside hn4 hs3 hf3
  have hD3 : W3.heap[w2.heap.size]? = some (.deferred (some [])) := (hf3 _ (by omega)).trans hD2
  have hE3 : EnvR fn.ntmps ι3 W3 env2 a2 := j2.mono (fun i x h => m3.pl _ _ (hle _ _ h)) (((hp1.shp.trans hp2.shp).trans m3.shp).trans hs3)
  obtain ⟨u1, e1, v1⟩ := R.sound hE3 hR4 h1 hload
  have hE4 := hE3.put (d := some t12) (by simpa [dstOk, Nat.blt, Nat.lt_iff_add_one_le] using l12) v1
  have hmov : (R.mov (.t t12)).ev (env2.put (some t12) v) (H3.del l) = some v := by simp [R.ev, X.ev, Env.put]
  obtain ⟨u2, e2, v2⟩ := R.sound hE4 hR4 h2 hmov
  have hE5 := hE4.put (d := some t4) (by simpa [dstOk, Nat.blt, Nat.lt_iff_add_one_le] using l4) v2
  have v5 := hE5.vals t4 l4
  have hput5 : ((env2.put (some t12) v).put (some t4) v) t4 = v := by simp [Env.put]
  rw [hput5] at v5
  have heval : ∀ (ds : List Deferred) (b : Act), ({ b with defers := ds } : Act).eval = b.eval := fun ds b => funext fun x => by cases x <;> rfl
  refine wpIn_seq (wpIn_region ?_)
  show wpOpsIn Fence.wide 0 P #[o1, o2] _ [0, 1] _ _
  rw [wpOpsIn_cons]
  unfold wpOpIn
  simp only [List.getElem?_toArray, List.getElem?_cons_zero, Region.wanted, q1, if_true]
  refine ⟨fun _ _ => trivial, ?_⟩
  rw [heval, semAt_run _ e1 (fun _ h => by cases h), Oper.uponIn_value, wpOpsIn_cons]
  unfold wpOpIn
  simp only [List.getElem?_toArray, List.getElem?_cons_succ, List.getElem?_cons_zero, Region.wanted, q2, if_true]
  refine ⟨fun _ _ => trivial, ?_⟩
  rw [d1]
  have hp3 : ∀ (ds : List Deferred) (d : Option Tmp) (u : Value), ({ a2 with defers := ds } : Act).put d u = { (a2.put d u) with defers := ds } := fun ds d u => by cases d <;> rfl
  have hp4 : ∀ (ds : List Deferred) (b : Act) (d : Option Tmp) (u : Value), ({ b with defers := ds } : Act).put d u = { (b.put d u) with defers := ds } := fun ds b d u => by cases d <;> rfl
  rw [hp4, heval, semAt_run _ e2 (fun _ h => by cases h), Oper.uponIn_value, d2, hp4]
  refine wpIn_ret ?_
  refine ⟨by simp, .inl ⟨w2.heap.size, _, rfl, run_takeDeferred hD3, ?_⟩⟩
  rw [hD0]
  have hs6 := shp_deferred (o' := .deferred none) hD3
  have hf6 : ∀ k, k ≠ w2.heap.size → (W3.putObj w2.heap.size (.deferred none)).heap[k]? = W3.heap[k]? := fun k hk => World.putObj_heap_other hk
  have hn6 : ∀ id o off, (H3.del l) id = some o → ι3 id = some (w2.heap.size, off) → False := fun id o off e1 e2 => by
    obtain ⟨b4, o4, e3, e4⟩ := hR4.obj id o e1
    rw [e2] at e3; cases e3
    exact e4.not_deferred hD3
  refine ⟨_, results_tmp hres _ _ _, ι3, H3.del l, v, _, rfl, v5.mono (fun _ _ h => h) hs6, hR4.aside hn6 hs6 hf6, ?_, hq⟩
  refine g4.trans (j4.trans ?_)
  have hset : ∀ i x, (H2.set l (.round ((List.range fn.ntmps).map env2) w2.heap.size fnid #[p] asg bdy)) i = some x → i = l ∨ (i ≠ l ∧ H2 i = some x) := fun i x h => by
    by_cases hi : i = l
    · exact .inl hi
    · rw [Heap.set_ne _ _ hi] at h; exact .inr ⟨hi, h⟩
  have hown : ∀ k, Owns (ι2.add l (Wa.heap.size, 0)) (H2.set l (.round ((List.range fn.ntmps).map env2) w2.heap.size fnid #[p] asg bdy)) k → k = Wa.heap.size ∨ Owns ι2 H2 k := by
    rintro k ⟨i, x, off', r1, r2, r3⟩
    rcases hset i x r1 with rfl | ⟨hi, r1⟩
    · rw [hlb] at r3; cases r3; exact .inl rfl
    · rw [Pl.add_ne _ _ hi] at r3
      exact .inr ⟨i, x, off', r1, r2, r3⟩
  have hszb : Wb.heap.size = w2.heap.size + 2 := by rw [hp2.size, hbs]
  refine ⟨fun i x hx => m3.pl _ _ (hle _ _ hx), ?_, ?_, ?_, ?_, (((hp1.shp.trans hp2.shp).trans m3.shp).trans hs3).trans hs6, ?_, ?_, ?_, ?_⟩
  · show W3.os = w2.os
    exact hos3.trans (m3.os.trans (hp2.os.trans hp1.os))
  · exact (((hp1.tape.trans hp2.tape).trans m3.tape).trans ht3).trans ⟨rfl, Nat.le_refl _⟩
  · show W3.output = w2.output
    exact hout3.trans (m3.output.trans (hp2.output.trans hp1.output))
  · have := m3.size
    have : (W3.putObj w2.heap.size (.deferred none)).heap.size = W3.heap.size := by simp [World.putObj]
    omega
  · intro k hk hno
    rw [hf6 k (by omega), hf3 k (by omega), m3.frame k (by omega) (fun h => (hown k h).elim (by omega) hno), hp2.old k (by omega), hp1.old k hk]
  · rintro k ⟨i, x, off', r1, r2, r3⟩
    rcases m3.owns k ⟨i, x, off', (hdel i x r1).2, r2, r3⟩ with h | h
    · rcases hown k h with rfl | h
      · exact .inr (by omega)
      · exact .inl h
    · exact .inr (by omega)
  · intro i x r1 r2
    obtain ⟨hi, r3⟩ := hdel i x r1
    have := m3.ids i x r3 (by rw [Heap.set_ne _ _ hi]; exact r2)
    rwa [Pl.add_ne _ _ hi] at this
  · intro i x r1 r2
    obtain ⟨hi, r3⟩ := hdel i x r1
    have := m3.ro i x r3 r2
    rwa [Heap.set_ne _ _ hi] at this
end
end Go.CM

namespace Go.CM
section
variable {P : Program} {env : Env} {H : Heap} {L N R : List Ob} {is : List I} {K : Env → Heap → Prop} {d : Option Nat}

theorem wps_rangeM (hh : Has H L) {m : X} {id : Nat} {es : List (V × V)} {L' : List Nat → Nat → List Ob} (hm : m.ev env = .map id) (hu : ∀ bs clk, Upd (id, .map es) [(id, .mapS es bs clk)] L (L' bs clk))
    (k : ∀ bs clk it H', bs.length = es.length → bs.Nodup → Has H' ((it, .miter id clk [] clk) :: L' bs clk) → wpOps P is (env.put d (.ptr it 0)) H' K) : wpOps P (⟨d, .ef (.rangeM m), none, .no⟩ :: is) env H K := by
  have h1 := hh.getm (hu [] 0).at
  have h0 : id ≠ 0 := fun e => by obtain ⟨b', h1⟩ := hh.zero _ (hu [] 0).at e; cases h1
  exact ⟨id, es, hm, h1, fun bs clk hl hn _ it i0 hit => ⟨trivial, k bs clk it _ hl hn ((hh.set h0 (hu bs clk)).new i0 hit)⟩⟩
theorem Has.ne00 {o : HObj} {id : Nat} (hh : Has H L) (hm : (id, o) ∈ L) (ho : ∀ b, o ≠ .cells b []) : id ≠ 0 := fun e => by
  obtain ⟨b', h1⟩ := hh.zero _ hm e
  exact ho b' h1
theorem wps_nextM (hh : Has H L) {y : X} {it mid clk : Nat} {es : List (V × V)} {bs seen : List Nat} {L' : Nat → List Ob} (hy : y.ev env = .ptr it 0) (hm : (mid, .mapS es bs clk) ∈ L) (hu : ∀ b, Upd (it, .miter mid clk seen clk) [(it, .miter mid clk (seen ++ [b]) clk)] L (L' b))
    (k0 : (∀ b ∈ bs, b ∈ seen) → wpOps P is (env.put d (.tup [.bool false])) H K) (k1 : ∀ (i : Nat) (e : V × V) (b : Nat) H', es[i]? = some e → bs[i]? = some b → b ∉ seen → Has H' (L' b) → wpOps P is (env.put d (.tup [.bool true, e.1, e.2])) H' K) :
    wpOps P (⟨d, .ef (.nextM y), none, .no⟩ :: is) env H K := by
  have i0 := hh.ne00 (hu 0).at (fun b h => by cases h)
  have m0 := hh.ne00 hm (fun b h => by cases h)
  exact ⟨it, mid, es, bs, clk, seen, hy, hh.get (hu 0).at i0, hh.get hm m0, fun h => ⟨trivial, k0 h⟩, fun i e b h1 h2 h3 => ⟨trivial, k1 i e b _ h1 h2 h3 (hh.set i0 (hu b))⟩⟩
theorem wps_entryM (hh : Has H L) {y : X} {it mid clk i b : Nat} {es : List (V × V)} {bs seen : List Nat} {e : V × V} {x : Kx} (hy : y.ev env = .ptr it 0) (hm : (mid, .mapS es bs clk) ∈ L) (hi : (it, .miter mid clk (seen ++ [b]) clk) ∈ L) (he : es[i]? = some e) (hb : bs[i]? = some b)
    (k : wpOps P is (env.put d (.tup [e.1, e.2])) H K) : wpOps P (⟨d, .ef (.entryM y), none, x⟩ :: is) env H K :=
  ⟨it, mid, es, bs, clk, seen, i, e, b, hy, hh.get hi (hh.ne00 hi (fun b h => by cases h)), hh.get hm (hh.ne00 hm (fun b h => by cases h)), he, hb, ⟨Kx.refl, k⟩⟩
theorem Has.drop1 {x : Ob} (h : Has H (x :: R)) (h0 : x.1 ≠ 0) : Has (H.del x.1) R := h.tail.heap fun y hy hy0 => Heap.del_ne _ (h.head_ne h0 y hy hy0)
theorem wps_yield (hm : P.follows .mixedOrders = true) (hh : Has H L) {y : X} {args : List X} {l n D fn p : Nat} {vs : List V} {asg bdy : Code} {ca cb : C} {v : V} {J : List Ob → Prop} (hy : y.ev env = .yield l) (ha : args.map (X.ev env) = [v]) (hp : L.Perm ((l, .round vs D fn #[p] asg bdy) :: R))
    (hca : comp P n asg = some ca) (hcb : comp P n bdy = some cb) (hn : vs.length = n) (hpn : p < n)
    (hk : ∀ H0, Has H0 R → ca.wp P (fun x env1 H1 => x = .normal ∧ cb.wp P (fun x _ H2 => x = .normal ∧ ∃ L2, J L2 ∧ Has H2 L2) env1 H1) ((env0 vs).put (some p) v) H0)
    (k : ∀ L2 H', J L2 → Has H' ((l, .round vs D fn #[p] asg bdy) :: L2) → wpOps P is (env.put d (.bool true)) H' K) : wpOps P (⟨d, .ef (.callv y args), none, .no⟩ :: is) env H K := by
  have hh := hh.perm hp
  have l0 := hh.ne00 (List.mem_cons_self ..) (fun b h => by cases h)
  have hl := hh.get (List.mem_cons_self ..) l0
  refine .inr ⟨l, hy, ?_⟩
  rw [ha]
  refine round_yield hm hl hca hcb hn hpn ?_
  refine C.mono ?_ (hk _ (hh.drop1 l0))
  rintro x env1 H1 ⟨rfl, h⟩
  refine ⟨rfl, C.mono ?_ h⟩
  rintro x env2 H2 ⟨rfl, L2, hJ, h2⟩
  exact ⟨rfl, fun hnone => ⟨trivial, k L2 _ hJ (h2.new l0 hnone)⟩⟩
end
end Go.CM

namespace Go.CM

theorem CallsL.nilArg {P : Program} {f : FuncId} {args args' : List V} {L L' : List Ob} {Q : V → List Ob → Prop} (hw : Wks args args') (h : CallsL P f args' L Q) (hg : ∀ H, Has H L' → Has H L) : CallsL P f args L' Q :=
  fun H hh => CallsC.wkArgs hw (h H (hg H hh))
theorem CallsN.nilArg {P : Program} {f : FuncId} {args args' : List V} {L : List Ob} {b : Bool} {Q : V → List Ob → Prop} (hw : Wks args args') (h : CallsN P f args' (L ++ [(0, .cells b [])]) Q) : CallsN P f args L Q :=
  fun H hh => CallsC.wkArgs hw ((h H ((hh.ghost b).perm (show List.Perm ([(0, HObj.cells b [])] ++ L) _ from List.perm_append_comm))).mono fun v H' ⟨L', ⟨Lo, hq, e⟩, hh'⟩ => ⟨Lo ++ L, ⟨Lo, hq, rfl⟩, by
    subst e
    exact hh'.sub (by rw [← List.append_assoc]; exact List.sublist_append_left _ _)⟩)
theorem CallsR.nilArg {P : Program} {f : FuncId} {args args' : List V} {L : List Ob} {b : Bool} {Q : V → Prop} (hw : Wks args args') (h : CallsR P f args' (L ++ [(0, .cells b [])]) Q) : CallsR P f args L Q :=
  fun H hh => CallsC.wkArgs hw ((h H ((hh.ghost b).perm (show List.Perm ([(0, HObj.cells b [])] ++ L) _ from List.perm_append_comm))).mono fun v H' ⟨L', ⟨hq, e⟩, hh'⟩ => ⟨L, ⟨hq, rfl⟩, by
    subst e
    exact hh'.sub (List.sublist_append_left _ _)⟩)
end Go.CM
namespace Go.CM
section
variable {P : Program} {env : Env} {H : Heap}
end
end Go.CM
namespace Go.CM
end Go.CM

namespace Go.CM

end Go.CM
