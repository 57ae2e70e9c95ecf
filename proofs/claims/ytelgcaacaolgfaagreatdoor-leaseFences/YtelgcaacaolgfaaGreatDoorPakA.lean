/-
  Texts joined: Short texts as bytes: the code. Entries: their cells. Times and numbers, brought to what may be.
-/
import Derived.Test.YtelgcaacaolgfaaGreatDoorShaD
import Derived.Test.YtelgcaacaolgfaaGreatDoorC0
import Derived.Test.YtelgcaacaolgfaaGreatDoorCmG
namespace Go.Proofs.YtelgcaacaolgfaaGreatDoor
open Go Go.CM
set_option maxRecDepth 100000
set_option maxHeartbeats 4000000

/-- A packer that holds bytes. -/
def PakO (p : Nat) (l : List UInt8) (L : List Ob) : Prop :=
  (l = [] ∧ L = [(p, .cells true [.nils, .bool false])]) ∨
  (l ≠ [] ∧ ∃ r, L = [(p, .cells true [.slice r 0 l.length 1, .bool false]), (r, .cells true (l.flatMap byteC))])
theorem and127 : ∀ n : Nat, n < 128 → IntKind.u8.wrap (BitVec.ofInt IntKind.u8.bits (n : Int) &&& BitVec.ofInt IntKind.u8.bits 127).toNat = ((UInt8.ofNat n).toNat : Nat) := by decide +kernel
theorem shr7 : ∀ n : Nat, n < 128 → ((n : Int).fdiv (2 ^ min (Int.toNat 7) IntKind.i64.bits)) = 0 := by decide +kernel
theorem num1_prog (p : Nat) (l : List UInt8) (L : List Ob) (n : Nat) (hn : n < 128) (hL : PakO p l L) (hl : l.length ≤ 1000000) : CallsL Tryz.prog npack_Packer_Num [.ptr p 0, .int .i64 (n : Nat)] L fun v L' => v = .ptr p 0 ∧ PakO p (l ++ [UInt8.ofNat n]) L' := by
  have h7 := shr7 n hn
  have h127 := and127 n hn
  rcases hL with ⟨rfl, rfl⟩ | ⟨hne, r, rfl⟩
  · skip
    refine spack_Packer_Num fun H hh => ?_
    dsimp only [cpack_Packer_Num]
    refine walk (k := ?_)
    repeat' first | refine And.intro ?_ ?_ | intro
    all_goals refine leaf ?_
    · exfalso; omega
    refine loopM [0, 1, 5] (fun m vs L => m = 0 ∧ vs = [.ptr p 0, .int .i64 (n : Nat), .int .i64 0] ∧ L = [(p, .cells true [.nils, .bool false])])
      (Nx.intro (i := 0) trivial ⟨rfl, rfl, rfl⟩) ?_
    clear hh
    rintro m _ _ env H ⟨rfl, rfl, rfl⟩ hh
    simp only [puts]
    refine walk1 (k := ?_)
    repeat' first | refine And.intro ?_ ?_ | intro
    all_goals refine leaf ?_
    refine c_cond_f (congrArg V.bool (decide_eq_false (by show ¬ (0 < (n : Int).fdiv (2 ^ min (Int.toNat 7) IntKind.i64.bits)); rw [h7]; decide))) ?_
    refine walk1 (k := ?_)
    repeat' first | refine And.intro ?_ ?_ | intro
    all_goals refine leaf ?_
    refine loopM [0, 1, 5] (fun m vs L => m = 0 ∧ vs = [.ptr p 0, .int .i64 (n : Nat), .int .i64 0] ∧ L = [(p, .cells true [.nils, .bool false])])
      (Nx.intro (i := 0) trivial ⟨rfl, rfl, rfl⟩) ?_
    clear hh
    rintro m _ _ env H ⟨rfl, rfl, rfl⟩ hh
    simp only [puts]
    refine walk1 (k := ?_)
    repeat' first | refine And.intro ?_ ?_ | intro
    all_goals refine leaf ?_
    rename_i t _ hh
    rw [h127] at hh
    refine wps_app_nil (m := 0) hh rfl (src_slice (esz := 0) hh .here rfl) (by decide) fun r H' hh => ?_
    refine walk1 (k := ?_)
    repeat' first | refine And.intro ?_ ?_ | intro
    all_goals refine leaf ?_
    exact done ⟨rfl, .inr ⟨by simp, r, rfl⟩⟩
  · skip
    refine spack_Packer_Num fun H hh => ?_
    dsimp only [cpack_Packer_Num]
    refine walk (k := ?_)
    repeat' first | refine And.intro ?_ ?_ | intro
    all_goals refine leaf ?_
    · exfalso; omega
    refine loopM [0, 1, 5] (fun m vs L => m = 0 ∧ vs = [.ptr p 0, .int .i64 (n : Nat), .int .i64 0] ∧ L = [(p, .cells true [.slice r 0 l.length 1, .bool false]), (r, .cells true (l.flatMap byteC))])
      (Nx.intro (i := 0) trivial ⟨rfl, rfl, rfl⟩) ?_
    clear hh
    rintro m _ _ env H ⟨rfl, rfl, rfl⟩ hh
    simp only [puts]
    refine walk1 (k := ?_)
    repeat' first | refine And.intro ?_ ?_ | intro
    all_goals refine leaf ?_
    refine c_cond_f (congrArg V.bool (decide_eq_false (by show ¬ (0 < (n : Int).fdiv (2 ^ min (Int.toNat 7) IntKind.i64.bits)); rw [h7]; decide))) ?_
    refine walk1 (k := ?_)
    repeat' first | refine And.intro ?_ ?_ | intro
    all_goals refine leaf ?_
    refine loopM [0, 1, 5] (fun m vs L => m = 0 ∧ vs = [.ptr p 0, .int .i64 (n : Nat), .int .i64 0] ∧ L = [(p, .cells true [.slice r 0 l.length 1, .bool false]), (r, .cells true (l.flatMap byteC))])
      (Nx.intro (i := 0) trivial ⟨rfl, rfl, rfl⟩) ?_
    clear hh
    rintro m _ _ env H ⟨rfl, rfl, rfl⟩ hh
    simp only [puts]
    refine walk1 (k := ?_)
    repeat' first | refine And.intro ?_ ?_ | intro
    all_goals refine leaf ?_
    rename_i t _ hh
    rw [h127] at hh
    refine wps_approw hh [UInt8.ofNat n] (enc := byteC) (m := 0) (t := t) (b := true) (L' := fun id' => [(t, .cells true ([UInt8.ofNat n].flatMap byteC)), (p, .cells true [.slice r 0 l.length 1, .bool false]), (id', .cells true ((l ++ [UInt8.ofNat n]).flatMap byteC))]) rfl rfl .here (fun _ => rfl) (fun _ => .there (.there .here1)) (by show (_ + 1) * 1 ≤ _; omega) fun r2 H' hh => ?_
    refine walk1 (k := ?_)
    repeat' first | refine And.intro ?_ ?_ | intro
    all_goals refine leaf ?_
    exact done ⟨rfl, .inr ⟨by simp, r2, rfl⟩⟩
theorem raw_prog (p : Nat) (l s : List UInt8) (L : List Ob) (hne : l ≠ []) (hL : PakO p l L) (hl : l.length + s.length ≤ 1000000) : CallsL Tryz.prog npack_Packer_Raw [.ptr p 0, .str s] L fun v L' => v = .ptr p 0 ∧ PakO p (l ++ s) L' := by
  rcases hL with ⟨rfl, rfl⟩ | ⟨_, r, rfl⟩
  · exact absurd rfl hne
  · skip
    refine spack_Packer_Raw fun H hh => ?_
    dsimp only [cpack_Packer_Raw]
    refine walk (k := ?_)
    repeat' first | refine And.intro ?_ ?_ | intro
    all_goals refine leaf ?_
    refine wps_appstr hh (l := l) (us := s) (L' := fun id' => [(p, .cells true [.slice r 0 l.length 1, .bool false]), (id', .cells true ((l ++ s).flatMap byteC))]) rfl rfl (fun _ => .there .here1) (by omega) fun r2 H' hh => ?_
    refine walk1 (k := ?_)
    repeat' first | refine And.intro ?_ ?_ | intro
    all_goals refine leaf ?_
    exact done ⟨rfl, .inr ⟨by simp [hne], r2, rfl⟩⟩
/-- A short text's bytes. -/
def txtL (s : List UInt8) : List UInt8 := UInt8.ofNat s.length :: s
theorem text_prog (p : Nat) (l s : List UInt8) (L : List Ob) (hs : s.length < 128) (hL : PakO p l L) (hl : l.length ≤ 100000) : CallsL Tryz.prog npack_Packer_Text [.ptr p 0, .str s] L fun v L' => v = .ptr p 0 ∧ PakO p (l ++ txtL s) L' := by
  refine spack_Packer_Text fun H hh => ?_
  dsimp only [cpack_Packer_Text]
  refine walk1 (k := ?_)
  repeat' first | refine And.intro ?_ ?_ | intro
  all_goals refine leaf ?_
  refine callL ((num1_prog p l L s.length hs hL (by omega))) ?_
  rintro v L' H' ⟨rfl, h1⟩ hh
  refine walk1 (k := ?_)
  repeat' first | refine And.intro ?_ ?_ | intro
  all_goals refine leaf ?_
  refine callL ((raw_prog p (l ++ [UInt8.ofNat s.length]) s L' (by simp) h1 (by simp; omega))) ?_
  rintro v L2 H' ⟨rfl, h2⟩ hh
  refine walk1 (k := ?_)
  repeat' first | refine And.intro ?_ ?_ | intro
  all_goals refine leaf ?_
  rw [List.append_assoc] at h2
  exact done ⟨rfl, h2⟩
theorem pstring_prog (p : Nat) (l : List UInt8) (L : List Ob) (hL : PakO p l L) : CallsR Tryz.prog npack_Packer_String [.ptr p 0] L fun v => v = .str l := by
  rcases hL with ⟨rfl, rfl⟩ | ⟨_, r, rfl⟩
  · have hok : CallsR Tryz.prog npack_Packer_OK [.ptr p 0] [(p, .cells true [.nils, .bool false])] fun v => v = .bool true := by
      refine spack_Packer_OK fun H hh => ?_
      dsimp only [cpack_Packer_OK]
      refine walk1 (k := ?_)
      repeat' first | refine And.intro ?_ ?_ | intro
      all_goals refine leaf ?_
      exact doneR rfl
    refine spack_Packer_String fun H hh => ?_
    dsimp only [cpack_Packer_String]
    refine walk1 (k := ?_)
    repeat' first | refine And.intro ?_ ?_ | intro
    all_goals refine leaf ?_
    refine callE (hok) ?_
    refine walk1 (k := ?_)
    repeat' first | refine And.intro ?_ ?_ | intro
    all_goals refine leaf ?_
    exact doneR rfl
  · have hok : CallsR Tryz.prog npack_Packer_OK [.ptr p 0] [(p, .cells true [.slice r 0 l.length 1, .bool false]), (r, .cells true (l.flatMap byteC))] fun v => v = .bool true := by
      refine spack_Packer_OK fun H hh => ?_
      dsimp only [cpack_Packer_OK]
      refine walk1 (k := ?_)
      repeat' first | refine And.intro ?_ ?_ | intro
      all_goals refine leaf ?_
      exact doneR rfl
    refine spack_Packer_String fun H hh => ?_
    dsimp only [cpack_Packer_String]
    refine walk1 (k := ?_)
    repeat' first | refine And.intro ?_ ?_ | intro
    all_goals refine leaf ?_
    refine callE (hok) ?_
    refine walk1 (k := ?_)
    repeat' first | refine And.intro ?_ ?_ | intro
    all_goals refine leaf ?_
    exact doneR rfl
/-- A fingerprint. -/
def prtL (m p b : List UInt8) : List UInt8 := shaL (txtL m ++ txtL p ++ txtL b)
theorem print_prog (m p b : List UInt8) (hm : m.length < 128) (hp : p.length < 128) (hb : b.length < 128) : CallsR Tryz.prog ncanon_Print [.str m, .str p, .str b] [] fun v => v = .str (prtL m p b) := by
  refine scanon_Print fun H hh => ?_
  dsimp only [ccanon_Print]
  refine walk1 (k := ?_)
  repeat' first | refine And.intro ?_ ?_ | intro
  all_goals refine leaf ?_
  rename_i q _ hh
  refine callL ((text_prog q [] m _ hm (.inl ⟨rfl, rfl⟩) (by simp))) ?_
  rintro v L1 H' ⟨rfl, h1⟩ hh
  refine walk1 (k := ?_)
  repeat' first | refine And.intro ?_ ?_ | intro
  all_goals refine leaf ?_
  refine callL ((text_prog q _ p L1 hp h1 (by simp [txtL]; omega))) ?_
  rintro v L2 H' ⟨rfl, h2⟩ hh
  refine walk1 (k := ?_)
  repeat' first | refine And.intro ?_ ?_ | intro
  all_goals refine leaf ?_
  refine callL ((text_prog q _ b L2 hb h2 (by simp [txtL]; omega))) ?_
  rintro v L3 H' ⟨rfl, h3⟩ hh
  have hs := pstring_prog q _ L3 h3
  rw [List.nil_append] at hs
  have hsh := sha_prog (txtL m ++ txtL p ++ txtL b) (by simp [txtL]; omega)
  refine walk1 (k := ?_)
  repeat' first | refine And.intro ?_ ?_ | intro
  all_goals refine leaf ?_
  refine callE (hs) ?_
  refine walk1 (k := ?_)
  repeat' first | refine And.intro ?_ ?_ | intro
  all_goals refine leaf ?_
  refine callE (hsh) ?_
  refine walk1 (k := ?_)
  repeat' first | refine And.intro ?_ ?_ | intro
  all_goals refine leaf ?_
  exact doneR rfl
end Go.Proofs.YtelgcaacaolgfaaGreatDoor

namespace Go.Proofs.YtelgcaacaolgfaaGreatDoor
open Go Go.CM
set_option maxRecDepth 100000
set_option maxHeartbeats 4000000

structure Entry where
  tenant : Int
  key : List UInt8
  state : Int
  epoch : Int
  token : Int
  point : Int
  print : List UInt8
  lease : Int
  expiry : Int
  status : Int
  text : List UInt8
  method : List UInt8
  path : List UInt8
  body : List UInt8
  deriving Inhabited, DecidableEq
def Entry.enc (e : Entry) : List V := [.int .i64 e.tenant, .str e.key, .int .i64 e.state, .int .i64 e.epoch, .int .i64 e.token, .int .i64 e.point, .str e.print, .int .i64 e.lease, .int .i64 e.expiry, .int .i64 e.status, .str e.text, .str e.method, .str e.path, .str e.body]
def Entry.zero : Entry := ⟨0, [], 0, 0, 0, 0, [], 0, 0, 0, [], [], [], []⟩
abbrev entK : List SK := [.i, .s, .i, .i, .i, .i, .s, .i, .i, .i, .s, .s, .s, .s]
def entB (a b : Entry) : Bool := a.tenant == b.tenant && (a.key == b.key && (a.state == b.state && (a.epoch == b.epoch && (a.token == b.token && (a.point == b.point && (a.print == b.print && (a.lease == b.lease && (a.expiry == b.expiry && (a.status == b.status && (a.text == b.text && (a.method == b.method && (a.path == b.path && (a.body == b.body && true)))))))))))))
theorem entB_eq (a b : Entry) : entB a b = decide (a = b) := by
  rw [Bool.eq_iff_iff]
  simp only [entB, Bool.and_eq_true, beq_iff_eq, and_true, decide_eq_true_eq]
  constructor
  · rintro ⟨h1, h2, h3, h4, h5, h6, h7, h8, h9, h10, h11, h12, h13, h14⟩
    cases a; cases b; simp_all
  · rintro rfl; simp
theorem ent_eq (a b : Entry) : eqV (.agg entK) (.agg a.enc) (.agg b.enc) = some (entB a b) := rfl
abbrev EL (s : Nat) (b : Bool) (l : List Entry) : Ob := (s, .cells b (l.flatMap Entry.enc))
theorem el_len (l : List Entry) : (l.flatMap Entry.enc).length = l.length * 14 := rows_length (sz := 14) (fun _ => rfl) l
theorem ent_inj : ∀ x y : Entry, x.enc = y.enc → x = y := by
  intro a b h
  cases a; cases b
  simp only [Entry.enc, List.cons.injEq, V.int.injEq, V.str.injEq, true_and, and_true] at h
  simp_all

structure Rec where
  kind : Int
  e : Entry
  deriving Inhabited, DecidableEq
def Rec.enc (r : Rec) : List V := .int .i64 r.kind :: r.e.enc
def recB (a b : Rec) : Bool := a.kind == b.kind && entB a.e b.e
theorem recB_eq (a b : Rec) : recB a b = decide (a = b) := by
  rw [recB, entB_eq, Bool.eq_iff_iff, Bool.and_eq_true, beq_iff_eq, decide_eq_true_eq, decide_eq_true_eq]
  constructor
  · rintro ⟨h1, h2⟩; cases a; cases b; simp_all
  · rintro rfl; exact ⟨rfl, rfl⟩
abbrev RL (s : Nat) (b : Bool) (l : List Rec) : Ob := (s, .cells b (l.flatMap Rec.enc))
end Go.Proofs.YtelgcaacaolgfaaGreatDoor

namespace Go.Proofs.YtelgcaacaolgfaaGreatDoor
open Go Go.CM
set_option maxRecDepth 100000
set_option maxHeartbeats 4000000

def brI (n lo hi : Int) : Int := if n < lo then lo else if hi < n then hi else n
abbrev timI (n : Int) : Int := brI n 0 1099511627776
abbrev numI (n : Int) : Int := brI n 0 1073741824
def plusI (t s : Int) : Int := timI (timI t + numI s)
theorem brI_ge {n lo hi : Int} (h : lo ≤ hi) : lo ≤ brI n lo hi ∧ brI n lo hi ≤ hi := by
  unfold brI
  split
  · omega
  · split <;> omega
theorem within_prog (n lo hi : Int) (h : lo ≤ hi) : CallsR Tryz.prog nnum_within [.int .i64 n, .int .i64 lo, .int .i64 hi] [] fun v => v = .int .i64 (brI n lo hi) := by
  refine snum_within fun H hh => ?_
  dsimp only [cnum_within]
  refine walk (k := ?_)
  repeat' first | refine And.intro ?_ ?_ | intro
  all_goals refine leaf ?_
  refine doneR (congrArg (V.int .i64) ?_)
  unfold brI
  repeat' split
  all_goals omega
theorem time_prog (n : Int) : CallsR Tryz.prog nnum_Time [.int .i64 n] [] fun v => v = .int .i64 (timI n) := by
  refine snum_Time fun H hh => ?_
  dsimp only [cnum_Time]
  refine walk (k := ?_)
  repeat' first | refine And.intro ?_ ?_ | intro
  all_goals refine leaf ?_
  refine callE ((within_prog n 0 1099511627776 (by decide))) ?_
  refine walk1 (k := ?_)
  repeat' first | refine And.intro ?_ ?_ | intro
  all_goals refine leaf ?_
  exact doneR rfl
theorem number_prog (n : Int) : CallsR Tryz.prog nnum_number [.int .i64 n] [] fun v => v = .int .i64 (numI n) := by
  refine snum_number fun H hh => ?_
  dsimp only [cnum_number]
  refine walk (k := ?_)
  repeat' first | refine And.intro ?_ ?_ | intro
  all_goals refine leaf ?_
  refine callE ((within_prog n 0 1073741824 (by decide))) ?_
  refine walk1 (k := ?_)
  repeat' first | refine And.intro ?_ ?_ | intro
  all_goals refine leaf ?_
  exact doneR rfl
theorem plus_prog (t s : Int) : CallsR Tryz.prog nnum_Plus [.int .i64 t, .int .i64 s] [] fun v => v = .int .i64 (plusI t s) := by
  have h1 : 0 ≤ timI t ∧ timI t ≤ 1099511627776 := brI_ge (by decide)
  have h2 : 0 ≤ numI s ∧ numI s ≤ 1073741824 := brI_ge (by decide)
  refine snum_Plus fun H hh => ?_
  dsimp only [cnum_Plus]
  refine walk (k := ?_)
  repeat' first | refine And.intro ?_ ?_ | intro
  all_goals refine leaf ?_
  refine callE ((time_prog t)) ?_
  refine walk1 (k := ?_)
  repeat' first | refine And.intro ?_ ?_ | intro
  all_goals refine leaf ?_
  refine callE ((number_prog s)) ?_
  refine walk1 (k := ?_)
  repeat' first | refine And.intro ?_ ?_ | intro
  all_goals refine leaf ?_
  refine callE ((time_prog (timI t + numI s))) ?_
  refine walk1 (k := ?_)
  repeat' first | refine And.intro ?_ ?_ | intro
  all_goals refine leaf ?_
  exact doneR rfl
theorem next_prog (n : Int) : CallsR Tryz.prog nnum_Next [.int .i64 n] [] fun v => v = if n < 0 then .tup [.int .i64 0, .int .i64 1] else if 1073741824 ≤ n then .tup [.int .i64 0, .int .i64 10] else .tup [.int .i64 (n + 1), .int .i64 0] := by
  refine snum_Next fun H hh => ?_
  dsimp only [cnum_Next]
  refine walk (k := ?_)
  repeat' first | refine And.intro ?_ ?_ | intro
  all_goals refine leaf ?_
  · exact doneR (if_pos (by omega)).symm
  · exact doneR (by rw [if_neg (by omega), if_pos (by omega)])
  · exact doneR (by rw [if_neg (by omega), if_neg (by omega)])
structure Conf where
  workers : Int
  lease : Int
  ttl : Int
  quota : Int
  segment : Int
  disk : Int
  deriving Inhabited, DecidableEq
def Conf.enc (c : Conf) : List V := [.int .i64 c.workers, .int .i64 c.lease, .int .i64 c.ttl, .int .i64 c.quota, .int .i64 c.segment, .int .i64 c.disk]
def Conf.br (c : Conf) : Conf := ⟨brI c.workers 1 4, brI c.lease 1 1073741824, brI c.ttl 1 1073741824, brI c.quota 1 200, brI c.segment 500 20000, brI c.disk 1000 60000⟩
theorem config_prog (c : Conf) : CallsR Tryz.prog nnum_Config [.agg c.enc] [] fun v => v = .agg c.br.enc := by
  unfold Conf.enc Conf.br
  refine snum_Config fun H hh => ?_
  dsimp only [cnum_Config]
  refine walk1 (k := ?_)
  repeat' first | refine And.intro ?_ ?_ | intro
  all_goals refine leaf ?_
  refine callE ((within_prog c.workers 1 4 (by decide))) ?_
  refine walk1 (k := ?_)
  repeat' first | refine And.intro ?_ ?_ | intro
  all_goals refine leaf ?_
  refine callE ((within_prog c.lease 1 1073741824 (by decide))) ?_
  refine walk1 (k := ?_)
  repeat' first | refine And.intro ?_ ?_ | intro
  all_goals refine leaf ?_
  refine callE ((within_prog c.ttl 1 1073741824 (by decide))) ?_
  refine walk1 (k := ?_)
  repeat' first | refine And.intro ?_ ?_ | intro
  all_goals refine leaf ?_
  refine callE ((within_prog c.quota 1 200 (by decide))) ?_
  refine walk1 (k := ?_)
  repeat' first | refine And.intro ?_ ?_ | intro
  all_goals refine leaf ?_
  refine callE ((within_prog c.segment 500 20000 (by decide))) ?_
  refine walk1 (k := ?_)
  repeat' first | refine And.intro ?_ ?_ | intro
  all_goals refine leaf ?_
  refine callE ((within_prog c.disk 1000 60000 (by decide))) ?_
  refine walk1 (k := ?_)
  repeat' first | refine And.intro ?_ ?_ | intro
  all_goals refine leaf ?_
  exact doneR rfl
theorem rbring_prog (n lo hi : Int) : CallsR Tryz.prog nref06_Bring [.int .i64 n, .int .i64 lo, .int .i64 hi] [] fun v => v = .int .i64 (brI n lo hi) := by
  unfold brI
  refine sref06_Bring fun H hh => ?_
  dsimp only [cref06_Bring]
  refine walk (k := ?_)
  repeat' first | refine And.intro ?_ ?_ | intro
  all_goals refine leaf ?_
  · exact doneR (by rw [if_pos (by omega)])
  · exact doneR (by rw [if_neg (by omega), if_pos (by omega)])
  · exact doneR (by rw [if_neg (by omega), if_neg (by omega)])
theorem rtime_prog (n : Int) : CallsR Tryz.prog nref06_Time [.int .i64 n] [] fun v => v = .int .i64 (timI n) := by
  refine sref06_Time fun H hh => ?_
  dsimp only [cref06_Time]
  refine walk (k := ?_)
  repeat' first | refine And.intro ?_ ?_ | intro
  all_goals refine leaf ?_
  refine callE ((rbring_prog n 0 1099511627776)) ?_
  refine walk1 (k := ?_)
  repeat' first | refine And.intro ?_ ?_ | intro
  all_goals refine leaf ?_
  exact doneR rfl
end Go.Proofs.YtelgcaacaolgfaaGreatDoor
