/-
  The disk: a sure byte is another one.
-/
import Derived.Test.YtkfhgpegnnokgaaGreatDoorDskF
namespace Go.Proofs.YtkfhgpegnnokgaaGreatDoor
open Go Go.CM
set_option maxRecDepth 100000
set_option maxHeartbeats 4000000

def namesD (D : Dsk) : List Tx := srtT (D.sure.map (·.1))
def byU (n : Int) : UInt8 := UInt8.ofNat (n % 256).toNat
theorem byU_toNat (n : Int) : IntKind.u8.wrap n = ((byU n).toNat : Nat) := by
  have h : (byU n).toNat = (n % 256).toNat % 256 := UInt8.toNat_ofNat'
  rw [wrap_u8, h]; omega
theorem xor_u8 (a b : UInt8) : IntKind.u8.wrap ((BitVec.ofInt IntKind.u8.bits ((a.toNat : Nat) : Int) ^^^ BitVec.ofInt IntKind.u8.bits ((b.toNat : Nat) : Int)).toNat : Nat) = ((a ^^^ b).toNat : Nat) := by
  have ha : a.toNat < 256 := a.toNat_lt
  have hb : b.toNat < 256 := b.toNat_lt
  rw [wrap_u8, BitVec.ofInt_natCast, BitVec.ofInt_natCast, BitVec.toNat_xor, BitVec.toNat_ofNat, BitVec.toNat_ofNat, UInt8.toNat_xor]
  have h1 : a.toNat % 2 ^ IntKind.u8.bits = a.toNat := Nat.mod_eq_of_lt (by show _ < 256; omega)
  have h2 : b.toNat % 2 ^ IntKind.u8.bits = b.toNat := Nat.mod_eq_of_lt (by show _ < 256; omega)
  rw [h1, h2]
  have h3 : a.toNat ^^^ b.toNat < 2 ^ 8 := Nat.xor_lt_two_pow ha hb
  have h4 : (2 : Nat) ^ 8 = 256 := rfl
  omega
def rotP (D : Dsk) (file at_ : Int) : Prop := 0 ≤ file ∧ file < (namesD D).length ∧ 0 ≤ at_ ∧ at_ < (getT (nth (namesD D) file.toNat) D.sure).length
instance (D : Dsk) (file at_ : Int) : Decidable (rotP D file at_) := by unfold rotP; infer_instance
def turnT (t : Tx) (i : Nat) (b : UInt8) : Tx := t.set i (nth t i ^^^ b)
def rotD (D : Dsk) (file at_ by_ : Int) : Dsk := if rotP D file at_ then ⟨setT (nth (namesD D) file.toNat) (turnT (getT (nth (namesD D) file.toNat) D.sure) at_.toNat (byU by_)) D.sure, D.waits, D.room, D.fuse, D.down⟩ else D
theorem drot_prog (d m ws : Nat) (D : Dsk) (file at_ by_ : Int) (h : DOk D) : CallsL Tryz.prog ndisk_Disk_Rot [.ptr d 0, .int .i64 file, .int .i64 at_, .int .i64 by_] (DL d m ws D) fun v L' => v = .bool (decide (rotP D file at_)) ∧ L' = DL d m ws (rotD D file at_ by_) := by
  have h1 := dnames_prog d m ws D.waits.length D.room D.fuse D.down D.sure (by have := h.files; omega)
  have hN : (namesD D).length = D.sure.length := by unfold namesD; rw [(srtT_perm _).length_eq, List.length_map]
  have hfl := h.files
  unfold rotD
  have hiff : rotP D file at_ ↔ 0 ≤ file ∧ file < (namesD D).length ∧ 0 ≤ at_ ∧ at_ < (getT (nth (namesD D) file.toNat) D.sure).length := Iff.rfl
  have hn : srtT (D.sure.map (·.1)) = namesD D := rfl
  rw [hn] at h1
  by_cases hf : ¬ (0 ≤ file ∧ file < (namesD D).length)
  · have hno : ¬ rotP D file at_ := fun k => hf ⟨(hiff.1 k).1, (hiff.1 k).2.1⟩
    rw [if_neg hno, decide_eq_false hno]
    refine sdisk_Disk_Rot fun H hh => ?_
    dsimp only [cdisk_Disk_Rot]
    refine walk1 (k := ?_)
    repeat' first | refine And.intro ?_ ?_ | intro
    all_goals refine leaf ?_
    refine callL (h1) ?_
    rintro v L' H' ⟨o, rfl, rfl⟩ hh
    refine walk (k := ?_)
    repeat' first | refine And.intro ?_ ?_ | intro
    all_goals refine leaf ?_
    · exact done ⟨rfl, rfl⟩
    · exact done ⟨rfl, rfl⟩
    · exact absurd ⟨by omega, by omega⟩ hf
  have hf := Classical.not_not.1 hf
  have hgb : (getT (nth (namesD D) file.toNat) D.sure).length ≤ 60000 := by
    have h2 := set_sum (nth (namesD D) file.toNat) [] D.sure
    have h3 := h.ss
    rw [List.length_nil] at h2; omega
  generalize hs : nth (namesD D) file.toNat = s at *
  have ht : ∃ t, t = getT s D.sure := ⟨_, rfl⟩
  obtain ⟨t, ht⟩ := ht
  rw [← ht] at hgb hiff ⊢
  by_cases ha : ¬ (0 ≤ at_ ∧ at_ < t.length)
  · have hno : ¬ rotP D file at_ := fun k => ha (hiff.1 k).2.2
    rw [if_neg hno, decide_eq_false hno]
    refine sdisk_Disk_Rot fun H hh => ?_
    dsimp only [cdisk_Disk_Rot]
    refine walk1 (k := ?_)
    repeat' first | refine And.intro ?_ ?_ | intro
    all_goals refine leaf ?_
    refine callL (h1) ?_
    rintro v L' H' ⟨o, rfl, rfl⟩ hh
    refine walk (k := ?_)
    repeat' first | refine And.intro ?_ ?_ | intro
    all_goals refine leaf ?_
    · exact done ⟨rfl, rfl⟩
    · exact done ⟨rfl, rfl⟩
    rw [hs]
    refine wps_lookT (s := s) (by assumption) (by rfl) (by rfl) (.there .here) ?_
    rw [← ht]
    refine walk (k := ?_)
    repeat' first | refine And.intro ?_ ?_ | intro
    all_goals refine leaf ?_
    · exact done ⟨rfl, rfl⟩
    · exact done ⟨rfl, rfl⟩
    · exact absurd ⟨by omega, by omega⟩ ha
  · have ha := Classical.not_not.1 ha
    have hyes : rotP D file at_ := hiff.2 ⟨hf.1, hf.2, ha⟩
    rw [if_pos hyes, decide_eq_true hyes]
    refine sdisk_Disk_Rot fun H hh => ?_
    dsimp only [cdisk_Disk_Rot]
    refine walk1 (k := ?_)
    repeat' first | refine And.intro ?_ ?_ | intro
    all_goals refine leaf ?_
    refine callL (h1) ?_
    rintro v L' H' ⟨o, rfl, rfl⟩ hh
    refine walk (k := ?_)
    repeat' first | refine And.intro ?_ ?_ | intro
    all_goals refine leaf ?_
    · exact absurd hf.1 (by omega)
    · exact absurd hf.2 (by omega)
    rw [hs]
    refine wps_lookT (s := s) (by assumption) (by rfl) (by rfl) (.there .here) ?_
    rw [← ht]
    refine walk (k := ?_)
    repeat' first | refine And.intro ?_ ?_ | intro
    all_goals refine leaf ?_
    · exact absurd ha.1 (by omega)
    · exact absurd ha.2 (by omega)
    refine wps_slot (s := 45) (v := .int .u8 ((nth t at_.toNat ^^^ byU by_).toNat : Nat)) (by show V.int .u8 _ = _; rw [byU_toNat by_, xor_u8]) ?_
    refine walk1 (k := ?_)
    repeat' first | refine And.intro ?_ ?_ | intro
    all_goals refine leaf ?_
    rename_i hh
    rw [hs]
    have hlen : (t.set at_.toNat (nth t at_.toNat ^^^ byU by_)).length = t.length := List.length_set
    refine wps_b2s hh (l := t.set at_.toNat (nth t at_.toNat ^^^ byU by_)) (by show V.slice _ 0 _ 1 = _; rw [hlen]) .here ?_
    refine wps_put hh (r := fat s D.sure) (es := (D.sure.map srV).map nvE) rfl rfl (find_sr s D.sure) setE (.there (.there .here1)) fun _ hh => ?_
    have hh : Has _ (_ :: DO d m ws D.waits.length D.room D.fuse D.down :: MO m (setT s (turnT t at_.toNat (byU by_)) D.sure) :: [TL o true (namesD D), WO ws D.waits]) := hh
    refine walk1 (k := ?_)
    repeat' first | refine And.intro ?_ ?_ | intro
    all_goals refine leaf ?_
    exact done ⟨rfl, rfl⟩
end Go.Proofs.YtkfhgpegnnokgaaGreatDoor
