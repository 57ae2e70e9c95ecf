/-
  The disk: a file's bytes are sure, or are cut; what it tells of itself.
-/
import Derived.Test.YtkfhgpegnnokgaaGreatDoorDskD
namespace Go.Proofs.YtkfhgpegnnokgaaGreatDoor
open Go Go.CM
set_option maxRecDepth 100000
set_option maxHeartbeats 4000000

def setT (s t : Tx) (l : List (Tx × Tx)) : List (Tx × Tx) := match fat s l with | none => l ++ [(s, t)] | some i => l.set i (s, t)
theorem setE {s t : Tx} {l : List (Tx × Tx)} : putE (.str s) (.str t) ((l.map srV).map nvE) (fat s l) = ((setT s t l).map srV).map nvE := by
  unfold setT putE
  cases hf : fat s l with
  | none => simp; rfl
  | some i => simp only [List.map_set]; rfl
def syncD (D : Dsk) (s : Tx) : Dsk := ⟨setT s (getT s D.sure ++ lateL s D.waits) D.sure, butW s D.waits, D.room, D.fuse, D.down⟩
def syncR (D : Dsk) (s : Tx) : Dsk := if readyE D s = 0 then syncD D.dead s else D.dead
theorem dsync_prog (d m ws : Nat) (D : Dsk) (s : Tx) (h : DOk D) : CallsL Tryz.prog ndisk_Disk_Sync [.ptr d 0, .str s] (DL d m ws D) fun v L' => v = .int .i64 (readyE D s) ∧ L' = DL d m ws (syncR D s) := by
  have h1 := dready_prog d m ws D.waits.length D s h
  by_cases hr : readyE D s = 0
  · obtain ⟨hd, ht⟩ := readyE_0.1 hr
    have h2 := dforget_prog d m ws D.room (deadF D.fuse) (deadD D.fuse D.down) D.waits s h.wl
    have h3 := dlate_prog d m ws D.room (deadF D.fuse) (deadD D.fuse D.down) D.waits s h.wl h.ws
    obtain ⟨j, hf⟩ : ∃ j, fat s D.sure = some j := Option.isSome_iff_exists.1 ht
    have hj := (fat_some hf).1
    have hg : getT s D.sure = (nth D.sure j).2 := by unfold getT; rw [hf]
    have hl := late_le s D.waits
    have hw := h.ws
    have hgl := h.ss
    have hgt : (nth D.sure j).2.length ≤ sumL D.sure := by
      have h4 := sumL_sub (List.singleton_sublist.2 (nth_mem hj))
      rw [sumL_cons, sumL_nil] at h4
      exact h4
    unfold syncR
    rw [if_pos hr]
    have hsd : syncD D.dead s = ⟨setT s ((nth D.sure j).2 ++ lateL s D.waits) D.sure, butW s D.waits, D.room, deadF D.fuse, deadD D.fuse D.down⟩ := by
      rw [← hg]; rfl
    rw [hsd]
    rw [hr] at h1 ⊢
    refine sdisk_Disk_Sync fun H hh => ?_
    dsimp only [cdisk_Disk_Sync]
    refine walk1 (k := ?_)
    repeat' first | refine And.intro ?_ ?_ | intro
    all_goals refine leaf ?_
    refine callL (h1) ?_
    rintro v L' H' ⟨rfl, rfl⟩ hh
    refine walk1 (k := ?_)
    repeat' first | refine And.intro ?_ ?_ | intro
    all_goals refine leaf ?_
    refine wps_lookF (by assumption) rfl (.there .here) (by have := find_sr s D.sure; rw [hf] at this; exact this) (e := nvE (srV (nth D.sure j))) (by rw [List.getElem?_map, List.getElem?_map, getD_some hj]; rfl) ?_
    refine walk1 (k := ?_)
    repeat' first | refine And.intro ?_ ?_ | intro
    all_goals refine leaf ?_
    refine callE (h3) ?_
    refine walk1 (k := ?_)
    repeat' first | refine And.intro ?_ ?_ | intro
    all_goals refine leaf ?_
    refine wps_rd (v := .str ((nth D.sure j).2 ++ lateL s D.waits)) (bcatD (by omega)) ?_
    refine walk1 (k := ?_)
    repeat' first | refine And.intro ?_ ?_ | intro
    all_goals refine leaf ?_
    refine wps_put (by assumption) (r := fat s D.sure) (es := (D.sure.map srV).map nvE) (es' := ((setT s ((nth D.sure j).2 ++ lateL s D.waits) D.sure).map srV).map nvE) rfl rfl (find_sr s D.sure) setE (.there .here1) fun _ hh => ?_
    refine walk1 (k := ?_)
    repeat' first | refine And.intro ?_ ?_ | intro
    all_goals refine leaf ?_
    refine callL (h2) ?_
    rintro v L' H' rfl hh
    refine walk1 (k := ?_)
    repeat' first | refine And.intro ?_ ?_ | intro
    all_goals refine leaf ?_
    exact done ⟨rfl, rfl⟩
  · unfold syncR
    rw [if_neg hr]
    refine sdisk_Disk_Sync fun H hh => ?_
    dsimp only [cdisk_Disk_Sync]
    refine walk1 (k := ?_)
    repeat' first | refine And.intro ?_ ?_ | intro
    all_goals refine leaf ?_
    refine callL (h1) ?_
    rintro v L' H' ⟨rfl, rfl⟩ hh
    refine walk1 (k := ?_)
    repeat' first | refine And.intro ?_ ?_ | intro
    all_goals refine leaf ?_
    refine c_cond_t (by show V.bool _ = _; simpa using hr) ?_
    refine walk1 (k := ?_)
    repeat' first | refine And.intro ?_ ?_ | intro
    all_goals refine leaf ?_
    exact done ⟨rfl, rfl⟩
def cutD (D : Dsk) (s : Tx) (n : Int) : Dsk := ⟨setT s ((getT s D.sure ++ lateL s D.waits).take n.toNat) D.sure, butW s D.waits, D.room, D.fuse, D.down⟩
def cutR (D : Dsk) (s : Tx) (n : Int) : Dsk := if readyE D s = 0 then cutD D.dead s n else D.dead
theorem take_min (l : Tx) (n : Int) : l.take (if (l.length : Int) < (if n < 0 then 0 else n) then (l.length : Int) else if n < 0 then 0 else n).toNat = l.take n.toNat := by
  by_cases h0 : n < 0
  · rw [if_pos h0]
    have e : n.toNat = 0 := by omega
    rw [e, if_neg (by omega)]; rfl
  · rw [if_neg h0]
    by_cases h1 : (l.length : Int) < n
    · rw [if_pos h1, List.take_of_length_le (by omega), List.take_of_length_le (by omega)]
    · rw [if_neg h1]
theorem dcut_prog (d m ws : Nat) (D : Dsk) (s : Tx) (n : Int) (h : DOk D) : CallsL Tryz.prog ndisk_Disk_Cut [.ptr d 0, .str s, .int .i64 n] (DL d m ws D) fun v L' => v = .int .i64 (readyE D s) ∧ L' = DL d m ws (cutR D s n) := by
  have h1 := dready_prog d m ws D.waits.length D s h
  by_cases hr : readyE D s = 0
  · obtain ⟨hd, ht⟩ := readyE_0.1 hr
    have h2 := dforget_prog d m ws D.room (deadF D.fuse) (deadD D.fuse D.down) D.waits s h.wl
    have h3 := dlate_prog d m ws D.room (deadF D.fuse) (deadD D.fuse D.down) D.waits s h.wl h.ws
    obtain ⟨j, hf⟩ : ∃ j, fat s D.sure = some j := Option.isSome_iff_exists.1 ht
    have hj := (fat_some hf).1
    have hg : getT s D.sure = (nth D.sure j).2 := by unfold getT; rw [hf]
    have hl := late_le s D.waits
    have hw := h.ws
    have hgl := h.ss
    have hgt : (nth D.sure j).2.length ≤ sumL D.sure := by
      have h4 := sumL_sub (List.singleton_sublist.2 (nth_mem hj))
      rw [sumL_cons, sumL_nil] at h4
      exact h4
    unfold cutR
    rw [if_pos hr]
    have hsd : cutD D.dead s n = ⟨setT s (((nth D.sure j).2 ++ lateL s D.waits).take n.toNat) D.sure, butW s D.waits, D.room, deadF D.fuse, deadD D.fuse D.down⟩ := by
      rw [← hg]; rfl
    rw [hsd]
    rw [hr] at h1 ⊢
    refine sdisk_Disk_Cut fun H hh => ?_
    dsimp only [cdisk_Disk_Cut]
    refine walk1 (k := ?_)
    repeat' first | refine And.intro ?_ ?_ | intro
    all_goals refine leaf ?_
    refine callL (h1) ?_
    rintro v L' H' ⟨rfl, rfl⟩ hh
    refine walk1 (k := ?_)
    repeat' first | refine And.intro ?_ ?_ | intro
    all_goals refine leaf ?_
    refine wps_lookF (by assumption) rfl (.there .here) (by have := find_sr s D.sure; rw [hf] at this; exact this) (e := nvE (srV (nth D.sure j))) (by rw [List.getElem?_map, List.getElem?_map, getD_some hj]; rfl) ?_
    refine walk1 (k := ?_)
    repeat' first | refine And.intro ?_ ?_ | intro
    all_goals refine leaf ?_
    refine callE (h3) ?_
    refine walk1 (k := ?_)
    repeat' first | refine And.intro ?_ ?_ | intro
    all_goals refine leaf ?_
    refine wps_rd (v := .str ((nth D.sure j).2 ++ lateL s D.waits)) (bcatD (by omega)) ?_
    refine walk1 (k := ?_)
    repeat' first | refine And.intro ?_ ?_ | intro
    all_goals refine leaf ?_
    refine wps_slot (s := 36) (v := .str (((nth D.sure j).2 ++ lateL s D.waits).take n.toNat)) (congrArg V.str ?_) ?_
    · exact take_min _ n
    refine wps_put (by assumption) (r := fat s D.sure) (es := (D.sure.map srV).map nvE) (es' := ((setT s (((nth D.sure j).2 ++ lateL s D.waits).take n.toNat) D.sure).map srV).map nvE) rfl rfl (find_sr s D.sure) setE (.there .here1) fun _ hh => ?_
    refine walk1 (k := ?_)
    repeat' first | refine And.intro ?_ ?_ | intro
    all_goals refine leaf ?_
    refine callL (h2) ?_
    rintro v L' H' rfl hh
    refine walk1 (k := ?_)
    repeat' first | refine And.intro ?_ ?_ | intro
    all_goals refine leaf ?_
    exact done ⟨rfl, rfl⟩
  · unfold cutR
    rw [if_neg hr]
    refine sdisk_Disk_Cut fun H hh => ?_
    dsimp only [cdisk_Disk_Cut]
    refine walk1 (k := ?_)
    repeat' first | refine And.intro ?_ ?_ | intro
    all_goals refine leaf ?_
    refine callL (h1) ?_
    rintro v L' H' ⟨rfl, rfl⟩ hh
    refine walk1 (k := ?_)
    repeat' first | refine And.intro ?_ ?_ | intro
    all_goals refine leaf ?_
    refine c_cond_t (by show V.bool _ = _; simpa using hr) ?_
    refine walk1 (k := ?_)
    repeat' first | refine And.intro ?_ ?_ | intro
    all_goals refine leaf ?_
    exact done ⟨rfl, rfl⟩
theorem dfuse_prog (d m ws n : Nat) (room fuse : Int) (down : Bool) (k : Int) : CallsL Tryz.prog ndisk_Disk_Fuse [.ptr d 0, .int .i64 k] [DO d m ws n room fuse down] fun _ L' => L' = [DO d m ws n room (if down = true then fuse else max k (-1)) down] := by
  cases down with
  | true =>
    refine sdisk_Disk_Fuse fun H hh => ?_
    dsimp only [cdisk_Disk_Fuse]
    refine walk1 (k := ?_)
    repeat' first | refine And.intro ?_ ?_ | intro
    all_goals refine leaf ?_
    exact done rfl
  | false =>
    rw [if_neg (by decide)]
    refine sdisk_Disk_Fuse fun H hh => ?_
    dsimp only [cdisk_Disk_Fuse]
    refine walk1 (k := ?_)
    repeat' first | refine And.intro ?_ ?_ | intro
    all_goals refine leaf ?_
    rename_i hh
    have e : (if k < -1 then -1 else k) = max k (-1) := by split <;> omega
    rw [e] at hh
    exact done rfl
theorem dholes_prog (d m ws n : Nat) (room fuse : Int) (down : Bool) (l : List (Tx × Tx)) (hl : l.length ≤ 1000) : CallsR Tryz.prog ndisk_Disk_Holes [.ptr d 0] [DO d m ws n room fuse down, MO m l] fun v => v = .int .i64 (16 - (l.length : Nat)) := by
  have hm : ((l.map srV).map nvE).length = l.length := by simp
  refine sdisk_Disk_Holes fun H hh => ?_
  dsimp only [cdisk_Disk_Holes]
  refine walk1 (k := ?_)
  repeat' first | refine And.intro ?_ ?_ | intro
  all_goals refine leaf ?_
  rw [hm]
  exact doneR rfl
theorem dfree_prog (d m ws : Nat) (D : Dsk) (h : DOk D) : CallsR Tryz.prog ndisk_Disk_Free [.ptr d 0] (DL d m ws D) fun v => v = .int .i64 (max (D.room - (D.used : Nat)) 0) := by
  have h1 := dused_prog d m ws D h
  have hu := h.used
  have hr0 := h.room0
  have hr1 := h.room1
  refine sdisk_Disk_Free fun H hh => ?_
  dsimp only [cdisk_Disk_Free]
  refine walk1 (k := ?_)
  repeat' first | refine And.intro ?_ ?_ | intro
  all_goals refine leaf ?_
  refine callE (h1) ?_
  refine walk1 (k := ?_)
  repeat' first | refine And.intro ?_ ?_ | intro
  all_goals refine leaf ?_
  have e : (if D.room - (D.used : Nat) < 0 then 0 else D.room - (D.used : Nat)) = max (D.room - (D.used : Nat)) 0 := by split <;> omega
  rw [e]
  exact doneR rfl
end Go.Proofs.YtkfhgpegnnokgaaGreatDoor
