/-
  The disk: its bytes, what of a file isn't sure, a file's name.
-/
import Derived.Test.YtkfhgpegnnokgaaGreatDoorDskA
namespace Go.Proofs.YtkfhgpegnnokgaaGreatDoor
open Go Go.CM
set_option maxRecDepth 100000
set_option maxHeartbeats 4000000

theorem bcatD {a b : List UInt8} (h : a.length + b.length ≤ 1000000000) : binV .add (.str a) (.str b) = some (.str (a ++ b)) := if_neg (show ¬ ((a.length + b.length : Nat) : Int) > 9223372036854775807 by omega)
theorem sel_perm {n : Nat} {is : List Nat} (h : is.Nodup) (hl : ∀ i ∈ is, i < n) : is.Perm ((List.range n).filter fun i => decide (i ∈ is)) := by
  rw [List.perm_ext_iff_of_nodup h (List.nodup_range.filter _)]
  intro i
  rw [List.mem_filter, List.mem_range, decide_eq_true_eq]
  exact ⟨fun hi => ⟨hl i hi, hi⟩, fun hi => hi.2⟩
theorem range_nth (l : List (Tx × Tx)) : (List.range l.length).map (nth l) = l := by
  apply List.ext_getElem?
  intro i
  rw [List.getElem?_map]
  by_cases hi : i < l.length
  · rw [List.getElem?_range hi, Option.map_some, getD_some hi]
  · rw [List.getElem?_eq_none (by simpa using hi), List.getElem?_eq_none (by simpa using hi)]; rfl
theorem sel_sum {l : List (Tx × Tx)} {is : List Nat} (h : is.Nodup) (hl : ∀ i ∈ is, i < l.length) : sumL (is.map (nth l)) ≤ sumL l := by
  have h1 := sumL_perm ((sel_perm h hl).map (nth l))
  have h2 := sumL_sub ((List.filter_sublist (p := fun i => decide (i ∈ is)) (l := List.range l.length)).map (nth l))
  rw [range_nth] at h2
  omega
theorem dused_prog (d m ws : Nat) (D : Dsk) (h : DOk D) : CallsR Tryz.prog ndisk_Disk_Used [.ptr d 0] (DL d m ws D) fun v => v = .int .i64 (D.used : Nat) := by
  have hw := dwaits_prog d m ws D.room D.fuse D.down D.waits h.wl h.ws
  have hused := h.used
  unfold Dsk.used at hused
  refine sdisk_Disk_Used fun H hh => ?_
  dsimp only [cdisk_Disk_Used]
  refine walk1 (k := ?_)
  repeat' first | refine And.intro ?_ ?_ | intro
  all_goals refine leaf ?_
  refine callE (hw) ?_
  refine walk1 (k := ?_)
  repeat' first | refine And.intro ?_ ?_ | intro
  all_goals refine leaf ?_
  refine wps_rangeM (by assumption) (id := m) (es := (D.sure.map srV).map nvE) (L' := fun bs clk => [DO d m ws D.waits.length D.room D.fuse D.down, (m, .mapS ((D.sure.map srV).map nvE) bs clk), WO ws D.waits]) rfl (fun bs clk => .there .here1) fun bs clk it H' hbl hbn hh => ?_
  refine walk1 (k := ?_)
  repeat' first | refine And.intro ?_ ?_ | intro
  all_goals refine leaf ?_
  rw [List.length_map, List.length_map] at hbl
  refine loopM [0, 3, 14] (fun k vs' L => ∃ is seen, k = D.sure.length - is.length ∧ is.Nodup ∧ (∀ i ∈ is, i < D.sure.length) ∧ seen = is.map (fun i => nth bs i) ∧ vs' = [.ptr d 0, .int .i64 ((sumL D.waits + sumL (is.map (nth D.sure)) : Nat) : Int), .ptr it 0] ∧
      L = [(it, .miter m clk seen clk), DO d m ws D.waits.length D.room D.fuse D.down, (m, .mapS ((D.sure.map srV).map nvE) bs clk), WO ws D.waits])
    (Nx.intro (i := D.sure.length) trivial ⟨[], [], rfl, List.nodup_nil, by simp, rfl, rfl, rfl⟩) ?_
  clear hh
  rintro k _ _ e H ⟨is, seen, rfl, hnd, hlt, hseen, rfl, rfl⟩ hh
  simp only [puts]
  refine walk1 (k := ?_)
  repeat' first | refine And.intro ?_ ?_ | intro
  all_goals refine leaf ?_
  refine wps_nextM (by assumption) (it := it) (mid := m) (clk := clk) (es := (D.sure.map srV).map nvE) (bs := bs) (seen := seen) (L' := fun x => [(it, .miter m clk (seen ++ [x]) clk), DO d m ws D.waits.length D.room D.fuse D.down, (m, .mapS ((D.sure.map srV).map nvE) bs clk), WO ws D.waits]) rfl (by simp) (fun _ => .here1) (fun hall => ?_) fun i ee x H' he hx hns hh => ?_
  · skip
    refine walk1 (k := ?_)
    repeat' first | refine And.intro ?_ ?_ | intro
    all_goals refine leaf ?_
    have m0 : m ≠ 0 := hh.ne00 (o := .mapS ((D.sure.map srV).map nvE) bs clk) (by simp) (fun b h => by cases h)
    obtain ⟨H2, hw, hh2⟩ := Has.wk hh m0 (L' := [(it, .miter m clk seen clk), DO d m ws D.waits.length D.room D.fuse D.down, MO m D.sure, WO ws D.waits]) (.there (.there .here1)) (.mapS _ _ _ _ rfl (Wks.refl _))
    refine ⟨_, _, H2, Wk.refl _, hw, ⟨?_, rfl⟩, hh2.tail⟩
    have hp : is.Perm (List.range D.sure.length) := by
      rw [List.perm_ext_iff_of_nodup hnd List.nodup_range]
      intro i
      rw [List.mem_range]
      refine ⟨hlt i, fun hi => ?_⟩
      have hib : i < bs.length := by omega
      have := hall (nth bs i) (nth_mem hib)
      rw [hseen] at this
      obtain ⟨j, hj, he⟩ := List.mem_map.1 this
      have hjb : j < bs.length := by have := hlt j hj; omega
      rw [nth_getElem hjb, nth_getElem hib] at he
      rw [List.nodup_iff_pairwise_ne, List.pairwise_iff_getElem] at hbn
      rcases Nat.lt_trichotomy j i with h | rfl | h
      · exact absurd he (hbn j i hjb hib h)
      · exact hj
      · exact absurd he.symm (hbn i j hib hjb h)
    have e1 := sumL_perm (hp.map (nth D.sure))
    rw [range_nth] at e1
    show V.int .i64 _ = _
    rw [e1]; rfl
  · obtain ⟨hi, hie⟩ := List.getElem?_eq_some_iff.1 he
    rw [List.length_map, List.length_map] at hi
    have hee : ee = nvE (srV (nth D.sure i)) := by rw [← hie, List.getElem_map, List.getElem_map, nth_getElem hi]
    subst hee
    have hxn : nth bs i = x := nth_of hx
    have hni : i ∉ is := fun h => hns (by rw [hseen, ← hxn]; exact List.mem_map_of_mem h)
    have hnd2 : (is ++ [i]).Nodup := List.nodup_append.2 ⟨hnd, by simp, fun a ha b hb => by simp at hb; subst hb; exact fun e => hni (e ▸ ha)⟩
    have hlt2 : ∀ j ∈ is ++ [i], j < D.sure.length := fun j hj => by
      rcases List.mem_append.1 hj with h | h
      · exact hlt j h
      · simp at h; omega
    have hll := nodup_lt_len hnd2 hlt2
    rw [List.length_append, List.length_singleton] at hll
    have hsum := sel_sum hnd2 hlt2
    have hsn : sumL ((is ++ [i]).map (nth D.sure)) = sumL (is.map (nth D.sure)) + (nth D.sure i).2.length := by rw [List.map_append, List.map_singleton, sumL_snoc]
    rw [hsn] at hsum
    refine walk1 (k := ?_)
    repeat' first | refine And.intro ?_ ?_ | intro
    all_goals refine leaf ?_
    refine wps_entryM (by assumption) (it := it) (mid := m) (clk := clk) (es := (D.sure.map srV).map nvE) (bs := bs) (seen := seen) (b := x) (i := i) rfl (by simp) (by simp) he hx ?_
    refine walk1 (k := ?_)
    repeat' first | refine And.intro ?_ ?_ | intro
    all_goals refine leaf ?_
    exact Nx.intro (i := D.sure.length - (is ++ [i]).length) (by rw [List.length_append, List.length_singleton]; omega) ⟨is ++ [i], seen ++ [x], rfl, hnd2, hlt2, by rw [hseen, List.map_append, List.map_singleton, hxn], by rw [hsn, ← Nat.add_assoc]; rfl, rfl⟩
theorem dlate_prog (d m ws : Nat) (room fuse : Int) (down : Bool) (l : List (Tx × Tx)) (s : Tx) (hl : l.length ≤ 60000) (hs : sumL l ≤ 60000) : CallsR Tryz.prog ndisk_Disk_late [.ptr d 0, .str s] [DO d m ws l.length room fuse down, WO ws l] fun v => v = .str (lateL s l) := by
  refine sdisk_Disk_late fun H hh => ?_
  dsimp only [cdisk_Disk_late]
  refine walk1 (k := ?_)
  repeat' first | refine And.intro ?_ ?_ | intro
  all_goals refine leaf ?_
  refine loopN [1, 5, 11, 12, 13] l.length (fun i vs L => vs = [.str s, .str (lateL s (l.take i)), .slice ws 0 l.length 2, .int .i64 l.length, .int .i64 (i : Nat)] ∧ L = [DO d m ws l.length room fuse down, WO ws l]) (Nx.here ⟨rfl, rfl⟩) ?_
  clear hh
  rintro i _ _ env H hi ⟨rfl, rfl⟩ hh
  simp only [puts]
  by_cases hn : i < l.length
  · have hst := late_app s (l.take i) [nth l i]
    rw [← take_getD hn, late_one] at hst
    have h1 := late_le s (l.take (i + 1))
    have h2 := sumL_take l (i + 1)
    refine walk1 (k := ?_)
    repeat' first | refine And.intro ?_ ?_ | intro
    all_goals refine leaf ?_
    refine c_cond_t (by show V.bool _ = _; simp; omega) ?_
    refine walk (k := ?_)
    repeat' first | refine And.intro ?_ ?_ | intro
    all_goals refine leaf ?_
    · rename_i he
      rw [if_pos he] at hst
      have h3 := congrArg List.length hst
      rw [List.length_append] at h3
      refine wps_rd (v := .str (lateL s (l.take i) ++ (nth l i).2)) (bcatD (by omega)) ?_
      refine walk1 (k := ?_)
      repeat' first | refine And.intro ?_ ?_ | intro
      all_goals refine leaf ?_
      exact Nx.next hn ⟨by rw [hst]; rfl, rfl⟩
    · rename_i he
      rw [if_neg he, List.append_nil] at hst
      exact Nx.next hn ⟨by rw [hst]; rfl, rfl⟩
  · skip
    refine walk1 (k := ?_)
    repeat' first | refine And.intro ?_ ?_ | intro
    all_goals refine leaf ?_
    refine c_cond_f (by show V.bool _ = _; simp; omega) ?_
    refine walk1 (k := ?_)
    repeat' first | refine And.intro ?_ ?_ | intro
    all_goals refine leaf ?_
    rw [List.take_of_length_le (by omega)] at *
    exact doneR rfl
def readyE (D : Dsk) (s : Tx) : Int := if deadD D.fuse D.down = true then 12 else if hasT s D.sure = true then 0 else 6
theorem dready_prog (d m ws n : Nat) (D : Dsk) (s : Tx) (h : DOk D) : CallsL Tryz.prog ndisk_Disk_ready [.ptr d 0, .str s] [DO d m ws n D.room D.fuse D.down, MO m D.sure] fun v L' => v = .int .i64 (readyE D s) ∧ L' = [DO d m ws n D.room (deadF D.fuse) (deadD D.fuse D.down), MO m D.sure] := by
  have h1 := ddead_prog d m ws n D.room D.fuse D.down h.fuse0 h.fuse1
  have h2 := dthere_prog d m ws n D.room (deadF D.fuse) (deadD D.fuse D.down) D.sure s
  unfold readyE
  refine sdisk_Disk_ready fun H hh => ?_
  dsimp only [cdisk_Disk_ready]
  refine walk1 (k := ?_)
  repeat' first | refine And.intro ?_ ?_ | intro
  all_goals refine leaf ?_
  refine callL (h1) ?_
  rintro v L' H' ⟨rfl, rfl⟩ hh
  cases hd : deadD D.fuse D.down with
  | true =>
    rw [hd] at hh
    refine walk1 (k := ?_)
    repeat' first | refine And.intro ?_ ?_ | intro
    all_goals refine leaf ?_
    exact done ⟨rfl, rfl⟩
  | false =>
    rw [hd] at hh h2
    rw [if_neg (by decide)]
    cases ht : hasT s D.sure with
    | true =>
      rw [ht] at h2
      refine walk1 (k := ?_)
      repeat' first | refine And.intro ?_ ?_ | intro
      all_goals refine leaf ?_
      refine callE (h2) ?_
      refine walk1 (k := ?_)
      repeat' first | refine And.intro ?_ ?_ | intro
      all_goals refine leaf ?_
      exact done ⟨rfl, rfl⟩
    | false =>
      rw [ht] at h2
      refine walk1 (k := ?_)
      repeat' first | refine And.intro ?_ ?_ | intro
      all_goals refine leaf ?_
      refine callE (h2) ?_
      refine walk1 (k := ?_)
      repeat' first | refine And.intro ?_ ?_ | intro
      all_goals refine leaf ?_
      exact done ⟨rfl, rfl⟩
theorem dread_prog (d m ws : Nat) (D : Dsk) (s : Tx) (h : DOk D) : CallsR Tryz.prog ndisk_Disk_Read [.ptr d 0, .str s] (DL d m ws D) fun v => v = if hasT s D.sure = true then .tup [.str (getT s D.sure ++ lateL s D.waits), .int .i64 0] else .tup [.str [], .int .i64 6] := by
  have h2 := dthere_prog d m ws D.waits.length D.room D.fuse D.down D.sure s
  have h3 := dlate_prog d m ws D.room D.fuse D.down D.waits s h.wl h.ws
  have hl := late_le s D.waits
  have hw := h.ws
  unfold getT
  cases hf : fat s D.sure with
  | none =>
    have ht : hasT s D.sure = false := by unfold hasT; rw [hf]; rfl
    rw [ht] at h2 ⊢
    refine sdisk_Disk_Read fun H hh => ?_
    dsimp only [cdisk_Disk_Read]
    refine walk1 (k := ?_)
    repeat' first | refine And.intro ?_ ?_ | intro
    all_goals refine leaf ?_
    refine callE (h2) ?_
    refine walk1 (k := ?_)
    repeat' first | refine And.intro ?_ ?_ | intro
    all_goals refine leaf ?_
    exact doneR rfl
  | some j =>
    have ht : hasT s D.sure = true := by unfold hasT; rw [hf]; rfl
    rw [ht] at h2 ⊢
    have hj := (fat_some hf).1
    have hg : (nth D.sure j).2.length ≤ 60000 := by
      have h4 := sumL_sub (List.singleton_sublist.2 (nth_mem hj))
      have := h.ss
      rw [sumL_cons, sumL_nil] at h4; omega
    refine sdisk_Disk_Read fun H hh => ?_
    dsimp only [cdisk_Disk_Read]
    refine walk1 (k := ?_)
    repeat' first | refine And.intro ?_ ?_ | intro
    all_goals refine leaf ?_
    refine callE (h2) ?_
    refine walk1 (k := ?_)
    repeat' first | refine And.intro ?_ ?_ | intro
    all_goals refine leaf ?_
    refine wps_lookF hh rfl (.there .here) (by have := find_sr s D.sure; rw [hf] at this; exact this) (e := nvE (srV (nth D.sure j))) (by rw [List.getElem?_map, List.getElem?_map, getD_some hj]; rfl) ?_
    refine walk1 (k := ?_)
    repeat' first | refine And.intro ?_ ?_ | intro
    all_goals refine leaf ?_
    refine callE (h3) ?_
    refine walk1 (k := ?_)
    repeat' first | refine And.intro ?_ ?_ | intro
    all_goals refine leaf ?_
    refine wps_rd (v := .str ((nth D.sure j).2 ++ lateL s D.waits)) (bcatD (by omega)) ?_
    refine walk1 (k := ?_)
    repeat' first | refine And.intro ?_ ?_ | intro
    all_goals refine leaf ?_
    exact doneR rfl
theorem dnames_prog (d m ws n : Nat) (room fuse : Int) (down : Bool) (l : List (Tx × Tx)) (hl : l.length ≤ 100000) : CallsL Tryz.prog ndisk_Disk_Names [.ptr d 0] [DO d m ws n room fuse down, MO m l] fun v L' => ∃ o, v = .slice o 0 (srtT (l.map (·.1))).length 1 ∧ L' = [DO d m ws n room fuse down, MO m l, TL o true (srtT (l.map (·.1)))] := by
  have hn : (l.map srV).map (·.1) = l.map (·.1) := by rw [List.map_map]; rfl
  refine sdisk_Disk_Names fun H hh => ?_
  dsimp only [cdisk_Disk_Names]
  refine walk1 (k := ?_)
  repeat' first | refine And.intro ?_ ?_ | intro
  all_goals refine leaf ?_
  refine callL (keys_prog m) ?_
  rintro v L' H' ⟨b, rfl, rfl⟩ hh
  refine walk1 (k := ?_)
  repeat' first | refine And.intro ?_ ?_ | intro
  all_goals refine leaf ?_
  have hs := sorted_prog b m (l.map srV) (by simpa using hl)
  rw [hn] at hs
  refine callL (hs) ?_
  rintro v L' H' ⟨o, rfl, rfl⟩ hh
  refine walk1 (k := ?_)
  repeat' first | refine And.intro ?_ ?_ | intro
  all_goals refine leaf ?_
  exact done ⟨o, rfl, rfl⟩
end Go.Proofs.YtkfhgpegnnokgaaGreatDoor
