/-
  The disk: what of a file isn't sure is forgotten, a file goes; bytes are appended; a new disk.
-/
import Derived.Test.YtkfhgpegnnokgaaGreatDoorDskB
import Derived.Test.YtkfhgpegnnokgaaGreatDoorCmG
namespace Go.Proofs.YtkfhgpegnnokgaaGreatDoor
open Go Go.CM
set_option maxRecDepth 100000
set_option maxHeartbeats 4000000

theorem dfor1_prog (b : Nat) (w : Tx × Tx) (s : Tx) : CallsR Tryz.prog ndisk_Disk_forget_1 [.agg (wtC w), .ptr b 0] [(b, .cells true [.str s])] fun v => v = .bool (w.1 == s) := by
  refine sdisk_Disk_forget_1 fun H hh => ?_
  dsimp only [cdisk_Disk_forget_1]
  refine walk1 (k := ?_)
  repeat' first | refine And.intro ?_ ?_ | intro
  all_goals refine leaf ?_
  exact doneR rfl
def wat (s : Tx) (l : List (Tx × Tx)) : Option Nat := l.findIdx? fun w => w.1 == s
def watI (s : Tx) (l : List (Tx × Tx)) : Int := match wat s l with | none => -1 | some i => (i : Nat)
theorem watI_none {s : Tx} {l : List (Tx × Tx)} (h : ∀ w ∈ l, w.1 ≠ s) : watI s l = -1 := by
  have : wat s l = none := by
    rw [wat, List.findIdx?_eq_none_iff]
    intro x hx
    simpa using h x hx
  unfold watI; rw [this]
theorem watI_some {s : Tx} {l : List (Tx × Tx)} {i : Nat} (hi : i < l.length) (h : ∀ w ∈ l.take i, w.1 ≠ s) (he : (nth l i).1 = s) : watI s l = (i : Nat) := by
  have : wat s l = some i := by
    rw [wat, List.findIdx?_eq_some_iff_getElem]
    refine ⟨hi, by rw [nth_getElem hi] at he; simpa using he, fun j hj => ?_⟩
    have hm : l[j]'(by omega) ∈ l.take i := by
      rw [List.mem_take_iff_getElem]
      exact ⟨j, by omega, rfl⟩
    simpa using h _ hm
  unfold watI; rw [this]
theorem dindex_prog (ws b : Nat) (l : List (Tx × Tx)) (s : Tx) (hl : l.length ≤ 60000) : CallsR Tryz.prog nslices_IndexFunc_disk_wait [.slice ws 0 l.length 2, .func ndisk_Disk_forget_1 [.ptr b 0]] [(b, .cells true [.str s]), WO ws l] fun v => v = .int .i64 (watI s l) := by
  refine sslices_IndexFunc_disk_wait fun H hh => ?_
  dsimp only [cslices_IndexFunc_disk_wait]
  refine walk1 (k := ?_)
  repeat' first | refine And.intro ?_ ?_ | intro
  all_goals refine leaf ?_
  refine loopN [0, 1, 7, 8] l.length (fun i vs L => vs = [.slice ws 0 l.length 2, .func ndisk_Disk_forget_1 [.ptr b 0], .int .i64 l.length, .int .i64 (i : Nat)] ∧ L = [(b, .cells true [.str s]), WO ws l] ∧ ∀ w ∈ l.take i, w.1 ≠ s) (Nx.here ⟨rfl, rfl, by simp⟩) ?_
  clear hh
  rintro i _ _ env H hi ⟨rfl, rfl, hno⟩ hh
  simp only [puts]
  by_cases hn : i < l.length
  · have hst := take_getD hn
    have h1 := dfor1_prog b (nth l i) s
    refine walk1 (k := ?_)
    repeat' first | refine And.intro ?_ ?_ | intro
    all_goals refine leaf ?_
    refine c_cond_t (by show V.bool _ = _; simp; omega) ?_
    refine walk1 (k := ?_)
    repeat' first | refine And.intro ?_ ?_ | intro
    all_goals refine leaf ?_
    refine vcallE (h1) ?_
    refine walk (k := ?_)
    repeat' first | refine And.intro ?_ ?_ | intro
    all_goals refine leaf ?_
    · rename_i he
      rw [watI_some hn hno he]
      exact doneR rfl
    · rename_i he
      refine Nx.next hn ⟨rfl, rfl, fun w hw => ?_⟩
      rw [hst] at hw
      rcases List.mem_append.1 hw with k | k
      · exact hno w k
      · simp at k; subst k; exact he
  · skip
    refine walk1 (k := ?_)
    repeat' first | refine And.intro ?_ ?_ | intro
    all_goals refine leaf ?_
    refine c_cond_f (by show V.bool _ = _; simp; omega) ?_
    refine walk1 (k := ?_)
    repeat' first | refine And.intro ?_ ?_ | intro
    all_goals refine leaf ?_
    rw [List.take_of_length_le (by omega)] at hno
    rw [watI_none hno]
    exact doneR rfl
theorem but_app (s : Tx) (a b : List (Tx × Tx)) : butW s (a ++ b) = butW s a ++ butW s b := List.filter_append ..
theorem wt_len (l : List (Tx × Tx)) : (l.flatMap wtC).length = l.length * 2 := by
  induction l with
  | nil => rfl
  | cons x l ih => rw [List.flatMap_cons, List.length_append, ih, List.length_cons]; show 2 + _ = _; omega
theorem set_take {α : Type} (R : List α) {n : Nat} (x : α) (h : n < R.length) : (R.set n x).take (n + 1) = R.take n ++ [x] := by
  rw [List.set_eq_take_append_cons_drop, if_pos h, List.take_append]
  have : (R.take n).length = n := by rw [List.length_take]; omega
  rw [this, List.take_of_length_le (by omega)]
  simp
theorem ddel_prog (ws b : Nat) (l : List (Tx × Tx)) (s : Tx) (hl : l.length ≤ 60000) : CallsL Tryz.prog nslices_DeleteFunc_disk_wait [.slice ws 0 l.length 2, .func ndisk_Disk_forget_1 [.ptr b 0]] [(b, .cells true [.str s]), WO ws l] fun v L' => v = .slice ws 0 (butW s l).length 2 ∧ L' = [(b, .cells true [.str s]), WO ws (butW s l)] := by
  have h1 := dindex_prog ws b l s hl
  by_cases hno : ∀ w ∈ l, w.1 ≠ s
  · have e : butW s l = l := List.filter_eq_self.2 fun w hw => decide_eq_true (hno w hw)
    rw [e]
    rw [watI_none hno] at h1
    refine sslices_DeleteFunc_disk_wait fun H hh => ?_
    dsimp only [cslices_DeleteFunc_disk_wait]
    refine walk1 (k := ?_)
    repeat' first | refine And.intro ?_ ?_ | intro
    all_goals refine leaf ?_
    refine callE (h1) ?_
    refine walk1 (k := ?_)
    repeat' first | refine And.intro ?_ ?_ | intro
    all_goals refine leaf ?_
    exact done ⟨rfl, rfl⟩
  obtain ⟨i, hw⟩ : ∃ i, wat s l = some i := by
    cases h : wat s l with
    | some i => exact ⟨i, rfl⟩
    | none =>
      rw [wat, List.findIdx?_eq_none_iff] at h
      exact absurd (fun w hw => by simpa using h w hw) hno
  obtain ⟨hi, hp, hfirst⟩ := List.findIdx?_eq_some_iff_getElem.1 hw
  have hwi : watI s l = (i : Nat) := by unfold watI; rw [hw]
  have hpi : (nth l i).1 = s := by rw [nth_getElem hi]; simpa using hp
  have hti : ∀ w ∈ l.take i, w.1 ≠ s := fun w hw => by
    obtain ⟨j, hj, rfl⟩ := List.mem_take_iff_getElem.1 hw
    simpa using hfirst j (by omega)
  have hbi : butW s (l.take i) = l.take i := List.filter_eq_self.2 fun w hw => decide_eq_true (hti w hw)
  have hbi1 : butW s (l.take (i + 1)) = l.take i := by
    rw [take_getD hi, but_app, hbi]
    unfold butW
    rw [List.filter_cons_of_neg (by simp [hpi])]; simp
  rw [hwi] at h1
  refine sslices_DeleteFunc_disk_wait fun H hh => ?_
  dsimp only [cslices_DeleteFunc_disk_wait]
  refine walk1 (k := ?_)
  repeat' first | refine And.intro ?_ ?_ | intro
  all_goals refine leaf ?_
  refine callE (h1) ?_
  refine walk1 (k := ?_)
  repeat' first | refine And.intro ?_ ?_ | intro
  all_goals refine leaf ?_
  refine loopM [0, 1, 5, 6] (fun k vs L => ∃ (j : Nat) (R : List (Tx × Tx)), k = l.length - j ∧ i < j ∧ j ≤ l.length ∧ R.length = l.length ∧ R.take (butW s (l.take j)).length = butW s (l.take j) ∧ (butW s (l.take j)).length < j ∧ (∀ q, j ≤ q → q < l.length → nth R q = nth l q) ∧
      vs = [.slice ws 0 l.length 2, .func ndisk_Disk_forget_1 [.ptr b 0], .int .i64 ((butW s (l.take j)).length : Nat), .int .i64 (j : Nat)] ∧ L = [(b, .cells true [.str s]), WO ws R])
    (Nx.intro (i := l.length - (i + 1)) trivial ⟨i + 1, l, rfl, by omega, hi, rfl, by rw [hbi1]; simp, by rw [hbi1, List.length_take]; omega, fun _ _ _ => rfl, by rw [hbi1, List.length_take, Nat.min_eq_left (by omega)]; rfl, rfl⟩) ?_
  clear hh
  rintro k _ _ env H ⟨j, R, rfl, hij, hjl, hRl, hRt, hbl, hRq, rfl, rfl⟩ hh
  simp only [puts]
  have hrl : (WO ws R).2 = (WO ws R).2 := rfl
  by_cases hn : j < l.length
  · have hst := take_getD hn
    have hcl := dfor1_prog b (nth R j) s
    have hRj := hRq j (Nat.le_refl _) hn
    refine walk1 (k := ?_)
    repeat' first | refine And.intro ?_ ?_ | intro
    all_goals refine leaf ?_
    refine c_cond_t (by show V.bool _ = _; simp; omega) ?_
    refine walk1 (k := ?_)
    repeat' first | refine And.intro ?_ ?_ | intro
    all_goals refine leaf ?_
    refine vcallE (hcl) ?_
    refine walk (k := ?_)
    repeat' first | refine And.intro ?_ ?_ | intro
    all_goals refine leaf ?_
    · have hne : (nth R j).1 ≠ s := by assumption
      have hb1 : butW s (l.take (j + 1)) = butW s (l.take j) ++ [nth R j] := by
        rw [hst, but_app, hRj]
        congr 1
        exact List.filter_cons_of_pos (by rw [← hRj]; simpa using hne)
      have hb2 : (butW s (l.take (j + 1))).length = (butW s (l.take j)).length + 1 := by rw [hb1, List.length_append, List.length_singleton]
      refine Nx.intro (i := l.length - (j + 1)) (by omega) ⟨j + 1, R.set (butW s (l.take j)).length (nth R j), rfl, by omega, by omega, by rw [List.length_set]; exact hRl, ?_, by omega, fun q h1 h2 => ?_, by rw [hb2]; rfl, rfl⟩
      · rw [hb2, set_take _ _ (by omega), hRt, hb1]
      · rw [nth_set _ (by omega), if_neg (by omega)]
        exact hRq q (by omega) h2
    · have he : (nth R j).1 = s := by assumption
      have hb1 : butW s (l.take (j + 1)) = butW s (l.take j) := by
        rw [hst, but_app]
        unfold butW
        rw [List.filter_cons_of_neg (by rw [← hRj]; simpa using he)]; simp
      exact Nx.intro (i := l.length - (j + 1)) (by omega) ⟨j + 1, R, rfl, by omega, by omega, hRl, by rw [hb1]; exact hRt, by rw [hb1]; omega, fun q h1 h2 => hRq q (by omega) h2, by rw [hb1]; rfl, rfl⟩
  · skip
    refine walk1 (k := ?_)
    repeat' first | refine And.intro ?_ ?_ | intro
    all_goals refine leaf ?_
    refine c_cond_f (by show V.bool _ = _; simp; omega) ?_
    refine walk1 (k := ?_)
    repeat' first | refine And.intro ?_ ?_ | intro
    all_goals refine leaf ?_
    have hj : j = l.length := by omega
    subst hj
    rw [List.take_length] at *
    have hne : R.flatMap wtC ≠ [] := fun h => by
      have := congrArg List.length h
      rw [wt_len, hRl] at this
      simp only [List.length_nil] at this; omega
    generalize hc : (butW s l).length = c at *
    have lC : ((butW s l).flatMap wtC).length = c * 2 := by rw [wt_len, hc]
    refine wps_clr hh (cs' := (butW s l).flatMap wtC ++ rep [.str [], .str []] (l.length - c)) (L' := [(b, .cells true [.str s]), (ws, .cells true ((butW s l).flatMap wtC ++ rep [.str [], .str []] (l.length - c)))]) rfl ?_ hne ?_ (.there .here1) ?_
    · rw [wt_len, hRl, Int.toNat_natCast]; omega
    · rw [Int.toNat_natCast, Nat.zero_add, splice, rows_take (sz := 2) (fun _ => rfl) R c, hRt, List.drop_of_length_le (l := R.flatMap wtC) (by rw [wt_len, hRl, rep_length' (k := 2) rfl]; omega), List.append_nil]
    intro H' hh
    refine walk1 (k := ?_)
    repeat' first | refine And.intro ?_ ?_ | intro
    all_goals refine leaf ?_
    refine CEnds.cut hh (.there .here1) ?_ fun H' hh => done ⟨by rw [Int.toNat_natCast], rfl⟩
    exact fun h => hne (by
      have := congrArg List.length h
      rw [List.length_append, lC, rep_length' (k := 2) rfl] at this
      simp only [List.length_nil] at this; omega)
end Go.Proofs.YtkfhgpegnnokgaaGreatDoor
