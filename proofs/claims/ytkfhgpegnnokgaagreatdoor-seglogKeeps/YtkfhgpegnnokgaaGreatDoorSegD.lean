/-
  A log in segments: how many bytes it has; the first example.
-/
import Derived.Test.YtkfhgpegnnokgaaGreatDoorRotR
namespace Go.Proofs.YtkfhgpegnnokgaaGreatDoor
open Go Go.CM
set_option maxRecDepth 100000
set_option maxHeartbeats 4000000

def bytesS (D : Dsk) (l : List Int) : Nat := (l.map fun n => (fileT D (segN n)).length).sum
theorem bytes_le {D : Dsk} (h : DOk D) (l : List Int) : bytesS D l ≤ l.length * 60000 := by
  unfold bytesS
  induction l with
  | nil => exact Nat.zero_le _
  | cons a l ih =>
    have := file_le h (segN a)
    simp only [List.map_cons, List.sum_cons, List.length_cons]
    omega
theorem bytes_snoc (D : Dsk) (l : List Int) (n : Int) : bytesS D (l ++ [n]) = bytesS D l + (fileT D (segN n)).length := by unfold bytesS; simp
theorem sbytes_prog (g d m ws : Nat) (D : Dsk) (first last limit : Int) (e : Nat) (h0 : 1 ≤ first) (h1 : last ≤ 99999) (h : DOk D) : CallsR Tryz.prog nseglog_Log_Bytes [.ptr g 0] (GO g d first last limit :: DO d m ws D.waits.length D.room D.fuse D.down :: MO m D.sure :: WO ws D.waits :: LO e) fun v =>
    v = .int .i64 (bytesS D (upI first (last + 1 - first).toNat) : Nat) := by
  refine sseglog_Log_Bytes fun H hh => ?_
  dsimp only [cseglog_Log_Bytes]
  refine walk1 (k := ?_)
  repeat' first | refine And.intro ?_ ?_ | intro
  all_goals refine leaf ?_
  generalize hK : (last + 1 - first).toNat = K at *
  refine loopM [0, 3, 4] (fun q vs L => ∃ i : Nat, q = K - i ∧ i ≤ K ∧ vs = [.ptr g 0, .int .i64 (bytesS D (upI first i) : Nat), .int .i64 (first + (i : Nat))] ∧ L = GO g d first last limit :: DO d m ws D.waits.length D.room D.fuse D.down :: MO m D.sure :: WO ws D.waits :: LO e)
    (Nx.intro (i := K) trivial ⟨0, rfl, Nat.zero_le _, by rw [show first + ((0 : Nat) : Int) = first by omega]; rfl, rfl⟩) ?_
  clear hh
  rintro q _ _ env H ⟨i, rfl, hi, rfl, rfl⟩ hh
  simp only [puts]
  have hb := bytes_le h (upI first i)
  rw [up_len] at hb
  by_cases hn : i < K
  · have h2 := sname_prog (first + (i : Nat)) e
    have h3 := dread2_prog d m ws D (segN (first + (i : Nat))) h
    have h4 := bytes_snoc D (upI first i) (first + (i : Nat))
    rw [← up_snoc] at h4
    have hf := file_le h (segN (first + (i : Nat)))
    refine walk1 (k := ?_)
    repeat' first | refine And.intro ?_ ?_ | intro
    all_goals refine leaf ?_
    refine c_cond_t (congrArg V.bool (decide_eq_true (by omega))) ?_
    refine walk1 (k := ?_)
    repeat' first | refine And.intro ?_ ?_ | intro
    all_goals refine leaf ?_
    refine callE (h2) ?_
    refine walk1 (k := ?_)
    repeat' first | refine And.intro ?_ ?_ | intro
    all_goals refine leaf ?_
    refine callE (h3) ?_
    refine walk1 (k := ?_)
    repeat' first | refine And.intro ?_ ?_ | intro
    all_goals refine leaf ?_
    exact Nx.intro (i := K - (i + 1)) (by omega) ⟨i + 1, rfl, by omega, by rw [h4, show first + ((i + 1 : Nat) : Int) = first + (i : Nat) + 1 by push_cast; omega]; rfl, rfl⟩
  · have hiK : i = K := by omega
    refine walk1 (k := ?_)
    repeat' first | refine And.intro ?_ ?_ | intro
    all_goals refine leaf ?_
    refine c_cond_f (congrArg V.bool (decide_eq_false (by omega))) ?_
    refine walk1 (k := ?_)
    repeat' first | refine And.intro ?_ ?_ | intro
    all_goals refine leaf ?_
    rw [hiK]
    exact doneR rfl

/- the first example -/
def r1 : Tx := [97, 98]
def r2 : Tx := [99, 100]
def dA (w : List (Tx × Tx)) (t : Tx) : Dsk := ⟨[(segN 1, t)], w, 999, -1, false⟩
theorem s1_right : rightN (segN 1) = true := seg_right (by omega) (by omega)
theorem ok_dA {w : List (Tx × Tx)} {t : Tx} (h : sumL w + t.length ≤ 1000) (hw : ∀ x ∈ w, x = (segN 1, makeT r1) ∨ x = (segN 1, makeT r2)) : DOk (dA w t) := by
  refine ⟨?_, by show 1 ≤ 16; omega, by show [segN 1].Nodup; simp, fun x hx => ?_, fun x hx => ?_, by show (0 : Int) ≤ 999; omega, by show (999 : Int) ≤ 60000; omega, by show (-1 : Int) ≤ -1; omega, by show (-1 : Int) ≤ _; omega⟩
  · show sumL w + sumL [(segN 1, t)] ≤ _
    rw [sumL_cons, sumL_nil]
    show sumL w + (t.length + 0) ≤ _
    omega
  · have hm : ∀ r, makeT r ≠ [] := fun r k => by have := make_len r; rw [k] at this; simp at this
    rcases hw x hx with rfl | rfl
    · exact hm r1
    · exact hm r2
  · show x.1 ∈ [segN 1]
    rcases hw x hx with rfl | rfl <;> exact List.mem_singleton.2 rfl
theorem f1_len : (makeT r1).length = 12 := make_len r1
theorem f2_len : (makeT r2).length = 12 := make_len r2
theorem mk_ne (r : Tx) : makeT r ≠ [] := fun k => by have := make_len r; rw [k] at this; simp at this
theorem aw1 : appS (newD 999) 1 500 r1 0 = ⟨0, 1, dA [(segN 1, makeT r1)] []⟩ := by
  have hz : sizeS (newD 999) 1 = -1 := rfl
  have hlim : limI 0 = 0 := by decide
  have hm := f1_len
  have hno : ¬ noRoom (newD 999) true r1 0 := fun k => by
    rcases k with ⟨_, k⟩ | k
    · exact absurd k (by decide)
    · have e : (newD 999).room = 999 := rfl
      have e2 : (newD 999).used = 0 := rfl
      rw [e, e2, hlim] at k
      omega
  have hap : appE (newD 999) (segN 1) (makeT r1) = 0 := by
    refine appE_0.2 ⟨rfl, s1_right, fun k => ?_⟩
    rcases k with ⟨_, k⟩ | k
    · exact absurd k (by decide)
    · have e : (newD 999).room = 999 := rfl
      have e2 : (newD 999).used = 0 := rfl
      rw [e, e2] at k
      omega
  unfold appS
  rw [if_neg (by decide), if_neg (fun k => by have := k.1; rw [hz] at this; omega), hz]
  unfold appT
  rw [show decide ((-1 : Int) < 0) = true from rfl, if_neg (by omega), if_neg hno, if_neg (by omega)]
  unfold appU
  rw [if_pos hap]
  unfold appR
  rw [if_pos hap]
  unfold putD
  rw [if_neg (mk_ne r1)]
  rfl
theorem file_dA (w : List (Tx × Tx)) (t : Tx) : hasT (segN 1) (dA w t).sure = true ∧ fileT (dA w t) (segN 1) = t ++ lateL (segN 1) w := by
  have h : hasT (segN 1) (dA w t).sure = true := hasT_hd _ _ _
  refine ⟨h, ?_⟩
  unfold fileT
  rw [if_pos h]
  show getT (segN 1) [(segN 1, t)] ++ _ = _
  rw [getT_hd]; rfl
theorem late_1 (t : Tx) : lateL (segN 1) [(segN 1, t)] = t := by rw [late_one, if_pos rfl]
theorem but_1 (t : Tx) : butW (segN 1) [(segN 1, t)] = [] := by unfold butW; rw [List.filter_cons_of_neg (by simp)]; rfl
theorem aw2 : ¬ sizeS (dA [(segN 1, makeT r1)] []) 1 < 0 ∧ readyE (dA [(segN 1, makeT r1)] []) (segN 1) = 0 ∧ syncR (dA [(segN 1, makeT r1)] []) (segN 1) = dA [] (makeT r1) := by
  have h1 := file_dA [(segN 1, makeT r1)] []
  have hr : readyE (dA [(segN 1, makeT r1)] []) (segN 1) = 0 := readyE_0.2 ⟨rfl, h1.1⟩
  refine ⟨?_, hr, ?_⟩
  · unfold sizeS
    rw [if_pos h1.1]; omega
  · unfold syncR
    rw [if_pos hr]
    show (⟨setT (segN 1) (getT (segN 1) [(segN 1, [])] ++ lateL (segN 1) [(segN 1, makeT r1)]) [(segN 1, [])], butW (segN 1) [(segN 1, makeT r1)], 999, -1, false⟩ : Dsk) = _
    rw [getT_hd, late_1, but_1, setT_hd]; rfl
theorem aw3 : appS (dA [] (makeT r1)) 1 500 r2 0 = ⟨0, 1, dA [(segN 1, makeT r2)] (makeT r1)⟩ := by
  have h1 := file_dA [] (makeT r1)
  have hlen : (fileT (dA [] (makeT r1)) (segN 1)).length = 12 := by rw [h1.2, show lateL (segN 1) [] = [] from rfl, List.append_nil]; exact f1_len
  have hz : sizeS (dA [] (makeT r1)) 1 = 12 := by
    unfold sizeS
    rw [if_pos h1.1, hlen]; rfl
  have hlim : limI 0 = 0 := by decide
  have hm := f2_len
  have hu : (dA [] (makeT r1)).used = 12 := by
    show 0 + sumL [(segN 1, makeT r1)] = 12
    rw [sumL_cons, sumL_nil]
    show 0 + ((makeT r1).length + 0) = 12
    rw [f1_len]
  have hno : ¬ noRoom (dA [] (makeT r1)) false r2 0 := fun k => by
    rcases k with ⟨k, _⟩ | k
    · cases k
    · have e : (dA [] (makeT r1)).room = 999 := rfl
      rw [e, hu, hlim] at k
      omega
  have hap : appE (dA [] (makeT r1)) (segN 1) (makeT r2) = 0 := by
    refine appE_0.2 ⟨rfl, s1_right, fun k => ?_⟩
    rcases k with ⟨k, _⟩ | k
    · rw [h1.1] at k; cases k
    · have e : (dA [] (makeT r1)).room = 999 := rfl
      rw [e, hu] at k
      omega
  unfold appS
  rw [if_neg (by decide), if_neg (fun k => by have := k.2; rw [hz] at this; omega), hz]
  unfold appT
  rw [show decide ((12 : Int) < 0) = false from rfl, if_neg (by omega), if_neg hno, if_neg (by omega)]
  unfold appU
  rw [if_pos hap]
  unfold appR
  rw [if_pos hap]
  unfold putD
  rw [if_neg (mk_ne r2), show hasT (segN 1) (dA [] (makeT r1)).dead.sure = true from h1.1]
  rfl
theorem aw4 : crashD (dA [(segN 1, makeT r2)] (makeT r1)) 3 = dA [] (makeT r1 ++ (makeT r2).take 3) := by
  show (⟨setT (nth [(segN 1, makeT r2)] 0).1 (getT (nth [(segN 1, makeT r2)] 0).1 [(segN 1, makeT r1)] ++ (nth [(segN 1, makeT r2)] 0).2.take (3 - sumL ([(segN 1, makeT r2)].take 0))) [(segN 1, makeT r1)], [], 999, -1, false⟩ : Dsk) = _
  rw [nth_zero, getT_hd, setT_hd]; rfl
theorem aw5 : numO 1 (allL lgW (dA [] (makeT r1 ++ (makeT r2).take 3)).sure) [] = some [1] ∧ openF (dA [] (makeT r1 ++ (makeT r2).take 3)) 1 [] [1] = ⟨0, 1, [r1], dA [] (makeT r1)⟩ := by
  have hall : allL lgW (dA [] (makeT r1 ++ (makeT r2).take 3)).sure = [1] := all_up (n := 1) rfl (by omega)
  have h1 := file_dA [] (makeT r1 ++ (makeT r2).take 3)
  have hf : fileT (dA [] (makeT r1 ++ (makeT r2).take 3)) (segN 1) = makeT r1 ++ (makeT r2).take 3 := by rw [h1.2]; exact List.append_nil _
  have hl3 : ((makeT r2).take 3).length = 3 := by rw [List.length_take, f2_len]; rfl
  have hs : splitT (makeT r1 ++ (makeT r2).take 3) = ([r1], 12, 3) := by
    have h2 := split_frames [r1] ((makeT r2).take 3) (fun r hr => by simp at hr; subst hr; decide)
    have h3 : framesT [r1] = makeT r1 := by rw [frames_cons]; exact List.append_nil _
    have h4 : (firstT ((makeT r2).take 3)).2.2 = 3 := by
      unfold firstT
      rw [if_pos (by omega)]
    rw [h3, splitT_no (s := (makeT r2).take 3) (fun k => by rw [k] at hl3; cases hl3) (by rw [h4]; decide), h4, f1_len] at h2
    exact h2
  have hr : readyE (dA [] (makeT r1 ++ (makeT r2).take 3)) (segN 1) = 0 := readyE_0.2 ⟨rfl, h1.1⟩
  refine ⟨by rw [hall]; rfl, ?_⟩
  rw [openF_cons, hf, hs]
  show (if (3 : Int) = 0 then _ else if (3 : Int) = 3 ∧ ([] : List Int) = [] then (⟨readyE (dA [] (makeT r1 ++ (makeT r2).take 3)) (segN 1), 1, [] ++ [r1], cutR (dA [] (makeT r1 ++ (makeT r2).take 3)) (segN 1) ((12 : Nat) : Int)⟩ : OpR) else _) = _
  rw [if_neg (by decide), if_pos ⟨rfl, rfl⟩, hr]
  have hc : cutR (dA [] (makeT r1 ++ (makeT r2).take 3)) (segN 1) ((12 : Nat) : Int) = dA [] (makeT r1) := by
    unfold cutR
    rw [if_pos hr]
    show (⟨setT (segN 1) ((getT (segN 1) [(segN 1, makeT r1 ++ (makeT r2).take 3)] ++ lateL (segN 1) []).take 12) [(segN 1, makeT r1 ++ (makeT r2).take 3)], butW (segN 1) [], 999, -1, false⟩ : Dsk) = _
    rw [getT_hd, setT_hd, show lateL (segN 1) [] = [] from rfl, List.append_nil, take_app f1_len]; rfl
  rw [hc]; rfl
theorem aw6 : bytesS (dA [] (makeT r1)) [1] = 12 := by
  have h1 := file_dA [] (makeT r1)
  unfold bytesS
  rw [List.map_singleton, h1.2, show lateL (segN 1) [] = [] from rfl, List.append_nil, f1_len]; rfl
end Go.Proofs.YtkfhgpegnnokgaaGreatDoor
