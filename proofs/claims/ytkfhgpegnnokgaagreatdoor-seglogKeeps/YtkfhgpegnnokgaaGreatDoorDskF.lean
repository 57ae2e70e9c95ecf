/-
  The disk: a crash, of which the first bytes that weren't sure last.
-/
import Derived.Test.YtkfhgpegnnokgaaGreatDoorDskE
namespace Go.Proofs.YtkfhgpegnnokgaaGreatDoor
open Go Go.CM
set_option maxRecDepth 100000
set_option maxHeartbeats 4000000

def crS (sure : List (Tx × Tx)) (l : List (Tx × Tx)) (k : Nat) : Nat → List (Tx × Tx)
  | 0 => sure
  | i + 1 => setT (nth l i).1 (getT (nth l i).1 (crS sure l k i) ++ (nth l i).2.take (k - sumL (l.take i))) (crS sure l k i)
def crashD (D : Dsk) (k : Int) : Dsk := ⟨crS D.sure D.waits k.toNat D.waits.length, [], D.room, -1, false⟩
theorem sum_set : ∀ (l : List (Tx × Tx)) (i : Nat) (x : Tx × Tx), i < l.length → sumL (l.set i x) + (nth l i).2.length = sumL l + x.2.length
  | [], _, _, h => absurd h (Nat.not_lt_zero _)
  | y :: l, 0, x, _ => by
    rw [List.set_cons_zero, sumL_cons, sumL_cons, nth_zero]; omega
  | y :: l, i + 1, x, h => by
    have := sum_set l i x (by simpa using h)
    rw [List.set_cons_succ, sumL_cons, sumL_cons, nth_succ]; omega
theorem set_sum (s t : Tx) (l : List (Tx × Tx)) : sumL (setT s t l) + (getT s l).length = sumL l + t.length := by
  unfold setT getT
  cases hf : fat s l with
  | none => rw [sumL_snoc]; rfl
  | some i => exact sum_set l i (s, t) (fat_some hf).1
theorem set_keys {s : Tx} (t : Tx) {l : List (Tx × Tx)} (h : s ∈ l.map (·.1)) : (setT s t l).map (·.1) = l.map (·.1) := by
  unfold setT
  cases hf : fat s l with
  | none => exact absurd h (fat_none.1 hf)
  | some i =>
    have hi := (fat_some hf).1
    have hk := (fat_some hf).2
    show (l.set i (s, t)).map (·.1) = _
    rw [List.map_set]
    apply List.ext_getElem?
    intro j
    by_cases h : i = j
    · subst h
      rw [List.getElem?_set_self (by simpa using hi), List.getElem?_map, getD_some hi, Option.map_some, hk]
    · rw [List.getElem?_set_ne h]
theorem crS_keys (sure l : List (Tx × Tx)) (k : Nat) (h : ∀ w ∈ l, w.1 ∈ sure.map (·.1)) : ∀ i, i ≤ l.length → (crS sure l k i).map (·.1) = sure.map (·.1)
  | 0, _ => rfl
  | i + 1, hi => by
    have ih := crS_keys sure l k h i (by omega)
    show (setT _ _ (crS sure l k i)).map (·.1) = _
    rw [set_keys _ (by rw [ih]; exact h _ (nth_mem (by omega))), ih]
theorem crS_sum (sure l : List (Tx × Tx)) (k : Nat) : ∀ i, i ≤ l.length → sumL (crS sure l k i) ≤ sumL sure + sumL (l.take i)
  | 0, _ => Nat.le_add_right _ _
  | i + 1, hi => by
    have ih := crS_sum sure l k i (by omega)
    have h1 := set_sum (nth l i).1 (getT (nth l i).1 (crS sure l k i) ++ (nth l i).2.take (k - sumL (l.take i))) (crS sure l k i)
    have h2 := sumL_snoc (l.take i) (nth l i)
    rw [← take_getD (by omega)] at h2
    rw [List.length_append, List.length_take] at h1
    show sumL (setT _ _ _) ≤ _
    omega
theorem DOk.crash {D : Dsk} (h : DOk D) (k : Int) : DOk (crashD D k) := by
  have h1 := crS_keys D.sure D.waits k.toNat h.inn D.waits.length (Nat.le_refl _)
  have h2 := crS_sum D.sure D.waits k.toNat D.waits.length (Nat.le_refl _)
  rw [List.take_length] at h2
  have h3 := h.used
  unfold Dsk.used at h3
  refine ⟨?_, ?_, ?_, fun w hw => (by cases hw), fun w hw => (by cases hw), h.room0, h.room1, by show (-1 : Int) ≤ -1; omega, by show (-1 : Int) ≤ _; omega⟩
  · show 0 + sumL (crS D.sure D.waits k.toNat D.waits.length) ≤ _
    omega
  · have := congrArg List.length h1
    rw [List.length_map, List.length_map] at this
    show (crS D.sure D.waits k.toNat D.waits.length).length ≤ 16
    rw [this]; exact h.files
  · show ((crS D.sure D.waits k.toNat D.waits.length).map (·.1)).Nodup
    rw [h1]; exact h.nd
theorem wps_lookT {env : Env} {H : Heap} {K : Env → Heap → Prop} {d : Option Nat} {x : Kx} {is : List I} {L : List Ob} (hh : Has H L) {m y : X} {id : Nat} {s : Tx} {l : List (Tx × Tx)} (hm : m.ev env = .map id) (hy : y.ev env = .str s) (hi : At (MO id l) L) (k : CM.wpOps Tryz.prog is (env.put d (.str (getT s l))) H K) :
    CM.wpOps Tryz.prog (⟨d, .rd (.lookup kS (.str []) false m y), none, x⟩ :: is) env H K := by
  unfold getT at k
  cases hf : fat s l with
  | none =>
    rw [hf] at k
    exact wps_lookN hh hm hi (by rw [hy]; have := find_sr s l; rw [hf] at this; exact this) k
  | some j =>
    rw [hf] at k
    exact wps_lookF hh hm hi (by rw [hy]; have := find_sr s l; rw [hf] at this; exact this) (e := nvE (srV (nth l j))) (by rw [List.getElem?_map, List.getElem?_map, getD_some (fat_some hf).1]; rfl) k
theorem min_int (a b : Nat) : (if (a : Int) < (b : Int) then (a : Int) else (b : Int)) = ((min b a : Nat) : Int) := by split <;> omega
theorem dcrash_prog (d m ws : Nat) (D : Dsk) (k : Int) (hk : k ≤ 9223372036854775807) (h : DOk D) : CallsL Tryz.prog ndisk_Disk_Crash [.ptr d 0, .int .i64 k] (DL d m ws D) fun _ L' => L' = DL d m 0 (crashD D k) := by
  have hwl := h.wl
  have hws := h.ws
  have hss := h.ss
  refine sdisk_Disk_Crash fun H hh => ?_
  dsimp only [cdisk_Disk_Crash]
  refine walk1 (k := ?_)
  repeat' first | refine And.intro ?_ ?_ | intro
  all_goals refine leaf ?_
  have e0 : (if k < 0 then 0 else k) = ((k.toNat - sumL (D.waits.take 0) : Nat) : Int) := by
    rw [List.take_zero, sumL_nil, Nat.sub_zero]; split <;> omega
  refine loopN [0, 1, 14, 15, 16] D.waits.length (fun i vs L => vs = [.ptr d 0, .int .i64 ((k.toNat - sumL (D.waits.take i) : Nat) : Int), .slice ws 0 D.waits.length 2, .int .i64 D.waits.length, .int .i64 (i : Nat)] ∧
      L = [DO d m ws D.waits.length D.room D.fuse D.down, MO m (crS D.sure D.waits k.toNat i), WO ws D.waits]) (Nx.here ⟨by rw [← e0]; rfl, rfl⟩) ?_
  clear hh
  rintro i _ _ env H hi ⟨rfl, rfl⟩ hh
  simp only [puts]
  by_cases hn : i < D.waits.length
  · have hst := sumL_snoc (D.waits.take i) (nth D.waits i)
    rw [← take_getD hn] at hst
    have hle := sumL_take D.waits (i + 1)
    have hsum := crS_sum D.sure D.waits k.toNat i hi
    have hcr : crS D.sure D.waits k.toNat (i + 1) = setT (nth D.waits i).1 (getT (nth D.waits i).1 (crS D.sure D.waits k.toNat i) ++ (nth D.waits i).2.take (k.toNat - sumL (D.waits.take i))) (crS D.sure D.waits k.toNat i) := rfl
    have hgl := set_sum (nth D.waits i).1 [] (crS D.sure D.waits k.toNat i)
    have hk2 : k.toNat - sumL (D.waits.take (i + 1)) = (k.toNat - sumL (D.waits.take i)) - (nth D.waits i).2.length := by omega
    have hqb : k.toNat - sumL (D.waits.take i) ≤ 9223372036854775807 := by omega
    generalize crS D.sure D.waits k.toNat i = S at *
    generalize k.toNat - sumL (D.waits.take i) = q at *
    refine walk1 (k := ?_)
    repeat' first | refine And.intro ?_ ?_ | intro
    all_goals refine leaf ?_
    refine c_cond_t (by show V.bool _ = _; simp; omega) ?_
    refine walk1 (k := ?_)
    repeat' first | refine And.intro ?_ ?_ | intro
    all_goals refine leaf ?_
    refine wps_lookT (s := (nth D.waits i).1) (by assumption) (by rfl) (by rfl) (.there (.there .here)) ?_
    refine walk1 (k := ?_)
    repeat' first | refine And.intro ?_ ?_ | intro
    all_goals refine leaf ?_
    have ht : (nth D.waits i).2.take (min q (nth D.waits i).2.length) = (nth D.waits i).2.take q := by
      by_cases hq : q ≤ (nth D.waits i).2.length
      · rw [Nat.min_eq_left hq]
      · rw [List.take_of_length_le (by omega), List.take_of_length_le (by omega)]
    have hg2 : (getT (nth D.waits i).1 S).length ≤ 200000 := by
      rw [List.length_nil] at hgl
      omega
    refine wps_slot (s := 35) (v := .str ((nth D.waits i).2.take q)) (by show V.str _ = _; rw [min_int, Int.toNat_natCast, ht]) ?_
    refine wps_slot (s := 6) (v := .int .i64 ((min q (nth D.waits i).2.length : Nat) : Int)) (by show V.int .i64 _ = _; rw [min_int]) ?_
    refine wps_rd (v := .str (getT (nth D.waits i).1 S ++ (nth D.waits i).2.take q)) (bcatD (by rw [List.length_take]; omega)) ?_
    refine walk1 (k := ?_)
    repeat' first | refine And.intro ?_ ?_ | intro
    all_goals refine leaf ?_
    refine wps_put (by assumption) (r := fat (nth D.waits i).1 S) (es := (S.map srV).map nvE) rfl rfl (find_sr _ S) setE (.there (.there .here1)) fun _ hh => ?_
    refine walk1 (k := ?_)
    repeat' first | refine And.intro ?_ ?_ | intro
    all_goals refine leaf ?_
    exact Nx.next hn ⟨by rw [hk2, show ((q - (nth D.waits i).2.length : Nat) : Int) = (q : Int) - ((min q (nth D.waits i).2.length : Nat) : Int) by omega]; rfl, by rw [hcr]⟩
  · have hie : i = D.waits.length := by omega
    subst hie
    refine walk1 (k := ?_)
    repeat' first | refine And.intro ?_ ?_ | intro
    all_goals refine leaf ?_
    refine c_cond_f (by show V.bool _ = _; simp) ?_
    refine walk1 (k := ?_)
    repeat' first | refine And.intro ?_ ?_ | intro
    all_goals refine leaf ?_
    rename_i hh
    refine CEnds.obj hh (cs' := [.map m, .slice 0 0 0 2, .int .i64 D.room, .int .i64 (-1), .bool false]) .here1 (Wks.wkp (.cons (Wk.refl _) (.cons (Wk.nils _ _) (Wks.refl _)))) (by simp) fun H' hh => ?_
    have hh := hh.ghost true
    exact done rfl
end Go.Proofs.YtkfhgpegnnokgaaGreatDoor
