/-
  Texts joined: A tenant's entries: the index's, the document's, the store's. How many a tenant has, and when its first one expires: the store's, the document's.
-/
import Derived.Test.YtjgcgepfidcihaaGreatDoorStoC
import Derived.Test.YtjgcgepfidcihaaGreatDoorLawS
namespace Go.Proofs.YtjgcgepfidcihaaGreatDoor
open Go Go.CM
set_option maxRecDepth 100000
set_option maxHeartbeats 4000000

abbrev ofL (l : List Entry) (t : Int) : List Entry := l.filter fun e => decide (e.tenant = t)
theorem ofL_snoc (l : List Entry) (t : Int) (e : Entry) : ofL (l ++ [e]) t = ofL l t ++ if e.tenant = t then [e] else [] := by
  rw [ofL, List.filter_append]
  by_cases h : e.tenant = t
  · rw [if_pos h, List.filter_cons_of_pos (by simpa using h)]; rfl
  · rw [if_neg h, List.filter_cons_of_neg (by simpa using h)]; rfl
theorem ofL_le (l : List Entry) (t : Int) : (ofL l t).length ≤ l.length := List.length_filter_le _ _
theorem rof_prog (s : Nat) (b : Bool) (l : List Entry) (t : Int) (hl : l.length ≤ 1000) : CallsN Tryz.prog nref15_Of [.slice s 0 l.length 14, .int .i64 t] [EL s b l] fun v Lo => ∃ o, v = .slice o 0 (ofL l t).length 14 ∧ Lo = [EL o true (ofL l t)] := by
  refine sref15_Of fun H hh => ?_
  dsimp only [cref15_Of]
  refine walk1 (k := ?_)
  repeat' first | refine And.intro ?_ ?_ | intro
  all_goals refine leaf ?_
  refine loopN [0, 1, 5, 6] l.length (fun i vs L => ∃ o, vs = [.slice s 0 l.length 14, .int .i64 t, .slice o 0 (ofL (l.take i) t).length 14, .int .i64 (i : Nat)] ∧ L = [EL o true (ofL (l.take i) t), EL s b l])
    (Nx.hereW [_, _, .slice 0 0 0 14, _] ⟨0, rfl, rfl⟩) ?_
  clear hh
  rintro i _ _ env H hi ⟨o, rfl, rfl⟩ hh
  simp only [puts]
  have hle := ofL_le (l.take i) t
  rw [List.length_take] at hle
  by_cases hn : i < l.length
  · have hst := ofL_snoc (l.take i) t (nth l i)
    rw [← take_getD hn] at hst
    have hint : Hint Entry.enc (nth l i) := trivial
    refine walk1 (k := ?_)
    repeat' first | refine And.intro ?_ ?_ | intro
    all_goals refine leaf ?_
    refine c_cond_t (by show V.bool _ = _; simp; omega) ?_
    refine walk1 (k := ?_)
    repeat' first | refine And.intro ?_ ?_ | intro
    all_goals refine leaf ?_
    by_cases ht : (nth l i).tenant = t
    · rw [if_pos ht] at hst
      refine c_cond_t (by show V.bool _ = _; simp [ht]) ?_
      refine walk1 (k := ?_)
      repeat' first | refine And.intro ?_ ?_ | intro
      all_goals refine leaf ?_
      rename_i o2 _ _
      exact Nx.next hn ⟨o2, by rw [hst]; rfl, by rw [hst]⟩
    · rw [if_neg ht, List.append_nil] at hst
      refine c_cond_f (by show V.bool _ = _; simp [ht]) ?_
      refine walk1 (k := ?_)
      repeat' first | refine And.intro ?_ ?_ | intro
      all_goals refine leaf ?_
      exact Nx.next hn ⟨o, by rw [hst]; rfl, by rw [hst]⟩
  · skip
    refine walk1 (k := ?_)
    repeat' first | refine And.intro ?_ ?_ | intro
    all_goals refine leaf ?_
    refine c_cond_f (by show V.bool _ = _; simp; omega) ?_
    refine walk1 (k := ?_)
    repeat' first | refine And.intro ?_ ?_ | intro
    all_goals refine leaf ?_
    rw [List.take_of_length_le (by omega)] at hh ⊢
    exact doneN ⟨o, rfl, rfl⟩
end Go.Proofs.YtjgcgepfidcihaaGreatDoor

namespace Go.Proofs.YtjgcgepfidcihaaGreatDoor
open Go Go.CM
set_option maxRecDepth 100000
set_option maxHeartbeats 4000000

abbrev SLs (s : Nat) (st : Sto) (x sl q sq mid qo : Nat) (u : Int → Int) (ms its : Que.Its) : List Ob := SO s st.most x q qo st.top :: QuC qo (quoI st.most) u :: XO x sl st.l.length :: EL sl true st.l :: Que.QO q sq its.length mid :: Que.rowO sq its :: (mid, .map (ms.map Que.entE)) :: Que.itO its
theorem quused_prog (o : Nat) (m : Int) (u : Int → Int) (t : Int) : CallsR Tryz.prog nquota_Quota_Used [.ptr o 0, .int .i64 t] [QuC o m u] fun v => v = .int .i64 (if 0 ≤ t ∧ t < 4 then u t else 0) := by
  have hq := quhas_prog o t
  by_cases ht : 0 ≤ t ∧ t < 4
  · rw [decide_eq_true ht] at hq
    rw [if_pos ht]
    rcases four ht with rfl | rfl | rfl | rfl
    · skip
      refine squota_Quota_Used fun H hh => ?_
      dsimp only [cquota_Quota_Used]
      refine walk1 (k := ?_)
      repeat' first | refine And.intro ?_ ?_ | intro
      all_goals refine leaf ?_
      refine callE (hq) ?_
      refine walk1 (k := ?_)
      repeat' first | refine And.intro ?_ ?_ | intro
      all_goals refine leaf ?_
      exact doneR rfl
    · skip
      refine squota_Quota_Used fun H hh => ?_
      dsimp only [cquota_Quota_Used]
      refine walk1 (k := ?_)
      repeat' first | refine And.intro ?_ ?_ | intro
      all_goals refine leaf ?_
      refine callE (hq) ?_
      refine walk1 (k := ?_)
      repeat' first | refine And.intro ?_ ?_ | intro
      all_goals refine leaf ?_
      exact doneR rfl
    · skip
      refine squota_Quota_Used fun H hh => ?_
      dsimp only [cquota_Quota_Used]
      refine walk1 (k := ?_)
      repeat' first | refine And.intro ?_ ?_ | intro
      all_goals refine leaf ?_
      refine callE (hq) ?_
      refine walk1 (k := ?_)
      repeat' first | refine And.intro ?_ ?_ | intro
      all_goals refine leaf ?_
      exact doneR rfl
    · skip
      refine squota_Quota_Used fun H hh => ?_
      dsimp only [cquota_Quota_Used]
      refine walk1 (k := ?_)
      repeat' first | refine And.intro ?_ ?_ | intro
      all_goals refine leaf ?_
      refine callE (hq) ?_
      refine walk1 (k := ?_)
      repeat' first | refine And.intro ?_ ?_ | intro
      all_goals refine leaf ?_
      exact doneR rfl
  · rw [decide_eq_false ht] at hq
    rw [if_neg ht]
    refine squota_Quota_Used fun H hh => ?_
    dsimp only [cquota_Quota_Used]
    refine walk1 (k := ?_)
    repeat' first | refine And.intro ?_ ?_ | intro
    all_goals refine leaf ?_
    refine callE (hq) ?_
    refine walk1 (k := ?_)
    repeat' first | refine And.intro ?_ ?_ | intro
    all_goals refine leaf ?_
    exact doneR rfl
theorem cnt_out {st : Sto} (hok : SOk st) {t : Int} (ht : ¬ (0 ≤ t ∧ t < 4)) : cnt st.l t = 0 := by
  show (ofL st.l t).length = 0
  rw [List.length_eq_zero_iff]
  refine List.filter_eq_nil_iff.2 fun e he => ?_
  have := (hok.may e he).1.1
  simp only [decide_eq_true_eq]
  rintro rfl
  exact ht ⟨this.1, this.2.1⟩
theorem sused_prog (s : Nat) (st : Sto) (L : List Ob) (t : Int) (h : StO s st L) (hok : SOk st) : CallsR Tryz.prog nstore_Store_Used [.ptr s 0, .int .i64 t] L fun v => v = .int .i64 (cnt st.l t) := by
  obtain ⟨x, sl, q, sq, mid, qo, u, ms, its, hu, hq, hd, rfl⟩ := h
  have hus := quused_prog qo (quoI st.most) u t
  have hv : (if 0 ≤ t ∧ t < 4 then u t else 0) = (cnt st.l t : Int) := by
    split
    · exact hu t
    · rw [cnt_out hok ‹_›]; rfl
  rw [hv] at hus
  refine sstore_Store_Used fun H hh => ?_
  dsimp only [cstore_Store_Used]
  refine walk1 (k := ?_)
  repeat' first | refine And.intro ?_ ?_ | intro
  all_goals refine leaf ?_
  refine callE (hus) ?_
  refine walk1 (k := ?_)
  repeat' first | refine And.intro ?_ ?_ | intro
  all_goals refine leaf ?_
  exact doneR rfl
def minX (m : Int) (l : List Entry) : Int := l.foldl (fun m e => if e.expiry < m then e.expiry else m) m
def nextV (l : List Entry) (t : Int) : V := if (ofL l t).length = 0 then .tup [.int .i64 0, .bool false] else .tup [.int .i64 (minX (nth (ofL l t) 0).expiry (ofL l t)), .bool true]
abbrev WO (w : Nat) (st : Sto) (o : Nat) : Ob := (w, .cells true [.int .i64 st.most, .slice o 0 st.l.length 14, .int .i64 st.top])
abbrev WL (w : Nat) (st : Sto) (o : Nat) : List Ob := [WO w st o, EL o true st.l]
theorem wused_prog (w o : Nat) (st : Sto) (t : Int) (hl : st.l.length ≤ 1000) : CallsR Tryz.prog nref18_Store_Used [.ptr w 0, .int .i64 t] (WL w st o) fun v => v = .int .i64 (cnt st.l t) := by
  have hof := rof_prog o true st.l t hl
  refine sref18_Store_Used fun H hh => ?_
  dsimp only [cref18_Store_Used]
  refine walk1 (k := ?_)
  repeat' first | refine And.intro ?_ ?_ | intro
  all_goals refine leaf ?_
  refine callN (hof) ?_
  rintro v Lo H' ⟨o2, rfl, rfl⟩ hh
  refine walk1 (k := ?_)
  repeat' first | refine And.intro ?_ ?_ | intro
  all_goals refine leaf ?_
  exact doneR rfl
end Go.Proofs.YtjgcgepfidcihaaGreatDoor
