/-
  Texts joined: A tenant's entries: the index's, the document's, the store's. How many a tenant has, and when its first one expires: the store's, the document's.
-/
import Derived.Test.YtjgcgepfidcihaaGreatDoorStoC
import Derived.Test.YtjgcgepfidcihaaGreatDoorLawS
namespace Go.Proofs.YtjgcgepfidcihaaGreatDoor
open Go Go.CM
set_option maxRecDepth 100000
set_option maxHeartbeats 4000000

abbrev ofL (l : List Entry) (t : Int) : List Entry := l.filter fun e => decide (e.tenant = t)
theorem ofL_snoc (l : List Entry) (t : Int) (e : Entry) : ofL (l ++ [e]) t = ofL l t ++ if e.tenant = t then [e] else [] := by
  rw [ofL, List.filter_append]
  by_cases h : e.tenant = t
  · rw [if_pos h, List.filter_cons_of_pos (by simpa using h)]; rfl
  · rw [if_neg h, List.filter_cons_of_neg (by simpa using h)]; rfl
theorem ofL_le (l : List Entry) (t : Int) : (ofL l t).length ≤ l.length := List.length_filter_le _ _
theorem rof_prog (s : Nat) (b : Bool) (l : List Entry) (t : Int) (hl : l.length ≤ 1000) : CallsN Tryz.prog nref15_Of [.slice s 0 l.length 14, .int .i64 t] [EL s b l] fun v Lo => ∃ o, v = .slice o 0 (ofL l t).length 14 ∧ Lo = [EL o true (ofL l t)] := by
  refine sref15_Of fun H hh => ?_
  dsimp only [cref15_Of]
  refine walk1 (k := ?_)
  repeat' first | refine And.intro ?_ ?_ | intro
  all_goals refine leaf ?_
  refine loopN [0, 1, 5, 6] l.length (fun i vs L => ∃ o, vs = [.slice s 0 l.length 14, .int .i64 t, .slice o 0 (ofL (l.take i) t).length 14, .int .i64 (i : Nat)] ∧ L = [EL o true (ofL (l.take i) t), EL s b l])
    (Nx.hereW [_, _, .slice 0 0 0 14, _] ⟨0, rfl, rfl⟩) ?_
  clear hh
  rintro i _ _ env H hi ⟨o, rfl, rfl⟩ hh
  simp only [puts]
  have hle := ofL_le (l.take i) t
  rw [List.length_take] at hle
  by_cases hn : i < l.length
  · have hst := ofL_snoc (l.take i) t (nth l i)
    rw [← take_getD hn] at hst
    have hint : Hint Entry.enc (nth l i) := trivial
    refine walk1 (k := ?_)
    repeat' first | refine And.intro ?_ ?_ | intro
    all_goals refine leaf ?_
    refine c_cond_t (by show V.bool _ = _; simp; omega) ?_
    refine walk1 (k := ?_)
    repeat' first | refine And.intro ?_ ?_ | intro
    all_goals refine leaf ?_
    by_cases ht : (nth l i).tenant = t
    · rw [if_pos ht] at hst
      refine c_cond_t (by show V.bool _ = _; simp [ht]) ?_
      refine walk1 (k := ?_)
      repeat' first | refine And.intro ?_ ?_ | intro
      all_goals refine leaf ?_
      rename_i o2 _ _
      exact Nx.next hn ⟨o2, by rw [hst]; rfl, by rw [hst]⟩
    · rw [if_neg ht, List.append_nil] at hst
      refine c_cond_f (by show V.bool _ = _; simp [ht]) ?_
      refine walk1 (k := ?_)
      repeat' first | refine And.intro ?_ ?_ | intro
      all_goals refine leaf ?_
      exact Nx.next hn ⟨o, by rw [hst]; rfl, by rw [hst]⟩
  · skip
    refine walk1 (k := ?_)
    repeat' first | refine And.intro ?_ ?_ | intro
    all_goals refine leaf ?_
    refine c_cond_f (by show V.bool _ = _; simp; omega) ?_
    refine walk1 (k := ?_)
    repeat' first | refine And.intro ?_ ?_ | intro
    all_goals refine leaf ?_
    rw [List.take_of_length_le (by omega)] at hh ⊢
    exact doneN ⟨o, rfl, rfl⟩
theorem ahd_nil (e : Entry) (t : Int) : ahd (enm e) (t, []) = decide (e.tenant < t) := by
  show (decide (e.tenant < t) || (e.tenant == t && Op.bytesLess e.key [])) = _
  have : Op.bytesLess e.key [] = false := by cases e.key <;> rfl
  rw [this, Bool.and_false, Bool.or_false]
theorem plN_nil (l : List Entry) (t : Int) : plN l (t, []) = (l.takeWhile fun e => decide (e.tenant < t)).length := by
  unfold plN
  congr 1
  congr 1
  funext e
  exact ahd_nil e t
theorem Srt.ten {l : List Entry} (h : Srt l) {i j : Nat} (hij : i ≤ j) (hj : j < l.length) : (nth l i).tenant ≤ (nth l j).tenant := by
  by_cases he : i = j
  · subst he; exact Int.le_refl _
  · have := h.lt (i := i) (j := j) (by omega) hj
    rcases ahd_iff.1 this with h | h
    · exact Int.le_of_lt h
    · exact Int.le_of_eq h.1
theorem while_lt : ∀ (l : List Entry) (t : Int) (i : Nat), i < (l.takeWhile fun e => decide (e.tenant < t)).length → (nth l i).tenant < t
  | [], _, _, h => absurd h (by simp)
  | a :: l, t, i, h => by
    by_cases ha : a.tenant < t
    · rw [List.takeWhile_cons_of_pos (by simpa using ha)] at h
      cases i with
      | zero => rw [nth_zero]; exact ha
      | succ i => rw [nth_succ]; exact while_lt l t i (by simpa using h)
    · rw [List.takeWhile_cons_of_neg (by simpa using ha)] at h; exact absurd h (by simp)
theorem while_ge : ∀ (l : List Entry) (t : Int), (l.takeWhile fun e => decide (e.tenant < t)).length < l.length → t ≤ (nth l (l.takeWhile fun e => decide (e.tenant < t)).length).tenant
  | [], _, h => absurd h (by simp)
  | a :: l, t, h => by
    by_cases ha : a.tenant < t
    · rw [List.takeWhile_cons_of_pos (by simpa using ha)] at h ⊢
      rw [List.length_cons, nth_succ]
      exact while_ge l t (by simpa using h)
    · rw [List.takeWhile_cons_of_neg (by simpa using ha)]
      show t ≤ (nth (a :: l) 0).tenant
      rw [nth_zero]; omega
theorem ofL_none {l : List Entry} {t : Int} (h : ∀ i, i < l.length → (nth l i).tenant ≠ t) : ofL l t = [] := by
  refine List.filter_eq_nil_iff.2 fun e he => ?_
  obtain ⟨i, hi, rfl⟩ := List.mem_iff_getElem.1 he
  have := h i hi
  rw [nth_getElem hi] at this
  simpa using this
theorem ofL_cut {l : List Entry} {t : Int} {i : Nat} (hi : i ≤ l.length) (h : ∀ j, i ≤ j → j < l.length → (nth l j).tenant ≠ t) : ofL l t = ofL (l.take i) t := by
  have e : ofL l t = ofL (l.take i) t ++ ofL (l.drop i) t := by rw [ofL, ofL, ofL, ← List.filter_append, List.take_append_drop]
  rw [e, ofL_none (l := l.drop i), List.append_nil]
  intro j hj
  rw [List.length_drop] at hj
  have := h (i + j) (by omega) (by omega)
  rw [nth_getElem (by omega)] at this
  rwa [nth_getElem (by rw [List.length_drop]; omega), List.getElem_drop]
theorem iofs_prog (x s : Nat) (l : List Entry) (t : Int) (hl : l.length ≤ 1000) (hs : Srt l) : CallsN Tryz.prog nindex_Index_Of [.ptr x 0, .int .i64 t] (IX x s l) fun v Lo => ∃ o, v = .slice o 0 (ofL l t).length 14 ∧ Lo = [EL o true (ofL l t)] := by
  have hf := ifind_prog x s l (t, []) (by omega) hs
  have hle := ilen_prog x s l.length
  have hpl := plN_le l (t, [])
  have hp0 : ofL (l.take (plN l (t, []))) t = [] := by
    refine ofL_none fun i hi => ?_
    rw [List.length_take] at hi
    have := while_lt l t i (by rw [← plN_nil]; omega)
    rw [nth_getElem (by omega)] at this
    rw [nth_getElem (by rw [List.length_take]; omega), List.getElem_take]
    omega
  have hge : ∀ j, plN l (t, []) ≤ j → j < l.length → t ≤ (nth l j).tenant := fun j h1 h2 => by
    have := while_ge l t (by rw [← plN_nil]; omega)
    rw [← plN_nil] at this
    have := hs.ten h1 h2
    omega
  generalize plN l (t, []) = p at *
  refine sindex_Index_Of fun H hh => ?_
  dsimp only [cindex_Index_Of]
  refine walk1 (k := ?_)
  repeat' first | refine And.intro ?_ ?_ | intro
  all_goals refine leaf ?_
  refine callE (hf) ?_
  refine walk1 (k := ?_)
  repeat' first | refine And.intro ?_ ?_ | intro
  all_goals refine leaf ?_
  have hp0' : ofL (l.take (p + 0)) t = [] := hp0
  refine loopN [0, 1, 5, 7] (l.length - p) (fun k vs L => ∃ o, vs = [.ptr x 0, .int .i64 t, .int .i64 ((p + k : Nat)), .slice o 0 (ofL (l.take (p + k)) t).length 14] ∧ L = EL o true (ofL (l.take (p + k)) t) :: IX x s l)
    (Nx.hereW [_, _, _, .slice 0 0 0 14] ⟨0, by rw [hp0']; rfl, by rw [hp0']⟩) ?_
  clear hh hp0 hp0'
  rintro k _ _ env H hk ⟨o, rfl, rfl⟩ hh
  simp only [puts]
  have hle2 := ofL_le (l.take (p + k)) t
  rw [List.length_take] at hle2
  by_cases hn : p + k < l.length
  · have hst := ofL_snoc (l.take (p + k)) t (nth l (p + k))
    rw [← take_getD hn] at hst
    have hgk := hge (p + k) (by omega) hn
    have hint : Hint Entry.enc (nth l (p + k)) := trivial
    refine walk1 (k := ?_)
    repeat' first | refine And.intro ?_ ?_ | intro
    all_goals refine leaf ?_
    refine callE (hle) ?_
    refine walk1 (k := ?_)
    repeat' first | refine And.intro ?_ ?_ | intro
    all_goals refine leaf ?_
    refine wps_slot (s := 19) (v := .bool true) (by show V.bool _ = _; simp; omega) ?_
    refine walk1 (k := ?_)
    repeat' first | refine And.intro ?_ ?_ | intro
    all_goals refine leaf ?_
    by_cases ht : (nth l (p + k)).tenant = t
    · rw [if_pos ht] at hst
      refine c_cond_t (by show V.bool _ = _; simp [ht]) ?_
      refine walk1 (k := ?_)
      repeat' first | refine And.intro ?_ ?_ | intro
      all_goals refine leaf ?_
      rename_i o2 _ _
      exact Nx.next (by omega) ⟨o2, by rw [show p + (k + 1) = p + k + 1 by omega, hst]; rfl, by rw [show p + (k + 1) = p + k + 1 by omega, hst]⟩
    · have hcut : ofL l t = ofL (l.take (p + k)) t := ofL_cut (by omega) fun j h1 h2 => by
        have := hs.ten h1 h2
        omega
      refine c_cond_f (by show V.bool _ = _; simp [ht]) ?_
      refine walk1 (k := ?_)
      repeat' first | refine And.intro ?_ ?_ | intro
      all_goals refine leaf ?_
      rw [← hcut] at hh ⊢
      exact doneN ⟨o, rfl, rfl⟩
  · have hkl : p + k = l.length := by omega
    refine walk1 (k := ?_)
    repeat' first | refine And.intro ?_ ?_ | intro
    all_goals refine leaf ?_
    refine callE (hle) ?_
    refine walk1 (k := ?_)
    repeat' first | refine And.intro ?_ ?_ | intro
    all_goals refine leaf ?_
    refine wps_slot (s := 19) (v := .bool false) (by show V.bool _ = _; simp; omega) ?_
    refine walk1 (k := ?_)
    repeat' first | refine And.intro ?_ ?_ | intro
    all_goals refine leaf ?_
    rw [hkl, List.take_length] at hh
    rw [hkl, List.take_length]
    exact doneN ⟨o, rfl, rfl⟩
end Go.Proofs.YtjgcgepfidcihaaGreatDoor

namespace Go.Proofs.YtjgcgepfidcihaaGreatDoor
open Go Go.CM
set_option maxRecDepth 100000
set_option maxHeartbeats 4000000

abbrev SLs (s : Nat) (st : Sto) (x sl q sq mid qo : Nat) (u : Int → Int) (ms its : Que.Its) : List Ob := SO s st.most x q qo st.top :: QuC qo (quoI st.most) u :: XO x sl st.l.length :: EL sl true st.l :: Que.QO q sq its.length mid :: Que.rowO sq its :: (mid, .map (ms.map Que.entE)) :: Que.itO its
theorem quused_prog (o : Nat) (m : Int) (u : Int → Int) (t : Int) : CallsR Tryz.prog nquota_Quota_Used [.ptr o 0, .int .i64 t] [QuC o m u] fun v => v = .int .i64 (if 0 ≤ t ∧ t < 4 then u t else 0) := by
  have hq := quhas_prog o t
  by_cases ht : 0 ≤ t ∧ t < 4
  · rw [decide_eq_true ht] at hq
    rw [if_pos ht]
    rcases four ht with rfl | rfl | rfl | rfl
    · skip
      refine squota_Quota_Used fun H hh => ?_
      dsimp only [cquota_Quota_Used]
      refine walk1 (k := ?_)
      repeat' first | refine And.intro ?_ ?_ | intro
      all_goals refine leaf ?_
      refine callE (hq) ?_
      refine walk1 (k := ?_)
      repeat' first | refine And.intro ?_ ?_ | intro
      all_goals refine leaf ?_
      exact doneR rfl
    · skip
      refine squota_Quota_Used fun H hh => ?_
      dsimp only [cquota_Quota_Used]
      refine walk1 (k := ?_)
      repeat' first | refine And.intro ?_ ?_ | intro
      all_goals refine leaf ?_
      refine callE (hq) ?_
      refine walk1 (k := ?_)
      repeat' first | refine And.intro ?_ ?_ | intro
      all_goals refine leaf ?_
      exact doneR rfl
    · skip
      refine squota_Quota_Used fun H hh => ?_
      dsimp only [cquota_Quota_Used]
      refine walk1 (k := ?_)
      repeat' first | refine And.intro ?_ ?_ | intro
      all_goals refine leaf ?_
      refine callE (hq) ?_
      refine walk1 (k := ?_)
      repeat' first | refine And.intro ?_ ?_ | intro
      all_goals refine leaf ?_
      exact doneR rfl
    · skip
      refine squota_Quota_Used fun H hh => ?_
      dsimp only [cquota_Quota_Used]
      refine walk1 (k := ?_)
      repeat' first | refine And.intro ?_ ?_ | intro
      all_goals refine leaf ?_
      refine callE (hq) ?_
      refine walk1 (k := ?_)
      repeat' first | refine And.intro ?_ ?_ | intro
      all_goals refine leaf ?_
      exact doneR rfl
  · rw [decide_eq_false ht] at hq
    rw [if_neg ht]
    refine squota_Quota_Used fun H hh => ?_
    dsimp only [cquota_Quota_Used]
    refine walk1 (k := ?_)
    repeat' first | refine And.intro ?_ ?_ | intro
    all_goals refine leaf ?_
    refine callE (hq) ?_
    refine walk1 (k := ?_)
    repeat' first | refine And.intro ?_ ?_ | intro
    all_goals refine leaf ?_
    exact doneR rfl
theorem cnt_out {st : Sto} (hok : SOk st) {t : Int} (ht : ¬ (0 ≤ t ∧ t < 4)) : cnt st.l t = 0 := by
  show (ofL st.l t).length = 0
  rw [List.length_eq_zero_iff]
  refine List.filter_eq_nil_iff.2 fun e he => ?_
  have := (hok.may e he).1.1
  simp only [decide_eq_true_eq]
  rintro rfl
  exact ht ⟨this.1, this.2.1⟩
theorem sused_prog (s : Nat) (st : Sto) (L : List Ob) (t : Int) (h : StO s st L) (hok : SOk st) : CallsR Tryz.prog nstore_Store_Used [.ptr s 0, .int .i64 t] L fun v => v = .int .i64 (cnt st.l t) := by
  obtain ⟨x, sl, q, sq, mid, qo, u, ms, its, hu, hq, hd, rfl⟩ := h
  have hus := quused_prog qo (quoI st.most) u t
  have hv : (if 0 ≤ t ∧ t < 4 then u t else 0) = (cnt st.l t : Int) := by
    split
    · exact hu t
    · rw [cnt_out hok ‹_›]; rfl
  rw [hv] at hus
  refine sstore_Store_Used fun H hh => ?_
  dsimp only [cstore_Store_Used]
  refine walk1 (k := ?_)
  repeat' first | refine And.intro ?_ ?_ | intro
  all_goals refine leaf ?_
  refine callE (hus) ?_
  refine walk1 (k := ?_)
  repeat' first | refine And.intro ?_ ?_ | intro
  all_goals refine leaf ?_
  exact doneR rfl
def minX (m : Int) (l : List Entry) : Int := l.foldl (fun m e => if e.expiry < m then e.expiry else m) m
theorem minX_snoc (m : Int) (l : List Entry) (e : Entry) : minX m (l ++ [e]) = if e.expiry < minX m l then e.expiry else minX m l := by
  rw [minX, List.foldl_append]; rfl
def nextV (l : List Entry) (t : Int) : V := if (ofL l t).length = 0 then .tup [.int .i64 0, .bool false] else .tup [.int .i64 (minX (nth (ofL l t) 0).expiry (ofL l t)), .bool true]
theorem snext_prog (s : Nat) (st : Sto) (L : List Ob) (t : Int) (h : StO s st L) (hok : SOk st) : CallsR Tryz.prog nstore_Store_Next [.ptr s 0, .int .i64 t] L fun v => v = nextV st.l t := by
  obtain ⟨x, sl, q, sq, mid, qo, u, ms, its, hu, hq, hd, rfl⟩ := h
  have hlen := hok.len
  have hof := iofs_prog x sl st.l t (by omega) hok.srt
  have hle := ofL_le st.l t
  unfold nextV
  generalize ofL st.l t = F at *
  refine sstore_Store_Next fun H hh => ?_
  dsimp only [cstore_Store_Next]
  refine walk1 (k := ?_)
  repeat' first | refine And.intro ?_ ?_ | intro
  all_goals refine leaf ?_
  refine callN (hof) ?_
  rintro v Lo H' ⟨o, rfl, rfl⟩ hh
  by_cases h0 : F.length = 0
  · rw [if_pos h0]
    refine walk1 (k := ?_)
    repeat' first | refine And.intro ?_ ?_ | intro
    all_goals refine leaf ?_
    refine c_cond_t (by show V.bool _ = _; simp [h0]) ?_
    refine walk1 (k := ?_)
    repeat' first | refine And.intro ?_ ?_ | intro
    all_goals refine leaf ?_
    exact doneR rfl
  · rw [if_neg h0]
    refine walk1 (k := ?_)
    repeat' first | refine And.intro ?_ ?_ | intro
    all_goals refine leaf ?_
    refine c_cond_f (by show V.bool _ = _; simp [h0]) ?_
    refine walk1 (k := ?_)
    repeat' first | refine And.intro ?_ ?_ | intro
    all_goals refine leaf ?_
    refine loopN [7, 25, 26, 27] F.length (fun i vs L => vs = [.int .i64 (minX (nth F 0).expiry (F.take i)), .slice o 0 F.length 14, .int .i64 F.length, .int .i64 (i : Nat)] ∧ L = EL o true F :: SLs s st x sl q sq mid qo u ms its)
      (Nx.here ⟨rfl, rfl⟩) ?_
    clear hh
    rintro i _ _ env H hi ⟨rfl, rfl⟩ hh
    simp only [puts]
    by_cases hn : i < F.length
    · have hst := minX_snoc (nth F 0).expiry (F.take i) (nth F i)
      rw [← take_getD hn] at hst
      refine walk1 (k := ?_)
      repeat' first | refine And.intro ?_ ?_ | intro
      all_goals refine leaf ?_
      refine c_cond_t (by show V.bool _ = _; simp; omega) ?_
      refine walk1 (k := ?_)
      repeat' first | refine And.intro ?_ ?_ | intro
      all_goals refine leaf ?_
      exact Nx.next hn ⟨by rw [hst]; rfl, rfl⟩
    · skip
      refine walk1 (k := ?_)
      repeat' first | refine And.intro ?_ ?_ | intro
      all_goals refine leaf ?_
      refine c_cond_f (by show V.bool _ = _; simp; omega) ?_
      refine walk1 (k := ?_)
      repeat' first | refine And.intro ?_ ?_ | intro
      all_goals refine leaf ?_
      rw [List.take_of_length_le (by omega)]
      exact doneR rfl
abbrev WO (w : Nat) (st : Sto) (o : Nat) : Ob := (w, .cells true [.int .i64 st.most, .slice o 0 st.l.length 14, .int .i64 st.top])
abbrev WL (w : Nat) (st : Sto) (o : Nat) : List Ob := [WO w st o, EL o true st.l]
theorem wused_prog (w o : Nat) (st : Sto) (t : Int) (hl : st.l.length ≤ 1000) : CallsR Tryz.prog nref18_Store_Used [.ptr w 0, .int .i64 t] (WL w st o) fun v => v = .int .i64 (cnt st.l t) := by
  have hof := rof_prog o true st.l t hl
  refine sref18_Store_Used fun H hh => ?_
  dsimp only [cref18_Store_Used]
  refine walk1 (k := ?_)
  repeat' first | refine And.intro ?_ ?_ | intro
  all_goals refine leaf ?_
  refine callN (hof) ?_
  rintro v Lo H' ⟨o2, rfl, rfl⟩ hh
  refine walk1 (k := ?_)
  repeat' first | refine And.intro ?_ ?_ | intro
  all_goals refine leaf ?_
  exact doneR rfl
theorem wnext_prog (w o : Nat) (st : Sto) (t : Int) (hl : st.l.length ≤ 1000) : CallsR Tryz.prog nref18_Store_Next [.ptr w 0, .int .i64 t] (WL w st o) fun v => v = nextV st.l t := by
  have hof := rof_prog o true st.l t hl
  have hle := ofL_le st.l t
  unfold nextV
  generalize ofL st.l t = F at *
  refine sref18_Store_Next fun H hh => ?_
  dsimp only [cref18_Store_Next]
  refine walk1 (k := ?_)
  repeat' first | refine And.intro ?_ ?_ | intro
  all_goals refine leaf ?_
  refine callN (hof) ?_
  rintro v Lo H' ⟨o2, rfl, rfl⟩ hh
  by_cases h0 : F.length = 0
  · rw [if_pos h0]
    refine walk1 (k := ?_)
    repeat' first | refine And.intro ?_ ?_ | intro
    all_goals refine leaf ?_
    refine c_cond_t (by show V.bool _ = _; simp [h0]) ?_
    refine walk1 (k := ?_)
    repeat' first | refine And.intro ?_ ?_ | intro
    all_goals refine leaf ?_
    exact doneR rfl
  · rw [if_neg h0]
    refine walk1 (k := ?_)
    repeat' first | refine And.intro ?_ ?_ | intro
    all_goals refine leaf ?_
    refine c_cond_f (by show V.bool _ = _; simp [h0]) ?_
    refine walk1 (k := ?_)
    repeat' first | refine And.intro ?_ ?_ | intro
    all_goals refine leaf ?_
    refine loopN [6, 7, 8] F.length (fun i vs L => vs = [.slice o2 0 F.length 14, .int .i64 (minX (nth F 0).expiry (F.take i)), .int .i64 (i : Nat)] ∧ L = EL o2 true F :: WL w st o)
      (Nx.here ⟨rfl, rfl⟩) ?_
    clear hh
    rintro i _ _ env H hi ⟨rfl, rfl⟩ hh
    simp only [puts]
    by_cases hn : i < F.length
    · have hst := minX_snoc (nth F 0).expiry (F.take i) (nth F i)
      rw [← take_getD hn] at hst
      refine walk1 (k := ?_)
      repeat' first | refine And.intro ?_ ?_ | intro
      all_goals refine leaf ?_
      refine c_cond_t (by show V.bool _ = _; simp; omega) ?_
      refine walk1 (k := ?_)
      repeat' first | refine And.intro ?_ ?_ | intro
      all_goals refine leaf ?_
      by_cases hx : (nth F i).expiry < minX (nth F 0).expiry (F.take i)
      · rw [if_pos hx] at hst
        refine c_cond_t (by show V.bool _ = _; simp [hx]) ?_
        refine walk1 (k := ?_)
        repeat' first | refine And.intro ?_ ?_ | intro
        all_goals refine leaf ?_
        exact Nx.next hn ⟨by rw [hst]; rfl, rfl⟩
      · rw [if_neg hx] at hst
        refine c_cond_f (by show V.bool _ = _; simp; omega) ?_
        refine walk1 (k := ?_)
        repeat' first | refine And.intro ?_ ?_ | intro
        all_goals refine leaf ?_
        exact Nx.next hn ⟨by rw [hst]; rfl, rfl⟩
    · skip
      refine walk1 (k := ?_)
      repeat' first | refine And.intro ?_ ?_ | intro
      all_goals refine leaf ?_
      refine c_cond_f (by show V.bool _ = _; simp; omega) ?_
      refine walk1 (k := ?_)
      repeat' first | refine And.intro ?_ ?_ | intro
      all_goals refine leaf ?_
      rw [List.take_of_length_le (by omega)]
      exact doneR rfl
end Go.Proofs.YtjgcgepfidcihaaGreatDoor
