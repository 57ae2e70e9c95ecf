/-
  The store: what there is, and what is expired.
-/
import Derived.Test.YtjgcgepfidcihaaGreatDoorStoB
import Derived.Test.YtjgcgepfidcihaaGreatDoorKueS
namespace Go.Proofs.YtjgcgepfidcihaaGreatDoor
open Go Go.CM
set_option maxRecDepth 100000
set_option maxHeartbeats 4000000

theorem stop_prog (s : Nat) (st : Sto) (L : List Ob) (h : StO s st L) : CallsR Tryz.prog nstore_Store_Top [.ptr s 0] L fun v => v = .int .i64 st.top := by
  obtain ⟨x, sl, q, sq, mid, qo, u, ms, its, hu, hq, hd, rfl⟩ := h
  refine sstore_Store_Top fun H hh => ?_
  dsimp only [cstore_Store_Top]
  refine walk (k := ?_)
  repeat' first | refine And.intro ?_ ?_ | intro
  all_goals refine leaf ?_
  exact doneR rfl
theorem slen_prog (s : Nat) (st : Sto) (L : List Ob) (h : StO s st L) : CallsR Tryz.prog nstore_Store_Len [.ptr s 0] L fun v => v = .int .i64 st.l.length := by
  obtain ⟨x, sl, q, sq, mid, qo, u, ms, its, hu, hq, hd, rfl⟩ := h
  have hle := ilen_prog x sl st.l.length
  refine sstore_Store_Len fun H hh => ?_
  dsimp only [cstore_Store_Len]
  refine walk1 (k := ?_)
  repeat' first | refine And.intro ?_ ?_ | intro
  all_goals refine leaf ?_
  refine callE (hle) ?_
  refine walk1 (k := ?_)
  repeat' first | refine And.intro ?_ ?_ | intro
  all_goals refine leaf ?_
  exact doneR rfl
theorem sall_prog (s : Nat) (st : Sto) (L : List Ob) (h : StO s st L) (hok : SOk st) : CallsN Tryz.prog nstore_Store_All [.ptr s 0] L fun v Lo => ∃ o, v = .slice o 0 st.l.length 14 ∧ Lo = [EL o true st.l] := by
  obtain ⟨x, sl, q, sq, mid, qo, u, ms, its, hu, hq, hd, rfl⟩ := h
  have hlen := hok.len
  refine sstore_Store_All fun H hh => ?_
  dsimp only [cstore_Store_All]
  refine walk1 (k := ?_)
  repeat' first | refine And.intro ?_ ?_ | intro
  all_goals refine leaf ?_
  refine callN (iall_prog x sl st.l (by omega)) ?_
  rintro v Lo H' ⟨o, rfl, rfl⟩ hh
  refine walk1 (k := ?_)
  repeat' first | refine And.intro ?_ ?_ | intro
  all_goals refine leaf ?_
  exact doneN ⟨o, rfl, rfl⟩
abbrev freeP (now : Int) (e : Entry) : Prop := e.state ≠ 1 ∨ e.lease ≤ now
def entG (l : List Entry) (d : Que.Due) : Entry := (getL l (Que.nm d)).getD Entry.zero
def freeL (l : List Entry) (now : Int) (ds : List Que.Due) : List Entry := (ds.map (entG l)).filter fun e => decide (freeP now e)
theorem freeL_snoc (l : List Entry) (now : Int) (ds : List Que.Due) (d : Que.Due) : freeL l now (ds ++ [d]) = freeL l now ds ++ if freeP now (entG l d) then [entG l d] else [] := by
  rw [freeL, List.map_append, List.filter_append]
  show _ ++ List.filter _ [entG l d] = _
  by_cases h : freeP now (entG l d)
  · rw [if_pos h, List.filter_cons_of_pos (by simpa using h)]; rfl
  · rw [if_neg h, List.filter_cons_of_neg (by simpa using h)]; rfl
theorem freeL_le (l : List Entry) (now : Int) (ds : List Que.Due) : (freeL l now ds).length ≤ ds.length := by
  have := List.length_filter_le (fun e => decide (freeP now e)) (ds.map (entG l))
  rwa [List.length_map] at this
theorem entG_due {l : List Entry} (h : Srt l) {e : Entry} (he : e ∈ l) : entG l (dueE e) = e := by
  show (getL l (enm e)).getD _ = e
  rw [h.mem_get he]; rfl
theorem due_ent {l : List Entry} (h : Srt l) {d : Que.Due} (hd : d ∈ l.map dueE) : dueE (entG l d) = d := by
  obtain ⟨e, he, rfl⟩ := List.mem_map.1 hd
  rw [entG_due h he]
theorem upTo_map (l : List Entry) (now : Int) : Que.upTo now (l.map dueE) = (l.filter fun e => decide (e.expiry ≤ now)).map dueE := by
  rw [Que.upTo, List.filter_map]; rfl
theorem freeL_perm {l : List Entry} (h : Srt l) {now : Int} {ds : List Que.Due} (hp : ds.Perm (Que.upTo now (l.map dueE))) : (freeL l now ds).Perm (l.filter fun e => decide (e.expiry ≤ now) && decide (freeP now e)) := by
  rw [upTo_map] at hp
  have h1 : (ds.map (entG l)).Perm (l.filter fun e => decide (e.expiry ≤ now)) := by
    refine (hp.map (entG l)).trans ?_
    rw [List.map_map]
    have : ∀ e ∈ l.filter (fun e => decide (e.expiry ≤ now)), (entG l ∘ dueE) e = id e := fun e he => entG_due h (List.mem_filter.1 he).1
    rw [List.map_congr_left this, List.map_id]
  have h2 := h1.filter fun e => decide (freeP now e)
  rw [List.filter_filter] at h2
  refine h2.trans (.of_eq ?_)
  congr 1
  funext e
  exact Bool.and_comm _ _
theorem freeL_map {l : List Entry} (h : Srt l) {now : Int} {ds : List Que.Due} (hm : ∀ d ∈ ds, d ∈ l.map dueE) : ((freeL l now ds).map dueE).Sublist ds := by
  have h1 : (ds.map (entG l)).map dueE = ds := by
    rw [List.map_map]
    have : ∀ d ∈ ds, (dueE ∘ entG l) d = id d := fun d hd => due_ent h (hm d hd)
    rw [List.map_congr_left this, List.map_id]
  have h2 := (List.filter_sublist (p := fun e => decide (freeP now e)) (l := ds.map (entG l))).map dueE
  rwa [h1] at h2
theorem sexp_prog (s : Nat) (st : Sto) (L : List Ob) (now : Int) (h : StO s st L) (hok : SOk st) : CallsN Tryz.prog nstore_Store_Expired [.ptr s 0, .int .i64 now] L fun v Lo => ∃ o out,
    out.Perm (st.l.filter fun e => decide (e.expiry ≤ now) && decide (freeP now e)) ∧ (out.map dueE).Pairwise (fun x y => ¬ Que.lt y x) ∧ v = .slice o 0 out.length 14 ∧ Lo = [EL o true out] := by
  obtain ⟨x, sl, q, sq, mid, qo, u, ms, its, hu, hq, hd, rfl⟩ := h
  have hlen := hok.len
  have hits := dues_len hd
  refine sstore_Store_Expired fun H hh => ?_
  dsimp only [cstore_Store_Expired]
  refine walk1 (k := ?_)
  repeat' first | refine And.intro ?_ ?_ | intro
  all_goals refine leaf ?_
  refine callN (Que.due_prog q sq mid ms its now (by omega)) ?_
  rintro v Lo H' ⟨w, ds, hp, hs, rfl, rfl⟩ hh
  have hp' : ds.Perm (Que.upTo now (st.l.map dueE)) := hp.trans (hd.filter _)
  have hdl : ds.length ≤ 200 := by
    rw [hp'.length_eq, upTo_map, List.length_map]
    exact Nat.le_trans (List.length_filter_le _ _) hlen
  have hmem : ∀ d ∈ ds, d ∈ st.l.map dueE := fun d hd' => (List.mem_filter.1 (hp'.mem_iff.1 hd')).1
  have hfin := freeL_perm hok.srt hp'
  have hfs := (freeL_map hok.srt (now := now) hmem)
  have hfp := List.Pairwise.sublist hfs hs
  clear hp hp' hs hfs
  refine walk1 (k := ?_)
  repeat' first | refine And.intro ?_ ?_ | intro
  all_goals refine leaf ?_
  refine loopN [0, 1, 5, 17, 18, 19] ds.length (fun i vs L => ∃ o, vs = [.ptr s 0, .int .i64 now, .slice o 0 (freeL st.l now (ds.take i)).length 14, .slice w 0 ds.length 3, .int .i64 ds.length, .int .i64 (i : Nat)] ∧
      L = EL o true (freeL st.l now (ds.take i)) :: Que.WL w true ds :: SO s st.most x q qo st.top :: QuC qo (quoI st.most) u :: XO x sl st.l.length :: EL sl true st.l :: Que.QO q sq its.length mid :: Que.rowO sq its :: (mid, .map (ms.map Que.entE)) :: Que.itO its)
    (Nx.hereW [_, _, .slice 0 0 0 14, _, _, _] ⟨0, rfl, rfl⟩) ?_
  clear hh
  rintro i _ _ env H hi ⟨o, rfl, rfl⟩ hh
  simp only [puts]
  have hle := freeL_le st.l now (ds.take i)
  rw [List.length_take] at hle
  by_cases hn : i < ds.length
  · have hg := iget_prog x sl st.l (Que.nm (nth ds i)) (by omega) hok.srt
    have hst := freeL_snoc st.l now (ds.take i) (nth ds i)
    rw [← take_getD hn] at hst
    refine walk1 (k := ?_)
    repeat' first | refine And.intro ?_ ?_ | intro
    all_goals refine leaf ?_
    refine c_cond_t (by show V.bool _ = _; simp; omega) ?_
    refine walk1 (k := ?_)
    repeat' first | refine And.intro ?_ ?_ | intro
    all_goals refine leaf ?_
    have hee : (entG st.l (nth ds i)).enc = ((getL st.l (Que.nm (nth ds i))).getD Entry.zero).enc := rfl
    rw [← hee] at hg
    generalize hE : entG st.l (nth ds i) = e at *
    have hint : Hint Entry.enc e := trivial
    clear hee hE
    refine callE (hg) ?_
    refine walk (k := ?_)
    repeat' first | refine And.intro ?_ ?_ | intro
    all_goals refine leaf ?_
    · rename_i o2 _ _
      rw [if_pos (.inl ‹e.state ≠ 1›)] at hst
      exact Nx.next hn ⟨o2, by rw [hst]; rfl, by rw [hst]⟩
    · rename_i o2 _ _
      rw [if_pos (.inr ‹e.lease ≤ now›)] at hst
      exact Nx.next hn ⟨o2, by rw [hst]; rfl, by rw [hst]⟩
    · rw [if_neg (fun h => h.elim (fun h => by omega) (fun h => by omega)), List.append_nil] at hst
      exact Nx.next hn ⟨o, by rw [hst]; rfl, by rw [hst]⟩
  · skip
    refine walk1 (k := ?_)
    repeat' first | refine And.intro ?_ ?_ | intro
    all_goals refine leaf ?_
    refine c_cond_f (by show V.bool _ = _; simp; omega) ?_
    refine walk1 (k := ?_)
    repeat' first | refine And.intro ?_ ?_ | intro
    all_goals refine leaf ?_
    rw [List.take_of_length_le (by omega)] at *
    exact doneN ⟨o, _, hfin, hfp, rfl, rfl⟩
end Go.Proofs.YtjgcgepfidcihaaGreatDoor
