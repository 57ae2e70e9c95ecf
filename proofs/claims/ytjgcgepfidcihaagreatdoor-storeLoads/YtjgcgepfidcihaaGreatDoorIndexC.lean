/-
  The index: its own functions.
-/
import Derived.Test.YtjgcgepfidcihaaGreatDoorIndexB
namespace Go.Proofs.YtjgcgepfidcihaaGreatDoor
open Go Go.CM
set_option maxRecDepth 100000
set_option maxHeartbeats 4000000

abbrev IX (x s : Nat) (l : List Entry) : List Ob := [XO x s l.length, EL s true l]
theorem inew_prog : CallsL Tryz.prog nindex_New [] [] fun v L' => ∃ x, v = .ptr x 0 ∧ L' = IX x 0 [] := by
  refine sindex_New fun H hh => ?_
  dsimp only [cindex_New]
  refine walk (k := ?_)
  repeat' first | refine And.intro ?_ ?_ | intro
  all_goals refine leaf ?_
  rename_i x _ hh
  refine CEnds.obj hh (id := x) (cs' := [.slice 0 0 0 14]) .here1 (Wks.wkp (.cons (Wk.nils _ _) .nil)) (by simp) fun H' hh => ?_
  exact .mk ((hh.ghost true).perm (List.Perm.swap _ _ _)) ⟨x, rfl, rfl⟩
theorem iget_prog (x s : Nat) (l : List Entry) (n : Nm) (hl : l.length ≤ 100000) (hs : Srt l) : CallsR Tryz.prog nindex_Index_Get [.ptr x 0, .int .i64 n.1, .str n.2] (IX x s l) fun v => v = .tup [.agg ((getL l n).getD Entry.zero).enc, .bool (getL l n).isSome] := by
  rw [hs.getL_pl n]
  have hf := ifind_prog x s l n hl hs
  cases hb : isN l n with
  | true =>
    rw [hb] at hf
    have hlt := isN_lt hb
    refine sindex_Index_Get fun H hh => ?_
    dsimp only [cindex_Index_Get]
    refine walk (k := ?_)
    repeat' first | refine And.intro ?_ ?_ | intro
    all_goals refine leaf ?_
    refine callE (hf) ?_
    refine walk1 (k := ?_)
    repeat' first | refine And.intro ?_ ?_ | intro
    all_goals refine leaf ?_
    exact doneR rfl
  | false =>
    rw [hb] at hf
    refine sindex_Index_Get fun H hh => ?_
    dsimp only [cindex_Index_Get]
    refine walk (k := ?_)
    repeat' first | refine And.intro ?_ ?_ | intro
    all_goals refine leaf ?_
    refine callE (hf) ?_
    refine walk1 (k := ?_)
    repeat' first | refine And.intro ?_ ?_ | intro
    all_goals refine leaf ?_
    exact doneR rfl
theorem iall_prog (x s : Nat) (l : List Entry) (hl : l.length ≤ 100000) : CallsN Tryz.prog nindex_Index_All [.ptr x 0] (IX x s l) fun v Lo => ∃ o, v = .slice o 0 l.length 14 ∧ Lo = [EL o true l] := by
  have hc := clone_prog s true l hl
  refine sindex_Index_All fun H hh => ?_
  dsimp only [cindex_Index_All]
  refine walk (k := ?_)
  repeat' first | refine And.intro ?_ ?_ | intro
  all_goals refine leaf ?_
  refine callN (hc) ?_
  rintro v Lo H' (⟨rfl, rfl, rfl⟩ | ⟨o, rfl, rfl⟩) hh
  · skip
    refine walk1 (k := ?_)
    repeat' first | refine And.intro ?_ ?_ | intro
    all_goals refine leaf ?_
    refine CEnds.wk (Wk.nils 0 14) ?_
    exact .mk (hh.ghost true) ⟨[EL 0 true []], ⟨0, rfl, rfl⟩, rfl⟩
  · skip
    refine walk1 (k := ?_)
    repeat' first | refine And.intro ?_ ?_ | intro
    all_goals refine leaf ?_
    exact doneN ⟨o, rfl, rfl⟩
theorem iput_prog (x s : Nat) (l : List Entry) (e : Entry) (hl : l.length ≤ 99999) (hs : Srt l) : CallsL Tryz.prog nindex_Index_Put [.ptr x 0, .agg e.enc] (IX x s l) fun v L' => ∃ s', v = .bool (!isN l (enm e)) ∧ L' = IX x s' (putL l e) := by
  have hf := ifind_prog x s l (enm e) (by omega) hs
  have hof := iof_prog e
  have hle := plN_le l (enm e)
  cases hb : isN l (enm e) with
  | true =>
    have hlt := isN_lt hb
    rw [hb] at hf
    have hput : putL l e = l.set (plN l (enm e)) e := by
      rw [putL, hb, if_pos rfl, List.set_eq_take_append_cons_drop, if_pos hlt]
    refine sindex_Index_Put fun H hh => ?_
    dsimp only [cindex_Index_Put]
    refine walk (k := ?_)
    repeat' first | refine And.intro ?_ ?_ | intro
    all_goals refine leaf ?_
    refine callE (hof) ?_
    refine walk1 (k := ?_)
    repeat' first | refine And.intro ?_ ?_ | intro
    all_goals refine leaf ?_
    refine callE (hf) ?_
    refine walk1 (k := ?_)
    repeat' first | refine And.intro ?_ ?_ | intro
    all_goals refine leaf ?_
    rename_i hh
    rw [← hput] at hh
    rw [show l.length = (putL l e).length by rw [hput, List.length_set]] at hh
    exact done ⟨s, rfl, rfl⟩
  | false =>
    rw [hb] at hf
    have hput : putL l e = l.take (plN l (enm e)) ++ e :: l.drop (plN l (enm e)) := by
      rw [putL, hb, if_neg (by simp)]
    have hlen : (putL l e).length = l.length + 1 := by
      rw [hput, List.length_append, List.length_take, List.length_cons, List.length_drop]; omega
    refine sindex_Index_Put fun H hh => ?_
    dsimp only [cindex_Index_Put]
    refine walk (k := ?_)
    repeat' first | refine And.intro ?_ ?_ | intro
    all_goals refine leaf ?_
    generalize hI : O.ef (E.lit 14 1 [.int .i64 0, .str [], .int .i64 0, .int .i64 0, .int .i64 0, .int .i64 0, .str [], .int .i64 0, .int .i64 0, .int .i64 0, .str [], .str [], .str [], .str []] [(0, 14, .t 30)]) = o0
    refine callE (hof) ?_
    refine walk1 (k := ?_)
    repeat' first | refine And.intro ?_ ?_ | intro
    all_goals refine leaf ?_
    refine callE (hf) ?_
    refine walk1 (k := ?_)
    repeat' first | refine And.intro ?_ ?_ | intro
    all_goals refine leaf ?_
    subst hI
    rename_i hh
    refine wps_litT hh (cs' := e.enc) (fill1 (sz := 14) rfl rfl rfl rfl rfl) rfl fun tt t H' hh => ?_
    refine callL (insert_prog s t (plN l (enm e)) tt l e hle (by omega)) ?_
    rintro v L' H' ⟨s', rfl, rfl⟩ hh
    refine walk1 (k := ?_)
    repeat' first | refine And.intro ?_ ?_ | intro
    all_goals refine leaf ?_
    rename_i hh
    rw [← hput, ← hlen] at hh
    exact done ⟨s', rfl, rfl⟩
theorem idrop_prog (x s : Nat) (l : List Entry) (n : Nm) (hl : l.length ≤ 100000) (hs : Srt l) : CallsL Tryz.prog nindex_Index_Drop [.ptr x 0, .int .i64 n.1, .str n.2] (IX x s l) fun v L' => ∃ s', v = .bool (isN l n) ∧ L' = IX x s' (dropL l n) := by
  have hf := ifind_prog x s l n hl hs
  have hle := plN_le l n
  cases hb : isN l n with
  | true =>
    have hlt := isN_lt hb
    rw [hb] at hf
    have hput : dropL l n = l.take (plN l n) ++ l.drop (plN l n + 1) := by
      rw [dropL, hb, if_pos rfl]
    have hlen : (dropL l n).length = l.length - 1 := by
      rw [hput, List.length_append, List.length_take, List.length_drop]; omega
    have hd := edelete_prog s (plN l n) l hlt hl
    refine sindex_Index_Drop fun H hh => ?_
    dsimp only [cindex_Index_Drop]
    refine walk (k := ?_)
    repeat' first | refine And.intro ?_ ?_ | intro
    all_goals refine leaf ?_
    refine callE (hf) ?_
    refine walk1 (k := ?_)
    repeat' first | refine And.intro ?_ ?_ | intro
    all_goals refine leaf ?_
    refine callL (hd) ?_
    rintro v L' H' ⟨rfl, rfl⟩ hh
    refine walk1 (k := ?_)
    repeat' first | refine And.intro ?_ ?_ | intro
    all_goals refine leaf ?_
    rename_i hh
    rw [← hput, ← hlen] at hh
    exact done ⟨s, rfl, rfl⟩
  | false =>
    rw [hb] at hf
    have hput : dropL l n = l := by
      rw [dropL, hb, if_neg (by simp), List.take_append_drop]
    refine sindex_Index_Drop fun H hh => ?_
    dsimp only [cindex_Index_Drop]
    refine walk (k := ?_)
    repeat' first | refine And.intro ?_ ?_ | intro
    all_goals refine leaf ?_
    refine callE (hf) ?_
    refine walk1 (k := ?_)
    repeat' first | refine And.intro ?_ ?_ | intro
    all_goals refine leaf ?_
    exact done ⟨s, rfl, by rw [hput]⟩
end Go.Proofs.YtjgcgepfidcihaaGreatDoor
