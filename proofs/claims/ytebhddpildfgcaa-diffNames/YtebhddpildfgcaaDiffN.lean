/-
  diff: Names; DiffNames.
-/
import Derived.Test.YtebhddpildfgcaaDiffM
namespace Go.Proofs.Ytebhddpildfgcaa
open Go Go.CM
set_option maxRecDepth 100000
set_option maxHeartbeats 4000000

def dueC (n : Nm) : List V := [.int .i64 n.1, .str n.2, .int .i64 0]
abbrev DL (s : Nat) (b : Bool) (l : List Nm) : Ob := (s, .cells b (l.flatMap dueC))
def dueB (a b : Nm) : Bool := a.1 == b.1 && (a.2 == b.2 && ((0 : Int) == 0 && true))
theorem dueB_refl (a : Nm) : dueB a a = true := by simp [dueB]
/-- What a change is: one that goes (0), one that comes (1), one that is otherwise (2). -/
def clsR (X : List Entry) (r : Rec) : Nat := if r.kind = 2 then 0 else if (getL X (rnm r)).isSome then 2 else 1
def pkR (X : List Entry) (rs : List Rec) (k : Nat) : List Nm := (rs.filter fun r => Nat.beq (clsR X r) k).map rnm
theorem pkR_snoc (X : List Entry) (rs : List Rec) (r : Rec) (k : Nat) : pkR X (rs ++ [r]) k = if clsR X r = k then pkR X rs k ++ [rnm r] else pkR X rs k := by
  unfold pkR
  rw [List.filter_append, List.map_append]
  by_cases h : clsR X r = k
  · rw [if_pos h]; simp [h]
  · have : Nat.beq (clsR X r) k = false := Bool.eq_false_iff.2 fun e => h (Nat.eq_of_beq_eq_true e)
    rw [if_neg h]; simp [this]
theorem pkR_le (X : List Entry) (rs : List Rec) (k : Nat) : (pkR X rs k).length ≤ rs.length := by
  rw [pkR, List.length_map]; exact List.length_filter_le _ _
theorem rget_prog (s : Nat) (b : Bool) (l : List Entry) (n : Nm) (hl : l.length ≤ 100000) (hs : Srt l) : CallsR Try.prog nref15_Get [.slice s 0 l.length 14, .int .i64 n.1, .str n.2] [EL s b l] fun v => v = .tup [.agg ((getL l n).getD Entry.zero).enc, .bool (getL l n).isSome] := by
  rw [hs.getL_pl n]
  have hf := rplace_prog s b l n hl
  cases hb : isN l n with
  | true =>
    rw [hb] at hf
    have hlt := isN_lt hb
    refine sref15_Get fun H hh => ?_
    dsimp only [cref15_Get]
    refine walk (k := ?_)
    repeat' first | refine And.intro ?_ ?_ | intro
    all_goals refine leaf ?_
    refine callE (hf) ?_
    refine walk1 (k := ?_)
    repeat' first | refine And.intro ?_ ?_ | intro
    all_goals refine leaf ?_
    exact doneR rfl
  | false =>
    rw [hb] at hf
    refine sref15_Get fun H hh => ?_
    dsimp only [cref15_Get]
    refine walk (k := ?_)
    repeat' first | refine And.intro ?_ ?_ | intro
    all_goals refine leaf ?_
    refine callE (hf) ?_
    refine walk1 (k := ?_)
    repeat' first | refine And.intro ?_ ?_ | intro
    all_goals refine leaf ?_
    exact doneR rfl
theorem names_prog (s t : Nat) (b b' : Bool) (l r : List Entry) (hl : l.length ≤ 1000) (hr : r.length ≤ 1000) : CallsN Try.prog ndiff_Names [.slice s 0 l.length 14, .slice t 0 r.length 14] [EL s b l, EL t b' r] fun v Lo => ∃ w0 w1 w2, v = .tup [.slice w0 0 (pkR (srtL l) (mergeR (srtL l) (srtL r)) 0).length 3, .slice w1 0 (pkR (srtL l) (mergeR (srtL l) (srtL r)) 1).length 3, .slice w2 0 (pkR (srtL l) (mergeR (srtL l) (srtL r)) 2).length 3] ∧
    Lo = [DL w0 true (pkR (srtL l) (mergeR (srtL l) (srtL r)) 0), DL w1 true (pkR (srtL l) (mergeR (srtL l) (srtL r)) 1), DL w2 true (pkR (srtL l) (mergeR (srtL l) (srtL r)) 2)] := by
  have hxl := srtL_le l
  have hyl := srtL_le r
  have hml := mergeR_len (srtL l) (srtL r)
  have hXs : Srt (srtL l) := putsL_srt .nil
  refine sdiff_Names fun H hh => ?_
  dsimp only [cdiff_Names]
  refine walk (k := ?_)
  repeat' first | refine And.intro ?_ ?_ | intro
  all_goals refine leaf ?_
  refine callN (dof_prog s b l hl) ?_
  rintro v Lo H' ⟨x, s', rfl, rfl⟩ hh
  refine walk1 (k := ?_)
  repeat' first | refine And.intro ?_ ?_ | intro
  all_goals refine leaf ?_
  refine callN (dmake_prog s t b b' l r hl hr) ?_
  rintro v Lo H' ⟨o, rfl, rfl⟩ hh
  generalize hM : mergeR (srtL l) (srtL r) = rs at hh hml ⊢
  generalize hX : srtL l = X at hh hXs hxl hml ⊢
  refine walk1 (k := ?_)
  repeat' first | refine And.intro ?_ ?_ | intro
  all_goals refine leaf ?_
  rename_i hh
  refine loopN [7, 8, 9, 10, 20, 21, 22] rs.length (fun i vs L => ∃ w0 w1 w2, vs = [.ptr x 0, .slice w0 0 (pkR X (rs.take i) 0).length 3, .slice w1 0 (pkR X (rs.take i) 1).length 3, .slice w2 0 (pkR X (rs.take i) 2).length 3, .slice o 0 rs.length 15, .int .i64 rs.length, .int .i64 i] ∧ L = [DL w0 true (pkR X (rs.take i) 0), DL w1 true (pkR X (rs.take i) 1), DL w2 true (pkR X (rs.take i) 2), RL o true rs, XO x s' X.length, EL s' true X, EL s b l, EL t b' r])
    (Nx.weak (i := 0) (vs := [.ptr x 0, .slice 0 0 0 3, .slice 0 0 0 3, .slice 0 0 0 3, .slice o 0 rs.length 15, .int .i64 rs.length, .int .i64 0]) rfl (.cons (Wk.refl _) (.cons (Wk.nils 0 3) (.cons (Wk.nils 0 3) (.cons (Wk.nils 0 3) (.cons (Wk.refl _) (.cons (Wk.refl _) (.cons (Wk.refl _) .nil))))))) ⟨0, 0, 0, rfl, rfl⟩ (((hh.ghost true).ghost true).ghost true)) ?_
  clear hh
  rintro i _ _ e H hi ⟨w0, w1, w2, rfl, rfl⟩ hh
  simp only [puts]
  by_cases hn : i < rs.length
  · have hst : ∀ k, pkR X (rs.take (i + 1)) k = if clsR X (nth rs i) = k then pkR X (rs.take i) k ++ [rnm (nth rs i)] else pkR X (rs.take i) k := fun k => by rw [take_getD hn, pkR_snoc]
    have s0 := hst 0
    have s1 := hst 1
    have s2 := hst 2
    have l0 := pkR_le X (rs.take i) 0
    have l1 := pkR_le X (rs.take i) 1
    have l2 := pkR_le X (rs.take i) 2
    rw [List.length_take] at l0 l1 l2
    have hg := iget_prog x s' X (rnm (nth rs i)) (by omega) hXs
    have hint : Hint dueC (rnm (nth rs i)) := trivial
    refine walk1 (k := ?_)
    repeat' first | refine And.intro ?_ ?_ | intro
    all_goals refine leaf ?_
    refine c_cond_t (by show V.bool _ = _; simp; omega) ?_
    refine walk1 (k := ?_)
    repeat' first | refine And.intro ?_ ?_ | intro
    all_goals refine leaf ?_
    refine callE (hg) ?_
    refine walk1 (k := ?_)
    repeat' first | refine And.intro ?_ ?_ | intro
    all_goals refine leaf ?_
    by_cases k2 : (nth rs i).kind = 2
    · have hc : clsR X (nth rs i) = 0 := by rw [clsR, if_pos k2]
      rw [hc] at s0 s1 s2
      rw [if_pos rfl] at s0
      rw [if_neg (by decide)] at s1 s2
      refine c_cond_t (by show V.bool _ = _; simp [k2]) ?_
      refine walk1 (k := ?_)
      repeat' first | refine And.intro ?_ ?_ | intro
      all_goals refine leaf ?_
      rename_i v2 _ hh
      rw [← s0, ← s1, ← s2] at hh ⊢
      exact Nx.next hn ⟨v2, w1, w2, rfl, rfl⟩
    · refine c_cond_f (by show V.bool _ = _; simp [k2]) ?_
      refine walk1 (k := ?_)
      repeat' first | refine And.intro ?_ ?_ | intro
      all_goals refine leaf ?_
      cases hb : (getL X (rnm (nth rs i))).isSome with
      | true =>
        have hc : clsR X (nth rs i) = 2 := by rw [clsR, if_neg k2, if_pos hb]
        rw [hc] at s0 s1 s2
        rw [if_pos rfl] at s2
        rw [if_neg (by decide)] at s0 s1
        refine c_cond_t rfl ?_
        refine walk1 (k := ?_)
        repeat' first | refine And.intro ?_ ?_ | intro
        all_goals refine leaf ?_
        rename_i v2 _ hh
        rw [← s0, ← s1, ← s2] at hh ⊢
        exact Nx.next hn ⟨w0, w1, v2, rfl, rfl⟩
      | false =>
        have hc : clsR X (nth rs i) = 1 := by rw [clsR, if_neg k2, if_neg (by rw [hb]; simp)]
        rw [hc] at s0 s1 s2
        rw [if_pos rfl] at s1
        rw [if_neg (by decide)] at s0 s2
        refine c_cond_f rfl ?_
        refine walk1 (k := ?_)
        repeat' first | refine And.intro ?_ ?_ | intro
        all_goals refine leaf ?_
        rename_i v2 _ hh
        rw [← s0, ← s1, ← s2] at hh ⊢
        exact Nx.next hn ⟨w0, v2, w2, rfl, rfl⟩
  · skip
    refine walk1 (k := ?_)
    repeat' first | refine And.intro ?_ ?_ | intro
    all_goals refine leaf ?_
    refine c_cond_f (by show V.bool _ = _; simp; omega) ?_
    refine walk1 (k := ?_)
    repeat' first | refine And.intro ?_ ?_ | intro
    all_goals refine leaf ?_
    rw [List.take_of_length_le (by omega)] at hh ⊢
    exact doneN ⟨w0, w1, w2, rfl, rfl⟩
end Go.Proofs.Ytebhddpildfgcaa
