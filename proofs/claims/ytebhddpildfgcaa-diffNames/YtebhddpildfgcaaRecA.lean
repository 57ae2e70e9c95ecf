/-
  Records; the document's answer of what makes one list another.
-/
import Derived.Test.YtebhddpildfgcaaIndexP
import Derived.Test.YtebhddpildfgcaaCmG
namespace Go.Proofs.Ytebhddpildfgcaa
open Go Go.CM
set_option maxRecDepth 100000
set_option maxHeartbeats 4000000

structure Rec where
  kind : Int
  e : Entry
  deriving Inhabited, DecidableEq
def Rec.enc (r : Rec) : List V := .int .i64 r.kind :: r.e.enc
def recB (a b : Rec) : Bool := a.kind == b.kind && entB a.e b.e
theorem recB_eq (a b : Rec) : recB a b = decide (a = b) := by
  rw [recB, entB_eq, Bool.eq_iff_iff, Bool.and_eq_true, beq_iff_eq, decide_eq_true_eq, decide_eq_true_eq]
  constructor
  · rintro ⟨h1, h2⟩; cases a; cases b; simp_all
  · rintro rfl; exact ⟨rfl, rfl⟩
abbrev RL (s : Nat) (b : Bool) (l : List Rec) : Ob := (s, .cells b (l.flatMap Rec.enc))
theorem rec_inj : ∀ x y : Rec, x.enc = y.enc → x = y := by
  intro a b h
  cases a; cases b
  simp only [Rec.enc, List.cons.injEq, V.int.injEq, true_and] at h
  rw [h.1, ent_inj _ _ h.2]
def dropE (n : Nm) : Entry := { Entry.zero with tenant := n.1, key := n.2 }
def dropR (n : Nm) : Rec := ⟨2, dropE n⟩
theorem enm_dropE (n : Nm) : enm (dropE n) = n := rfl
theorem rdropr_prog (e : Entry) : CallsR Try.prog nref43_drop [.agg e.enc] [] fun v => v = .agg (dropR (enm e)).enc := by
  refine sref43_drop fun H hh => ?_
  dsimp only [cref43_drop]
  refine walk (k := ?_)
  repeat' first | refine And.intro ?_ ?_ | intro
  all_goals refine leaf ?_
  exact doneR rfl
theorem srtL_le (l : List Entry) : (srtL l).length ≤ l.length := by simpa using putsL_le l []
theorem rsorted_prog (s : Nat) (b : Bool) (l : List Entry) (hl : l.length ≤ 1000) : CallsN Try.prog nref43_Sorted [.slice s 0 l.length 14] [EL s b l] fun v Lo => ∃ o, v = .slice o 0 (srtL l).length 14 ∧ Lo = [EL o true (srtL l)] := by
  refine sref43_Sorted fun H hh => ?_
  dsimp only [cref43_Sorted]
  refine walk (k := ?_)
  repeat' first | refine And.intro ?_ ?_ | intro
  all_goals refine leaf ?_
  refine loopN [0, 3, 4] l.length (fun i vs L => ∃ o, vs = [.slice s 0 l.length 14, .slice o 0 (srtL (l.take i)).length 14, .int .i64 i] ∧ L = [EL o true (srtL (l.take i)), EL s b l]) (Nx.hereW [.slice s 0 l.length 14, .slice 0 0 0 14, .int .i64 0] ⟨0, rfl, rfl⟩) ?_
  clear hh
  rintro i _ _ e H hi ⟨o, rfl, rfl⟩ hh
  simp only [puts]
  by_cases hn : i < l.length
  · have hle := srtL_le (l.take i)
    rw [List.length_take] at hle
    have hst : srtL (l.take (i + 1)) = putL (srtL (l.take i)) (nth l i) := by rw [take_getD hn, srtL, putsL, List.foldl_append]; rfl
    refine walk1 (k := ?_)
    repeat' first | refine And.intro ?_ ?_ | intro
    all_goals refine leaf ?_
    refine c_cond_t (by show V.bool _ = _; simp; omega) ?_
    refine walk1 (k := ?_)
    repeat' first | refine And.intro ?_ ?_ | intro
    all_goals refine leaf ?_
    refine callN (rput_prog o true (srtL (l.take i)) (nth l i) (by omega)) ?_
    rintro v Lo H' ⟨o2, rfl, rfl⟩ hh
    rw [← hst] at hh ⊢
    refine walk1 (k := ?_)
    repeat' first | refine And.intro ?_ ?_ | intro
    all_goals refine leaf ?_
    exact Nx.next hn ⟨o2, rfl, rfl⟩
  · skip
    refine walk1 (k := ?_)
    repeat' first | refine And.intro ?_ ?_ | intro
    all_goals refine leaf ?_
    refine c_cond_f (by show V.bool _ = _; simp; omega) ?_
    refine walk1 (k := ?_)
    repeat' first | refine And.intro ?_ ?_ | intro
    all_goals refine leaf ?_
    rw [List.take_of_length_le (by omega)] at hh ⊢
    exact doneN ⟨o, rfl, rfl⟩
theorem rsameR_prog (x w : Nat) (a b : Bool) (l r : List Rec) (hl : l.length ≤ 100000) : CallsR Try.prog nref43_Same [.slice x 0 l.length 15, .slice w 0 r.length 15] [RL x a l, RL w b r] fun v => v = .bool (decide (l = r)) := by
  refine sref43_Same fun H hh => ?_
  dsimp only [cref43_Same]
  refine walk (k := ?_)
  repeat' first | refine And.intro ?_ ?_ | intro
  all_goals refine leaf ?_
  · rename_i h
    refine doneR (congrArg V.bool ?_)
    rw [eq_comm, decide_eq_false_iff_not]
    rintro rfl
    exact h rfl
  rename_i h
  have hlm : l.length = r.length := by omega
  clear h
  refine loopN [0, 1, 5] l.length (fun i vs L => l.take i = r.take i ∧ vs = [.slice x 0 l.length 15, .slice w 0 r.length 15, .int .i64 i] ∧ L = [RL x a l, RL w b r]) (Nx.here ⟨by simp, rfl, rfl⟩) ?_
  clear hh
  rintro i _ _ e H hi ⟨hall, rfl, rfl⟩ hh
  simp only [puts]
  by_cases hn : i < l.length
  · skip
    refine walk1 (k := ?_)
    repeat' first | refine And.intro ?_ ?_ | intro
    all_goals refine leaf ?_
    refine c_cond_t (by show V.bool _ = _; simp; omega) ?_
    refine walk1 (k := ?_)
    repeat' first | refine And.intro ?_ ?_ | intro
    all_goals refine leaf ?_
    have t1 := take_getD hn
    have t2 := take_getD (l := r) (i := i) (by omega)
    by_cases heq : nth l i = nth r i
    · refine c_cond_f (by show V.bool (!recB (nth l i) (nth r i)) = _; rw [recB_eq, decide_eq_true heq]; rfl) ?_
      refine walk1 (k := ?_)
      repeat' first | refine And.intro ?_ ?_ | intro
      all_goals refine leaf ?_
      exact Nx.next hn ⟨by rw [t1, t2, hall, heq], rfl, rfl⟩
    · refine c_cond_t (by show V.bool (!recB (nth l i) (nth r i)) = _; rw [recB_eq, decide_eq_false heq]; rfl) ?_
      refine walk1 (k := ?_)
      repeat' first | refine And.intro ?_ ?_ | intro
      all_goals refine leaf ?_
      refine doneR (congrArg V.bool ?_)
      rw [eq_comm, decide_eq_false_iff_not]
      rintro rfl
      exact heq rfl
  · skip
    refine walk1 (k := ?_)
    repeat' first | refine And.intro ?_ ?_ | intro
    all_goals refine leaf ?_
    refine c_cond_f (by show V.bool _ = _; simp; omega) ?_
    refine walk1 (k := ?_)
    repeat' first | refine And.intro ?_ ?_ | intro
    all_goals refine leaf ?_
    have : i = l.length := by omega
    subst this
    refine doneR (congrArg V.bool ?_)
    rw [eq_comm, decide_eq_true_iff]
    rw [List.take_length, hlm, List.take_length] at hall
    exact hall
/-- What a record makes of a list. -/
def stepL (l : List Entry) (r : Rec) : List Entry := if r.kind = 1 then putL l r.e else if r.kind = 2 then dropL l (enm r.e) else l
def applyL (l : List Entry) (rs : List Rec) : List Entry := rs.foldl stepL l
theorem stepL_le (l : List Entry) (r : Rec) : (stepL l r).length ≤ l.length + 1 := by
  have h1 := putL_le l r.e
  have h2 := dropL_le l (enm r.e)
  unfold stepL
  split
  · exact h1
  · split <;> omega
theorem applyL_le : ∀ (rs : List Rec) (l : List Entry), (applyL l rs).length ≤ l.length + rs.length
  | [], _ => Nat.le_refl _
  | r :: rs, l => by
    have h1 := applyL_le rs (stepL l r)
    have h2 := stepL_le l r
    show (applyL (stepL l r) rs).length ≤ _
    rw [List.length_cons]; omega
theorem applyL_snoc (l : List Entry) (rs : List Rec) (r : Rec) : applyL l (rs ++ [r]) = stepL (applyL l rs) r := by rw [applyL, List.foldl_append]; rfl
theorem rapply_prog (s t : Nat) (b b' : Bool) (l : List Entry) (rs : List Rec) (hl : l.length ≤ 1000) (hr : rs.length ≤ 1000) : CallsN Try.prog nref43_Apply [.slice s 0 l.length 14, .slice t 0 rs.length 15] [EL s b l, RL t b' rs] fun v Lo => ∃ o, v = .slice o 0 (applyL (srtL l) rs).length 14 ∧ Lo = [EL o true (applyL (srtL l) rs)] := by
  refine sref43_Apply fun H hh => ?_
  dsimp only [cref43_Apply]
  refine walk (k := ?_)
  repeat' first | refine And.intro ?_ ?_ | intro
  all_goals refine leaf ?_
  refine callN (rsorted_prog s b l hl) ?_
  rintro v Lo H' ⟨o, rfl, rfl⟩ hh
  refine walk1 (k := ?_)
  repeat' first | refine And.intro ?_ ?_ | intro
  all_goals refine leaf ?_
  rename_i hh
  have hsl := srtL_le l
  refine loopN [1, 5, 6] rs.length (fun i vs L => ∃ o, vs = [.slice t 0 rs.length 15, .slice o 0 (applyL (srtL l) (rs.take i)).length 14, .int .i64 i] ∧ L = [EL o true (applyL (srtL l) (rs.take i)), EL s b l, RL t b' rs]) (Nx.here ⟨o, rfl, rfl⟩) ?_
  clear hh
  rintro i _ _ e H hi ⟨o, rfl, rfl⟩ hh
  simp only [puts]
  have hle := applyL_le (rs.take i) (srtL l)
  rw [List.length_take] at hle
  by_cases hn : i < rs.length
  · have hst : applyL (srtL l) (rs.take (i + 1)) = stepL (applyL (srtL l) (rs.take i)) (nth rs i) := by rw [take_getD hn, applyL_snoc]
    refine walk1 (k := ?_)
    repeat' first | refine And.intro ?_ ?_ | intro
    all_goals refine leaf ?_
    refine c_cond_t (by show V.bool _ = _; simp; omega) ?_
    refine walk1 (k := ?_)
    repeat' first | refine And.intro ?_ ?_ | intro
    all_goals refine leaf ?_
    by_cases h1 : (nth rs i).kind = 1
    · refine c_cond_t (by show V.bool _ = _; simp [h1]) ?_
      refine walk1 (k := ?_)
      repeat' first | refine And.intro ?_ ?_ | intro
      all_goals refine leaf ?_
      refine callN (rput_prog o true (applyL (srtL l) (rs.take i)) (nth rs i).e (by omega)) ?_
      rintro v Lo H' ⟨o2, rfl, rfl⟩ hh
      rw [stepL, if_pos h1] at hst
      rw [← hst] at hh ⊢
      refine walk1 (k := ?_)
      repeat' first | refine And.intro ?_ ?_ | intro
      all_goals refine leaf ?_
      refine c_cond_f (by show V.bool _ = _; simp [h1]) ?_
      refine walk1 (k := ?_)
      repeat' first | refine And.intro ?_ ?_ | intro
      all_goals refine leaf ?_
      exact Nx.next hn ⟨o2, rfl, rfl⟩
    · refine c_cond_f (by show V.bool _ = _; simp [h1]) ?_
      refine walk1 (k := ?_)
      repeat' first | refine And.intro ?_ ?_ | intro
      all_goals refine leaf ?_
      by_cases h2 : (nth rs i).kind = 2
      · refine c_cond_t (by show V.bool _ = _; simp [h2]) ?_
        refine walk1 (k := ?_)
        repeat' first | refine And.intro ?_ ?_ | intro
        all_goals refine leaf ?_
        have hrd := rdrop_prog o true (applyL (srtL l) (rs.take i)) (enm (nth rs i).e) (by omega)
        refine callN (hrd) ?_
        rintro v Lo H' ⟨o2, rfl, rfl⟩ hh
        rw [stepL, if_neg h1, if_pos h2] at hst
        rw [← hst] at hh ⊢
        refine walk1 (k := ?_)
        repeat' first | refine And.intro ?_ ?_ | intro
        all_goals refine leaf ?_
        exact Nx.next hn ⟨o2, rfl, rfl⟩
      · refine c_cond_f (by show V.bool _ = _; simp [h2]) ?_
        refine walk1 (k := ?_)
        repeat' first | refine And.intro ?_ ?_ | intro
        all_goals refine leaf ?_
        rw [stepL, if_neg h1, if_neg h2] at hst
        rw [← hst] at hh ⊢
        exact Nx.next hn ⟨o, rfl, rfl⟩
  · skip
    refine walk1 (k := ?_)
    repeat' first | refine And.intro ?_ ?_ | intro
    all_goals refine leaf ?_
    refine c_cond_f (by show V.bool _ = _; simp; omega) ?_
    refine walk1 (k := ?_)
    repeat' first | refine And.intro ?_ ?_ | intro
    all_goals refine leaf ?_
    rw [List.take_of_length_le (by omega)] at hh ⊢
    exact doneN ⟨o, rfl, rfl⟩
end Go.Proofs.Ytebhddpildfgcaa
