/-
  diff: of, both, Make, Apply.
-/
import Derived.Test.YtebhddpildfgcaaDiffA
import Derived.Test.YtebhddpildfgcaaIndexC
namespace Go.Proofs.Ytebhddpildfgcaa
open Go Go.CM
set_option maxRecDepth 100000
set_option maxHeartbeats 4000000

theorem dof_prog (s : Nat) (b : Bool) (l : List Entry) (hl : l.length ≤ 1000) : CallsN Try.prog ndiff_of [.slice s 0 l.length 14] [EL s b l] fun v Lo => ∃ x s', v = .ptr x 0 ∧ Lo = IX x s' (srtL l) := by
  refine sdiff_of fun H hh => ?_
  dsimp only [cdiff_of]
  refine walk (k := ?_)
  repeat' first | refine And.intro ?_ ?_ | intro
  all_goals refine leaf ?_
  refine callL (inew_prog) ?_
  rintro v L' H' ⟨x, rfl, rfl⟩ hh
  refine walk1 (k := ?_)
  repeat' first | refine And.intro ?_ ?_ | intro
  all_goals refine leaf ?_
  rename_i hh
  refine loopN [3, 7, 8, 9] l.length (fun i vs L => ∃ s', vs = [.ptr x 0, .slice s 0 l.length 14, .int .i64 l.length, .int .i64 i] ∧ L = IX x s' (srtL (l.take i)) ++ [EL s b l]) (Nx.here ⟨0, rfl, rfl⟩) ?_
  clear hh
  rintro i _ _ e H hi ⟨s', rfl, rfl⟩ hh
  simp only [puts]
  by_cases hn : i < l.length
  · have hle := srtL_le (l.take i)
    rw [List.length_take] at hle
    have hst : srtL (l.take (i + 1)) = putL (srtL (l.take i)) (nth l i) := by rw [take_getD hn, srtL, putsL, List.foldl_append]; rfl
    refine walk1 (k := ?_)
    repeat' first | refine And.intro ?_ ?_ | intro
    all_goals refine leaf ?_
    refine c_cond_t (by show V.bool _ = _; simp; omega) ?_
    refine walk1 (k := ?_)
    repeat' first | refine And.intro ?_ ?_ | intro
    all_goals refine leaf ?_
    refine callL (iput_prog x s' (srtL (l.take i)) (nth l i) (by omega) (putsL_srt .nil)) ?_
    rintro v L' H' ⟨s2, rfl, rfl⟩ hh
    rw [← hst] at hh
    refine walk1 (k := ?_)
    repeat' first | refine And.intro ?_ ?_ | intro
    all_goals refine leaf ?_
    exact Nx.next hn ⟨s2, rfl, rfl⟩
  · skip
    refine walk1 (k := ?_)
    repeat' first | refine And.intro ?_ ?_ | intro
    all_goals refine leaf ?_
    refine c_cond_f (by show V.bool _ = _; simp; omega) ?_
    refine walk1 (k := ?_)
    repeat' first | refine And.intro ?_ ?_ | intro
    all_goals refine leaf ?_
    rw [List.take_of_length_le (by omega)] at hh
    exact doneN ⟨x, s', rfl, rfl⟩
/-- Names in order, each once. -/
def SrtN (l : List Nm) : Prop := l.Pairwise fun a b => ahd a b = true
theorem cmpct_mem : ∀ {l : List Nm} {n : Nm}, n ∈ cmpct l ↔ n ∈ l
  | [], _ => Iff.rfl
  | [_], _ => Iff.rfl
  | a :: b :: l, n => by
    have ih := cmpct_mem (l := b :: l) (n := n)
    rw [cmpct]
    split
    · rename_i h; subst h; rw [ih]; simp
    · rw [List.mem_cons, ih, List.mem_cons (a := n) (b := a)]
theorem cmpct_srt : ∀ {l : List Nm}, l.Pairwise (fun x y => ahd y x = false) → SrtN (cmpct l)
  | [], _ => List.Pairwise.nil
  | [_], _ => List.pairwise_singleton _ _
  | a :: b :: l, h => by
    have h' := List.pairwise_cons.1 h
    have ih := cmpct_srt (l := b :: l) h'.2
    rw [cmpct]
    split
    · exact ih
    · rename_i hab
      refine List.pairwise_cons.2 ⟨fun c hc => ?_, ih⟩
      have hc := cmpct_mem.1 hc
      have h1 := h'.1 b (by simp)
      have hlt : ahd a b = true := by
        cases hx : ahd a b with
        | true => rfl
        | false => exact absurd (ahd_tri hx h1) hab
      rcases List.mem_cons.1 hc with rfl | hc
      · exact hlt
      · have h2 := (List.pairwise_cons.1 h'.2).1 c hc
        cases hx : ahd a c with
        | true => rfl
        | false =>
          have := nahd_trans hx h2
          rw [hlt] at this; cases this
theorem cmpct_le : ∀ l : List Nm, (cmpct l).length ≤ l.length
  | [] => Nat.le_refl _
  | [_] => Nat.le_refl _
  | a :: b :: l => by
    have ih := cmpct_le (b :: l)
    rw [cmpct]
    split
    · simp only [List.length_cons] at *; omega
    · simp only [List.length_cons] at *; omega
/-- The names of two lists, in order, each once. -/
def BothN (l r : List Entry) (ns : List Nm) : Prop := SrtN ns ∧ (∀ n, n ∈ ns ↔ n ∈ l.map enm ∨ n ∈ r.map enm) ∧ ns.length ≤ l.length + r.length
theorem dboth_prog (x s y t : Nat) (l r : List Entry) (hl : l.length ≤ 1000) (hr : r.length ≤ 1000) : CallsN Try.prog ndiff_both [.ptr x 0, .ptr y 0] [XO x s l.length, EL s true l, XO y t r.length, EL t true r] fun v Lo => ∃ o ns, BothN l r ns ∧ v = .slice o 0 ns.length 2 ∧ Lo = [NL o true ns] := by
  refine sdiff_both fun H hh => ?_
  dsimp only [cdiff_both]
  refine walk (k := ?_)
  repeat' first | refine And.intro ?_ ?_ | intro
  all_goals refine leaf ?_
  refine callN (iall_prog x s l (by omega)) ?_
  rintro v Lo H' ⟨o1, rfl, rfl⟩ hh
  refine walk1 (k := ?_)
  repeat' first | refine And.intro ?_ ?_ | intro
  all_goals refine leaf ?_
  refine callN (iall_prog y t r (by omega)) ?_
  rintro v Lo H' ⟨o2, rfl, rfl⟩ hh
  refine walk1 (k := ?_)
  repeat' first | refine And.intro ?_ ?_ | intro
  all_goals refine leaf ?_
  refine wps_approw hh r (l := l) (enc := Entry.enc) (m := 13) (L' := fun o3 => [EL o2 true r, EL o3 true (l ++ r), XO x s l.length, EL s true l, XO y t r.length, EL t true r]) rfl rfl .here (fun _ => rfl) (fun o3 => .there .here1) (by omega) fun o3 _ hh => ?_
  refine walk1 (k := ?_)
  repeat' first | refine And.intro ?_ ?_ | intro
  all_goals refine leaf ?_
  rename_i hh
  refine loopN [5, 12, 13, 14] (l ++ r).length (fun i vs L => ∃ w, vs = [.slice w 0 (((l ++ r).take i).map enm).length 2, .slice o3 0 (l ++ r).length 14, .int .i64 (l ++ r).length, .int .i64 i] ∧ L = [NL w true (((l ++ r).take i).map enm), EL o3 true (l ++ r), XO x s l.length, EL s true l, XO y t r.length, EL t true r])
    (Nx.hereW [.slice 0 0 0 2, .slice o3 0 (l ++ r).length 14, .int .i64 (l ++ r).length, .int .i64 0] ⟨0, rfl, rfl⟩) ?_
  clear hh
  rintro i _ _ e H hi ⟨w, rfl, rfl⟩ hh
  simp only [puts]
  have hlr : (l ++ r).length = l.length + r.length := List.length_append
  by_cases hn : i < (l ++ r).length
  · have hst : ((l ++ r).take (i + 1)).map enm = ((l ++ r).take i).map enm ++ [enm (nth (l ++ r) i)] := by rw [take_getD hn, List.map_append]; rfl
    have hlen : (((l ++ r).take i).map enm).length ≤ 2000 := by rw [List.length_map, List.length_take]; omega
    have hint : Hint nmC (enm (nth (l ++ r) i)) := trivial
    refine walk1 (k := ?_)
    repeat' first | refine And.intro ?_ ?_ | intro
    all_goals refine leaf ?_
    refine c_cond_t (by show V.bool _ = _; simp; omega) ?_
    refine walk1 (k := ?_)
    repeat' first | refine And.intro ?_ ?_ | intro
    all_goals refine leaf ?_
    rename_i w2 _ hh
    rw [← hst] at hh ⊢
    exact Nx.next hn ⟨w2, rfl, rfl⟩
  · skip
    refine walk1 (k := ?_)
    repeat' first | refine And.intro ?_ ?_ | intro
    all_goals refine leaf ?_
    refine c_cond_f (by show V.bool _ = _; simp; omega) ?_
    refine walk1 (k := ?_)
    repeat' first | refine And.intro ?_ ?_ | intro
    all_goals refine leaf ?_
    rw [List.take_of_length_le (by omega)] at hh ⊢
    generalize hL : (l ++ r).map enm = ns at hh ⊢
    have hnl : ns.length = l.length + r.length := by rw [← hL, List.length_map, hlr]
    refine callL (sortN_prog w ns (by omega)) ?_
    rintro v L' H' ⟨ns', hp, hs, rfl, rfl⟩ hh
    rw [← hp.length_eq]
    refine walk1 (k := ?_)
    repeat' first | refine And.intro ?_ ?_ | intro
    all_goals refine leaf ?_
    refine callL (compact_prog w ns' (by rw [hp.length_eq]; omega)) ?_
    rintro v L' H' ⟨rfl, rfl⟩ hh
    refine walk1 (k := ?_)
    repeat' first | refine And.intro ?_ ?_ | intro
    all_goals refine leaf ?_
    refine doneN ⟨w, cmpct ns', ⟨cmpct_srt hs, fun n => ?_, ?_⟩, rfl, rfl⟩
    · rw [cmpct_mem, hp.mem_iff, ← hL, List.map_append, List.mem_append]
    · have := cmpct_le ns'
      rw [hp.length_eq] at this
      omega
end Go.Proofs.Ytebhddpildfgcaa
