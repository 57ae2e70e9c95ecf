/-
  Frames, one behind the other.
-/
import Derived.Test.YtkfhgpegnnokgaaGreatDoorFrmA
namespace Go.Proofs.YtkfhgpegnnokgaaGreatDoor
open Go Go.CM
set_option maxRecDepth 100000
set_option maxHeartbeats 4000000

theorem first_ok {s : Tx} (h : (firstT s).2.2 = 0) : 10 ≤ (firstT s).2.1 ∧ (firstT s).2.1 ≤ s.length := by
  unfold firstT at h ⊢
  repeat' split at h
  all_goals first
    | (cases h; done)
    | skip
  rename_i h6 _ _ _ h2 h3 _ _ _
  rw [if_neg h6, if_neg h2, if_neg h3]
  dsimp only
  omega
def splitF : Nat → Tx → List Tx × Nat × Int
  | 0, _ => ([], 0, 0)
  | f + 1, s => if s = [] then ([], 0, 0) else if (firstT s).2.2 = 0 then ((firstT s).1 :: (splitF f (s.drop (firstT s).2.1)).1, (firstT s).2.1 + (splitF f (s.drop (firstT s).2.1)).2.1, (splitF f (s.drop (firstT s).2.1)).2.2) else ([], 0, (firstT s).2.2)
def splitT (s : Tx) : List Tx × Nat × Int := splitF (s.length + 1) s
theorem splitF_eq : ∀ (f g : Nat) (s : Tx), s.length < f → s.length < g → splitF f s = splitF g s
  | 0, _, _, h, _ => absurd h (Nat.not_lt_zero _)
  | _, 0, _, _, h => absurd h (Nat.not_lt_zero _)
  | f + 1, g + 1, s, hf, hg => by
    unfold splitF
    by_cases h0 : s = []
    · rw [if_pos h0, if_pos h0]
    · rw [if_neg h0, if_neg h0]
      by_cases he : (firstT s).2.2 = 0
      · have := first_ok he
        rw [if_pos he, if_pos he, splitF_eq f g (s.drop (firstT s).2.1) (by rw [List.length_drop]; omega) (by rw [List.length_drop]; omega)]
      · rw [if_neg he, if_neg he]
theorem splitT_nil : splitT [] = ([], 0, 0) := rfl
theorem splitT_ok {s : Tx} (h0 : s ≠ []) (h : (firstT s).2.2 = 0) : splitT s = ((firstT s).1 :: (splitT (s.drop (firstT s).2.1)).1, (firstT s).2.1 + (splitT (s.drop (firstT s).2.1)).2.1, (splitT (s.drop (firstT s).2.1)).2.2) := by
  have h1 := first_ok h
  have e : splitT s = splitF (s.length + 1) s := rfl
  rw [e, splitF, if_neg h0, if_pos h, splitF_eq s.length ((s.drop (firstT s).2.1).length + 1) (s.drop (firstT s).2.1) (by rw [List.length_drop]; omega) (by omega)]
  rfl
theorem splitT_no {s : Tx} (h0 : s ≠ []) (h : (firstT s).2.2 ≠ 0) : splitT s = ([], 0, (firstT s).2.2) := by
  show splitF (s.length + 1) s = _
  rw [splitF, if_neg h0, if_neg h]
theorem fsplit_prog (s : Tx) (hs : s.length ≤ 1000000) : CallsN Tryz.prog nframe_Split [.str s] [] fun v Lo => ∃ o, v = .tup [.slice o 0 (splitT s).1.length 1, .int .i64 ((splitT s).2.1 : Nat), .int .i64 (splitT s).2.2] ∧ Lo = [TL o true (splitT s).1] := by
  refine sframe_Split fun H hh => ?_
  dsimp only [cframe_Split]
  refine walk1 (k := ?_)
  repeat' first | refine And.intro ?_ ?_ | intro
  all_goals refine leaf ?_
  refine loopM [0, 5, 6] (fun m vs L => ∃ (o a : Nat) (out : List Tx), m = s.length - a ∧ a ≤ s.length ∧ out.length ≤ a ∧ splitT s = (out ++ (splitT (s.drop a)).1, a + (splitT (s.drop a)).2.1, (splitT (s.drop a)).2.2) ∧ vs = [.str s, .slice o 0 out.length 1, .int .i64 (a : Nat)] ∧ L = [TL o true out])
    (Nx.weak (i := s.length) (vs := [.str s, .slice 0 0 0 1, .int .i64 (0 : Nat)]) trivial (.cons (Wk.refl _) (.cons (Wk.nils 0 1) (.cons (Wk.refl _) .nil))) ⟨0, 0, [], rfl, Nat.zero_le _, Nat.le_refl _, by rw [List.drop_zero, Nat.zero_add]; rfl, rfl, rfl⟩ (hh.ghost true)) ?_
  clear hh
  rintro m _ _ env H ⟨o, a, out, rfl, ha, hol, hsp, rfl, rfl⟩ hh
  simp only [puts]
  by_cases hn : a < s.length
  · have h1 := ffirst_prog (s.drop a) (by rw [List.length_drop]; omega)
    have h0 : s.drop a ≠ [] := fun k => by have := congrArg List.length k; rw [List.length_drop, List.length_nil] at this; omega
    refine walk1 (k := ?_)
    repeat' first | refine And.intro ?_ ?_ | intro
    all_goals refine leaf ?_
    refine c_cond_t (by show V.bool _ = _; simp; omega) ?_
    refine walk1 (k := ?_)
    repeat' first | refine And.intro ?_ ?_ | intro
    all_goals refine leaf ?_
    refine callE (h1) ?_
    refine walk1 (k := ?_)
    repeat' first | refine And.intro ?_ ?_ | intro
    all_goals refine leaf ?_
    by_cases he : (firstT (s.drop a)).2.2 = 0
    · have hk := first_ok he
      rw [List.length_drop] at hk
      rw [splitT_ok h0 he, List.drop_drop] at hsp
      generalize (firstT (s.drop a)).2.1 = n at *
      generalize (firstT (s.drop a)).1 = c at *
      rw [he]
      have hint : Hint txC c := trivial
      refine c_cond_f (by rfl) ?_
      refine walk1 (k := ?_)
      repeat' first | refine And.intro ?_ ?_ | intro
      all_goals refine leaf ?_
      refine Nx.intro (i := s.length - (a + n)) (by omega) ⟨_, a + n, out ++ [c], rfl, by omega, by rw [List.length_append, List.length_singleton]; omega, ?_, rfl, rfl⟩
      rw [hsp, List.append_assoc, Nat.add_assoc]; rfl
    · rw [splitT_no h0 he] at hsp
      refine c_cond_t (by show V.bool _ = _; simpa using he) ?_
      refine walk1 (k := ?_)
      repeat' first | refine And.intro ?_ ?_ | intro
      all_goals refine leaf ?_
      rw [hsp]
      exact doneN (Lo := [TL o true out]) ⟨o, by simp, by simp⟩
  · have haa : a = s.length := by omega
    subst haa
    rw [List.drop_length, splitT_nil] at hsp
    refine walk1 (k := ?_)
    repeat' first | refine And.intro ?_ ?_ | intro
    all_goals refine leaf ?_
    refine c_cond_f (by show V.bool _ = _; simp) ?_
    refine walk1 (k := ?_)
    repeat' first | refine And.intro ?_ ?_ | intro
    all_goals refine leaf ?_
    rw [hsp]
    exact doneN (Lo := [TL o true out]) ⟨o, by simp, by simp⟩
end Go.Proofs.YtkfhgpegnnokgaaGreatDoor
