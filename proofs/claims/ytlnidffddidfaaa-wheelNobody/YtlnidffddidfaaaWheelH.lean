/-
  The wheel: the library's functions over rows of timers.
-/
import Derived.Test.YtlnidffddidfaaaWheelF
namespace Go.Proofs.Ytlnidffddidfaaa
open Go Go.CM
set_option maxRecDepth 100000
set_option maxHeartbeats 4000000

abbrev CO (c : Nat) (n : Int) : Ob := (c, .cells true [.int .i64 n])
theorem drop1_prog (c : Nat) (d : Tmr) (n : Int) : CallsR Try.prog nwheel_Wheel_Drop_1 [.agg d.enc, .ptr c 0] [CO c n] fun v => v = .bool (decide (d.id = n)) := by
  refine swheel_Wheel_Drop_1 fun H hh => ?_
  dsimp only [cwheel_Wheel_Drop_1]
  refine walk (k := ?_)
  repeat' first | refine And.intro ?_ ?_ | intro
  all_goals refine leaf ?_
  exact doneR (congrArg V.bool (by rw [Bool.eq_iff_iff]; simp))

/-- Where the first of a number stands; -1: nowhere. -/
def idxT (n : Int) : List Tmr → Nat → Int
  | [], _ => -1
  | e :: l, k => if e.id = n then (k : Int) else idxT n l (k + 1)
theorem index_prog (s c : Nat) (b : Bool) (l : List Tmr) (n : Int) (hl : l.length ≤ 1000) : CallsR Try.prog nslices_IndexFunc_wheel_timer [.slice s 0 l.length 2, .func nwheel_Wheel_Drop_1 [.ptr c 0]] [TL s b l, CO c n] fun v => v = .int .i64 (idxT n l 0) := by
  refine sslices_IndexFunc_wheel_timer fun H hh => ?_
  dsimp only [cslices_IndexFunc_wheel_timer]
  refine walk (k := ?_)
  repeat' first | refine And.intro ?_ ?_ | intro
  all_goals refine leaf ?_
  refine loopN [0, 1, 7, 8] l.length (fun i vs L => idxT n l 0 = idxT n (l.drop i) i ∧ vs = [.slice s 0 l.length 2, .func nwheel_Wheel_Drop_1 [.ptr c 0], .int .i64 l.length, .int .i64 i] ∧ L = [TL s b l, CO c n]) (Nx.here ⟨rfl, rfl, rfl⟩) ?_
  clear hh
  rintro i _ _ e H hi ⟨hx, rfl, rfl⟩ hh
  simp only [puts]
  by_cases hn : i < l.length
  · skip
    refine walk1 (k := ?_)
    repeat' first | refine And.intro ?_ ?_ | intro
    all_goals refine leaf ?_
    refine c_cond_t (by show V.bool _ = _; simp; omega) ?_
    refine walk1 (k := ?_)
    repeat' first | refine And.intro ?_ ?_ | intro
    all_goals refine leaf ?_
    refine vcallE (drop1_prog c (nth l i) n) ?_
    by_cases he : (nth l i).id = n
    · rw [decide_eq_true he]
      refine walk1 (k := ?_)
      repeat' first | refine And.intro ?_ ?_ | intro
      all_goals refine leaf ?_
      refine doneR ?_
      rw [hx, drop_getD hn, idxT, if_pos he]
    · rw [decide_eq_false he]
      refine walk1 (k := ?_)
      repeat' first | refine And.intro ?_ ?_ | intro
      all_goals refine leaf ?_
      exact Nx.next hn ⟨by rw [hx, drop_getD hn, idxT, if_neg he], rfl, rfl⟩
  · skip
    refine walk1 (k := ?_)
    repeat' first | refine And.intro ?_ ?_ | intro
    all_goals refine leaf ?_
    refine c_cond_f (by show V.bool _ = _; simp; omega) ?_
    refine walk1 (k := ?_)
    repeat' first | refine And.intro ?_ ?_ | intro
    all_goals refine leaf ?_
    refine doneR ?_
    rw [hx, List.drop_of_length_le (by omega)]; rfl
theorem idxT_cases (n : Int) : ∀ (l : List Tmr) (k : Nat), (idxT n l k = -1 ∧ ∀ e ∈ l, e.id ≠ n) ∨ ∃ i, i < l.length ∧ idxT n l k = ((k + i : Nat) : Int) ∧ (nth l i).id = n ∧ ∀ e ∈ l.take i, e.id ≠ n
  | [], k => .inl ⟨rfl, fun e h => by cases h⟩
  | e :: l, k => by
    by_cases h : e.id = n
    · exact .inr ⟨0, by simp, by rw [idxT, if_pos h]; rfl, by rw [nth_zero]; exact h, fun e h => by simp at h⟩
    · rw [idxT, if_neg h]
      rcases idxT_cases n l (k + 1) with ⟨h1, h2⟩ | ⟨i, h1, h2, h3, h4⟩
      · exact .inl ⟨h1, fun x hx => by
          rcases List.mem_cons.1 hx with rfl | hx
          · exact h
          · exact h2 x hx⟩
      · exact .inr ⟨i + 1, by simpa using h1, by rw [h2]; congr 1; omega, by rw [nth_succ]; exact h3, fun x hx => by
          rw [List.take_succ_cons] at hx
          rcases List.mem_cons.1 hx with rfl | hx
          · exact h
          · exact h4 x hx⟩
theorem othersT_none {n : Int} {l : List Tmr} (h : ∀ e ∈ l, e.id ≠ n) : othersT n l = l := List.filter_eq_self.2 fun e he => decide_eq_true (h e he)
theorem set_take {α : Type} [Inhabited α] {r : List α} {i : Nat} (x : α) (h : i < r.length) : (r.set i x).take (i + 1) = r.take i ++ [x] := by
  have h1 : i < (r.set i x).length := by simpa using h
  rw [take_getD h1, nth_set _ h, if_pos rfl, List.take_set_of_le (Nat.le_refl _)]
theorem set_drop {α : Type} {r : List α} {i j : Nat} (x : α) (h : i < j) : (r.set i x).drop j = r.drop j := List.drop_set_of_lt h
theorem rep_length {z : List V} {k : Nat} (hz : z.length = k) : ∀ n, (rep z n).length = n * k
  | 0 => by simp [rep]
  | n + 1 => by simp [rep, rep_length hz n, hz, Nat.succ_mul, Nat.add_comm]
theorem delete_prog (s c : Nat) (l : List Tmr) (n : Int) (hl : l.length ≤ 1000) : CallsL Try.prog nslices_DeleteFunc_wheel_timer [.slice s 0 l.length 2, .func nwheel_Wheel_Drop_1 [.ptr c 0]] [TL s true l, CO c n] fun v L' => v = .slice s 0 (othersT n l).length 2 ∧ L' = [TL s true (othersT n l), CO c n] := by
  refine sslices_DeleteFunc_wheel_timer fun H hh => ?_
  dsimp only [cslices_DeleteFunc_wheel_timer]
  refine walk (k := ?_)
  repeat' first | refine And.intro ?_ ?_ | intro
  all_goals refine leaf ?_
  refine callE (index_prog s c true l n hl) ?_
  refine walk1 (k := ?_)
  repeat' first | refine And.intro ?_ ?_ | intro
  all_goals refine leaf ?_
  rcases idxT_cases n l 0 with ⟨h1, h2⟩ | ⟨i0, h1, h2, h3, h4⟩
  · rw [h1, othersT_none h2]
    refine walk (k := ?_)
    repeat' first | refine And.intro ?_ ?_ | intro
    all_goals refine leaf ?_
    exact done ⟨rfl, rfl⟩
  · rw [h2, Nat.zero_add]
    refine walk1 (k := ?_)
    repeat' first | refine And.intro ?_ ?_ | intro
    all_goals refine leaf ?_
    have hi1 : (((i0 : Nat) : Int) + 1) = ((i0 + 1 : Nat) : Int) := rfl
    rw [hi1]
    have h0 : othersT n (l.take (i0 + 1)) = l.take i0 := by
      rw [othersT_step h1, if_neg (by simp [h3]), List.append_nil, othersT_none h4]
    refine loopN [0, 1, 5, 6] (l.length - (i0 + 1)) (fun j vs L => ∃ r : List Tmr, r.length = l.length ∧ r.take (othersT n (l.take (i0 + 1 + j))).length = othersT n (l.take (i0 + 1 + j)) ∧ (othersT n (l.take (i0 + 1 + j))).length < i0 + 1 + j ∧ r.drop (i0 + 1 + j) = l.drop (i0 + 1 + j) ∧
      vs = [.slice s 0 l.length 2, .func nwheel_Wheel_Drop_1 [.ptr c 0], .int .i64 (othersT n (l.take (i0 + 1 + j))).length, .int .i64 ((i0 + 1 + j : Nat) : Int)] ∧ L = [TL s true r, CO c n])
      (Nx.here ⟨l, rfl, by rw [Nat.add_zero, h0]; simp, by rw [Nat.add_zero, h0]; simp; omega, rfl, by rw [Nat.add_zero, h0, List.length_take, Nat.min_eq_left (by omega)]; rfl, rfl⟩) ?_
    clear hh
    rintro j _ _ e H hj ⟨r, hr, ht, hlt, hd, rfl, rfl⟩ hh
    simp only [puts]
    by_cases hn : i0 + 1 + j < l.length
    · skip
      refine walk1 (k := ?_)
      repeat' first | refine And.intro ?_ ?_ | intro
      all_goals refine leaf ?_
      refine c_cond_t (by show V.bool _ = _; simp; omega) ?_
      refine walk1 (k := ?_)
      repeat' first | refine And.intro ?_ ?_ | intro
      all_goals refine leaf ?_
      have hnth : nth r (i0 + 1 + j) = nth l (i0 + 1 + j) := by
        have e1 := drop_getD (l := r) (i := i0 + 1 + j) (by omega)
        have e2 := drop_getD (l := l) (i := i0 + 1 + j) hn
        rw [hd, e2] at e1
        exact (List.cons.inj e1).1.symm
      have hd' : r.drop (i0 + 1 + (j + 1)) = l.drop (i0 + 1 + (j + 1)) := by
        have e1 := drop_getD (l := r) (i := i0 + 1 + j) (by omega)
        have e2 := drop_getD (l := l) (i := i0 + 1 + j) hn
        rw [hd, e2] at e1
        exact (List.cons.inj e1).2.symm
      have hst := othersT_step (n := n) hn
      rw [show i0 + 1 + j + 1 = i0 + 1 + (j + 1) by omega] at hst
      refine vcallE (drop1_prog c (nth r (i0 + 1 + j)) n) ?_
      by_cases he : (nth r (i0 + 1 + j)).id = n
      · rw [decide_eq_true he]
        rw [if_neg (by rw [← hnth]; simp [he]), List.append_nil] at hst
        refine walk1 (k := ?_)
        repeat' first | refine And.intro ?_ ?_ | intro
        all_goals refine leaf ?_
        exact Nx.next (by omega) ⟨r, hr, by rw [hst]; exact ht, by rw [hst]; omega, hd', by rw [hst]; rfl, rfl⟩
      · rw [decide_eq_false he]
        rw [if_pos (by rw [← hnth]; exact he)] at hst
        generalize hk : (othersT n (l.take (i0 + 1 + j))).length = k at *
        refine walk1 (k := ?_)
        repeat' first | refine And.intro ?_ ?_ | intro
        all_goals refine leaf ?_
        exact Nx.next (by omega) ⟨r.set k (nth r (i0 + 1 + j)), by simpa using hr, by rw [hst, List.length_append, hk]; show List.take (k + 1) _ = _; rw [set_take _ (by omega), ht, hnth], by rw [hst, List.length_append, hk]; show k + 1 < _; omega, by rw [set_drop _ (by omega)]; exact hd', by rw [hst, List.length_append, hk]; rfl, rfl⟩
    · skip
      refine walk1 (k := ?_)
      repeat' first | refine And.intro ?_ ?_ | intro
      all_goals refine leaf ?_
      refine c_cond_f (by show V.bool _ = _; simp; omega) ?_
      have hx : i0 + 1 + j = l.length := by omega
      rw [hx, List.take_length] at ht hlt
      rw [hx, List.take_length] 
      generalize hk : (othersT n l).length = k at *
      refine walk1 (k := ?_)
      repeat' first | refine And.intro ?_ ?_ | intro
      all_goals refine leaf ?_
      have hfill : splice (r.flatMap Tmr.enc) (0 + k * 2) (rep [.int .i64 0, .int .i64 0] (l.length - k)) = (othersT n l).flatMap Tmr.enc ++ rep [.int .i64 0, .int .i64 0] (l.length - k) := by
        have hrl : (r.flatMap Tmr.enc).length = r.length * 2 := rows_length (sz := 2) (fun _ => rfl) r
        have hpl : (rep [V.int .i64 0, V.int .i64 0] (l.length - k)).length = (l.length - k) * 2 := rep_length rfl _
        rw [Nat.zero_add, splice, rows_take (sz := 2) (fun _ => rfl), ht, List.drop_of_length_le (by rw [hpl, hrl]; omega), List.append_nil]
      refine wps_clr hh (L' := [(s, .cells true ((othersT n l).flatMap Tmr.enc ++ rep [.int .i64 0, .int .i64 0] (l.length - k))), CO c n]) rfl ?_ ?_ hfill .here1 ?_
      · have hrl : (r.flatMap Tmr.enc).length = r.length * 2 := rows_length (sz := 2) (fun _ => rfl) r
        rw [hrl]; simp; omega
      · have hrl : (r.flatMap Tmr.enc).length = r.length * 2 := rows_length (sz := 2) (fun _ => rfl) r
        exact fun e => by rw [e] at hrl; simp at hrl; omega
      · intro H' hh
        refine walk1 (k := ?_)
        repeat' first | refine And.intro ?_ ?_ | intro
        all_goals refine leaf ?_
        refine CEnds.cut hh .here1 ?_ fun H' hh => done ⟨?_, rfl⟩
        · intro e
          have := congrArg List.length e
          have hpl : (rep [V.int .i64 0, V.int .i64 0] (l.length - k)).length = (l.length - k) * 2 := rep_length rfl _
          rw [List.length_append, hpl] at this
          simp at this; omega
        · rw [← hk]; rfl
end Go.Proofs.Ytlnidffddidfaaa
