/-
  The index: where a name stands.
-/
import Derived.Test.YtjgcgepfidcihaaGreatDoorBaseA
namespace Go.Proofs.YtjgcgepfidcihaaGreatDoor
open Go Go.CM
set_option maxRecDepth 100000
set_option maxHeartbeats 4000000

theorem iof_prog (e : Entry) : CallsR Tryz.prog nindex_of [.agg e.enc] [] fun v => v = .agg (nmC (enm e)) := by
  refine sindex_of fun H hh => ?_
  dsimp only [cindex_of]
  refine walk (k := ?_)
  repeat' first | refine And.intro ?_ ?_ | intro
  all_goals refine leaf ?_
  exact doneR rfl
theorem iorder_prog (a b : Nm) : CallsR Tryz.prog nindex_order [.agg (nmC a), .agg (nmC b)] [] fun v => v = .int .i64 (ordN a b) := by
  refine sindex_order fun H hh => ?_
  dsimp only [cindex_order]
  refine walk (k := ?_)
  repeat' first | refine And.intro ?_ ?_ | intro
  all_goals refine leaf ?_
  refine callE (cmpI_prog a.1 b.1) ?_
  refine walk (k := ?_)
  repeat' first | refine And.intro ?_ ?_ | intro
  all_goals refine leaf ?_
  refine callE (cmpS_prog a.2 b.2) ?_
  refine walk (k := ?_)
  repeat' first | refine And.intro ?_ ?_ | intro
  all_goals refine leaf ?_
  rename_i t _ _
  refine callE (or_prog t true [cmpI a.1 b.1, cmpS a.2 b.2] (Nat.le_of_ble_eq_true rfl)) ?_
  refine walk (k := ?_)
  repeat' first | refine And.intro ?_ ?_ | intro
  all_goals refine leaf ?_
  exact doneR rfl
theorem ifind1_prog (e : Entry) (n : Nm) : CallsR Tryz.prog nindex_Index_find_1 [.agg e.enc, .agg (nmC n)] [] fun v => v = .int .i64 (ordN (enm e) n) := by
  refine sindex_Index_find_1 fun H hh => ?_
  dsimp only [cindex_Index_find_1]
  refine walk (k := ?_)
  repeat' first | refine And.intro ?_ ?_ | intro
  all_goals refine leaf ?_
  refine callE (iof_prog e) ?_
  refine walk1 (k := ?_)
  repeat' first | refine And.intro ?_ ?_ | intro
  all_goals refine leaf ?_
  refine callE (iorder_prog (enm e) n) ?_
  refine walk1 (k := ?_)
  repeat' first | refine And.intro ?_ ?_ | intro
  all_goals refine leaf ?_
  exact doneR rfl
theorem Srt.lt {l : List Entry} (h : Srt l) {i j : Nat} (hij : i < j) (hj : j < l.length) : ahd (enm (nth l i)) (enm (nth l j)) = true := by
  rw [nth_getElem (by omega), nth_getElem hj]
  exact List.pairwise_iff_getElem.1 h i j (by omega) hj hij
theorem half_wrap (i j : Nat) (h : i + j ≤ 200000) : IntKind.i64.wrap (((i : Int) + (j : Int)).fdiv (2 ^ min (1 : Int).toNat IntKind.u64.bits)) = (((i + j) / 2 : Nat) : Int) := by
  have e2 : ((2 : Int) ^ min (1 : Int).toNat IntKind.u64.bits) = 2 := by decide
  rw [e2, Int.fdiv_eq_ediv_of_nonneg _ (by decide)]
  have : (((i : Int) + (j : Int)) / 2) = (((i + j) / 2 : Nat) : Int) := by omega
  rw [this, IntKind.wrap_i64]; omega
theorem bsearch_prog (s : Nat) (b : Bool) (l : List Entry) (n : Nm) (hl : l.length ≤ 100000) (hs : Srt l) : CallsR Tryz.prog nslices_BinarySearchFunc_index_name [.slice s 0 l.length 14, .agg (nmC n), .func nindex_Index_find_1 []] [EL s b l] fun v => v = .tup [.int .i64 (plN l n), .bool (isN l n)] := by
  refine sslices_BinarySearchFunc_index_name fun H hh => ?_
  dsimp only [cslices_BinarySearchFunc_index_name]
  refine walk (k := ?_)
  repeat' first | refine And.intro ?_ ?_ | intro
  all_goals refine leaf ?_
  rename_i nid _ hh
  refine loopM [0, 2, 4, 8, 9, 10] (fun m vs L => ∃ i j, m = j - i ∧ i ≤ j ∧ j ≤ l.length ∧ (∀ k, k < i → ahd (enm (nth l k)) n = true) ∧ (∀ k, j ≤ k → k < l.length → ahd (enm (nth l k)) n = false) ∧ vs = [.slice s 0 l.length 14, .func nindex_Index_find_1 [], .ptr nid 0, .int .i64 l.length, .int .i64 (i : Nat), .int .i64 (j : Nat)] ∧ L = [(nid, .cells true (nmC n)), EL s b l])
    (Nx.intro (i := l.length) trivial ⟨0, l.length, rfl, Nat.zero_le _, Nat.le_refl _, fun k h => absurd h (Nat.not_lt_zero k), fun k h1 h2 => by omega, rfl, rfl⟩) ?_
  clear hh
  rintro m _ _ e H ⟨i, j, rfl, hij, hj, h1, h2, rfl, rfl⟩ hh
  simp only [puts]
  by_cases hlt : i < j
  · skip
    refine walk1 (k := ?_)
    repeat' first | refine And.intro ?_ ?_ | intro
    all_goals refine leaf ?_
    refine c_cond_t (by show V.bool _ = _; simp; omega) ?_
    refine walk1 (k := ?_)
    repeat' first | refine And.intro ?_ ?_ | intro
    all_goals refine leaf ?_
    refine wps_slot (s := 11) (v := .int .i64 (((i + j) / 2 : Nat) : Int)) (by show V.int _ _ = _; congr 1; exact half_wrap i j (by omega)) ?_
    refine wps_slot (s := 26) (v := .int .i64 (((i + j) / 2 : Nat) : Int)) (by show V.int _ _ = _; congr 1; exact half_wrap i j (by omega)) ?_
    generalize hm : (i + j) / 2 = h
    have hh1 : i ≤ h := by omega
    have hh2 : h < j := by omega
    refine walk1 (k := ?_)
    repeat' first | refine And.intro ?_ ?_ | intro
    all_goals refine leaf ?_
    refine vcallE (ifind1_prog (nth l h) n) ?_
    cases ha : ahd (enm (nth l h)) n with
    | true =>
      refine walk1 (k := ?_)
      repeat' first | refine And.intro ?_ ?_ | intro
      all_goals refine leaf ?_
      refine c_cond_t (by show V.bool _ = _; rw [decide_eq_true ((ordN_neg _ _).2 ha)]) ?_
      refine walk1 (k := ?_)
      repeat' first | refine And.intro ?_ ?_ | intro
      all_goals refine leaf ?_
      refine Nx.intro (i := j - (h + 1)) (by omega) ⟨h + 1, j, rfl, by omega, hj, fun k hk => ?_, h2, rfl, rfl⟩
      by_cases hkh : k = h
      · subst hkh; exact ha
      · exact ahd_trans (hs.lt (i := k) (j := h) (by omega) (by omega)) ha
    | false =>
      refine walk1 (k := ?_)
      repeat' first | refine And.intro ?_ ?_ | intro
      all_goals refine leaf ?_
      refine c_cond_f (by show V.bool _ = _; rw [decide_eq_false (fun k => Bool.eq_false_iff.1 ha ((ordN_neg _ _).1 k))]) ?_
      refine walk1 (k := ?_)
      repeat' first | refine And.intro ?_ ?_ | intro
      all_goals refine leaf ?_
      refine Nx.intro (i := h - i) (by omega) ⟨i, h, rfl, hh1, by omega, h1, fun k hk1 hk2 => ?_, rfl, rfl⟩
      by_cases hkh : k = h
      · subst hkh; exact ha
      · refine Bool.eq_false_iff.2 fun hc => ?_
        have := ahd_trans (hs.lt (i := h) (j := k) (by omega) hk2) hc
        rw [ha] at this; cases this
  · skip
    refine walk1 (k := ?_)
    repeat' first | refine And.intro ?_ ?_ | intro
    all_goals refine leaf ?_
    refine c_cond_f (by show V.bool _ = _; simp; omega) ?_
    refine walk1 (k := ?_)
    repeat' first | refine And.intro ?_ ?_ | intro
    all_goals refine leaf ?_
    have hij' : i = j := by omega
    subst hij'
    have hall : (l.take i).all (fun e => ahd (enm e) n) = true := by
      rw [List.all_eq_true]
      intro x hx
      obtain ⟨k, hk, rfl⟩ := List.mem_iff_getElem.1 hx
      rw [List.length_take] at hk
      have := h1 k (by omega)
      rw [nth_getElem (by omega)] at this
      rwa [List.getElem_take]
    by_cases hil : i < l.length
    · have hp := plN_at (n := n) (i := i) (by omega) hall (.inr (h2 i (Nat.le_refl _) hil))
      have hb : isN l n = decide (enm (nth l i) = n) := by rw [isN, hp, decide_eq_true hil, Bool.true_and]
      refine wps_slot (s := 39) (v := .bool true) (by show V.bool _ = _; simp; omega) ?_
      refine walk1 (k := ?_)
      repeat' first | refine And.intro ?_ ?_ | intro
      all_goals refine leaf ?_
      refine vcallE (ifind1_prog (nth l i) n) ?_
      refine walk1 (k := ?_)
      repeat' first | refine And.intro ?_ ?_ | intro
      all_goals refine leaf ?_
      refine doneR ?_
      rw [hp, hb]
      congr 3
      congr 1
      rw [Bool.eq_iff_iff, beq_iff_eq, decide_eq_true_iff]
      exact ordN_zero _ _
    · have hp := plN_at (n := n) (i := i) (by omega) hall (.inl (by omega))
      refine wps_slot (s := 39) (v := .bool false) (by show V.bool _ = _; simp; omega) ?_
      refine walk1 (k := ?_)
      repeat' first | refine And.intro ?_ ?_ | intro
      all_goals refine leaf ?_
      refine doneR ?_
      rw [isN, hp, decide_eq_false hil, Bool.false_and]
abbrev XO (x s n : Nat) : Ob := (x, .cells true [.slice s 0 n 14])
theorem ifind_prog (x s : Nat) (l : List Entry) (n : Nm) (hl : l.length ≤ 100000) (hs : Srt l) : CallsR Tryz.prog nindex_Index_find [.ptr x 0, .agg (nmC n)] [XO x s l.length, EL s true l] fun v => v = .tup [.int .i64 (plN l n), .bool (isN l n)] := by
  refine sindex_Index_find fun H hh => ?_
  dsimp only [cindex_Index_find]
  refine walk (k := ?_)
  repeat' first | refine And.intro ?_ ?_ | intro
  all_goals refine leaf ?_
  refine callE (bsearch_prog s true l n hl hs) ?_
  refine walk1 (k := ?_)
  repeat' first | refine And.intro ?_ ?_ | intro
  all_goals refine leaf ?_
  exact doneR rfl
end Go.Proofs.YtjgcgepfidcihaaGreatDoor
