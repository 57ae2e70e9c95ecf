/-
  The statement WheelNobody: nobody's wheel has no timers; what is there twice is there once.
-/
import Derived.Test.YtlnidffddidfaaaWheelO
namespace Go.Proofs.Ytlnidffddidfaaa
open Go Go.CM
set_option maxRecDepth 100000
set_option maxHeartbeats 4000000

def newAt (l : List Deed) (k : Nat) : Bool := (l.take k).all fun e => decide (e.id ≠ (nth l k).id)
def firsts (l : List Deed) (i : Nat) : List Int := ((List.range i).filter (newAt l)).map fun k => (nth l k).id
theorem firsts_step (l : List Deed) (i : Nat) : firsts l (i + 1) = firsts l i ++ if newAt l i = true then [(nth l i).id] else [] := by
  unfold firsts
  rw [List.range_succ, List.filter_append, List.map_append]
  cases h : newAt l i <;> simp [List.filter_cons, h]
theorem firsts_le (l : List Deed) (i : Nat) : (firsts l i).length ≤ i := by
  unfold firsts
  rw [List.length_map]
  have := List.length_filter_le (newAt l) (List.range i)
  simpa using this
theorem firsts_mem {l : List Deed} : ∀ {i : Nat} {n : Int}, i ≤ l.length → (n ∈ firsts l i ↔ ∃ e ∈ l.take i, e.id = n)
  | 0, n, _ => by simp [firsts]
  | i + 1, n, h => by
    have ih := firsts_mem (l := l) (i := i) (n := n) (by omega)
    rw [firsts_step, List.mem_append, ih, take_getD (by omega)]
    constructor
    · rintro (⟨e, he, h1⟩ | h1)
      · exact ⟨e, by simp [he], h1⟩
      · split at h1
        · simp at h1; exact ⟨nth l i, by simp, h1.symm⟩
        · cases h1
    · rintro ⟨e, he, h1⟩
      rcases List.mem_append.1 he with he | he
      · exact .inl ⟨e, he, h1⟩
      · simp at he; subst he
        by_cases hn : newAt l i = true
        · right; rw [if_pos hn]; simp [h1]
        · left
          obtain ⟨e, he, h2⟩ := List.all_eq_false.1 (Bool.eq_false_iff.2 hn)
          exact ⟨e, he, by simp at h2; rw [h2, h1]⟩
theorem firsts_new {l : List Deed} {i : Nat} (h : i ≤ l.length) : newAt l i = true ↔ (nth l i).id ∉ firsts l i := by
  rw [firsts_mem h, newAt, List.all_eq_true]
  constructor
  · rintro h1 ⟨e, he, h2⟩
    have := h1 e he
    simp [h2] at this
  · intro h1 e he
    exact decide_eq_true fun h2 => h1 ⟨e, he, h2⟩
theorem ids_prog (t : Nat) (b : Bool) (l : List Deed) (hl : l.length ≤ 1000) : CallsN Try.prog nlaw46_ids [.slice t 0 l.length 3] [DL t b l] fun v Lo => ∃ o, v = .slice o 0 (firsts l l.length).length 1 ∧ Lo = [IL o true (firsts l l.length)] := by
  refine slaw46_ids fun H hh => ?_
  dsimp only [claw46_ids]
  refine walk (k := ?_)
  repeat' first | refine And.intro ?_ ?_ | intro
  all_goals refine leaf ?_
  refine loopN [0, 3, 9, 10, 11] l.length (fun i vs L => ∃ o, vs = [.slice t 0 l.length 3, .slice o 0 (firsts l i).length 1, .slice t 0 l.length 3, .int .i64 l.length, .int .i64 i] ∧ L = [IL o true (firsts l i), DL t b l]) (Nx.hereW [_, .slice 0 0 0 1, _, _, _] ⟨0, rfl, rfl⟩) ?_
  clear hh
  rintro i _ _ e H hi ⟨o, rfl, rfl⟩ hh
  simp only [puts]
  have hfl := firsts_le l i
  by_cases hn : i < l.length
  · skip
    refine walk1 (k := ?_)
    repeat' first | refine And.intro ?_ ?_ | intro
    all_goals refine leaf ?_
    refine c_cond_t (by show V.bool _ = _; simp; omega) ?_
    refine walk1 (k := ?_)
    repeat' first | refine And.intro ?_ ?_ | intro
    all_goals refine leaf ?_
    rename_i did _ _ _ _
    refine loopN [0, 3, 4, 5, 6, 9, 10, 11, 18, 19, 20] i (fun j vs L => vs = [.slice t 0 l.length 3, .slice o 0 (firsts l i).length 1, .int .i64 i, .ptr did 0, .bool ((l.take j).all fun e => decide (e.id ≠ (nth l i).id)), .slice t 0 l.length 3, .int .i64 l.length, .int .i64 i, .slice t 0 i 3, .int .i64 i, .int .i64 j] ∧ L = [(did, .cells true (nth l i).enc), IL o true (firsts l i), DL t b l]) (Nx.here ⟨rfl, rfl⟩) ?_
    clear hh
    rintro j _ _ e H hj ⟨rfl, rfl⟩ hh
    simp only [puts]
    by_cases hji : j < i
    · skip
      refine walk1 (k := ?_)
      repeat' first | refine And.intro ?_ ?_ | intro
      all_goals refine leaf ?_
      refine c_cond_t (by show V.bool _ = _; simp; omega) ?_
      refine walk1 (k := ?_)
      repeat' first | refine And.intro ?_ ?_ | intro
      all_goals refine leaf ?_
      have hst : ((l.take (j + 1)).all fun e => decide (e.id ≠ (nth l i).id)) = (((l.take j).all fun e => decide (e.id ≠ (nth l i).id)) && decide ((nth l j).id ≠ (nth l i).id)) := by
        rw [take_getD (by omega), List.all_append]; simp
      cases hb : ((l.take j).all fun e => decide (e.id ≠ (nth l i).id)) with
      | true =>
        rw [hb, Bool.true_and] at hst
        refine wps_slot (s := 25) (v := .bool true) rfl ?_
        refine walk1 (k := ?_)
        repeat' first | refine And.intro ?_ ?_ | intro
        all_goals refine leaf ?_
        exact Nx.next hji ⟨by rw [hst]; simp only [List.map]; congr 6; show V.bool _ = V.bool _; congr 1; rw [Bool.eq_iff_iff]; simp, rfl⟩
      | false =>
        rw [hb, Bool.false_and] at hst
        refine wps_slot (s := 25) (v := .bool false) rfl ?_
        refine walk1 (k := ?_)
        repeat' first | refine And.intro ?_ ?_ | intro
        all_goals refine leaf ?_
        exact Nx.next hji ⟨by rw [hst] <;> rfl, rfl⟩
    · skip
      refine walk1 (k := ?_)
      repeat' first | refine And.intro ?_ ?_ | intro
      all_goals refine leaf ?_
      refine c_cond_f (by show V.bool _ = _; simp; omega) ?_
      refine walk1 (k := ?_)
      repeat' first | refine And.intro ?_ ?_ | intro
      all_goals refine leaf ?_
      have : j = i := by omega
      subst this
      have hst := firsts_step l j
      by_cases hne : newAt l j = true
      · rw [if_pos hne] at hst
        refine c_cond_t (by show V.bool _ = _; exact congrArg V.bool hne) ?_
        refine walk1 (k := ?_)
        repeat' first | refine And.intro ?_ ?_ | intro
        all_goals refine leaf ?_
        rename_i _ o2 _ _
        exact Nx.next hn ⟨o2, by rw [hst] <;> rfl, by rw [hst] <;> rfl⟩
      · rw [if_neg hne, List.append_nil] at hst
        refine c_cond_f (by show V.bool _ = _; exact congrArg V.bool (Bool.eq_false_iff.2 hne)) ?_
        refine walk1 (k := ?_)
        repeat' first | refine And.intro ?_ ?_ | intro
        all_goals refine leaf ?_
        exact Nx.next hn ⟨o, by rw [hst] <;> rfl, by rw [hst]⟩
  · skip
    refine walk1 (k := ?_)
    repeat' first | refine And.intro ?_ ?_ | intro
    all_goals refine leaf ?_
    refine c_cond_f (by show V.bool _ = _; simp; omega) ?_
    refine walk1 (k := ?_)
    repeat' first | refine And.intro ?_ ?_ | intro
    all_goals refine leaf ?_
    have : i = l.length := by omega
    subst this
    exact doneN ⟨o, rfl, rfl⟩

theorem ids_next {want : List Tmr} {I : List Int} {n a c : Int} (h : (want.map Tmr.id).Perm I) (nd : (want.map Tmr.id).Nodup) :
    ((insT ⟨n, a⟩ (othersT n (insT ⟨n, c⟩ (othersT n want)))).map Tmr.id).Perm (if n ∈ I then I else I ++ [n]) := by
  have h1 : ((insT ⟨n, a⟩ (othersT n (insT ⟨n, c⟩ (othersT n want))))).Perm (⟨n, a⟩ :: othersT n want) := by
    refine (insT_perm _ _).trans (.cons _ ?_)
    refine ((insT_perm (⟨n, c⟩ : Tmr) (othersT n want)).filter _).trans ?_
    rw [List.filter_cons_of_neg (by simp)]
    have : (othersT n want).filter (fun e => decide (e.id ≠ n)) = othersT n want := othersT_none fun e he => by simpa using (List.mem_filter.1 he).2
    rw [this]
  refine (h1.map Tmr.id).trans ?_
  rw [List.map_cons]
  show (n :: _).Perm _
  by_cases hn : n ∈ I
  · rw [if_pos hn]
    obtain ⟨e, he, rfl⟩ := List.mem_map.1 (h.mem_iff.2 hn)
    obtain ⟨j, hj, rfl⟩ := List.mem_iff_getElem.1 he
    have hp := erase_perm hj
    rw [nth_getElem hj] at hp
    have := (others_cons hp nd).map Tmr.id
    exact (this.cons _).trans ((hp.map Tmr.id).symm.trans h)
  · rw [if_neg hn]
    rw [othersT_none fun e he hc => hn (h.mem_iff.1 (by rw [← hc]; exact List.mem_map_of_mem he))]
    exact (h.cons n).trans (List.perm_append_singleton n I).symm
theorem nobody_prog (t : Nat) (b : Bool) (l : List Deed) : CallsR Try.prog nlaw46_WheelNobody [.slice t 0 l.length 3] [DL t b l] fun v => v = .bool true := by
  refine slaw46_WheelNobody fun H hh => ?_
  dsimp only [claw46_WheelNobody]
  refine walk (k := ?_)
  repeat' first | refine And.intro ?_ ?_ | intro
  all_goals refine leaf ?_
  refine callE (awake_prog) ?_
  refine walk1 (k := ?_)
  repeat' first | refine And.intro ?_ ?_ | intro
  all_goals refine leaf ?_
  by_cases hl : 20 < l.length
  · refine c_cond_t (by show V.bool _ = _; simp; omega) ?_
    refine walk1 (k := ?_)
    repeat' first | refine And.intro ?_ ?_ | intro
    all_goals refine leaf ?_
    exact doneR rfl
  refine c_cond_f (by show V.bool _ = _; simp; omega) ?_
  refine walk1 (k := ?_)
  repeat' first | refine And.intro ?_ ?_ | intro
  all_goals refine leaf ?_
  refine callL (new_prog 0) ?_
  rintro _ _ H' ⟨La, ⟨x, rfl, ha⟩, rfl⟩ hh
  rw [List.append_nil] at hh
  refine walk1 (k := ?_)
  repeat' first | refine And.intro ?_ ?_ | intro
  all_goals refine leaf ?_
  refine loopN [0, 3, 4, 20, 21, 22] l.length (fun i vs L => ∃ want La, Wl x 0 want La ∧ (want.map Tmr.id).Perm (firsts l i) ∧ vs = [.slice t 0 l.length 3, .ptr x 0, .nilp, .slice t 0 l.length 3, .int .i64 l.length, .int .i64 i] ∧ L = DL t b l :: La) (Nx.here ⟨[], La, ha, .refl _, rfl, rfl⟩) ?_
  clear hh ha
  rintro i _ _ e H hi ⟨want, La, ha, hpm, rfl, rfl⟩ hh
  simp only [puts]
  have hfl := firsts_le l i
  have hwl := hpm.length_eq
  rw [List.length_map] at hwl
  have hnd := ha.nd
  by_cases hn : i < l.length
  · skip
    refine walk1 (k := ?_)
    repeat' first | refine And.intro ?_ ?_ | intro
    all_goals refine leaf ?_
    refine c_cond_t (by show V.bool _ = _; simp; omega) ?_
    refine walk1 (k := ?_)
    repeat' first | refine And.intro ?_ ?_ | intro
    all_goals refine leaf ?_
    refine callL (add_prog x 0 want La (nth l i).id (nth l i).at_ ha (by omega)) ?_
    rintro _ La2 H3 ⟨rfl, ha2⟩ hh
    have hil := insT_length ⟨(nth l i).id, tm (nth l i).at_⟩ (othersT (nth l i).id want)
    have hle := othersT_le (nth l i).id want
    refine walk1 (k := ?_)
    repeat' first | refine And.intro ?_ ?_ | intro
    all_goals refine leaf ?_
    generalize hq : IntKind.i64.wrap ((nth l i).at_.tdiv 2) = q
    refine callL (add_prog x 0 _ La2 (nth l i).id q ha2 (by omega)) ?_
    rintro _ La3 H3 ⟨rfl, ha3⟩ hh
    refine walk1 (k := ?_)
    repeat' first | refine And.intro ?_ ?_ | intro
    all_goals refine leaf ?_
    have hat := at_prog x 0 _ La3 (nth l i).id ha3
    rw [scanT_one (e := ⟨(nth l i).id, tm q⟩) ha3.nd ((insT_perm _ _).mem_iff.2 (by simp)) rfl] at hat
    refine callE (hat) ?_
    refine walk1 (k := ?_)
    repeat' first | refine And.intro ?_ ?_ | intro
    all_goals refine leaf ?_
    rw [hq]
    refine callE (rtime_prog q) ?_
    refine walk1 (k := ?_)
    repeat' first | refine And.intro ?_ ?_ | intro
    all_goals refine leaf ?_
    refine wps_slot (s := 56) (v := .bool false) (by show V.bool _ = _; simp) ?_
    refine walk1 (k := ?_)
    repeat' first | refine And.intro ?_ ?_ | intro
    all_goals refine leaf ?_
    refine callE (wadd_nil (nth l i).id (nth l i).at_) ?_
    refine walk1 (k := ?_)
    repeat' first | refine And.intro ?_ ?_ | intro
    all_goals refine leaf ?_
    refine callE (wdrop_nil (nth l i).id) ?_
    refine walk1 (k := ?_)
    repeat' first | refine And.intro ?_ ?_ | intro
    all_goals refine leaf ?_
    refine Nx.next hn ⟨_, La3, ha3, ?_, rfl, rfl⟩
    refine (ids_next hpm hnd).trans (.of_eq ?_)
    rw [firsts_step]
    have hnw := firsts_new (l := l) (i := i) hi
    by_cases hm : (nth l i).id ∈ firsts l i
    · rw [if_pos hm, if_neg (fun h => hnw.1 h hm), List.append_nil]
    · rw [if_neg hm, if_pos (hnw.2 hm)]
  · skip
    refine walk1 (k := ?_)
    repeat' first | refine And.intro ?_ ?_ | intro
    all_goals refine leaf ?_
    refine c_cond_f (by show V.bool _ = _; simp; omega) ?_
    refine walk1 (k := ?_)
    repeat' first | refine And.intro ?_ ?_ | intro
    all_goals refine leaf ?_
    refine callE (wat_nil 0) ?_
    refine walk1 (k := ?_)
    repeat' first | refine And.intro ?_ ?_ | intro
    all_goals refine leaf ?_
    refine callE (wnext_nil) ?_
    refine walk1 (k := ?_)
    repeat' first | refine And.intro ?_ ?_ | intro
    all_goals refine leaf ?_
    refine callL (tick_prog x 0 want La 1099511627776 ha) ?_
    rintro _ _ H4 ⟨ow, La2, rfl, rfl, ha2⟩ hh
    have hmx : max 0 (tm 1099511627776).toNat = 1099511627776 := by decide
    rw [hmx] at hh ha2 ⊢
    have hall : dueT ((1099511627776 : Nat) : Int) want = want := by
      obtain ⟨mi, mb, ins, bys, _, hw, hp, hso⟩ := ha
      rw [← due_filter hso]
      exact List.filter_eq_self.2 fun e he => decide_eq_true (hw.ri.rng e (hp.mem_iff.2 he)).2
    rw [hall] at hh ha2 ⊢
    rw [List.drop_length] at ha2
    refine walk1 (k := ?_)
    repeat' first | refine And.intro ?_ ?_ | intro
    all_goals refine leaf ?_
    refine callE (wlen_nil) ?_
    refine walk1 (k := ?_)
    repeat' first | refine And.intro ?_ ?_ | intro
    all_goals refine leaf ?_
    refine callE (wnow_nil) ?_
    refine walk1 (k := ?_)
    repeat' first | refine And.intro ?_ ?_ | intro
    all_goals refine leaf ?_
    refine callE (wtick_nil 9) ?_
    refine walk1 (k := ?_)
    repeat' first | refine And.intro ?_ ?_ | intro
    all_goals refine leaf ?_
    have hil : i = l.length := by omega
    subst hil
    refine callN (ids_prog t b l (by omega)) ?_
    rintro _ _ H5 ⟨oi, rfl, rfl⟩ hh
    refine walk1 (k := ?_)
    repeat' first | refine And.intro ?_ ?_ | intro
    all_goals refine leaf ?_
    refine wps_slot (s := 111) (v := .bool true) (by show V.bool _ = _; simp [hwl]) ?_
    refine walk1 (k := ?_)
    repeat' first | refine And.intro ?_ ?_ | intro
    all_goals refine leaf ?_
    refine callE (len_prog x _ [] La2 ha2) ?_
    refine walk1 (k := ?_)
    repeat' first | refine And.intro ?_ ?_ | intro
    all_goals refine leaf ?_
    exact doneR rfl
theorem walkWheelNobody (vs : List V) (H : Heap) (hg : Givens H 1 [.rows [.i .u8, .i .i64, .i .i64]] vs) (_ : ∀ id o, H id = some o → o.rw = false) : CallsC Try.prog nlaw46_WheelNobody vs H fun v _ => v = .bool true := by
  obtain ⟨_, vs, rfl, ⟨rs, hf, hlen, hr⟩, hg2⟩ := hg.cons
  obtain rfl := hg2.nil
  obtain ⟨ds, rfl⟩ := rowsOf Deed.enc (fun r hr => deedOf (hf r hr))
  obtain ⟨t, rfl, ht⟩ := givenRows hr
  rw [List.length_map]
  exact (CallsR.reads (R := []) (nobody_prog t false ds) ht).mono fun _ _ h => h.1
end Go.Proofs.Ytlnidffddidfaaa
