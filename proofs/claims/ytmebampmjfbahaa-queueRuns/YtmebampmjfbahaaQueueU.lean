/-
  The statement QueueRuns: whatever is put, dropped and taken.
-/
import Derived.Test.YtmebampmjfbahaaQueueT
import Derived.Test.YtmebampmjfbahaaQueueW
namespace Go.Proofs.Ytmebampmjfbahaa
open Go Go.CM
set_option maxRecDepth 100000
set_option maxHeartbeats 4000000

structure Deed where
  kind : Int
  due : Due
  deriving Inhabited
def Deed.enc (x : Deed) : List V := .int .u8 x.kind :: x.due.enc
abbrev DL (t : Nat) (b : Bool) (l : List Deed) : Ob := (t, .cells b (l.flatMap Deed.enc))

theorem bputx (q s mid : Nat) (ms its : Its) (want : List Due) (d : Due) (x : Bool) (hx : decide (∃ e ∈ want, nm e = nm d) = x) (hl : want.length ≤ 500) (h : Both its ms want) : CallsL Try.prog nqueue_Queue_Put [.ptr q 0, .agg d.enc] (QL q s mid ms its) fun v L' => ∃ s' ms' its',
    Both its' ms' (ins d (others (nm d) want)) ∧ v = .bool (!x) ∧ L' = QL q s' mid ms' its' := by
  subst hx
  refine (bput_prog q s mid ms its want d hl h).mono ?_
  rintro v L' ⟨s', ms', its', h1, rfl, h2⟩
  refine ⟨s', ms', its', h1, ?_, h2⟩
  congr 1
  rw [Bool.eq_iff_iff]
  simp
theorem rputx (w : Nat) (b : Bool) (l : List Due) (d : Due) (x : Bool) (hx : decide (∃ e ∈ l, nm e = nm d) = x) (hl : l.length ≤ 499) : CallsN Try.prog nref16_Put [.slice w 0 l.length 3, .agg d.enc] [WL w b l] fun v Lo => ∃ o o',
    v = .tup [.slice o 0 (ins d (others (nm d) l)).length 3, .bool x] ∧ Lo = [WL o true (ins d (others (nm d) l)), WL o' true (others (nm d) l)] := by
  rw [← hx, ← met_iff]; exact rput_prog w b l d hl
theorem rdropx (w : Nat) (b : Bool) (l : List Due) (n : Int × List UInt8) (x : Bool) (hx : decide (∃ e ∈ l, nm e = n) = x) (hl : l.length ≤ 500) : CallsN Try.prog nref16_Drop [.slice w 0 l.length 3, .int .i64 n.1, .str n.2] [WL w b l] fun v Lo => ∃ o,
    v = .tup [.slice o 0 (others n l).length 3, .bool x] ∧ Lo = [WL o true (others n l)] := by
  rw [← hx, ← met_iff]; exact rdrop_prog w b l n hl
theorem bdropx (q s mid : Nat) (ms its : Its) (want : List Due) (n : Int × List UInt8) (x : Bool) (hx : decide (∃ e ∈ want, nm e = n) = x) (hl : want.length ≤ 500) (h : Both its ms want) : CallsL Try.prog nqueue_Queue_Drop [.ptr q 0, .int .i64 n.1, .str n.2] (QL q s mid ms its) fun v L' => ∃ ms' its',
    Both its' ms' (others n want) ∧ v = .bool x ∧ L' = QL q s mid ms' its' := by
  subst hx; exact bdrop_prog q s mid ms its want n hl h

theorem runs_prog (t : Nat) (b : Bool) (l : List Deed) : CallsR Try.prog nlaw16_QueueRuns [.slice t 0 l.length 4] [DL t b l] fun v => v = .bool true := by
  refine slaw16_QueueRuns fun H hh => ?_
  dsimp only [claw16_QueueRuns]
  refine walk (k := ?_)
  repeat' first | refine And.intro ?_ ?_ | intro
  all_goals refine leaf ?_
  refine callE (awake16_prog) ?_
  refine walk (k := ?_)
  repeat' first | refine And.intro ?_ ?_ | intro
  all_goals refine leaf ?_
  · exact doneR rfl
  refine callL (new_prog) ?_
  rintro _ _ H' ⟨q, mid, rfl, rfl⟩ hh
  refine walk (k := ?_)
  repeat' first | refine And.intro ?_ ?_ | intro
  all_goals refine leaf ?_
  refine loopN [3, 4, 23, 24, 25] l.length (fun i vs L => ∃ s w ms its want, Both its ms want ∧ want.length ≤ i ∧ vs = [.ptr q 0, .slice w 0 want.length 3, .slice t 0 l.length 4, .int .i64 l.length, .int .i64 i] ∧ L = QL q s mid ms its ++ [WL w true want, DL t b l]) (Nx.hereW [_, .slice 0 0 0 3, _, _, _] ⟨0, 0, [], [], [], both0, Nat.le_refl _, rfl, rfl⟩) ?_
  clear hh
  rintro i _ _ e H hi ⟨s, w, ms, its, want, hb, hwl, rfl, rfl⟩ hh
  simp only [puts]
  by_cases hn : i < l.length
  · skip
    refine walk1 (k := ?_)
    repeat' first | refine And.intro ?_ ?_ | intro
    all_goals refine leaf ?_
    refine c_cond_t (by show V.bool _ = _; simp; omega) ?_
    refine walk1 (k := ?_)
    repeat' first | refine And.intro ?_ ?_ | intro
    all_goals refine leaf ?_
    rename_i did _ _ _ hh
    obtain ⟨x, hx⟩ : ∃ x, decide (∃ e ∈ want, nm e = nm (nth l i).due) = x := ⟨_, rfl⟩
    generalize hm : (nth l i).kind.tmod 5 = m
    refine cutSB [3, 4, 7, 23, 24, 25] (fun vs L => ∃ s w ms its want did, Both its ms want ∧ want.length ≤ i + 1 ∧ vs = [.ptr q 0, .slice w 0 want.length 3, .ptr did 0, .slice t 0 l.length 4, .int .i64 l.length, .int .i64 i] ∧ L = QL q s mid ms its ++ [WL w true want, (did, .cells true (nth l i).due.enc), DL t b l]) ?_ ?_
    rotate_left
    · clear hh hb hwl hx
      rintro _ _ e H ⟨s, w, ms, its, want, did, hb, hwl, rfl, rfl⟩ hh
      simp only [puts]
      have hlen := hb.len
      have hf := bfirst_prog q s mid ms its want hb
      have ha := bat_prog q s mid ms its want (nm (nth l i).due) hb
      have hr := rat_prog w true want (nm (nth l i).due) (by omega)
      have hlq : CallsR Try.prog nqueue_Queue_Len [.ptr q 0] [QO q s its.length mid] fun v => v = .int .i64 want.length := by rw [hlen]; exact qlen_prog q s mid its.length
      cases want with
      | nil =>
        refine walk1 (k := ?_)
        repeat' first | refine And.intro ?_ ?_ | intro
        all_goals refine leaf ?_
        refine callE (hf) ?_
        refine walk1 (k := ?_)
        repeat' first | refine And.intro ?_ ?_ | intro
        all_goals refine leaf ?_
        refine callE (ha) ?_
        refine walk1 (k := ?_)
        repeat' first | refine And.intro ?_ ?_ | intro
        all_goals refine leaf ?_
        refine callE (hr) ?_
        refine walk1 (k := ?_)
        repeat' first | refine And.intro ?_ ?_ | intro
        all_goals refine leaf ?_
        refine callE (hlq) ?_
        refine walk1 (k := ?_)
        repeat' first | refine And.intro ?_ ?_ | intro
        all_goals refine leaf ?_
        exact Nx.next hn ⟨s, w, ms, its, [], hb, hwl, rfl, rfl⟩
      | cons d0 r =>
        refine walk1 (k := ?_)
        repeat' first | refine And.intro ?_ ?_ | intro
        all_goals refine leaf ?_
        refine callE (hf) ?_
        refine walk1 (k := ?_)
        repeat' first | refine And.intro ?_ ?_ | intro
        all_goals refine leaf ?_
        rcases hfi : (d0 :: r).find? (fun e => decide (nm e = nm (nth l i).due)) with _ | e0
        · rw [hfi] at ha hr
          refine callE (ha) ?_
          refine walk1 (k := ?_)
          repeat' first | refine And.intro ?_ ?_ | intro
          all_goals refine leaf ?_
          refine callE (hr) ?_
          refine walk1 (k := ?_)
          repeat' first | refine And.intro ?_ ?_ | intro
          all_goals refine leaf ?_
          refine callE (hlq) ?_
          refine walk1 (k := ?_)
          repeat' first | refine And.intro ?_ ?_ | intro
          all_goals refine leaf ?_
          refine wps_slot (s := 143) (v := .bool false) (by show V.bool _ = _; simp) ?_
          refine walk1 (k := ?_)
          repeat' first | refine And.intro ?_ ?_ | intro
          all_goals refine leaf ?_
          refine wps_slot (s := 150) (v := .bool false) (by show V.bool _ = _; simp; try omega) ?_
          refine walk1 (k := ?_)
          repeat' first | refine And.intro ?_ ?_ | intro
          all_goals refine leaf ?_
          refine wps_slot (s := 160) (v := .bool false) (by show V.bool _ = _; simp [nth_zero]) ?_
          refine walk1 (k := ?_)
          repeat' first | refine And.intro ?_ ?_ | intro
          all_goals refine leaf ?_
          exact Nx.next hn ⟨s, w, ms, its, d0 :: r, hb, hwl, rfl, rfl⟩
        · rw [hfi] at ha hr
          refine callE (ha) ?_
          refine walk1 (k := ?_)
          repeat' first | refine And.intro ?_ ?_ | intro
          all_goals refine leaf ?_
          refine callE (hr) ?_
          refine walk1 (k := ?_)
          repeat' first | refine And.intro ?_ ?_ | intro
          all_goals refine leaf ?_
          refine callE (hlq) ?_
          refine walk1 (k := ?_)
          repeat' first | refine And.intro ?_ ?_ | intro
          all_goals refine leaf ?_
          refine wps_slot (s := 143) (v := .bool false) (by show V.bool _ = _; simp) ?_
          refine walk1 (k := ?_)
          repeat' first | refine And.intro ?_ ?_ | intro
          all_goals refine leaf ?_
          refine wps_slot (s := 150) (v := .bool false) (by show V.bool _ = _; simp; try omega) ?_
          refine walk1 (k := ?_)
          repeat' first | refine And.intro ?_ ?_ | intro
          all_goals refine leaf ?_
          refine wps_slot (s := 160) (v := .bool false) (by show V.bool _ = _; simp [nth_zero]) ?_
          refine walk1 (k := ?_)
          repeat' first | refine And.intro ?_ ?_ | intro
          all_goals refine leaf ?_
          refine wps_slot (s := 174) (v := .bool false) (by show V.bool _ = _; simp) ?_
          refine walk1 (k := ?_)
          repeat' first | refine And.intro ?_ ?_ | intro
          all_goals refine leaf ?_
          exact Nx.next hn ⟨s, w, ms, its, d0 :: r, hb, hwl, rfl, rfl⟩
    by_cases h0 : m = 0
    · refine c_cond_t (by show V.bool _ = _; simp [h0]) ?_
      refine walk1 (k := ?_)
      repeat' first | refine And.intro ?_ ?_ | intro
      all_goals refine leaf ?_
      refine c_cond_t (by show V.bool _ = _; simp [h0]) ?_
      refine walk1 (k := ?_)
      repeat' first | refine And.intro ?_ ?_ | intro
      all_goals refine leaf ?_
      refine callN (rputx w true want (nth l i).due x hx (by omega)) ?_
      rintro _ _ H2 ⟨o, o', rfl, rfl⟩ hh
      have hl2 := ins_length (nth l i).due (others (nm (nth l i).due) want)
      have hl3 := others_le (nm (nth l i).due) want
      refine walk1 (k := ?_)
      repeat' first | refine And.intro ?_ ?_ | intro
      all_goals refine leaf ?_
      refine callL (bputx q s mid ms its want (nth l i).due x hx (by omega) hb) ?_
      rintro _ _ H3 ⟨s', ms', its', hb', rfl, rfl⟩ hh
      refine walk1 (k := ?_)
      repeat' first | refine And.intro ?_ ?_ | intro
      all_goals refine leaf ?_
      refine c_cond_f (by show V.bool _ = _; cases x <;> rfl) ?_
      refine walk1 (k := ?_)
      repeat' first | refine And.intro ?_ ?_ | intro
      all_goals refine leaf ?_
      exact Nw.mk (Nx.cut ⟨s', o, ms', its', _, did, hb', by omega, rfl, rfl⟩)
    refine c_cond_f (by show V.bool _ = _; simp [h0]) ?_
    refine walk1 (k := ?_)
    repeat' first | refine And.intro ?_ ?_ | intro
    all_goals refine leaf ?_
    by_cases h1 : m = 1
    · refine c_cond_t (by show V.bool _ = _; simp [h1]) ?_
      refine walk1 (k := ?_)
      repeat' first | refine And.intro ?_ ?_ | intro
      all_goals refine leaf ?_
      refine callN (rputx w true want (nth l i).due x hx (by omega)) ?_
      rintro _ _ H2 ⟨o, o', rfl, rfl⟩ hh
      have hl2 := ins_length (nth l i).due (others (nm (nth l i).due) want)
      have hl3 := others_le (nm (nth l i).due) want
      refine walk1 (k := ?_)
      repeat' first | refine And.intro ?_ ?_ | intro
      all_goals refine leaf ?_
      refine callL (bputx q s mid ms its want (nth l i).due x hx (by omega) hb) ?_
      rintro _ _ H3 ⟨s', ms', its', hb', rfl, rfl⟩ hh
      refine walk1 (k := ?_)
      repeat' first | refine And.intro ?_ ?_ | intro
      all_goals refine leaf ?_
      refine c_cond_f (by show V.bool _ = _; cases x <;> rfl) ?_
      refine walk1 (k := ?_)
      repeat' first | refine And.intro ?_ ?_ | intro
      all_goals refine leaf ?_
      exact Nw.mk (Nx.cut ⟨s', o, ms', its', _, did, hb', by omega, rfl, rfl⟩)
    refine c_cond_f (by show V.bool _ = _; simp [h1]) ?_
    refine walk1 (k := ?_)
    repeat' first | refine And.intro ?_ ?_ | intro
    all_goals refine leaf ?_
    by_cases h2 : m = 2
    · refine c_cond_t (by show V.bool _ = _; simp [h2]) ?_
      refine walk1 (k := ?_)
      repeat' first | refine And.intro ?_ ?_ | intro
      all_goals refine leaf ?_
      refine callN (rdropx w true want (nm (nth l i).due) x hx (by omega)) ?_
      rintro _ _ H2 ⟨o, rfl, rfl⟩ hh
      have hl3 := others_le (nm (nth l i).due) want
      refine walk1 (k := ?_)
      repeat' first | refine And.intro ?_ ?_ | intro
      all_goals refine leaf ?_
      refine callL (bdropx q s mid ms its want (nm (nth l i).due) x hx (by omega) hb) ?_
      rintro _ _ H3 ⟨ms', its', hb', rfl, rfl⟩ hh
      refine walk1 (k := ?_)
      repeat' first | refine And.intro ?_ ?_ | intro
      all_goals refine leaf ?_
      refine c_cond_f (by show V.bool _ = _; cases x <;> rfl) ?_
      refine walk1 (k := ?_)
      repeat' first | refine And.intro ?_ ?_ | intro
      all_goals refine leaf ?_
      exact Nw.mk (Nx.cut ⟨s, o, ms', its', _, did, hb', by omega, rfl, rfl⟩)
    refine c_cond_f (by show V.bool _ = _; simp [h2]) ?_
    refine walk1 (k := ?_)
    repeat' first | refine And.intro ?_ ?_ | intro
    all_goals refine leaf ?_
    by_cases h3 : m = 3
    · refine c_cond_t (by show V.bool _ = _; simp [h3]) ?_
      refine walk1 (k := ?_)
      repeat' first | refine And.intro ?_ ?_ | intro
      all_goals refine leaf ?_
      refine callL (btake_prog q s mid ms its want (by omega) hb) ?_
      rintro _ _ H2 ⟨ms', its', hb', rfl, rfl⟩ hh
      cases want with
      | nil =>
        refine walk1 (k := ?_)
        repeat' first | refine And.intro ?_ ?_ | intro
        all_goals refine leaf ?_
        exact Nw.mk (Nx.cut ⟨s, w, ms', its', [], did, hb', by simp, rfl, rfl⟩)
      | cons d0 r =>
        refine walk1 (k := ?_)
        repeat' first | refine And.intro ?_ ?_ | intro
        all_goals refine leaf ?_
        refine wps_slot (s := 79) (v := .bool false) (by show V.bool _ = _; simp; try omega) ?_
        refine walk1 (k := ?_)
        repeat' first | refine And.intro ?_ ?_ | intro
        all_goals refine leaf ?_
        refine wps_slot (s := 89) (v := .bool false) (by show V.bool _ = _; simp [nth_zero]) ?_
        refine walk1 (k := ?_)
        repeat' first | refine And.intro ?_ ?_ | intro
        all_goals refine leaf ?_
        have hmn : (if ((d0 :: r).length : Int) < 1 then ((d0 :: r).length : Int) else 1) = 1 := if_neg (by simp; omega)
        refine Nw.base (id := w) (off := 3) (len := r.length) (e := 3) (cs := (d0 :: r).flatMap Due.enc) (cs' := r.flatMap Due.enc) 4 (by assumption) (by show V.slice _ _ _ _ = _; rw [hmn]; simp) (fun id' => by repeat (first | exact Upd.here1 | with_reducible apply Upd.there | with_reducible apply Upd.skip)) rfl (by simp [Due.enc]) (by simp [Due.enc]) fun w' H' hh => ?_
        exact Nw.mk (Nx.cut ⟨s, w', ms', its', r, did, hb', by simp at hwl; omega, rfl, rfl⟩)
    refine c_cond_f (by show V.bool _ = _; simp [h3]) ?_
    refine walk1 (k := ?_)
    repeat' first | refine And.intro ?_ ?_ | intro
    all_goals refine leaf ?_
    by_cases h4 : m = 4
    · refine c_cond_t (by show V.bool _ = _; simp [h4]) ?_
      refine walk1 (k := ?_)
      repeat' first | refine And.intro ?_ ?_ | intro
      all_goals refine leaf ?_
      refine callN (bdue_prog q s mid ms its want (nth l i).due.at_ (by omega) hb) ?_
      rintro _ _ H2 ⟨o, rfl, rfl⟩ hh
      refine walk1 (k := ?_)
      repeat' first | refine And.intro ?_ ?_ | intro
      all_goals refine leaf ?_
      refine callE (buntil_prog w true want (nth l i).due.at_ (by omega) hb.sorted) ?_
      refine walk1 (k := ?_)
      repeat' first | refine And.intro ?_ ?_ | intro
      all_goals refine leaf ?_
      refine callE (bsame_prog o w true true want (nth l i).due.at_ (by omega) hb.sorted) ?_
      refine walk1 (k := ?_)
      repeat' first | refine And.intro ?_ ?_ | intro
      all_goals refine leaf ?_
      exact Nw.mk (Nx.cut ⟨s, w, ms, its, want, did, hb, by omega, rfl, rfl⟩)
    refine c_cond_f (by show V.bool _ = _; simp [h4]) ?_
    refine walk1 (k := ?_)
    repeat' first | refine And.intro ?_ ?_ | intro
    all_goals refine leaf ?_
    exact Nw.mk (Nx.cut ⟨s, w, ms, its, want, did, hb, by omega, rfl, rfl⟩)
  · skip
    refine walk1 (k := ?_)
    repeat' first | refine And.intro ?_ ?_ | intro
    all_goals refine leaf ?_
    refine c_cond_f (by show V.bool _ = _; simp; omega) ?_
    refine walk1 (k := ?_)
    repeat' first | refine And.intro ?_ ?_ | intro
    all_goals refine leaf ?_
    exact doneR rfl
theorem deedOf {cs : List V} (h : Fits [.i .u8, .i .i64, .s, .i .i64] cs) : ∃ j : Deed, cs = j.enc := by
  obtain ⟨_, _, rfl, ⟨a, rfl, _⟩, h1⟩ := h.cons
  obtain ⟨d, rfl⟩ := dueOf h1
  exact ⟨⟨a, d⟩, rfl⟩
theorem walkQueueRuns (vs : List V) (H : Heap) (hg : Givens H 1 [.rows [.i .u8, .i .i64, .s, .i .i64]] vs) (_ : ∀ id o, H id = some o → o.rw = false) : CallsC Try.prog nlaw16_QueueRuns vs H fun v _ => v = .bool true := by
  obtain ⟨_, vs, rfl, ⟨rs, hf, hlen, hr⟩, hg2⟩ := hg.cons
  obtain rfl := hg2.nil
  obtain ⟨ds, rfl⟩ := rowsOf Deed.enc (fun r hr => deedOf (hf r hr))
  obtain ⟨t, rfl, ht⟩ := givenRows hr
  rw [List.length_map]
  exact (CallsR.reads (R := []) (runs_prog t false ds) ht).mono fun _ _ h => h.1
end Go.Proofs.Ytmebampmjfbahaa
