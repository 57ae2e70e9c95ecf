/-
  The statement QueueNobody: what is handed out is a copy, and of no queue there is nothing.
-/
import Derived.Test.YtmebampmjfbahaaQueueT
import Derived.Test.YtmebampmjfbahaaQueueW
namespace Go.Proofs.Ytmebampmjfbahaa
open Go Go.CM
set_option maxRecDepth 100000
set_option maxHeartbeats 4000000

theorem nobody_prog (t : Nat) (b : Bool) (l : List Due) (now : Int) : CallsR Try.prog nlaw16_QueueNobody [.slice t 0 l.length 3, .int .i64 now] [WL t b l] fun v => v = .bool true := by
  refine slaw16_QueueNobody fun H hh => ?_
  dsimp only [claw16_QueueNobody]
  refine walk (k := ?_)
  repeat' first | refine And.intro ?_ ?_ | intro
  all_goals refine leaf ?_
  refine callE (awake16_prog) ?_
  refine walk (k := ?_)
  repeat' first | refine And.intro ?_ ?_ | intro
  all_goals refine leaf ?_
  · exact doneR rfl
  refine callL (new_prog) ?_
  rintro _ _ H' ⟨q, mid, rfl, rfl⟩ hh
  refine walk (k := ?_)
  repeat' first | refine And.intro ?_ ?_ | intro
  all_goals refine leaf ?_
  refine loopN [1, 5, 6, 24, 25, 26] l.length (fun i vs L => ∃ s w ms its want, Both its ms want ∧ want.length ≤ i ∧ vs = [.int .i64 now, .ptr q 0, .slice w 0 want.length 3, .slice t 0 l.length 3, .int .i64 l.length, .int .i64 i] ∧ L = QL q s mid ms its ++ [WL w true want, WL t b l]) (Nx.hereW [_, _, .slice 0 0 0 3, _, _, _] ⟨0, 0, [], [], [], both0, Nat.le_refl _, rfl, rfl⟩) ?_
  clear hh
  rintro i _ _ e H hi ⟨s, w, ms, its, want, hb, hwl, rfl, rfl⟩ hh
  simp only [puts]
  by_cases hn : i < l.length
  · skip
    refine walk1 (k := ?_)
    repeat' first | refine And.intro ?_ ?_ | intro
    all_goals refine leaf ?_
    refine c_cond_t (by show V.bool _ = _; simp; omega) ?_
    refine walk1 (k := ?_)
    repeat' first | refine And.intro ?_ ?_ | intro
    all_goals refine leaf ?_
    refine callL (bput_prog q s mid ms its want (nth l i) (by omega) hb) ?_
    rintro _ _ H' ⟨s', ms', its', hb', rfl, rfl⟩ hh
    refine walk1 (k := ?_)
    repeat' first | refine And.intro ?_ ?_ | intro
    all_goals refine leaf ?_
    refine callN (rput_prog w true want (nth l i) (by omega)) ?_
    rintro _ _ H2 ⟨o, o', rfl, rfl⟩ hh
    have hl2 := ins_length (nth l i) (others (nm (nth l i)) want)
    have hl3 := others_le (nm (nth l i)) want
    refine walk1 (k := ?_)
    repeat' first | refine And.intro ?_ ?_ | intro
    all_goals refine leaf ?_
    exact Nx.next hn ⟨s', o, ms', its', _, hb', by omega, rfl, rfl⟩
  · skip
    refine walk1 (k := ?_)
    repeat' first | refine And.intro ?_ ?_ | intro
    all_goals refine leaf ?_
    refine c_cond_f (by show V.bool _ = _; simp; omega) ?_
    refine walk1 (k := ?_)
    repeat' first | refine And.intro ?_ ?_ | intro
    all_goals refine leaf ?_
    refine callN (bdue_prog q s mid ms its want now (by omega) hb) ?_
    rintro _ _ H2 ⟨o, rfl, rfl⟩ hh
    refine walk1 (k := ?_)
    repeat' first | refine And.intro ?_ ?_ | intro
    all_goals refine leaf ?_
    have hlu := upTo_le now want
    generalize upTo now want = u at hh hlu ⊢
    refine loopN [1, 5, 6, 9, 44, 45] u.length (fun k vs L => ∃ u' : List Due, u'.length = u.length ∧ vs = [.int .i64 now, .ptr q 0, .slice w 0 want.length 3, .slice o 0 u.length 3, .int .i64 u.length, .int .i64 k] ∧ L = WL o true u' :: (QL q s mid ms its ++ [WL w true want, WL t b l])) (Nx.here ⟨u, rfl, rfl, rfl⟩) ?_
    clear hh
    rintro k _ _ e H hk ⟨u', hu', rfl, rfl⟩ hh
    simp only [puts]
    by_cases hn : k < u.length
    · skip
      refine walk1 (k := ?_)
      repeat' first | refine And.intro ?_ ?_ | intro
      all_goals refine leaf ?_
      refine c_cond_t (by show V.bool _ = _; simp; omega) ?_
      refine walk1 (k := ?_)
      repeat' first | refine And.intro ?_ ?_ | intro
      all_goals refine leaf ?_
      refine wps_sr ‹_› (u := (⟨0, [116, 117, 114, 110, 101, 100], 0⟩ : Due)) (l := u') (n := k) (m := 2) rfl rfl rfl rfl (fun _ => rfl) (by omega) .here1 fun _ hh => ?_
      refine walk1 (k := ?_)
      repeat' first | refine And.intro ?_ ?_ | intro
      all_goals refine leaf ?_
      exact Nx.next hn ⟨u'.set k ⟨0, [116, 117, 114, 110, 101, 100], 0⟩, by simp [hu'], rfl, rfl⟩
    · skip
      refine walk1 (k := ?_)
      repeat' first | refine And.intro ?_ ?_ | intro
      all_goals refine leaf ?_
      refine c_cond_f (by show V.bool _ = _; simp; omega) ?_
      refine walk1 (k := ?_)
      repeat' first | refine And.intro ?_ ?_ | intro
      all_goals refine leaf ?_
      refine callE (first_nil) ?_
      refine walk1 (k := ?_)
      repeat' first | refine And.intro ?_ ?_ | intro
      all_goals refine leaf ?_
      refine callE (take_nil) ?_
      refine walk1 (k := ?_)
      repeat' first | refine And.intro ?_ ?_ | intro
      all_goals refine leaf ?_
      refine callE (at_nil 0 []) ?_
      refine walk1 (k := ?_)
      repeat' first | refine And.intro ?_ ?_ | intro
      all_goals refine leaf ?_
      refine callN (bdue_prog q s mid ms its want now (by omega) hb) ?_
      rintro _ _ H2 ⟨o2, rfl, rfl⟩ hh
      refine walk1 (k := ?_)
      repeat' first | refine And.intro ?_ ?_ | intro
      all_goals refine leaf ?_
      refine callE (buntil_prog w true want now (by omega) hb.sorted) ?_
      refine walk1 (k := ?_)
      repeat' first | refine And.intro ?_ ?_ | intro
      all_goals refine leaf ?_
      refine callE (bsame_prog o2 w true true want now (by omega) hb.sorted) ?_
      refine walk1 (k := ?_)
      repeat' first | refine And.intro ?_ ?_ | intro
      all_goals refine leaf ?_
      refine callE (qlen_prog q s mid its.length) ?_
      refine walk1 (k := ?_)
      repeat' first | refine And.intro ?_ ?_ | intro
      all_goals refine leaf ?_
      refine wps_slot (s := 82) (v := .bool true) (by show V.bool _ = _; simp [hb.len]) ?_
      refine walk1 (k := ?_)
      repeat' first | refine And.intro ?_ ?_ | intro
      all_goals refine leaf ?_
      refine callE (put_nil Due.zero) ?_
      refine walk1 (k := ?_)
      repeat' first | refine And.intro ?_ ?_ | intro
      all_goals refine leaf ?_
      refine callE (drop_nil 0 []) ?_
      refine walk1 (k := ?_)
      repeat' first | refine And.intro ?_ ?_ | intro
      all_goals refine leaf ?_
      refine callE (qlen_nil) ?_
      refine walk1 (k := ?_)
      repeat' first | refine And.intro ?_ ?_ | intro
      all_goals refine leaf ?_
      refine callE (due_nil now) ?_
      refine walk1 (k := ?_)
      repeat' first | refine And.intro ?_ ?_ | intro
      all_goals refine leaf ?_
      exact doneR rfl

theorem walkQueueNobody (vs : List V) (H : Heap) (hg : Givens H 1 [.rows [.i .i64, .s, .i .i64], .one (.i .i64)] vs) (_ : ∀ id o, H id = some o → o.rw = false) : CallsC Try.prog nlaw16_QueueNobody vs H fun v _ => v = .bool true := by
  obtain ⟨_, vs, rfl, ⟨rs, hf, hlen, hr⟩, hg2⟩ := hg.cons
  obtain ⟨_, vs, rfl, h1, hg3⟩ := hg2.cons
  obtain rfl := hg3.nil
  obtain ⟨a, rfl, _⟩ := h1
  obtain ⟨ds, rfl⟩ := rowsOf Due.enc (fun r hr => dueOf (hf r hr))
  obtain ⟨t, rfl, ht⟩ := givenRows hr
  rw [List.length_map]
  exact (CallsR.reads (R := []) (nobody_prog t false ds a) ht).mono fun _ _ h => h.1
end Go.Proofs.Ytmebampmjfbahaa
