/-
  The verdict on any entry, whether it is held, and whether it is expired, are the document's.
-/
import Derived.Test.YtelgcaacaolgfaaDoorLawB
import Derived.Test.YtelgcaacaolgfaaDoorCmE
namespace Go.Proofs.YtelgcaacaolgfaaDoor
open Go Go.CM
set_option maxRecDepth 100000
set_option maxHeartbeats 4000000

theorem rheld_prog (e : Entry) (now : Int) : CallsR Tryd.prog nref21_Held [.agg e.enc, .int .i64 now] [] fun v => v = .bool (decide (heldP e now)) := by
  unfold Entry.enc
  refine sref21_Held fun H hh => ?_
  dsimp only [cref21_Held]
  refine walk (k := ?_)
  repeat' first | refine And.intro ?_ ?_ | intro
  all_goals refine leaf ?_
  · skip
    refine callE ((rtime_prog now)) ?_
    refine walk (k := ?_)
    repeat' first | refine And.intro ?_ ?_ | intro
    all_goals refine leaf ?_
    refine doneR (congrArg V.bool ?_)
    rw [decide_eq_decide]; omega
  · exact doneR (congrArg V.bool (decide_eq_false (by omega)).symm)
theorem rexpired_prog (e : Entry) (now : Int) : CallsR Tryd.prog nref21_Expired [.agg e.enc, .int .i64 now] [] fun v => v = .bool (decide (expP e now)) := by
  have hh0 := rheld_prog e now
  unfold Entry.enc at hh0 ⊢
  refine sref21_Expired fun H hh => ?_
  dsimp only [cref21_Expired]
  refine walk (k := ?_)
  repeat' first | refine And.intro ?_ ?_ | intro
  all_goals refine leaf ?_
  refine callE ((rtime_prog now)) ?_
  refine walk (k := ?_)
  repeat' first | refine And.intro ?_ ?_ | intro
  all_goals refine leaf ?_
  · skip
    refine callE (hh0) ?_
    refine walk (k := ?_)
    repeat' first | refine And.intro ?_ ?_ | intro
    all_goals refine leaf ?_
    refine doneR (congrArg V.bool ?_)
    rw [← decide_not, decide_eq_decide]
    omega
  · exact doneR (congrArg V.bool (decide_eq_false (by omega)).symm)
theorem rverdict_prog (e : Entry) (print : List UInt8) (now : Int) : CallsR Tryd.prog nref21_Verdict [.agg e.enc, .str print, .int .i64 now] [] fun v => v = .int .i64 (verI e print now) := by
  have hh0 := rheld_prog e now
  have hh1 := rexpired_prog e now
  unfold Entry.enc at hh0 hh1 ⊢
  unfold verI
  by_cases c : e.state < 1 ∨ 2 < e.state ∨ expP e now
  · rw [if_pos c]
    by_cases cx : expP e now
    · rw [decide_eq_true cx] at hh1
      refine sref21_Verdict fun H hh => ?_
      dsimp only [cref21_Verdict]
      refine walk (k := ?_)
      repeat' first | refine And.intro ?_ ?_ | intro
      all_goals refine leaf ?_
      all_goals try
        refine callE (hh1) ?_
        refine walk (k := ?_)
        repeat' first | refine And.intro ?_ ?_ | intro
        all_goals refine leaf ?_
      all_goals exact doneR rfl
    · rw [decide_eq_false cx] at hh1
      refine sref21_Verdict fun H hh => ?_
      dsimp only [cref21_Verdict]
      refine walk (k := ?_)
      repeat' first | refine And.intro ?_ ?_ | intro
      all_goals refine leaf ?_
      all_goals first
        | exact doneR rfl
        | (exfalso; omega)
  · rw [if_neg c]
    rw [decide_eq_false (fun h => c (.inr (.inr h)))] at hh1
    refine sref21_Verdict fun H hh => ?_
    dsimp only [cref21_Verdict]
    refine walk (k := ?_)
    repeat' first | refine And.intro ?_ ?_ | intro
    all_goals refine leaf ?_
    all_goals try
      exfalso
      omega
    by_cases ch : heldP e now
    · rw [decide_eq_true ch] at hh0
      refine callE (hh1) ?_
      refine walk (k := ?_)
      repeat' first | refine And.intro ?_ ?_ | intro
      all_goals refine leaf ?_
      all_goals try
        refine callE (hh0) ?_
        refine walk (k := ?_)
        repeat' first | refine And.intro ?_ ?_ | intro
        all_goals refine leaf ?_
      all_goals refine doneR (congrArg (V.int .i64) ?_)
      all_goals repeat' split
      all_goals first
        | rfl
        | (exfalso; first | omega | (simp_all; done) | (simp_all; omega))
    · rw [decide_eq_false ch] at hh0
      refine callE (hh1) ?_
      refine walk (k := ?_)
      repeat' first | refine And.intro ?_ ?_ | intro
      all_goals refine leaf ?_
      all_goals try
        refine callE (hh0) ?_
        refine walk (k := ?_)
        repeat' first | refine And.intro ?_ ?_ | intro
        all_goals refine leaf ?_
      all_goals refine doneR (congrArg (V.int .i64) ?_)
      all_goals repeat' split
      all_goals first
        | rfl
        | (exfalso; first | omega | (simp_all; done) | (simp_all; omega))
theorem verdicts_prog (e : Entry) (print : List UInt8) (now : Int) : CallsR Tryd.prog nlaw21_LeaseVerdicts [.agg e.enc, .str print, .int .i64 now] [] fun v => v = .bool true := by
  have h0 := awake_prog
  have h1 := small21_prog e ⟨0, false, 0, 0, 0, print, Req.zero⟩
  have h2 := verdict_prog e print now
  have h3 := rverdict_prog e print now
  have h4 := verdict_prog e e.print now
  have h5 := rverdict_prog e e.print now
  have h6 := held_prog e now
  have h7 := rheld_prog e now
  have h8 := expired_prog e now
  have h9 := rexpired_prog e now
  generalize verI e print now = a1 at *
  generalize verI e e.print now = a2 at *
  generalize decide (heldP e now) = b1 at *
  generalize decide (expP e now) = b2 at *
  unfold Entry.enc at *
  unfold Deed.enc Req.zero at h1
  refine slaw21_LeaseVerdicts fun H hh => ?_
  dsimp only [claw21_LeaseVerdicts]
  refine walk1 (k := ?_)
  repeat' first | refine And.intro ?_ ?_ | intro
  all_goals refine leaf ?_
  refine callE (h0) ?_
  refine walk1 (k := ?_)
  repeat' first | refine And.intro ?_ ?_ | intro
  all_goals refine leaf ?_
  refine callR (h1) ?_
  rintro v ⟨c, rfl, _⟩
  cases c with
  | false =>
    refine walk1 (k := ?_)
    repeat' first | refine And.intro ?_ ?_ | intro
    all_goals refine leaf ?_
    exact doneR rfl
  | true =>
    refine walk1 (k := ?_)
    repeat' first | refine And.intro ?_ ?_ | intro
    all_goals refine leaf ?_
    refine callE (h2) ?_
    refine walk1 (k := ?_)
    repeat' first | refine And.intro ?_ ?_ | intro
    all_goals refine leaf ?_
    refine callE (h3) ?_
    refine walk1 (k := ?_)
    repeat' first | refine And.intro ?_ ?_ | intro
    all_goals refine leaf ?_
    refine wps_slot (s := 23) (v := .bool true) (by show V.bool _ = _; simp) ?_
    refine walk1 (k := ?_)
    repeat' first | refine And.intro ?_ ?_ | intro
    all_goals refine leaf ?_
    refine callE (h4) ?_
    refine walk1 (k := ?_)
    repeat' first | refine And.intro ?_ ?_ | intro
    all_goals refine leaf ?_
    refine callE (h5) ?_
    refine walk1 (k := ?_)
    repeat' first | refine And.intro ?_ ?_ | intro
    all_goals refine leaf ?_
    refine wps_slot (s := 36) (v := .bool true) (by show V.bool _ = _; simp) ?_
    refine walk1 (k := ?_)
    repeat' first | refine And.intro ?_ ?_ | intro
    all_goals refine leaf ?_
    refine callE (h6) ?_
    refine walk1 (k := ?_)
    repeat' first | refine And.intro ?_ ?_ | intro
    all_goals refine leaf ?_
    refine callE (h7) ?_
    refine walk1 (k := ?_)
    repeat' first | refine And.intro ?_ ?_ | intro
    all_goals refine leaf ?_
    refine wps_slot (s := 45) (v := .bool true) (by show V.bool _ = _; simp) ?_
    refine walk1 (k := ?_)
    repeat' first | refine And.intro ?_ ?_ | intro
    all_goals refine leaf ?_
    refine callE (h8) ?_
    refine walk1 (k := ?_)
    repeat' first | refine And.intro ?_ ?_ | intro
    all_goals refine leaf ?_
    refine callE (h9) ?_
    refine walk1 (k := ?_)
    repeat' first | refine And.intro ?_ ?_ | intro
    all_goals refine leaf ?_
    exact doneR (by simp)
theorem entOf {l : List V} (h : Fits [.i .i64, .s, .i .i64, .i .i64, .i .i64, .i .i64, .s, .i .i64, .i .i64, .i .i64, .s, .s, .s, .s] l) : ∃ e : Entry, l = e.enc := by
  obtain ⟨_, _, rfl, ⟨x0, rfl, _⟩, h0⟩ := h.cons
  obtain ⟨_, _, rfl, ⟨x1, rfl, _⟩, h1⟩ := h0.cons
  obtain ⟨_, _, rfl, ⟨x2, rfl, _⟩, h2⟩ := h1.cons
  obtain ⟨_, _, rfl, ⟨x3, rfl, _⟩, h3⟩ := h2.cons
  obtain ⟨_, _, rfl, ⟨x4, rfl, _⟩, h4⟩ := h3.cons
  obtain ⟨_, _, rfl, ⟨x5, rfl, _⟩, h5⟩ := h4.cons
  obtain ⟨_, _, rfl, ⟨x6, rfl, _⟩, h6⟩ := h5.cons
  obtain ⟨_, _, rfl, ⟨x7, rfl, _⟩, h7⟩ := h6.cons
  obtain ⟨_, _, rfl, ⟨x8, rfl, _⟩, h8⟩ := h7.cons
  obtain ⟨_, _, rfl, ⟨x9, rfl, _⟩, h9⟩ := h8.cons
  obtain ⟨_, _, rfl, ⟨x10, rfl, _⟩, h10⟩ := h9.cons
  obtain ⟨_, _, rfl, ⟨x11, rfl, _⟩, h11⟩ := h10.cons
  obtain ⟨_, _, rfl, ⟨x12, rfl, _⟩, h12⟩ := h11.cons
  obtain ⟨_, _, rfl, ⟨x13, rfl, _⟩, h13⟩ := h12.cons
  obtain rfl := h13.nil
  exact ⟨⟨x0, x1, x2, x3, x4, x5, x6, x7, x8, x9, x10, x11, x12, x13⟩, rfl⟩
theorem walkLeaseVerdicts (vs : List V) (H : Heap) (hg : Givens H 1 [.agg [.i .i64, .s, .i .i64, .i .i64, .i .i64, .i .i64, .s, .i .i64, .i .i64, .i .i64, .s, .s, .s, .s], .one .s, .one (.i .i64)] vs) (_ : ∀ id o, H id = some o → o.rw = false) : CallsC Tryd.prog nlaw21_LeaseVerdicts vs H fun v _ => v = .bool true := by
  obtain ⟨v, vs, rfl, ⟨cs, rfl, h0⟩, hg1⟩ := hg.cons
  obtain ⟨w, vs, rfl, ⟨p, rfl, _⟩, hg2⟩ := hg1.cons
  obtain ⟨w, vs, rfl, ⟨n, rfl, _⟩, hg3⟩ := hg2.cons
  obtain rfl := hg3.nil
  obtain ⟨e, rfl⟩ := entOf h0
  exact (CallsR.reads (R := []) (verdicts_prog e p n) (Has.nil H)).mono fun _ _ h => h.1
end Go.Proofs.YtelgcaacaolgfaaDoor
