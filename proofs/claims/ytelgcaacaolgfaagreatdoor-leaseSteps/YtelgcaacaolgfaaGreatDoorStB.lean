/-
  What each step makes of any entry is the document's, and may be.
-/
import Derived.Test.YtelgcaacaolgfaaGreatDoorDoB
import Derived.Test.YtelgcaacaolgfaaGreatDoorStC
import Derived.Test.YtelgcaacaolgfaaGreatDoorCmE
namespace Go.Proofs.YtelgcaacaolgfaaGreatDoor
open Go Go.CM
set_option maxRecDepth 100000
set_option maxHeartbeats 4000000

theorem steps_prog (e : Entry) (d : Deed) (c : Conf) (hd : 0 ≤ d.kind ∧ d.kind ≤ 255) : CallsR Tryz.prog nlaw21_LeaseSteps [.agg e.enc, .agg d.enc, .agg c.enc] [] fun v => v = .bool true := by
  have h0 := awake_prog
  have h1 := small21_prog e d
  have h2 := fun hs => do_prog e d c hd hs
  have h3 := fun hk hq => want_prog e d c hd hk hq
  have h4 : (doL e d c).2 = 0 → CallsR Tryz.prog nentry_May [.agg (doL e d c).1.enc] [] fun v => v = .bool true := fun h => by
    have := may_prog (doL e d c).1 (may_small (doL_may h))
    rwa [decide_eq_true (doL_may h)] at this
  generalize doL e d c = X at *
  unfold stV at h2 h3
  have hee : eqV (.agg [.i, .s, .i, .i, .i, .i, .s, .i, .i, .i, .s, .s, .s, .s]) (.agg X.1.enc) (.agg X.1.enc) = some true := by
    rw [show eqV (.agg [.i, .s, .i, .i, .i, .i, .s, .i, .i, .i, .s, .s, .s, .s]) (.agg X.1.enc) (.agg X.1.enc) = some (entB X.1 X.1) from rfl, entB_eq, decide_eq_true rfl]
  unfold Entry.enc Deed.enc Conf.enc at *
  refine slaw21_LeaseSteps fun H hh => ?_
  dsimp only [claw21_LeaseSteps]
  refine walk1 (k := ?_)
  repeat' first | refine And.intro ?_ ?_ | intro
  all_goals refine leaf ?_
  refine callE (h0) ?_
  refine walk1 (k := ?_)
  repeat' first | refine And.intro ?_ ?_ | intro
  all_goals refine leaf ?_
  refine callR (h1) ?_
  rintro v ⟨b, rfl, hb⟩
  cases b with
  | false =>
    refine walk1 (k := ?_)
    repeat' first | refine And.intro ?_ ?_ | intro
    all_goals refine leaf ?_
    exact doneR rfl
  | true =>
    obtain ⟨hse, hsd⟩ := hb rfl
    have h2 := h2 (by show _ + _ + _ ≤ _; omega)
    have h3 := h3 (by omega) (by omega)
    refine walk1 (k := ?_)
    repeat' first | refine And.intro ?_ ?_ | intro
    all_goals refine leaf ?_
    refine callE (h2) ?_
    refine walk1 (k := ?_)
    repeat' first | refine And.intro ?_ ?_ | intro
    all_goals refine leaf ?_
    refine callE (h3) ?_
    refine walk1 (k := ?_)
    repeat' first | refine And.intro ?_ ?_ | intro
    all_goals refine leaf ?_
    refine wps_slot (s := 34) (v := .bool true) (by show V.bool (entB X.1 X.1) = _; rw [entB_eq, decide_eq_true rfl]) ?_
    refine walk1 (k := ?_)
    repeat' first | refine And.intro ?_ ?_ | intro
    all_goals refine leaf ?_
    refine wps_slot (s := 39) (v := .bool true) (by show V.bool _ = _; simp) ?_
    refine walk (k := ?_)
    repeat' first | refine And.intro ?_ ?_ | intro
    all_goals refine leaf ?_
    · exact doneR rfl
    · rename_i hz
      have h4 := h4 (by omega)
      refine callE (h4) ?_
      refine walk1 (k := ?_)
      repeat' first | refine And.intro ?_ ?_ | intro
      all_goals refine leaf ?_
      exact doneR rfl
theorem walkLeaseSteps (vs : List V) (H : Heap) (hg : Givens H 1 [.agg [.i .i64, .s, .i .i64, .i .i64, .i .i64, .i .i64, .s, .i .i64, .i .i64, .i .i64, .s, .s, .s, .s], .agg [.i .u8, .b, .i .i64, .i .i64, .i .i64, .s, .i .i64, .i .i64, .i .i64, .s, .s, .s, .s], .agg [.i .i64, .i .i64, .i .i64, .i .i64, .i .i64, .i .i64]] vs) (_ : ∀ id o, H id = some o → o.rw = false) : CallsC Tryz.prog nlaw21_LeaseSteps vs H fun v _ => v = .bool true := by
  obtain ⟨v, vs, rfl, ⟨cs, rfl, h0⟩, hg1⟩ := hg.cons
  obtain ⟨w, vs, rfl, ⟨cs2, rfl, h2⟩, hg2⟩ := hg1.cons
  obtain ⟨w, vs, rfl, ⟨cs3, rfl, h3⟩, hg3⟩ := hg2.cons
  obtain rfl := hg3.nil
  obtain ⟨e, rfl⟩ := entOf h0
  obtain ⟨d, rfl, hd⟩ := deedOf h2
  obtain ⟨c, rfl⟩ := confOf h3
  exact (CallsR.reads (R := []) (steps_prog e d c hd) (Has.nil H)).mono fun _ _ h => h.1
end Go.Proofs.YtelgcaacaolgfaaGreatDoor
