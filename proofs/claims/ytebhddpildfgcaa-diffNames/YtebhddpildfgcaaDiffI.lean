/-
  diff: DiffMakes.
-/
import Derived.Test.YtebhddpildfgcaaDiffF
import Derived.Test.YtebhddpildfgcaaDiffH
namespace Go.Proofs.Ytebhddpildfgcaa
open Go Go.CM
set_option maxRecDepth 100000
set_option maxHeartbeats 4000000

theorem makes_prog (s t : Nat) (b b' : Bool) (l r : List Entry) : CallsR Try.prog nlaw43_DiffMakes [.slice s 0 l.length 14, .slice t 0 r.length 14] [EL s b l, EL t b' r] fun v => v = .bool true := by
  have ha := awake_prog
  have hs1 := small19_prog s b l
  have hs2 := small19_prog t b' r
  refine slaw43_DiffMakes fun H hh => ?_
  dsimp only [claw43_DiffMakes]
  refine walk1 (k := ?_)
  repeat' first | refine And.intro ?_ ?_ | intro
  all_goals refine leaf ?_
  refine callE (ha) ?_
  refine walk1 (k := ?_)
  repeat' first | refine And.intro ?_ ?_ | intro
  all_goals refine leaf ?_
  refine callR (hs1) ?_
  rintro v ⟨c1, rfl, hc1⟩
  cases c1 with
  | false =>
    refine walk1 (k := ?_)
    repeat' first | refine And.intro ?_ ?_ | intro
    all_goals refine leaf ?_
    exact doneR rfl
  | true =>
    refine walk1 (k := ?_)
    repeat' first | refine And.intro ?_ ?_ | intro
    all_goals refine leaf ?_
    refine callR (hs2) ?_
    rintro v ⟨c2, rfl, hc2⟩
    cases c2 with
    | false =>
      refine walk1 (k := ?_)
      repeat' first | refine And.intro ?_ ?_ | intro
      all_goals refine leaf ?_
      exact doneR rfl
    | true =>
      have hl := hc1 rfl
      have hr := hc2 rfl
      have hXs : Srt (srtL l) := putsL_srt .nil
      have hYs : Srt (srtL r) := putsL_srt .nil
      obtain ⟨ns, hns⟩ := bothN_ex (srtL l) (srtL r)
      have hap := apply_make hXs hYs hns
      have hml := mergeR_len (srtL l) (srtL r)
      have h1 := srtL_le l
      have h2 := srtL_le r
      have m1 := dmake_prog s t b b' l r (by omega) (by omega)
      have m2 := rmake_prog s t b b' l r (by omega) (by omega)
      refine walk1 (k := ?_)
      repeat' first | refine And.intro ?_ ?_ | intro
      all_goals refine leaf ?_
      refine callN (m1) ?_
      rintro v Lo H' ⟨o, rfl, rfl⟩ hh
      refine walk1 (k := ?_)
      repeat' first | refine And.intro ?_ ?_ | intro
      all_goals refine leaf ?_
      refine callN (m2) ?_
      rintro v Lo H' ⟨o2, rfl, rfl⟩ hh
      refine walk1 (k := ?_)
      repeat' first | refine And.intro ?_ ?_ | intro
      all_goals refine leaf ?_
      refine callE (rsameR_prog o o2 true true (mergeR (srtL l) (srtL r)) (mergeR (srtL l) (srtL r)) (by omega)) ?_
      refine walk1 (k := ?_)
      repeat' first | refine And.intro ?_ ?_ | intro
      all_goals refine leaf ?_
      refine wps_slot (s := 24) (v := .bool true) (by show V.bool _ = _; simp) ?_
      refine walk1 (k := ?_)
      repeat' first | refine And.intro ?_ ?_ | intro
      all_goals refine leaf ?_
      have m3 := dapply_prog s o b true l (mergeR (srtL l) (srtL r)) (by omega) (by omega)
      rw [hap] at m3
      refine callN (m3) ?_
      rintro v Lo H' ⟨o3, rfl, rfl⟩ hh
      refine walk1 (k := ?_)
      repeat' first | refine And.intro ?_ ?_ | intro
      all_goals refine leaf ?_
      refine callN (rsorted_prog t b' r (by omega)) ?_
      rintro v Lo H' ⟨o4, rfl, rfl⟩ hh
      refine walk1 (k := ?_)
      repeat' first | refine And.intro ?_ ?_ | intro
      all_goals refine leaf ?_
      refine callE (rsameE_prog o3 o4 true true (srtL r) (srtL r) (by omega)) ?_
      refine walk1 (k := ?_)
      repeat' first | refine And.intro ?_ ?_ | intro
      all_goals refine leaf ?_
      refine wps_slot (s := 32) (v := .bool true) (by show V.bool _ = _; simp) ?_
      refine walk1 (k := ?_)
      repeat' first | refine And.intro ?_ ?_ | intro
      all_goals refine leaf ?_
      have m5 := dmake2_prog t b' r (by omega)
      rw [merge_self] at m5
      refine callN (m5) ?_
      rintro v Lo H' ⟨o5, rfl, rfl⟩ hh
      refine walk1 (k := ?_)
      repeat' first | refine And.intro ?_ ?_ | intro
      all_goals refine leaf ?_
      exact doneR rfl
abbrev entCK : List CK := [.i .i64, .s, .i .i64, .i .i64, .i .i64, .i .i64, .s, .i .i64, .i .i64, .i .i64, .s, .s, .s, .s]
theorem entOf {cs : List V} (h : Fits entCK cs) : ∃ j : Entry, cs = j.enc := by
  obtain ⟨_, _, rfl, ⟨xa, rfl, _⟩, h0⟩ := h.cons
  obtain ⟨_, _, rfl, ⟨xb, rfl, _⟩, h1⟩ := h0.cons
  obtain ⟨_, _, rfl, ⟨xc, rfl, _⟩, h2⟩ := h1.cons
  obtain ⟨_, _, rfl, ⟨xd, rfl, _⟩, h3⟩ := h2.cons
  obtain ⟨_, _, rfl, ⟨xe, rfl, _⟩, h4⟩ := h3.cons
  obtain ⟨_, _, rfl, ⟨xf, rfl, _⟩, h5⟩ := h4.cons
  obtain ⟨_, _, rfl, ⟨xg, rfl, _⟩, h6⟩ := h5.cons
  obtain ⟨_, _, rfl, ⟨xh, rfl, _⟩, h7⟩ := h6.cons
  obtain ⟨_, _, rfl, ⟨xi, rfl, _⟩, h8⟩ := h7.cons
  obtain ⟨_, _, rfl, ⟨xj, rfl, _⟩, h9⟩ := h8.cons
  obtain ⟨_, _, rfl, ⟨xk, rfl, _⟩, h10⟩ := h9.cons
  obtain ⟨_, _, rfl, ⟨xl, rfl, _⟩, h11⟩ := h10.cons
  obtain ⟨_, _, rfl, ⟨xm, rfl, _⟩, h12⟩ := h11.cons
  obtain ⟨_, _, rfl, ⟨xn, rfl, _⟩, h13⟩ := h12.cons
  obtain rfl := h13.nil
  exact ⟨⟨xa, xb, xc, xd, xe, xf, xg, xh, xi, xj, xk, xl, xm, xn⟩, rfl⟩
theorem walkDiffMakes (vs : List V) (H : Heap) (hg : Givens H 1 [.rows [.i .i64, .s, .i .i64, .i .i64, .i .i64, .i .i64, .s, .i .i64, .i .i64, .i .i64, .s, .s, .s, .s], .rows [.i .i64, .s, .i .i64, .i .i64, .i .i64, .i .i64, .s, .i .i64, .i .i64, .i .i64, .s, .s, .s, .s]] vs) (_ : ∀ id o, H id = some o → o.rw = false) : CallsC Try.prog nlaw43_DiffMakes vs H fun v _ => v = .bool true := by
  obtain ⟨_, vs, rfl, ⟨rs, hf, hlen, hr⟩, hg2⟩ := hg.cons
  obtain ⟨_, vs, rfl, ⟨rs2, hf2, hlen2, hr2⟩, hg3⟩ := hg2.cons
  obtain rfl := hg3.nil
  obtain ⟨l, rfl⟩ := rowsOf Entry.enc (fun r hr => entOf (hf r hr))
  obtain ⟨r, rfl⟩ := rowsOf Entry.enc (fun r hr => entOf (hf2 r hr))
  obtain ⟨s, rfl, hs1, hs⟩ := givenRowsA hr
  obtain ⟨t, rfl, ht1, ht⟩ := givenRowsA hr2
  have hh := hs _ (ht [] (Has.nil H) (by simp)) (by simp; omega)
  exact (CallsR.reads (R := []) (makes_prog s t false false l r) hh).mono fun _ _ h => h.1
end Go.Proofs.Ytebhddpildfgcaa
