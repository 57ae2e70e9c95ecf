/-
  diff: DiffApplies.
-/
import Derived.Test.YtebhddpildfgcaaDiffI
namespace Go.Proofs.Ytebhddpildfgcaa
open Go Go.CM
set_option maxRecDepth 100000
set_option maxHeartbeats 4000000

theorem applies_prog (s t : Nat) (b b' : Bool) (l : List Entry) (r : List Rec) : CallsR Try.prog nlaw43_DiffApplies [.slice s 0 l.length 14, .slice t 0 r.length 15] [EL s b l, RL t b' r] fun v => v = .bool true := by
  have ha := awake_prog
  have hs1 := small19_prog s b l
  have hs2 := small18_prog t b' r
  refine slaw43_DiffApplies fun H hh => ?_
  dsimp only [claw43_DiffApplies]
  refine walk1 (k := ?_)
  repeat' first | refine And.intro ?_ ?_ | intro
  all_goals refine leaf ?_
  refine callE (ha) ?_
  refine walk1 (k := ?_)
  repeat' first | refine And.intro ?_ ?_ | intro
  all_goals refine leaf ?_
  refine callR (hs1) ?_
  rintro v ⟨c1, rfl, hc1⟩
  cases c1 with
  | false =>
    refine walk1 (k := ?_)
    repeat' first | refine And.intro ?_ ?_ | intro
    all_goals refine leaf ?_
    exact doneR rfl
  | true =>
    refine walk1 (k := ?_)
    repeat' first | refine And.intro ?_ ?_ | intro
    all_goals refine leaf ?_
    refine callR (hs2) ?_
    rintro v ⟨c2, rfl, hc2⟩
    cases c2 with
    | false =>
      refine walk1 (k := ?_)
      repeat' first | refine And.intro ?_ ?_ | intro
      all_goals refine leaf ?_
      exact doneR rfl
    | true =>
      have hl := hc1 rfl
      have hr := hc2 rfl
      have hle := applyL_le r (srtL l)
      have h1 := srtL_le l
      refine walk1 (k := ?_)
      repeat' first | refine And.intro ?_ ?_ | intro
      all_goals refine leaf ?_
      refine callN (dapply_prog s t b b' l r (by omega) (by omega)) ?_
      rintro v Lo H' ⟨o, rfl, rfl⟩ hh
      refine walk1 (k := ?_)
      repeat' first | refine And.intro ?_ ?_ | intro
      all_goals refine leaf ?_
      refine callN (rapply_prog s t b b' l r (by omega) (by omega)) ?_
      rintro v Lo H' ⟨o2, rfl, rfl⟩ hh
      refine walk1 (k := ?_)
      repeat' first | refine And.intro ?_ ?_ | intro
      all_goals refine leaf ?_
      refine callE (rsameE_prog o o2 true true (applyL (srtL l) r) (applyL (srtL l) r) (by omega)) ?_
      refine walk1 (k := ?_)
      repeat' first | refine And.intro ?_ ?_ | intro
      all_goals refine leaf ?_
      exact doneR (by simp)
theorem recOfCK {cs : List V} (h : Fits (.i .i64 :: entCK) cs) : ∃ j : Rec, cs = j.enc := by
  obtain ⟨_, _, rfl, ⟨a, rfl, _⟩, h1⟩ := h.cons
  obtain ⟨e, rfl⟩ := entOf h1
  exact ⟨⟨a, e⟩, rfl⟩
theorem walkDiffApplies (vs : List V) (H : Heap) (hg : Givens H 1 [.rows [.i .i64, .s, .i .i64, .i .i64, .i .i64, .i .i64, .s, .i .i64, .i .i64, .i .i64, .s, .s, .s, .s], .rows [.i .i64, .i .i64, .s, .i .i64, .i .i64, .i .i64, .i .i64, .s, .i .i64, .i .i64, .i .i64, .s, .s, .s, .s]] vs) (_ : ∀ id o, H id = some o → o.rw = false) : CallsC Try.prog nlaw43_DiffApplies vs H fun v _ => v = .bool true := by
  obtain ⟨_, vs, rfl, ⟨rs, hf, hlen, hr⟩, hg2⟩ := hg.cons
  obtain ⟨_, vs, rfl, ⟨rs2, hf2, hlen2, hr2⟩, hg3⟩ := hg2.cons
  obtain rfl := hg3.nil
  obtain ⟨l, rfl⟩ := rowsOf Entry.enc (fun r hr => entOf (hf r hr))
  obtain ⟨r, rfl⟩ := rowsOf Rec.enc (fun r hr => recOfCK (hf2 r hr))
  obtain ⟨s, rfl, hs1, hs⟩ := givenRowsA hr
  obtain ⟨t, rfl, ht1, ht⟩ := givenRowsA hr2
  have hh := hs _ (ht [] (Has.nil H) (by simp)) (by simp; omega)
  exact (CallsR.reads (R := []) (applies_prog s t false false l r) hh).mono fun _ _ h => h.1
end Go.Proofs.Ytebhddpildfgcaa
