/-
  diff: DiffLeast.
-/
import Derived.Test.YtebhddpildfgcaaDiffJ
namespace Go.Proofs.Ytebhddpildfgcaa
open Go Go.CM
set_option maxRecDepth 100000
set_option maxHeartbeats 4000000

/-- A name of which no record tells stays. -/
theorem step_other {Z : List Entry} (hZ : Srt Z) (r : Rec) {n : Nm} (h : enm r.e ≠ n) : getL (stepL Z r) n = getL Z n := by
  unfold stepL
  split
  · rw [getL_put hZ, if_neg h]
  · split
    · rw [getL_drop hZ, if_neg h]
    · rfl
theorem stepL_srt {Z : List Entry} (hZ : Srt Z) (r : Rec) : Srt (stepL Z r) := by
  unfold stepL
  split
  · exact hZ.put _
  · split
    · exact hZ.drp _
    · exact hZ
theorem apply_other : ∀ (rs : List Rec) {Z : List Entry} {n : Nm}, Srt Z → (∀ r ∈ rs, enm r.e ≠ n) → getL (applyL Z rs) n = getL Z n
  | [], _, _, _, _ => rfl
  | r :: rs, Z, n, hZ, h => by
    have h1 := apply_other rs (stepL_srt hZ r) (fun x hx => h x (List.mem_cons_of_mem _ hx))
    exact h1.trans (step_other hZ r (h r (by simp)))
theorem recs_few (X Y : List Entry) : ∀ (ns ms : List Nm), ns.Nodup → (∀ n ∈ ns, recOf X Y n ≠ [] → n ∈ ms) → (ns.flatMap (recOf X Y)).length ≤ ms.length
  | [], _, _, _ => Nat.zero_le _
  | n :: ns, ms, hnd, h => by
    have hnd' := List.nodup_cons.1 hnd
    rw [List.flatMap_cons, List.length_append]
    have h1 := recOf_le X Y n
    by_cases h0 : recOf X Y n = []
    · have := recs_few X Y ns ms hnd'.2 fun m hm => h m (List.mem_cons_of_mem _ hm)
      rw [h0]; simpa using this
    · have hn := h n (by simp) h0
      have := recs_few X Y ns (ms.erase n) hnd'.2 fun m hm hr => (List.mem_erase_of_ne fun e : m = n => hnd'.1 (e ▸ hm)).2 (h m (List.mem_cons_of_mem _ hm) hr)
      rw [List.length_erase_of_mem hn] at this
      have := List.length_pos_of_mem hn
      omega
theorem recOf_diff {X Y : List Entry} {n : Nm} (hn : n ∈ X.map enm ∨ n ∈ Y.map enm) (h : recOf X Y n ≠ []) : getL X n ≠ getL Y n := by
  intro he
  unfold recOf at h
  rw [he] at h
  cases hy : getL Y n with
  | none =>
    rw [hy] at he
    rcases hn with h1 | h1
    · obtain ⟨e, h2, h3⟩ := List.mem_map.1 h1
      exact getL_none.1 he e h2 h3
    · obtain ⟨e, h2, h3⟩ := List.mem_map.1 h1
      exact getL_none.1 hy e h2 h3
  | some e => rw [hy] at h; simp at h
/-- No fewer records make the same. -/
theorem least {X Y : List Entry} {ns : List Nm} (hX : Srt X) (hY : Srt Y) (h : BothN X Y ns) (rs : List Rec) (ha : applyL X rs = Y) : (mergeR X Y).length ≤ rs.length := by
  obtain ⟨hs, hm, _⟩ := h
  rw [← makeN_merge X Y ns hX hY hs hm, show rs.length = (rs.map fun r : Rec => enm r.e).length by rw [List.length_map]]
  refine recs_few X Y ns _ hs.nodup fun n hn hr => ?_
  have hd := recOf_diff ((hm n).1 hn) hr
  refine Classical.byContradiction fun hc => hd ?_
  rw [← ha]
  exact (apply_other rs hX fun r hr e => hc (List.mem_map.2 ⟨r, hr, e⟩)).symm

theorem least_prog (s t u : Nat) (b b' b3 : Bool) (l r : List Entry) (q : List Rec) : CallsR Try.prog nlaw43_DiffLeast [.slice s 0 l.length 14, .slice t 0 r.length 14, .slice u 0 q.length 15] [EL s b l, EL t b' r, RL u b3 q] fun v => v = .bool true := by
  have ha := awake_prog
  have hs1 := small19_prog s b l
  have hs2 := small19_prog t b' r
  have hs3 := small18_prog u b3 q
  refine slaw43_DiffLeast fun H hh => ?_
  dsimp only [claw43_DiffLeast]
  refine walk1 (k := ?_)
  repeat' first | refine And.intro ?_ ?_ | intro
  all_goals refine leaf ?_
  refine callE (ha) ?_
  refine walk1 (k := ?_)
  repeat' first | refine And.intro ?_ ?_ | intro
  all_goals refine leaf ?_
  refine callR (hs1) ?_
  rintro v ⟨c1, rfl, hc1⟩
  cases c1 with
  | false =>
    refine walk1 (k := ?_)
    repeat' first | refine And.intro ?_ ?_ | intro
    all_goals refine leaf ?_
    exact doneR rfl
  | true =>
    refine walk1 (k := ?_)
    repeat' first | refine And.intro ?_ ?_ | intro
    all_goals refine leaf ?_
    refine callR (hs2) ?_
    rintro v ⟨c2, rfl, hc2⟩
    cases c2 with
    | false =>
      refine walk1 (k := ?_)
      repeat' first | refine And.intro ?_ ?_ | intro
      all_goals refine leaf ?_
      exact doneR rfl
    | true =>
      refine walk1 (k := ?_)
      repeat' first | refine And.intro ?_ ?_ | intro
      all_goals refine leaf ?_
      refine callR (hs3) ?_
      rintro v ⟨c3, rfl, hc3⟩
      cases c3 with
      | false =>
        refine walk1 (k := ?_)
        repeat' first | refine And.intro ?_ ?_ | intro
        all_goals refine leaf ?_
        exact doneR rfl
      | true =>
        have hl := hc1 rfl
        have hr := hc2 rfl
        have hq := hc3 rfl
        have hXs : Srt (srtL l) := putsL_srt .nil
        have hYs : Srt (srtL r) := putsL_srt .nil
        obtain ⟨ns, hns⟩ := bothN_ex (srtL l) (srtL r)
        have hle := least hXs hYs hns q
        have hml := mergeR_len (srtL l) (srtL r)
        have h1 := srtL_le l
        have h2 := srtL_le r
        have m1 := dmake_prog s t b b' l r (by omega) (by omega)
        have h3 := applyL_le q (srtL l)
        refine walk1 (k := ?_)
        repeat' first | refine And.intro ?_ ?_ | intro
        all_goals refine leaf ?_
        refine callN (m1) ?_
        rintro v Lo H' ⟨o, rfl, rfl⟩ hh
        by_cases hn : (mergeR (srtL l) (srtL r)).length ≤ q.length
        · skip
          refine walk1 (k := ?_)
          repeat' first | refine And.intro ?_ ?_ | intro
          all_goals refine leaf ?_
          refine wps_slot (s := 31) (v := .bool true) (by show V.bool _ = _; simp; omega) ?_
          refine walk1 (k := ?_)
          repeat' first | refine And.intro ?_ ?_ | intro
          all_goals refine leaf ?_
          exact doneR rfl
        · skip
          refine walk1 (k := ?_)
          repeat' first | refine And.intro ?_ ?_ | intro
          all_goals refine leaf ?_
          refine wps_slot (s := 31) (v := .bool false) (by show V.bool _ = _; simp; omega) ?_
          refine walk1 (k := ?_)
          repeat' first | refine And.intro ?_ ?_ | intro
          all_goals refine leaf ?_
          refine callN (rapply_prog s u b b3 l q (by omega) (by omega)) ?_
          rintro v Lo H' ⟨o2, rfl, rfl⟩ hh
          refine walk1 (k := ?_)
          repeat' first | refine And.intro ?_ ?_ | intro
          all_goals refine leaf ?_
          refine callN (rsorted_prog t b' r (by omega)) ?_
          rintro v Lo H' ⟨o4, rfl, rfl⟩ hh
          refine walk1 (k := ?_)
          repeat' first | refine And.intro ?_ ?_ | intro
          all_goals refine leaf ?_
          refine callE (rsameE_prog o2 o4 true true (applyL (srtL l) q) (srtL r) (by omega)) ?_
          refine walk1 (k := ?_)
          repeat' first | refine And.intro ?_ ?_ | intro
          all_goals refine leaf ?_
          refine doneR ?_
          rw [decide_eq_false fun e => hn (hle e)]
          rfl
theorem walkDiffLeast (vs : List V) (H : Heap) (hg : Givens H 1 [.rows entCK, .rows entCK, .rows (.i .i64 :: entCK)] vs) (_ : ∀ id o, H id = some o → o.rw = false) : CallsC Try.prog nlaw43_DiffLeast vs H fun v _ => v = .bool true := by
  obtain ⟨_, vs, rfl, ⟨rs, hf, hlen, hr⟩, hg2⟩ := hg.cons
  obtain ⟨_, vs, rfl, ⟨rs2, hf2, hlen2, hr2⟩, hg3⟩ := hg2.cons
  obtain ⟨_, vs, rfl, ⟨rs3, hf3, hlen3, hr3⟩, hg4⟩ := hg3.cons
  obtain rfl := hg4.nil
  obtain ⟨l, rfl⟩ := rowsOf Entry.enc (fun r hr => entOf (hf r hr))
  obtain ⟨r, rfl⟩ := rowsOf Entry.enc (fun r hr => entOf (hf2 r hr))
  obtain ⟨q, rfl⟩ := rowsOf Rec.enc (fun r hr => recOfCK (hf3 r hr))
  obtain ⟨s, rfl, hs1, hs⟩ := givenRowsA hr
  obtain ⟨t, rfl, ht1, ht⟩ := givenRowsA hr2
  obtain ⟨u, rfl, hu1, hu⟩ := givenRowsA hr3
  have hh := hs _ (ht _ (hu [] (Has.nil H) (by simp)) (by simp; omega)) (by simp; omega)
  exact (CallsR.reads (R := []) (least_prog s t u false false false l r q) hh).mono fun _ _ h => h.1
end Go.Proofs.Ytebhddpildfgcaa
