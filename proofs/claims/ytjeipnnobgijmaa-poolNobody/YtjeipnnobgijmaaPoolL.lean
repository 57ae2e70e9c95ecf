/-
  The statements about the pool: nobody's, and every run.
-/
import Derived.Test.YtjeipnnobgijmaaPoolR
namespace Go.Proofs.Ytjeipnnobgijmaa
open Go Go.CM
set_option maxRecDepth 100000
set_option maxHeartbeats 4000000

theorem awake30_prog : CallsR Try.prog nlaw30_awake [] [] fun u => u = .bool true := by
  refine slaw30_awake fun H hh => ?_
  dsimp only [claw30_awake]
  refine walk (k := ?_)
  repeat' first | refine And.intro ?_ ?_ | intro
  all_goals refine leaf ?_
  refine callL (new_prog 1) ?_
  rintro _ _ H' ⟨p, s, rfl, rfl⟩ hh
  rw [show List.replicate (clampN 1) (none : Option (Nat × Job)) = [none] from rfl] at hh
  refine walk (k := ?_)
  repeat' first | refine And.intro ?_ ?_ | intro
  all_goals refine leaf ?_
  refine callL (give_prog p s [none] (by decide) ⟨0, 0, 0, [107], 0, 0, false, 0⟩) ?_
  rintro _ _ H' ⟨id, rfl, rfl⟩ hh
  refine walk (k := ?_)
  repeat' first | refine And.intro ?_ ?_ | intro
  all_goals refine leaf ?_
  refine callL (give_prog p s [some (id, ⟨0, 0, 0, [107], 0, 0, false, 0⟩)] (by simp) ⟨0, 0, 0, [106], 0, 0, false, 0⟩) ?_
  rintro _ _ H' ⟨id', rfl, rfl⟩ hh
  refine walk (k := ?_)
  repeat' first | refine And.intro ?_ ?_ | intro
  all_goals refine leaf ?_
  have hg := get_prog p s [some (id, ⟨0, 0, 0, [107], 0, 0, false, 0⟩)] 0
  rw [show getJ [some (id, (⟨0, 0, 0, [107], 0, 0, false, 0⟩ : Job))] 0 = some ⟨0, 0, 0, [107], 0, 0, false, 0⟩ by simp [getJ, nth_zero]] at hg
  refine callE (hg) ?_
  refine walk (k := ?_)
  repeat' first | refine And.intro ?_ ?_ | intro
  all_goals refine leaf ?_
  refine callE (len_prog p s [some (id, ⟨0, 0, 0, [107], 0, 0, false, 0⟩)]) ?_
  refine walk (k := ?_)
  repeat' first | refine And.intro ?_ ?_ | intro
  all_goals refine leaf ?_
  refine callE (free_prog p s [some (id, ⟨0, 0, 0, [107], 0, 0, false, 0⟩)] (by simp)) ?_
  refine walk (k := ?_)
  repeat' first | refine And.intro ?_ ?_ | intro
  all_goals refine leaf ?_
  exact doneR rfl

theorem nobody_prog (j : Job) (w : Int) : CallsR Try.prog nlaw30_PoolNobody [.agg j.enc, .int .i64 w] [] fun u => u = .bool true := by
  refine slaw30_PoolNobody fun H hh => ?_
  dsimp only [claw30_PoolNobody]
  refine walk (k := ?_)
  repeat' first | refine And.intro ?_ ?_ | intro
  all_goals refine leaf ?_
  refine callE (awake30_prog) ?_
  refine walk (k := ?_)
  repeat' first | refine And.intro ?_ ?_ | intro
  all_goals refine leaf ?_
  refine callE (give_nil j) ?_
  refine walk (k := ?_)
  repeat' first | refine And.intro ?_ ?_ | intro
  all_goals refine leaf ?_
  refine callE (get_nil w) ?_
  refine walk (k := ?_)
  repeat' first | refine And.intro ?_ ?_ | intro
  all_goals refine leaf ?_
  refine callE (set_nil w j) ?_
  refine walk (k := ?_)
  repeat' first | refine And.intro ?_ ?_ | intro
  all_goals refine leaf ?_
  refine callE (done_nil w) ?_
  refine walk (k := ?_)
  repeat' first | refine And.intro ?_ ?_ | intro
  all_goals refine leaf ?_
  refine callE (len_nil) ?_
  refine walk (k := ?_)
  repeat' first | refine And.intro ?_ ?_ | intro
  all_goals refine leaf ?_
  refine callE (free_nil) ?_
  refine walk (k := ?_)
  repeat' first | refine And.intro ?_ ?_ | intro
  all_goals refine leaf ?_
  refine callE (for_nil ⟨0, [], 0, 0, 0, 0⟩) ?_
  refine walk (k := ?_)
  repeat' first | refine And.intro ?_ ?_ | intro
  all_goals refine leaf ?_
  refine callE (all_nil) ?_
  refine walk (k := ?_)
  repeat' first | refine And.intro ?_ ?_ | intro
  all_goals refine leaf ?_
  exact doneR rfl

structure Deed where
  kind : Int
  worker : Int
  job : Job
  deriving Inhabited
def Deed.enc (d : Deed) : List V := .int .u8 d.kind :: .int .i64 d.worker :: d.job.enc

theorem jobOf {cs : List V} (h : Fits [.i .i64, .i .i64, .i .i64, .s, .i .i64, .i .i64, .b, .i .i64] cs) : ∃ j : Job, cs = j.enc := by
  obtain ⟨_, _, rfl, ⟨a, rfl, _⟩, h1⟩ := h.cons
  obtain ⟨_, _, rfl, ⟨b, rfl, _⟩, h2⟩ := h1.cons
  obtain ⟨_, _, rfl, ⟨c, rfl, _⟩, h3⟩ := h2.cons
  obtain ⟨_, _, rfl, ⟨d, rfl, _⟩, h4⟩ := h3.cons
  obtain ⟨_, _, rfl, ⟨e, rfl, _⟩, h5⟩ := h4.cons
  obtain ⟨_, _, rfl, ⟨f, rfl, _⟩, h6⟩ := h5.cons
  obtain ⟨_, _, rfl, ⟨g, rfl⟩, h7⟩ := h6.cons
  obtain ⟨_, _, rfl, ⟨p, rfl, _⟩, h8⟩ := h7.cons
  obtain rfl := h8.nil
  exact ⟨⟨a, b, c, d, e, f, g, p⟩, rfl⟩
theorem replyOf {cs : List V} (h : Fits [.i .i64, .s, .i .i64, .i .i64, .i .i64, .i .i64] cs) : ∃ j : Reply, cs = j.enc := by
  obtain ⟨_, _, rfl, ⟨a, rfl, _⟩, h1⟩ := h.cons
  obtain ⟨_, _, rfl, ⟨b, rfl, _⟩, h2⟩ := h1.cons
  obtain ⟨_, _, rfl, ⟨c, rfl, _⟩, h3⟩ := h2.cons
  obtain ⟨_, _, rfl, ⟨d, rfl, _⟩, h4⟩ := h3.cons
  obtain ⟨_, _, rfl, ⟨e, rfl, _⟩, h5⟩ := h4.cons
  obtain ⟨_, _, rfl, ⟨f, rfl, _⟩, h6⟩ := h5.cons
  obtain rfl := h6.nil
  exact ⟨⟨a, b, c, d, e, f⟩, rfl⟩
theorem deedOf {cs : List V} (h : Fits [.i .u8, .i .i64, .i .i64, .i .i64, .i .i64, .s, .i .i64, .i .i64, .b, .i .i64] cs) : ∃ j : Deed, cs = j.enc := by
  obtain ⟨_, _, rfl, ⟨a, rfl, _⟩, h1⟩ := h.cons
  obtain ⟨_, _, rfl, ⟨b, rfl, _⟩, h2⟩ := h1.cons
  obtain ⟨j, rfl⟩ := jobOf h2
  exact ⟨⟨a, b, j⟩, rfl⟩
theorem first_map (jobs : Jobs) : firstS (jobs.map slotOf) = firstR jobs := by
  rw [firstS, firstR, List.findIdx?_map]
  congr 1; funext o; rcases o with _ | ⟨_, _⟩ <;> rfl
theorem for_map (jobs : Jobs) (r : Reply) : forS (jobs.map slotOf) r = forR jobs r := by
  rw [forS, forR, List.findIdx?_map]
  congr 1; funext o; rcases o with _ | ⟨_, _⟩ <;> rfl
theorem all_map (jobs : Jobs) : allS (jobs.map slotOf) = allR jobs := by
  rw [allS, allR, List.filterMap_map]
  congr 1; funext o; rcases o with _ | ⟨_, _⟩ <;> rfl
theorem has_map (jobs : Jobs) (w : Int) : hasS (jobs.map slotOf) w = hasR jobs w := by
  unfold hasS hasR
  rw [List.length_map]
  split
  · rw [nth_map slotOf (by omega)]
    rcases nth jobs w.toNat with _ | ⟨_, _⟩ <;> rfl
  · rfl

theorem natV_int (o : Option Nat) : ∃ z, natV o = .int .i64 z := by rcases o with _ | k <;> exact ⟨_, rfl⟩
theorem map_set_len (jobs : Jobs) (k : Nat) (o : Option (Nat × Job)) : ((jobs.set k o).map slotOf).length = (jobs.map slotOf).length := by simp

theorem runs_prog (n : Int) (t : Nat) (b : Bool) (l : List Deed) (r : Reply) : CallsR Try.prog nlaw30_PoolRuns [.int .i64 n, .slice t 0 l.length 10, .agg r.enc] [(t, .cells b (l.flatMap Deed.enc))] fun u => u = .bool true := by
  refine slaw30_PoolRuns fun H hh => ?_
  dsimp only [claw30_PoolRuns]
  refine walk (k := ?_)
  repeat' first | refine And.intro ?_ ?_ | intro
  all_goals refine leaf ?_
  refine callE (awake30_prog) ?_
  refine walk (k := ?_)
  repeat' first | refine And.intro ?_ ?_ | intro
  all_goals refine leaf ?_
  all_goals try exact doneR rfl
  refine callL (new_prog n) ?_
  rintro _ _ H' ⟨p, s, rfl, rfl⟩ hh
  refine walk (k := ?_)
  repeat' first | refine And.intro ?_ ?_ | intro
  all_goals refine leaf ?_
  refine callL (rnew_prog n) ?_
  rintro _ _ H' ⟨w, rfl, rfl⟩ hh
  refine walk (k := ?_)
  repeat' first | refine And.intro ?_ ?_ | intro
  all_goals refine leaf ?_
  rename_i rid _ _ _ _ _ _
  refine loopN [5, 7, 8, 35, 36, 37] l.length (fun i vs L => ∃ jobs : Jobs, jobs.length = clampN n ∧ vs = [.ptr rid 0, .ptr p 0, .slice w 0 (jobs.map slotOf).length 9, .slice t 0 l.length 10, .int .i64 l.length, .int .i64 i] ∧ L = SL w (jobs.map slotOf) ++ (PL p s jobs ++ [(rid, .cells true r.enc), (t, .cells b (l.flatMap Deed.enc))])) ?_ ?_
  · refine Nx.here (R := []) ⟨List.replicate (clampN n) none, by simp, ?_, rfl⟩ (by assumption) ?_
    · rw [show (List.map slotOf (List.replicate (clampN n) none)).length = clampN n by simp]; rfl
    · rw [show List.map slotOf (List.replicate (clampN n) none) = List.replicate (clampN n) ⟨false, Job.zero⟩ by simp [slotOf]]
      exact .one .all
  · clear hh
    have hcl : clampN n ≤ 4 := by unfold clampN; omega
    rintro i _ _ e H hi ⟨jobs, hl, rfl, rfl⟩ hh
    have hml : (jobs.map slotOf).length = jobs.length := List.length_map _
    simp only [puts]
    refine walk1 (k := ?_)
    repeat' first | refine And.intro ?_ ?_ | intro
    all_goals refine leaf ?_
    refine c_cond_d rfl (fun hc => ?_) (fun hc => ?_)
    · skip
      refine walk1 (k := ?_)
      repeat' first | refine And.intro ?_ ?_ | intro
      all_goals refine leaf ?_
      refine c_cond_d rfl (fun hc => ?_) (fun hc => ?_)
      · skip
        refine walk (k := ?_)
        repeat' first | refine And.intro ?_ ?_ | intro
        all_goals refine leaf ?_
        exact doneR rfl
      · skip
        refine walk1 (k := ?_)
        repeat' first | refine And.intro ?_ ?_ | intro
        all_goals refine leaf ?_
        refine callE (has_map jobs (nth l i).worker ▸ rhas_prog w (jobs.map slotOf) (nth l i).worker) ?_
        refine walk1 (k := ?_)
        repeat' first | refine And.intro ?_ ?_ | intro
        all_goals refine leaf ?_
        rename_i did _ _ _ hh
        refine cutB [5, 7, 8, 10, 35, 36, 37] (fun vs L => ∃ jobs : Jobs, jobs.length = clampN n ∧ vs = [.ptr rid 0, .ptr p 0, .slice w 0 (jobs.map slotOf).length 9, .ptr did 0, .slice t 0 l.length 10, .int .i64 l.length, .int .i64 i] ∧ L = (did, .cells true (nth l i).enc) :: (SL w (jobs.map slotOf) ++ (PL p s jobs ++ [(rid, .cells true r.enc), (t, .cells b (l.flatMap Deed.enc))]))) ?_ ?_
        · refine c_cond_e rfl (fun hk => ?_) (fun hk => ?_)
          · skip
            refine walk1 (k := ?_)
            repeat' first | refine And.intro ?_ ?_ | intro
            all_goals refine leaf ?_
            refine callL (set_prog p s jobs (nth l i).worker (nth l i).job) ?_
            rintro _ _ H' ⟨rfl, id, rfl⟩ hh
            refine walk (k := ?_)
            repeat' first | refine And.intro ?_ ?_ | intro
            all_goals refine leaf ?_
            · rename_i h; exact absurd rfl h
            · rename_i h0
              rcases has_cases jobs (nth l i).worker with ⟨h1, _⟩ | ⟨id', j', g1, g2, g3, _, _⟩
              · exact absurd h0 h1
              · rw [if_pos h0] at hh
                refine walk1 (k := ?_)
                repeat' first | refine And.intro ?_ ?_ | intro
                all_goals refine leaf ?_
                refine wps_srk hh (l := jobs.map slotOf) (enc := Slot.enc) (u := ⟨(nth (jobs.map slotOf) (nth l i).worker.toNat).busy, (nth l i).job⟩) rfl rfl rfl rfl rfl (fun _ => rfl) (by omega) rfl rfl (.skip (.there .here1)) fun _ hh => ?_
                rw [show (jobs.map slotOf).set (nth l i).worker.toNat ⟨(nth (jobs.map slotOf) (nth l i).worker.toNat).busy, (nth l i).job⟩ = (jobs.set (nth l i).worker.toNat (some (id, (nth l i).job))).map slotOf by
                  rw [List.map_set, nth_map slotOf (by omega), g3]; rfl] at hh
                refine walk (k := ?_)
                repeat' first | refine And.intro ?_ ?_ | intro
                all_goals refine leaf ?_
                exact Nx.cut ⟨jobs.set (nth l i).worker.toNat (some (id, (nth l i).job)), by simpa using hl, by rw [map_set_len]; rfl, rfl⟩
            · rename_i h0
              rw [if_neg h0] at hh
              exact Nx.cut ⟨jobs, hl, rfl, rfl⟩
          · skip
            refine walk1 (k := ?_)
            repeat' first | refine And.intro ?_ ?_ | intro
            all_goals refine leaf ?_
            refine c_cond_e rfl (fun hk => ?_) (fun hk => ?_)
            · skip
              refine walk1 (k := ?_)
              repeat' first | refine And.intro ?_ ?_ | intro
              all_goals refine leaf ?_
              refine callL (done_prog p s jobs (nth l i).worker) ?_
              rintro _ _ H' ⟨rfl, rfl⟩ hh
              refine walk (k := ?_)
              repeat' first | refine And.intro ?_ ?_ | intro
              all_goals refine leaf ?_
              · rename_i h; exact absurd rfl h
              · rename_i h0
                rcases has_cases jobs (nth l i).worker with ⟨h1, _⟩ | ⟨id', j', g1, g2, g3, _, _⟩
                · exact absurd h0 h1
                · rw [if_pos h0] at hh
                  refine walk1 (k := ?_)
                  repeat' first | refine And.intro ?_ ?_ | intro
                  all_goals refine leaf ?_
                  refine wps_sr hh (l := jobs.map slotOf) (enc := Slot.enc) (u := ⟨false, Job.zero⟩) rfl rfl rfl rfl (fun _ => rfl) (by omega) (.skip (.there .here1)) fun _ hh => ?_
                  rw [show (jobs.map slotOf).set (nth l i).worker.toNat ⟨false, Job.zero⟩ = (jobs.set (nth l i).worker.toNat none).map slotOf by
                    rw [List.map_set]; rfl] at hh
                  refine walk (k := ?_)
                  repeat' first | refine And.intro ?_ ?_ | intro
                  all_goals refine leaf ?_
                  exact Nx.cut ⟨jobs.set (nth l i).worker.toNat none, by simpa using hl, by rw [map_set_len]; rfl, rfl⟩
              · rename_i h0
                rw [if_neg h0] at hh
                exact Nx.cut ⟨jobs, hl, rfl, rfl⟩
            · skip
              refine walk1 (k := ?_)
              repeat' first | refine And.intro ?_ ?_ | intro
              all_goals refine leaf ?_
              refine callL (give_prog p s jobs (by omega) (nth l i).job) ?_
              rintro _ _ H' ⟨id, hg⟩ hh
              rcases hf : firstR jobs with _ | k
              · rw [hf] at hg
                obtain ⟨rfl, rfl⟩ := hg
                have hr := first_map jobs ▸ rfirst_prog w (jobs.map slotOf) (by omega)
                rw [hf] at hr
                refine walk1 (k := ?_)
                repeat' first | refine And.intro ?_ ?_ | intro
                all_goals refine leaf ?_
                refine callE (hr) ?_
                refine walk (k := ?_)
                repeat' first | refine And.intro ?_ ?_ | intro
                all_goals refine leaf ?_
                exact Nx.cut ⟨jobs, hl, rfl, rfl⟩
              · rw [hf] at hg
                obtain ⟨rfl, rfl⟩ := hg
                have hr := first_map jobs ▸ rfirst_prog w (jobs.map slotOf) (by omega)
                rw [hf] at hr
                have hk1 : k < jobs.length := by
                  have := List.findIdx?_eq_some_iff_getElem.1 hf
                  exact this.1
                refine walk1 (k := ?_)
                repeat' first | refine And.intro ?_ ?_ | intro
                all_goals refine leaf ?_
                refine callE (hr) ?_
                refine walk (k := ?_)
                repeat' first | refine And.intro ?_ ?_ | intro
                all_goals refine leaf ?_
                all_goals try omega
                all_goals try (rename_i h; exact absurd rfl h)
                refine wps_sr ‹_› (l := jobs.map slotOf) (enc := Slot.enc) (u := ⟨true, (nth l i).job⟩) rfl rfl rfl rfl (fun _ => rfl) (by simp; omega) (.skip (.there .here1)) fun _ hh => ?_
                rw [show (jobs.map slotOf).set k ⟨true, (nth l i).job⟩ = (jobs.set k (some (id, (nth l i).job))).map slotOf by
                  rw [List.map_set]; rfl] at hh
                refine walk (k := ?_)
                repeat' first | refine And.intro ?_ ?_ | intro
                all_goals refine leaf ?_
                exact Nx.cut ⟨jobs.set k (some (id, (nth l i).job)), by simpa using hl, by rw [map_set_len]; rfl, rfl⟩
        · clear hh
          rintro _ _ e H ⟨jobs, hl, rfl, rfl⟩ hh
          have hml : (jobs.map slotOf).length = jobs.length := List.length_map _
          simp only [puts]
          refine walk1 (k := ?_)
          repeat' first | refine And.intro ?_ ?_ | intro
          all_goals refine leaf ?_
          have hle := all_le jobs
          have hg := get_prog p s jobs (nth l i).worker
          have hr := has_map jobs (nth l i).worker ▸ rhas_prog w (jobs.map slotOf) (nth l i).worker
          have h3 : ∃ (v : Int) (x : Option Job), hasR jobs (nth l i).worker = v ∧ getJ jobs (nth l i).worker = x ∧ ((v = 1 ∧ x = none) ∨ (v = 6 ∧ x = none) ∨ ∃ id j, v = 0 ∧ x = some j ∧ 0 ≤ (nth l i).worker ∧ (nth l i).worker < jobs.length ∧ nth jobs (nth l i).worker.toNat = some (id, j)) := by
            refine ⟨_, _, rfl, rfl, ?_⟩
            rcases has_cases jobs (nth l i).worker with ⟨h1, h2⟩ | ⟨id', j', g1, g2, g3, h1, h2⟩
            · rw [h2]
              unfold hasR at h1 ⊢
              split
              · split
                · rename_i h3 h4; rw [if_pos h3, if_pos h4] at h1; exact absurd rfl h1
                · exact .inr (.inl ⟨rfl, rfl⟩)
              · exact .inl ⟨rfl, rfl⟩
            · exact .inr (.inr ⟨id', j', h1, h2, g1, g2, g3⟩)
          obtain ⟨v, x, hv, hx, h3⟩ := h3
          rw [hv] at hr
          rw [hx] at hg
          refine callE (hg) ?_
          refine walk1 (k := ?_)
          repeat' first | refine And.intro ?_ ?_ | intro
          all_goals refine leaf ?_
          rcases h3 with ⟨rfl, rfl⟩ | ⟨rfl, rfl⟩ | ⟨id, j, rfl, rfl, g1, g2, g3⟩
          case inr.inr =>
            have hs : nth (jobs.map slotOf) (nth l i).worker.toNat = ⟨true, j⟩ := by rw [nth_map slotOf (by omega), g3]; rfl
            refine callE (hr) ?_
            refine walk1 (k := ?_)
            repeat' first | refine And.intro ?_ ?_ | intro
            all_goals refine leaf ?_
            refine callN (all_map jobs ▸ rall_prog w (jobs.map slotOf) (by omega)) ?_
            rintro _ _ H' ⟨o, rfl, rfl⟩ hh
            refine walk1 (k := ?_)
            repeat' first | refine And.intro ?_ ?_ | intro
            all_goals refine leaf ?_
            refine wps_slot (s := 152) (v := .bool false) (by show V.bool _ = _; simp [hs]) ?_
            refine walk1 (k := ?_)
            repeat' first | refine And.intro ?_ ?_ | intro
            all_goals refine leaf ?_
            refine callE (len_prog p s jobs) ?_
            refine walk1 (k := ?_)
            repeat' first | refine And.intro ?_ ?_ | intro
            all_goals refine leaf ?_
            refine wps_slot (s := 164) (v := .bool false) (by show V.bool _ = _; simp) ?_
            refine walk1 (k := ?_)
            repeat' first | refine And.intro ?_ ?_ | intro
            all_goals refine leaf ?_
            refine callE (free_prog p s jobs (by omega)) ?_
            refine walk1 (k := ?_)
            repeat' first | refine And.intro ?_ ?_ | intro
            all_goals refine leaf ?_
            refine wps_slot (s := 174) (v := .bool false) (by show V.bool _ = _; simp) ?_
            refine walk1 (k := ?_)
            repeat' first | refine And.intro ?_ ?_ | intro
            all_goals refine leaf ?_
            have hf1 := for_prog p s jobs (by omega) r
            have hf2 := for_map jobs r ▸ rfor_prog w (jobs.map slotOf) (by omega) r
            obtain ⟨z, hz⟩ := natV_int (forR jobs r)
            rw [hz] at hf1 hf2
            refine callE (hf1) ?_
            refine walk1 (k := ?_)
            repeat' first | refine And.intro ?_ ?_ | intro
            all_goals refine leaf ?_
            refine callE (hf2) ?_
            refine walk1 (k := ?_)
            repeat' first | refine And.intro ?_ ?_ | intro
            all_goals refine leaf ?_
            refine wps_slot (s := 183) (v := .bool false) (by show V.bool _ = _; simp) ?_
            refine walk1 (k := ?_)
            repeat' first | refine And.intro ?_ ?_ | intro
            all_goals refine leaf ?_
            refine callN (all_prog p s jobs (by omega)) ?_
            rintro _ _ H' ⟨o2, rfl, rfl⟩ hh
            refine walk1 (k := ?_)
            repeat' first | refine And.intro ?_ ?_ | intro
            all_goals refine leaf ?_
            refine callE (same_prog (allR jobs) o2 o (by omega)) ?_
            refine walk1 (k := ?_)
            repeat' first | refine And.intro ?_ ?_ | intro
            all_goals refine leaf ?_
            refine walk (k := ?_)
            repeat' first | refine And.intro ?_ ?_ | intro
            all_goals refine leaf ?_
            exact Nx.next (by omega) ⟨jobs, hl, rfl, rfl⟩
          all_goals
            refine callE (hr) ?_
            refine walk1 (k := ?_)
            repeat' first | refine And.intro ?_ ?_ | intro
            all_goals refine leaf ?_
            refine callN (all_map jobs ▸ rall_prog w (jobs.map slotOf) (by omega)) ?_
            rintro _ _ H' ⟨o, rfl, rfl⟩ hh
            refine walk1 (k := ?_)
            repeat' first | refine And.intro ?_ ?_ | intro
            all_goals refine leaf ?_
            refine wps_slot (s := 152) (v := .bool false) (by show V.bool _ = _; simp [Job.zero]) ?_
            refine walk1 (k := ?_)
            repeat' first | refine And.intro ?_ ?_ | intro
            all_goals refine leaf ?_
            refine callE (len_prog p s jobs) ?_
            refine walk1 (k := ?_)
            repeat' first | refine And.intro ?_ ?_ | intro
            all_goals refine leaf ?_
            refine wps_slot (s := 164) (v := .bool false) (by show V.bool _ = _; simp) ?_
            refine walk1 (k := ?_)
            repeat' first | refine And.intro ?_ ?_ | intro
            all_goals refine leaf ?_
            refine callE (free_prog p s jobs (by omega)) ?_
            refine walk1 (k := ?_)
            repeat' first | refine And.intro ?_ ?_ | intro
            all_goals refine leaf ?_
            refine wps_slot (s := 174) (v := .bool false) (by show V.bool _ = _; simp) ?_
            refine walk1 (k := ?_)
            repeat' first | refine And.intro ?_ ?_ | intro
            all_goals refine leaf ?_
            have hf1 := for_prog p s jobs (by omega) r
            have hf2 := for_map jobs r ▸ rfor_prog w (jobs.map slotOf) (by omega) r
            obtain ⟨z, hz⟩ := natV_int (forR jobs r)
            rw [hz] at hf1 hf2
            refine callE (hf1) ?_
            refine walk1 (k := ?_)
            repeat' first | refine And.intro ?_ ?_ | intro
            all_goals refine leaf ?_
            refine callE (hf2) ?_
            refine walk1 (k := ?_)
            repeat' first | refine And.intro ?_ ?_ | intro
            all_goals refine leaf ?_
            refine wps_slot (s := 183) (v := .bool false) (by show V.bool _ = _; simp) ?_
            refine walk1 (k := ?_)
            repeat' first | refine And.intro ?_ ?_ | intro
            all_goals refine leaf ?_
            refine callN (all_prog p s jobs (by omega)) ?_
            rintro _ _ H' ⟨o2, rfl, rfl⟩ hh
            refine walk1 (k := ?_)
            repeat' first | refine And.intro ?_ ?_ | intro
            all_goals refine leaf ?_
            refine callE (same_prog (allR jobs) o2 o (by omega)) ?_
            refine walk1 (k := ?_)
            repeat' first | refine And.intro ?_ ?_ | intro
            all_goals refine leaf ?_
            refine walk (k := ?_)
            repeat' first | refine And.intro ?_ ?_ | intro
            all_goals refine leaf ?_
            exact Nx.next (by omega) ⟨jobs, hl, rfl, rfl⟩
    · skip
      refine walk (k := ?_)
      repeat' first | refine And.intro ?_ ?_ | intro
      all_goals refine leaf ?_
      exact doneR rfl
end Go.Proofs.Ytjeipnnobgijmaa
namespace Go.Proofs.Ytjeipnnobgijmaa
open Go Go.CM
theorem walkPoolNobody (vs : List V) (H : Heap) (hg : Givens H 1 [.agg [.i .i64, .i .i64, .i .i64, .s, .i .i64, .i .i64, .b, .i .i64], .one (.i .i64)] vs) (_ : ∀ id o, H id = some o → o.rw = false) : CallsC Try.prog nlaw30_PoolNobody vs H fun v _ => v = .bool true := by
  obtain ⟨v, vs, rfl, ⟨cs, rfl, h0⟩, hg1⟩ := hg.cons
  obtain ⟨w, vs, rfl, ⟨n, rfl, _⟩, hg2⟩ := hg1.cons
  obtain rfl := hg2.nil
  obtain ⟨j, rfl⟩ := jobOf h0
  exact (CallsR.reads (R := []) (nobody_prog j n) (Has.nil H)).mono fun _ _ h => h.1
theorem walkPoolRuns (vs : List V) (H : Heap) (hg : Givens H 1 [.one (.i .i64), .rows [.i .u8, .i .i64, .i .i64, .i .i64, .i .i64, .s, .i .i64, .i .i64, .b, .i .i64], .agg [.i .i64, .s, .i .i64, .i .i64, .i .i64, .i .i64]] vs) (_ : ∀ id o, H id = some o → o.rw = false) : CallsC Try.prog nlaw30_PoolRuns vs H fun v _ => v = .bool true := by
  obtain ⟨_, vs, rfl, ⟨n, rfl, _⟩, hg1⟩ := hg.cons
  obtain ⟨_, vs, rfl, ⟨rs, hf, hlen, hr⟩, hg2⟩ := hg1.cons
  obtain ⟨v, vs, rfl, ⟨cs, rfl, h0⟩, hg3⟩ := hg2.cons
  obtain rfl := hg3.nil
  obtain ⟨r, rfl⟩ := replyOf h0
  obtain ⟨ds, rfl⟩ := rowsOf Deed.enc (fun r hr => deedOf (hf r hr))
  obtain ⟨t, rfl, ht⟩ := givenRows hr
  rw [List.length_map]
  exact (CallsR.reads (R := []) (runs_prog n t false ds r) ht).mono fun _ _ h => h.1
end Go.Proofs.Ytjeipnnobgijmaa
