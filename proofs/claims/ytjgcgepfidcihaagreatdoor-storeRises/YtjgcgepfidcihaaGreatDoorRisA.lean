/-
  Of each name the epoch never gets less.
-/
import Derived.Test.YtjgcgepfidcihaaGreatDoorLawS
import Derived.Test.YtjgcgepfidcihaaGreatDoorRgeA
namespace Go.Proofs.YtjgcgepfidcihaaGreatDoor
open Go Go.CM
set_option maxRecDepth 100000
set_option maxHeartbeats 4000000

theorem app_mem {st : Sto} {r : Rec} {e : Entry} (hok : SOk st) (he : e ∈ (appS st r).l) : e ∈ st.l ∨ folI st e = 0 := by
  rw [appS] at he
  split at he
  · exact .inl he
  · rename_i k
    have k := Classical.not_not.1 k
    split at he
    · rename_i h1
      rcases (mem_put hok.srt).1 he with rfl | ⟨h, _⟩
      · exact .inr (chk_put k h1).2
      · exact .inl h
    · exact .inl ((mem_drop hok.srt).1 he).1
theorem app_top (st : Sto) (r : Rec) : st.top ≤ (appS st r).top := by
  rw [appS]
  split
  · exact Int.le_refl _
  · split
    · show st.top ≤ if st.top < r.e.epoch then r.e.epoch else st.top
      split <;> omega
    · exact Int.le_refl _
theorem rise_none {st : Sto} {r : Rec} {e : Entry} (hok : SOk st) (he : e ∈ (appS st r).l) (hg : getL st.l (enm e) = none) : st.top < e.epoch := by
  rcases app_mem hok he with h | h
  · rw [hok.srt.mem_get h] at hg; cases hg
  · rw [folI_none hg] at h
    split at h
    · cases h
    · omega
theorem rise_some {st : Sto} {r : Rec} {e old : Entry} (hok : SOk st) (he : e ∈ (appS st r).l) (hg : getL st.l (enm e) = some old) : e = old ∨ (e.epoch ≠ old.epoch ∧ st.top < e.epoch) ∨ (e.epoch = old.epoch ∧ old.state = 1 ∧ old.token ≤ e.token ∧ old.point ≤ e.point) := by
  rcases app_mem hok he with h | h
  · rw [hok.srt.mem_get h] at hg; cases hg; exact .inl rfl
  · rw [folI_some hg] at h
    split at h
    · rename_i k
      split at h
      · cases h
      · exact .inr (.inr ⟨k.symm, by omega, by omega, by omega⟩)
    · split at h
      · cases h
      · exact .inr (.inl ⟨fun k => by omega, by omega⟩)
theorem rises_prog (most : Int) (s : Nat) (b : Bool) (l : List Rec) : CallsR Tryz.prog nlaw18_StoreRises [.int .i64 most, .slice s 0 l.length 15] [RL s b l] fun v => v = .bool true := by
  have h0 := awake_prog
  have h1 := small18_prog s b l 60 (by decide)
  refine slaw18_StoreRises fun H hh => ?_
  dsimp only [claw18_StoreRises]
  refine walk1 (k := ?_)
  repeat' first | refine And.intro ?_ ?_ | intro
  all_goals refine leaf ?_
  refine callE (h0) ?_
  refine walk1 (k := ?_)
  repeat' first | refine And.intro ?_ ?_ | intro
  all_goals refine leaf ?_
  refine callR (h1) ?_
  rintro v ⟨c, rfl, hb⟩
  cases c with
  | false =>
    refine walk1 (k := ?_)
    repeat' first | refine And.intro ?_ ?_ | intro
    all_goals refine leaf ?_
    exact doneR rfl
  | true =>
    obtain ⟨hl, hsm⟩ := hb rfl
    clear hb h0 h1
    refine walk1 (k := ?_)
    repeat' first | refine And.intro ?_ ?_ | intro
    all_goals refine leaf ?_
    refine callL (snew_prog most) ?_
    rintro v L0 H' ⟨sid, rfl, hst⟩ hh
    refine walk1 (k := ?_)
    repeat' first | refine And.intro ?_ ?_ | intro
    all_goals refine leaf ?_
    refine loopN [5, 21, 22, 23] l.length (fun i vs L => ∃ st L0, SOk st ∧ StO sid st L0 ∧ vs = [.ptr sid 0, .slice s 0 l.length 15, .int .i64 l.length, .int .i64 (i : Nat)] ∧ L = RL s b l :: L0)
      (Nx.here ⟨⟨most, [], 0⟩, L0, SOk.new most, hst, rfl, rfl⟩) ?_
    clear hh hst
    rintro i _ _ env H hi ⟨st, L0, hok, hst, rfl, rfl⟩ hh
    simp only [puts]
    by_cases hn : i < l.length
    · have hsr := hsm _ (nth_mem hn)
      have ht1 := stop_prog sid st L0 hst
      have ha1 := sall_prog sid st L0 hst hok
      have hap := sapply_prog sid st L0 (nth l i) hst hok (by omega)
      have hok2 := hok.app (nth l i)
      have hm1 := fun e => rise_none (e := e) (r := nth l i) hok
      have hm2 := fun e old => rise_some (e := e) (old := old) (r := nth l i) hok
      have htop := app_top st (nth l i)
      have hre : (nth l i).enc = [.int .i64 (nth l i).kind, .int .i64 (nth l i).e.tenant, .str (nth l i).e.key, .int .i64 (nth l i).e.state, .int .i64 (nth l i).e.epoch, .int .i64 (nth l i).e.token, .int .i64 (nth l i).e.point, .str (nth l i).e.print, .int .i64 (nth l i).e.lease, .int .i64 (nth l i).e.expiry, .int .i64 (nth l i).e.status, .str (nth l i).e.text, .str (nth l i).e.method, .str (nth l i).e.path, .str (nth l i).e.body] := rfl
      rw [hre] at hap
      refine walk1 (k := ?_)
      repeat' first | refine And.intro ?_ ?_ | intro
      all_goals refine leaf ?_
      refine c_cond_t (by show V.bool _ = _; simp; omega) ?_
      refine walk1 (k := ?_)
      repeat' first | refine And.intro ?_ ?_ | intro
      all_goals refine leaf ?_
      clear hre
      generalize nth l i = r at *
      generalize chkI st r = ck at *
      generalize appS st r = st2 at *
      refine callE (ht1) ?_
      refine walk1 (k := ?_)
      repeat' first | refine And.intro ?_ ?_ | intro
      all_goals refine leaf ?_
      refine callN (ha1) ?_
      rintro v Lo H' ⟨o1, rfl, rfl⟩ hh
      refine walk1 (k := ?_)
      repeat' first | refine And.intro ?_ ?_ | intro
      all_goals refine leaf ?_
      refine callL (hap) ?_
      rintro v L1 H' ⟨rfl, hst2⟩ hh
      have ht2 := stop_prog sid st2 L1 hst2
      have ha2 := sall_prog sid st2 L1 hst2 hok2
      clear hap hst
      refine walk1 (k := ?_)
      repeat' first | refine And.intro ?_ ?_ | intro
      all_goals refine leaf ?_
      refine callE (ht2) ?_
      refine walk1 (k := ?_)
      repeat' first | refine And.intro ?_ ?_ | intro
      all_goals refine leaf ?_
      refine c_cond_f (by show V.bool _ = _; simp; omega) ?_
      refine walk1 (k := ?_)
      repeat' first | refine And.intro ?_ ?_ | intro
      all_goals refine leaf ?_
      refine callN (ha2) ?_
      rintro v Lo H' ⟨o2, rfl, rfl⟩ hh
      refine walk1 (k := ?_)
      repeat' first | refine And.intro ?_ ?_ | intro
      all_goals refine leaf ?_
      refine loopN [5, 8, 9, 21, 22, 23, 39, 40, 41] st2.l.length (fun j vs L => vs = [.ptr sid 0, .int .i64 st.top, .slice o1 0 st.l.length 14, .slice s 0 l.length 15, .int .i64 l.length, .int .i64 (i : Nat), .slice o2 0 st2.l.length 14, .int .i64 st2.l.length, .int .i64 (j : Nat)] ∧ L = EL o2 true st2.l :: EL o1 true st.l :: RL s b l :: L1)
        (Nx.here ⟨rfl, rfl⟩) ?_
      clear hh
      rintro j _ _ env H hj ⟨rfl, rfl⟩ hh
      simp only [puts]
      by_cases hjn : j < st2.l.length
      · have hmem := nth_mem hjn
        have hlen := hok.len
        have hlen2 := hok2.len
        have hg := rget_prog o1 true st.l (enm (nth st2.l j)) (by omega) hok.srt
        refine walk1 (k := ?_)
        repeat' first | refine And.intro ?_ ?_ | intro
        all_goals refine leaf ?_
        refine c_cond_t (by show V.bool _ = _; simp; omega) ?_
        refine walk1 (k := ?_)
        repeat' first | refine And.intro ?_ ?_ | intro
        all_goals refine leaf ?_
        generalize nth st2.l j = e at *
        have hm1 := hm1 e hmem
        have hm2 := fun old => hm2 e old hmem
        cases hgl : getL st.l (enm e) with
        | none =>
          have hm1 := hm1 hgl
          rw [hgl] at hg
          replace hg : CallsR Tryz.prog nref15_Get [.slice o1 0 st.l.length 14, .int .i64 e.tenant, .str e.key] [EL o1 true st.l] fun v => v = .tup [.agg Entry.zero.enc, .bool false] := hg
          refine callE (hg) ?_
          refine walk (k := ?_)
          repeat' first | refine And.intro ?_ ?_ | intro
          all_goals refine leaf ?_
          all_goals first
            | (exfalso; omega)
            | exact Nx.next hjn ⟨rfl, rfl⟩
        | some old =>
          have hm2 := hm2 old hgl
          rw [hgl] at hg
          replace hg : CallsR Tryz.prog nref15_Get [.slice o1 0 st.l.length 14, .int .i64 e.tenant, .str e.key] [EL o1 true st.l] fun v => v = .tup [.agg old.enc, .bool true] := hg
          by_cases heq : e = old
          · subst heq
            refine callE (hg) ?_
            refine walk1 (k := ?_)
            repeat' first | refine And.intro ?_ ?_ | intro
            all_goals refine leaf ?_
            refine wps_slot (s := 71) (v := .bool false) (by show V.bool _ = _; simp) ?_
            refine walk1 (k := ?_)
            repeat' first | refine And.intro ?_ ?_ | intro
            all_goals refine leaf ?_
            refine wps_slot (s := 86) (v := .bool true) (by show V.bool _ = _; simp) ?_
            refine walk1 (k := ?_)
            repeat' first | refine And.intro ?_ ?_ | intro
            all_goals refine leaf ?_
            refine wps_slot (s := 91) (v := .bool false) (by show V.bool (!entB e e) = _; rw [entB_eq, decide_eq_true rfl]; rfl) ?_
            refine walk1 (k := ?_)
            repeat' first | refine And.intro ?_ ?_ | intro
            all_goals refine leaf ?_
            exact Nx.next hjn ⟨rfl, rfl⟩
          · rcases hm2 with h | ⟨k1, k2⟩ | ⟨k1, k2, k3, k4⟩
            · exact absurd h heq
            · skip
              refine callE (hg) ?_
              refine walk1 (k := ?_)
              repeat' first | refine And.intro ?_ ?_ | intro
              all_goals refine leaf ?_
              refine wps_slot (s := 71) (v := .bool true) (by show V.bool _ = _; simp [k1]) ?_
              refine walk1 (k := ?_)
              repeat' first | refine And.intro ?_ ?_ | intro
              all_goals refine leaf ?_
              refine c_cond_f (by show V.bool _ = _; simp; omega) ?_
              refine walk1 (k := ?_)
              repeat' first | refine And.intro ?_ ?_ | intro
              all_goals refine leaf ?_
              refine wps_slot (s := 86) (v := .bool false) (by show V.bool _ = _; simp [k1]) ?_
              refine walk1 (k := ?_)
              repeat' first | refine And.intro ?_ ?_ | intro
              all_goals refine leaf ?_
              exact Nx.next hjn ⟨rfl, rfl⟩
            · skip
              refine callE (hg) ?_
              refine walk1 (k := ?_)
              repeat' first | refine And.intro ?_ ?_ | intro
              all_goals refine leaf ?_
              refine wps_slot (s := 71) (v := .bool false) (by show V.bool _ = _; simp [k1]) ?_
              refine walk1 (k := ?_)
              repeat' first | refine And.intro ?_ ?_ | intro
              all_goals refine leaf ?_
              refine wps_slot (s := 86) (v := .bool true) (by show V.bool _ = _; simp [k1]) ?_
              refine walk1 (k := ?_)
              repeat' first | refine And.intro ?_ ?_ | intro
              all_goals refine leaf ?_
              refine wps_slot (s := 91) (v := .bool true) (by show V.bool (!entB e old) = _; rw [entB_eq, decide_eq_false heq]; rfl) ?_
              refine walk1 (k := ?_)
              repeat' first | refine And.intro ?_ ?_ | intro
              all_goals refine leaf ?_
              refine wps_slot (s := 95) (v := .bool false) (by show V.bool _ = _; simp [k2]) ?_
              refine walk1 (k := ?_)
              repeat' first | refine And.intro ?_ ?_ | intro
              all_goals refine leaf ?_
              refine wps_slot (s := 102) (v := .bool false) (by show V.bool _ = _; simp; omega) ?_
              refine walk1 (k := ?_)
              repeat' first | refine And.intro ?_ ?_ | intro
              all_goals refine leaf ?_
              refine c_cond_f (by show V.bool _ = _; simp; omega) ?_
              refine walk1 (k := ?_)
              repeat' first | refine And.intro ?_ ?_ | intro
              all_goals refine leaf ?_
              exact Nx.next hjn ⟨rfl, rfl⟩
      · skip
        refine walk1 (k := ?_)
        repeat' first | refine And.intro ?_ ?_ | intro
        all_goals refine leaf ?_
        refine c_cond_f (by show V.bool _ = _; simp; omega) ?_
        refine walk1 (k := ?_)
        repeat' first | refine And.intro ?_ ?_ | intro
        all_goals refine leaf ?_
        exact Nx.next (by omega) ⟨st2, L1, hok2, hst2, rfl, rfl⟩
    · skip
      refine walk1 (k := ?_)
      repeat' first | refine And.intro ?_ ?_ | intro
      all_goals refine leaf ?_
      refine c_cond_f (by show V.bool _ = _; simp; omega) ?_
      refine walk1 (k := ?_)
      repeat' first | refine And.intro ?_ ?_ | intro
      all_goals refine leaf ?_
      exact doneR rfl
end Go.Proofs.YtjgcgepfidcihaaGreatDoor
