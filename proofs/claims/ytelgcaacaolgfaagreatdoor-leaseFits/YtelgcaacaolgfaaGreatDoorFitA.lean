/-
  Texts joined: What steps make, one behind the other, a store takes each time. What steps make, one behind the other, a store takes each time: any inputs.
-/
import Derived.Test.YtelgcaacaolgfaaGreatDoorRefS
import Derived.Test.YtelgcaacaolgfaaGreatDoorNrmA
import Derived.Test.YtelgcaacaolgfaaGreatDoorStoB
import Derived.Test.YtelgcaacaolgfaaGreatDoorCmG
namespace Go.Proofs.YtelgcaacaolgfaaGreatDoor
open Go Go.CM
set_option maxRecDepth 100000
set_option maxHeartbeats 4000000

abbrev stepP (e x : Entry) : Prop := e.state = 1 ∧ x.tenant = e.tenant ∧ x.key = e.key ∧ x.epoch = e.epoch ∧ x.print = e.print ∧ e.token ≤ x.token ∧ e.point ≤ x.point
theorem take_step {e : Entry} {now : Int} {c : Conf} (h : (takeL e now c).2 = 0) : stepP e (takeL e now c).1 := by
  unfold takeL at h ⊢
  split at h
  · cases h
  · rename_i hc
    split at h
    · cases h
    · rename_i hh
      split at h
      · cases h
      · rename_i ht
        rw [if_neg hc, if_neg hh, if_neg ht]
        exact ⟨(Classical.not_not.1 hc).1, rfl, rfl, rfl, rfl, by show e.token ≤ e.token + 1; omega, Int.le_refl _⟩
theorem pass_step {e : Entry} {t : Int} {now : Int} {c : Conf} (h : (passL e t now c).2 = 0) : stepP e (passL e t now c).1 := by
  unfold passL at h ⊢
  split at h
  · rename_i hz; exact absurd h hz
  · rename_i hz
    split at h
    · cases h
    · rename_i hp
      rw [if_neg hz, if_neg hp]
      exact ⟨(ownI_can (Classical.byContradiction hz)).1.1, rfl, rfl, rfl, rfl, Int.le_refl _, by show e.point ≤ e.point + 1; omega⟩
theorem fin_step {e : Entry} {t : Int} {st now : Int} {tx : List UInt8} {c : Conf} (h : (finL e t st tx now c).2 = 0) : stepP e (finL e t st tx now c).1 := by
  unfold finL at h ⊢
  split at h
  · rename_i hz; exact absurd h hz
  · rename_i hz
    split at h
    · rename_i hp
      rw [if_neg hz, if_pos hp]
      exact ⟨(ownI_can (Classical.byContradiction hz)).1.1, rfl, rfl, rfl, rfl, Int.le_refl _, Int.le_refl _⟩
    · cases h
theorem fail_step {e : Entry} {t : Int} (h : (failL e t).2 = 0) : stepP e (failL e t).1 := by
  unfold failL at h ⊢
  split at h
  · rename_i hz; exact absurd h hz
  · rename_i hz
    rw [if_neg hz]
    exact ⟨(ownI_can (Classical.byContradiction hz)).1.1, rfl, rfl, rfl, rfl, Int.le_refl _, Int.le_refl _⟩
theorem rel_step {e : Entry} {t : Int} {now : Int} (h : (relL e t now).2 = 0) : stepP e (relL e t now).1 := by
  unfold relL at h ⊢
  split at h
  · rename_i hz; exact absurd h hz
  · rename_i hz
    rw [if_neg hz]
    exact ⟨(ownI_can (Classical.byContradiction hz)).1.1, rfl, rfl, rfl, rfl, Int.le_refl _, Int.le_refl _⟩
theorem doL_step {e : Entry} {d : Deed} {c : Conf} (k5 : d.kind % 6 ≠ 5) (h : (doL e d c).2 = 0) : stepP e (doL e d c).1 := by
  unfold doL at h ⊢
  by_cases k0 : d.kind % 6 = 0
  · rw [if_pos k0] at h ⊢
    exact take_step h
  rw [if_neg k0] at h ⊢
  by_cases k1 : d.kind % 6 = 1
  · rw [if_pos k1] at h ⊢
    exact pass_step h
  rw [if_neg k1] at h ⊢
  by_cases k2 : d.kind % 6 = 2
  · rw [if_pos k2] at h ⊢
    exact fin_step h
  rw [if_neg k2] at h ⊢
  by_cases k3 : d.kind % 6 = 3
  · rw [if_pos k3] at h ⊢
    exact fail_step h
  rw [if_neg k3] at h ⊢
  by_cases k4 : d.kind % 6 = 4
  · rw [if_pos k4] at h ⊢
    exact rel_step h
  · omega
abbrev oneS (e : Entry) : Sto := ⟨5, [e], e.epoch⟩
theorem fit_new {e : Entry} (hm : mayP e) : chkI ⟨5, [], 0⟩ ⟨1, e⟩ = 0 ∧ appS ⟨5, [], 0⟩ ⟨1, e⟩ = oneS e := by
  have he := hm.1.2.1.1
  have h0 : chkI ⟨5, [], 0⟩ ⟨1, e⟩ = 0 := (chkI_put hm).trans ((folI_none rfl).trans ((if_neg (show ¬ e.epoch ≤ 0 by omega)).trans (if_neg (show ¬ (200 ≤ 0 ∨ quoI 5 ≤ ((0 : Nat) : Int)) by decide))))
  refine ⟨h0, (appS_put h0).trans ?_⟩
  show (⟨5, putL [] e, if 0 < e.epoch then e.epoch else 0⟩ : Sto) = _
  rw [if_pos (by omega)]
  rfl
theorem fit_put {e x : Entry} (hs : stepP e x) (hm : mayP x) : chkI (oneS e) ⟨1, x⟩ = 0 ∧ appS (oneS e) ⟨1, x⟩ = oneS x := by
  obtain ⟨s1, s2, s3, s4, s5, s6, s7⟩ := hs
  have hn : enm x = enm e := by show (_, _) = (_, _); rw [s2, s3]
  have hg : getL (oneS e).l (enm x) = some e := by show getL [e] (enm x) = _; rw [hn, getL_cons, if_pos rfl]
  have hsr : Srt [e] := List.pairwise_singleton _ _
  have h0 : chkI (oneS e) ⟨1, x⟩ = 0 := (chkI_put hm).trans ((folI_some hg).trans ((if_pos s4.symm).trans (if_neg (show ¬ (e.state ≠ 1 ∨ x.token < e.token ∨ x.point < e.point) by omega))))
  refine ⟨h0, (appS_put h0).trans ?_⟩
  have hp := putL_perm hsr x
  rw [show butN [e] (enm x) = [] by rw [hn]; simp [butN]] at hp
  show (⟨5, putL [e] x, if e.epoch < x.epoch then x.epoch else e.epoch⟩ : Sto) = ⟨5, [x], x.epoch⟩
  rw [List.perm_singleton.1 hp, if_neg (by omega), s4]
theorem fits_prog (r : Req) (s : Nat) (b : Bool) (ds : List Deed) (c : Conf) (hd : ∀ d ∈ ds, 0 ≤ d.kind ∧ d.kind ≤ 255) : CallsR Tryz.prog nlaw21_LeaseFits [.agg r.enc, .slice s 0 ds.length 13, .agg c.enc] [(s, .cells b (ds.flatMap Deed.enc))] fun v => v = .bool true := by
  have h0 := awake_prog
  have h1 := small21_prog Entry.zero ⟨0, false, 0, 0, 0, [], r⟩
  have hbg := begin_prog r 1 0 c
  have hrb := rbegin_bad r 0 c
  have hbm : (begL r 1 0 c).2 = 0 → mayP (begL r 1 0 c).1 := beg_may
  have hce : c.enc = [.int .i64 c.workers, .int .i64 c.lease, .int .i64 c.ttl, .int .i64 c.quota, .int .i64 c.segment, .int .i64 c.disk] := rfl
  have hre : r.enc = [.int .i64 r.client, .int .i64 r.serial, .int .i64 r.tenant, .str r.key, .str r.method, .str r.path, .str r.body] := rfl
  rw [hce] at hbg hrb ⊢
  rw [hre] at hbg hrb ⊢
  generalize begL r 1 0 c = X at *
  unfold stV Entry.enc at hbg hrb
  refine slaw21_LeaseFits fun H hh => ?_
  dsimp only [claw21_LeaseFits]
  refine walk1 (k := ?_)
  repeat' first | refine And.intro ?_ ?_ | intro
  all_goals refine leaf ?_
  refine callE (h0) ?_
  refine walk1 (k := ?_)
  repeat' first | refine And.intro ?_ ?_ | intro
  all_goals refine leaf ?_
  rename_i rb _ _ cb _ hh
  by_cases hl : ds.length ≤ 30
  · refine wps_slot (s := 21) (v := .bool false) (by show V.bool _ = _; simp; omega) ?_
    refine walk1 (k := ?_)
    repeat' first | refine And.intro ?_ ?_ | intro
    all_goals refine leaf ?_
    refine callR (h1) ?_
    rintro v ⟨b2, rfl, hb⟩
    cases b2 with
    | false =>
      refine walk1 (k := ?_)
      repeat' first | refine And.intro ?_ ?_ | intro
      all_goals refine leaf ?_
      exact doneR rfl
    | true =>
      obtain ⟨_, hsd⟩ := hb rfl
      refine walk1 (k := ?_)
      repeat' first | refine And.intro ?_ ?_ | intro
      all_goals refine leaf ?_
      refine callE (hbg) ?_
      refine walk1 (k := ?_)
      repeat' first | refine And.intro ?_ ?_ | intro
      all_goals refine leaf ?_
      rename_i eb _ _ _ hh
      by_cases hz : X.2 = 0
      · have hm := hbm hz
        refine c_cond_f (by show V.bool _ = _; simp [hz]) ?_
        refine walk1 (k := ?_)
        repeat' first | refine And.intro ?_ ?_ | intro
        all_goals refine leaf ?_
        clear hbg hrb h1 h0 hb
        obtain ⟨e0, f0⟩ := X
        replace hm : mayP e0 := hm
        have hs5 := SOk.new 5
        refine callL (snew_prog 5) ?_
        rintro v L0 H' ⟨sid, rfl, hst⟩ hh
        have hap := sapply_prog sid ⟨5, [], 0⟩ L0 ⟨1, e0⟩ hst hs5 (may_small hm)
        have hs6 := hs5.app ⟨1, e0⟩
        rw [(fit_new hm).1, (fit_new hm).2] at hap
        rw [(fit_new hm).2] at hs6
        refine walk1 (k := ?_)
        repeat' first | refine And.intro ?_ ?_ | intro
        all_goals refine leaf ?_
        refine callL (hap) ?_
        rintro v L1 H' ⟨rfl, hst1⟩ hh
        clear hap hst
        refine walk1 (k := ?_)
        repeat' first | refine And.intro ?_ ?_ | intro
        all_goals refine leaf ?_
        refine loopN [5, 7, 11, 50, 51, 52] ds.length (fun i vs L => ∃ (e : Entry) (L0 : List Ob), mayP e ∧ SOk (oneS e) ∧ StO sid (oneS e) L0 ∧ vs = [.ptr cb 0, .ptr eb 0, .ptr sid 0, .slice s 0 ds.length 13, .int .i64 ds.length, .int .i64 (i : Nat)] ∧ L = (eb, .cells true e.enc) :: (cb, .cells true c.enc) :: (s, .cells b (ds.flatMap Deed.enc)) :: L0)
          (Nx.here ⟨e0, L1, hm, hs6, hst1, rfl, rfl⟩) ?_
        clear hh hs6 hst1 hm
        rintro i _ _ env H hi ⟨e, L0, hm, hok, hst, rfl, rfl⟩ hh
        simp only [puts]
        have hee : e.enc = [.int .i64 e.tenant, .str e.key, .int .i64 e.state, .int .i64 e.epoch, .int .i64 e.token, .int .i64 e.point, .str e.print, .int .i64 e.lease, .int .i64 e.expiry, .int .i64 e.status, .str e.text, .str e.method, .str e.path, .str e.body] := rfl
        by_cases hn : i < ds.length
        · have hdk := hd _ (nth_mem hn)
          have h1 := small21_prog e (nth ds i)
          have h3 := do_prog e (nth ds i) c hdk (may_small hm)
          rw [hce, hee] at hh
          refine walk1 (k := ?_)
          repeat' first | refine And.intro ?_ ?_ | intro
          all_goals refine leaf ?_
          refine c_cond_t (by show V.bool _ = _; simp; omega) ?_
          refine walk1 (k := ?_)
          repeat' first | refine And.intro ?_ ?_ | intro
          all_goals refine leaf ?_
          rename_i db _ _ _ hh
          generalize nth ds i = d at *
          have hX : (doL e d c).2 = 0 → mayP (doL e d c).1 := doL_may
          have hS : d.kind % 6 ≠ 5 → (doL e d c).2 = 0 → stepP e (doL e d c).1 := doL_step
          generalize doL e d c = X at *
          unfold stV at h3
          rw [hee] at h1 h3
          rw [hce] at h3
          have hxe : X.1.enc = [.int .i64 X.1.tenant, .str X.1.key, .int .i64 X.1.state, .int .i64 X.1.epoch, .int .i64 X.1.token, .int .i64 X.1.point, .str X.1.print, .int .i64 X.1.lease, .int .i64 X.1.expiry, .int .i64 X.1.status, .str X.1.text, .str X.1.method, .str X.1.path, .str X.1.body] := rfl
          rw [hxe] at h3
          unfold Deed.enc at h1 h3
          refine callR (h1) ?_
          rintro v ⟨b2, rfl, hb⟩
          cases b2 with
          | false =>
            refine walk1 (k := ?_)
            repeat' first | refine And.intro ?_ ?_ | intro
            all_goals refine leaf ?_
            exact doneR rfl
          | true =>
            clear hb
            refine walk (k := ?_)
            repeat' first | refine And.intro ?_ ?_ | intro
            all_goals refine leaf ?_
            · exact Nx.next (by omega) ⟨e, L0, hm, hok, hst, rfl, rfl⟩
            · rename_i k5
              refine callE (h3) ?_
              refine walk1 (k := ?_)
              repeat' first | refine And.intro ?_ ?_ | intro
              all_goals refine leaf ?_
              by_cases hz : X.2 = 0
              · have hst' := hS k5 hz
                have hmx := hX hz
                have hap := sapply_prog sid (oneS e) L0 ⟨1, X.1⟩ hst hok (may_small hmx)
                have hok2 := hok.app ⟨1, X.1⟩
                rw [(fit_put hst' hmx).1, (fit_put hst' hmx).2] at hap
                rw [(fit_put hst' hmx).2] at hok2
                obtain ⟨_, _, _, s4, s5, s6, s7⟩ := hst'
                clear hX hS h3 hst hok
                refine c_cond_f (by show V.bool _ = _; simp [hz]) ?_
                refine walk1 (k := ?_)
                repeat' first | refine And.intro ?_ ?_ | intro
                all_goals refine leaf ?_
                refine callL (hap) ?_
                rintro v L1 H' ⟨rfl, hst1⟩ hh
                clear hap
                refine walk (k := ?_)
                repeat' first | refine And.intro ?_ ?_ | intro
                all_goals refine leaf ?_
                all_goals try
                  exfalso
                  omega
                all_goals try
                  exact Nx.next (by omega) ⟨X.1, L1, hmx, hok2, hst1, rfl, rfl⟩
                all_goals exact absurd s5 (by assumption)
              · refine c_cond_t (by show V.bool _ = _; simp [hz]) ?_
                refine walk1 (k := ?_)
                repeat' first | refine And.intro ?_ ?_ | intro
                all_goals refine leaf ?_
                exact Nx.next (by omega) ⟨e, L0, hm, hok, hst, rfl, rfl⟩
        · skip
          refine walk1 (k := ?_)
          repeat' first | refine And.intro ?_ ?_ | intro
          all_goals refine leaf ?_
          refine c_cond_f (by show V.bool _ = _; simp; omega) ?_
          refine walk1 (k := ?_)
          repeat' first | refine And.intro ?_ ?_ | intro
          all_goals refine leaf ?_
          exact doneR rfl
      · refine c_cond_t (by show V.bool _ = _; simp [hz]) ?_
        refine walk1 (k := ?_)
        repeat' first | refine And.intro ?_ ?_ | intro
        all_goals refine leaf ?_
        have hrb := hrb (by have h : r.key.length ≤ 100 := hsd.2.1; omega) hz
        refine callE (hrb) ?_
        refine walk1 (k := ?_)
        repeat' first | refine And.intro ?_ ?_ | intro
        all_goals refine leaf ?_
        exact doneR (by show V.bool _ = _; simp [hz])
  · refine wps_slot (s := 21) (v := .bool true) (by show V.bool _ = _; simp; omega) ?_
    refine walk1 (k := ?_)
    repeat' first | refine And.intro ?_ ?_ | intro
    all_goals refine leaf ?_
    exact doneR rfl
end Go.Proofs.YtelgcaacaolgfaaGreatDoor

namespace Go.Proofs.YtelgcaacaolgfaaGreatDoor
open Go Go.CM
set_option maxRecDepth 100000
set_option maxHeartbeats 4000000

theorem reqOf {l : List V} (h : Fits [.i .i64, .i .i64, .i .i64, .s, .s, .s, .s] l) : ∃ r : Req, l = r.enc := by
  obtain ⟨_, _, rfl, ⟨x0, rfl, _⟩, h0⟩ := h.cons
  obtain ⟨_, _, rfl, ⟨x1, rfl, _⟩, h1⟩ := h0.cons
  obtain ⟨_, _, rfl, ⟨x2, rfl, _⟩, h2⟩ := h1.cons
  obtain ⟨_, _, rfl, ⟨x3, rfl, _⟩, h3⟩ := h2.cons
  obtain ⟨_, _, rfl, ⟨x4, rfl, _⟩, h4⟩ := h3.cons
  obtain ⟨_, _, rfl, ⟨x5, rfl, _⟩, h5⟩ := h4.cons
  obtain ⟨_, _, rfl, ⟨x6, rfl, _⟩, h6⟩ := h5.cons
  obtain rfl := h6.nil
  exact ⟨⟨x0, x1, x2, x3, x4, x5, x6⟩, rfl⟩
theorem walkLeaseFits (vs : List V) (H : Heap) (hg : Givens H 1 [.agg [.i .i64, .i .i64, .i .i64, .s, .s, .s, .s], .rows [.i .u8, .b, .i .i64, .i .i64, .i .i64, .s, .i .i64, .i .i64, .i .i64, .s, .s, .s, .s], .agg [.i .i64, .i .i64, .i .i64, .i .i64, .i .i64, .i .i64]] vs) (_ : ∀ id o, H id = some o → o.rw = false) : CallsC Tryz.prog nlaw21_LeaseFits vs H fun v _ => v = .bool true := by
  obtain ⟨v, vs, rfl, ⟨cs, rfl, h0⟩, hg1⟩ := hg.cons
  obtain ⟨w, vs, rfl, ⟨rs, hf, hlen, hr⟩, hg2⟩ := hg1.cons
  obtain ⟨w, vs, rfl, ⟨cs3, rfl, h3⟩, hg3⟩ := hg2.cons
  obtain rfl := hg3.nil
  obtain ⟨r, rfl⟩ := reqOf h0
  obtain ⟨c, rfl⟩ := confOf h3
  obtain ⟨ds, rfl⟩ := rowsOf (fun d : {d : Deed // 0 ≤ d.kind ∧ d.kind ≤ 255} => d.1.enc) (fun r hr => by obtain ⟨d, h1, h2⟩ := deedOf (hf r hr); exact ⟨⟨d, h2⟩, h1⟩)
  obtain ⟨t, rfl, ht1, ht⟩ := givenRowsA hr
  have hh := ht [] (Has.nil H) (by simp)
  have hp := fits_prog r t false (ds.map (·.1)) c (fun d hd => by obtain ⟨x, _, rfl⟩ := List.mem_map.1 hd; exact x.2)
  rw [List.length_map, List.flatMap_map] at hp
  exact (CallsR.reads (R := []) hp hh).mono fun _ _ h => h.1
end Go.Proofs.YtelgcaacaolgfaaGreatDoor
