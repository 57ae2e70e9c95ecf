/-
  Texts joined: Who took over has another token. Who took over has another token: any inputs.
-/
import Derived.Test.YtelgcaacaolgfaaGreatDoorStC
import Derived.Test.YtelgcaacaolgfaaGreatDoorRefM
import Derived.Test.YtelgcaacaolgfaaGreatDoorCmX
import Derived.Test.YtelgcaacaolgfaaGreatDoorCmG
namespace Go.Proofs.YtelgcaacaolgfaaGreatDoor
open Go Go.CM
set_option maxRecDepth 100000
set_option maxHeartbeats 4000000

theorem doL_take {e : Entry} {d : Deed} {c : Conf} (k0 : d.kind % 6 = 0) (h : (doL e d c).2 = 0) : ¬ heldP e d.now ∧ (doL e d c).1.token = e.token + 1 ∧ (doL e d c).1.lease = plusI d.now c.br.lease := by
  unfold doL at h ⊢
  rw [if_pos k0] at h ⊢
  unfold takeL at h ⊢
  split at h
  · cases h
  · rename_i hc
    split at h
    · cases h
    · rename_i hh
      split at h
      · cases h
      · rename_i ht
        rw [if_neg hc, if_neg hh, if_neg ht]
        exact ⟨hh, rfl, rfl⟩
theorem pass_keep {e : Entry} {t : Int} {now : Int} {c : Conf} (h : (passL e t now c).2 = 0) : (passL e t now c).1.token = e.token ∧ ownI e t = 0 := by
  unfold passL at h ⊢
  split at h
  · rename_i hz; exact absurd h hz
  · rename_i hz
    split at h
    · cases h
    · rename_i hp
      rw [if_neg hz, if_neg hp]
      exact ⟨rfl, Classical.byContradiction hz⟩
theorem fin_keep {e : Entry} {t : Int} {st now : Int} {tx : List UInt8} {c : Conf} (h : (finL e t st tx now c).2 = 0) : (finL e t st tx now c).1.token = e.token ∧ ownI e t = 0 := by
  unfold finL at h ⊢
  split at h
  · rename_i hz; exact absurd h hz
  · rename_i hz
    split at h
    · rename_i hp
      rw [if_neg hz, if_pos hp]
      exact ⟨rfl, Classical.byContradiction hz⟩
    · cases h
theorem fail_keep {e : Entry} {t : Int}  (h : (failL e t).2 = 0) : (failL e t).1.token = e.token ∧ ownI e t = 0 := by
  unfold failL at h ⊢
  split at h
  · rename_i hz; exact absurd h hz
  · rename_i hz
    rw [if_neg hz]
    exact ⟨rfl, Classical.byContradiction hz⟩
theorem rel_keep {e : Entry} {t : Int} {now : Int} (h : (relL e t now).2 = 0) : (relL e t now).1.token = e.token ∧ ownI e t = 0 := by
  unfold relL at h ⊢
  split at h
  · rename_i hz; exact absurd h hz
  · rename_i hz
    rw [if_neg hz]
    exact ⟨rfl, Classical.byContradiction hz⟩
theorem doL_keep {e : Entry} {d : Deed} {c : Conf} (k0 : d.kind % 6 ≠ 0) (k5 : d.kind % 6 ≠ 5) (hk : 0 ≤ d.kind) (h : (doL e d c).2 = 0) : (doL e d c).1.token = e.token ∧ (d.own = false → e.token = d.token) := by
  have ho : ∀ t, t = (if d.own = true then e.token else d.token) → ownI e t = 0 → (d.own = false → e.token = d.token) := fun t ht h0 hf => by
    have := (ownI_can h0).2
    rw [ht, hf] at this
    exact this
  unfold doL at h ⊢
  rw [if_neg k0] at h ⊢
  by_cases k1 : d.kind % 6 = 1
  · rw [if_pos k1] at h ⊢
    have := pass_keep h
    exact ⟨this.1, ho _ rfl this.2⟩
  rw [if_neg k1] at h ⊢
  by_cases k2 : d.kind % 6 = 2
  · rw [if_pos k2] at h ⊢
    have := fin_keep h
    exact ⟨this.1, ho _ rfl this.2⟩
  rw [if_neg k2] at h ⊢
  by_cases k3 : d.kind % 6 = 3
  · rw [if_pos k3] at h ⊢
    have := fail_keep h
    exact ⟨this.1, ho _ rfl this.2⟩
  rw [if_neg k3] at h ⊢
  by_cases k4 : d.kind % 6 = 4
  · rw [if_pos k4] at h ⊢
    have := rel_keep h
    exact ⟨this.1, ho _ rfl this.2⟩
  · omega
theorem fences_prog (e0 : Entry) (s : Nat) (b : Bool) (ds : List Deed) (c : Conf) (hd : ∀ d ∈ ds, 0 ≤ d.kind ∧ d.kind ≤ 255) (hs0 : smallE e0) : CallsR Tryz.prog nlaw21_LeaseFences [.agg e0.enc, .slice s 0 ds.length 13, .agg c.enc] [(s, .cells b (ds.flatMap Deed.enc))] fun v => v = .bool true := by
  have h0 := awake_prog
  have h4 := rconfig_prog c
  have hce : c.enc = [.int .i64 c.workers, .int .i64 c.lease, .int .i64 c.ttl, .int .i64 c.quota, .int .i64 c.segment, .int .i64 c.disk] := rfl
  have hbe : c.br.enc = [.int .i64 c.br.workers, .int .i64 c.br.lease, .int .i64 c.br.ttl, .int .i64 c.br.quota, .int .i64 c.br.segment, .int .i64 c.br.disk] := rfl
  rw [hce] at h4 ⊢
  rw [hbe] at h4
  unfold Entry.enc
  refine slaw21_LeaseFences fun H hh => ?_
  dsimp only [claw21_LeaseFences]
  refine walk1 (k := ?_)
  repeat' first | refine And.intro ?_ ?_ | intro
  all_goals refine leaf ?_
  refine callE (h0) ?_
  refine walk1 (k := ?_)
  repeat' first | refine And.intro ?_ ?_ | intro
  all_goals refine leaf ?_
  by_cases hl : ds.length ≤ 20
  · rename_i eb _ _ cb _ hh
    refine c_cond_f (by show V.bool _ = _; simp; omega) ?_
    refine walk1 (k := ?_)
    repeat' first | refine And.intro ?_ ?_ | intro
    all_goals refine leaf ?_
    refine loopN [3, 5, 7, 8, 23, 24, 25] ds.length (fun i vs L => ∃ (e : Entry) (tk : Bool), smallE e ∧ e0.token ≤ e.token ∧ (tk = true → e0.token < e.token) ∧ vs = [.ptr eb 0, .ptr cb 0, .int .i64 e0.token, .bool tk, .slice s 0 ds.length 13, .int .i64 ds.length, .int .i64 (i : Nat)] ∧ L = [(cb, .cells true c.enc), (eb, .cells true e.enc), (s, .cells b (ds.flatMap Deed.enc))])
      (Nx.here ⟨e0, false, hs0, Int.le_refl _, (fun h => by cases h), rfl, rfl⟩) ?_
    clear hh
    rintro i _ _ env H hi ⟨e, tk, hsm, ht, htk, rfl, rfl⟩ hh
    simp only [puts]
    by_cases hn : i < ds.length
    · have hdk := hd _ (nth_mem hn)
      have h1 := small21_prog e (nth ds i)
      have h2 := held_prog e (nth ds i).now
      have h3 := fun hs => do_prog e (nth ds i) c hdk hs
      rw [hce] at hh
      unfold Entry.enc at hh
      refine walk1 (k := ?_)
      repeat' first | refine And.intro ?_ ?_ | intro
      all_goals refine leaf ?_
      refine c_cond_t (by show V.bool _ = _; simp; omega) ?_
      refine walk1 (k := ?_)
      repeat' first | refine And.intro ?_ ?_ | intro
      all_goals refine leaf ?_
      rename_i db _ _ _ hh
      generalize nth ds i = d at *
      have hA : d.kind % 6 = 0 → (doL e d c).2 = 0 → ¬ heldP e d.now ∧ (doL e d c).1.token = e.token + 1 ∧ (doL e d c).1.lease = plusI d.now c.br.lease := doL_take
      have hB : d.kind % 6 ≠ 0 → d.kind % 6 ≠ 5 → (doL e d c).2 = 0 → (doL e d c).1.token = e.token ∧ (d.own = false → e.token = d.token) := fun a b h => doL_keep a b hdk.1 h
      have hX : (doL e d c).2 = 0 → smallE (doL e d c).1 := fun h => may_small (doL_may h)
      generalize doL e d c = X at *
      unfold stV at h3
      unfold Entry.enc Deed.enc at h1
      unfold Entry.enc at h2
      unfold Entry.enc Deed.enc at h3
      rw [hce] at h3
      refine callR (h1) ?_
      rintro v ⟨b2, rfl, hb⟩
      cases b2 with
      | false =>
        refine walk1 (k := ?_)
        repeat' first | refine And.intro ?_ ?_ | intro
        all_goals refine leaf ?_
        exact doneR rfl
      | true =>
        obtain ⟨hse, hsd⟩ := hb rfl
        have h3 := h3 (by show _ + _ + _ ≤ _; omega)
        refine walk (k := ?_)
        repeat' first | refine And.intro ?_ ?_ | intro
        all_goals refine leaf ?_
        · exact Nx.next (by omega) ⟨e, tk, hsm, ht, htk, rfl, rfl⟩
        · rename_i k5
          have ht1 := rtime_prog d.now
          by_cases hz : X.2 = 0
          · rw [hz] at h3
            by_cases k0 : d.kind % 6 = 0
            · obtain ⟨a1, a2, a3⟩ := hA k0 hz
              rw [decide_eq_false a1] at h2
              refine callE (h2) ?_
              refine walk1 (k := ?_)
              repeat' first | refine And.intro ?_ ?_ | intro
              all_goals refine leaf ?_
              refine callE (h3) ?_
              refine walk1 (k := ?_)
              repeat' first | refine And.intro ?_ ?_ | intro
              all_goals refine leaf ?_
              have hb1 : 0 ≤ timI d.now ∧ timI d.now ≤ 1099511627776 := timI_ge d.now
              have hb2 : 0 ≤ c.br.lease ∧ c.br.lease ≤ 1073741824 := by
                have := brI_ge (n := c.lease) (lo := 1) (hi := 1073741824) (by decide)
                exact ⟨by have := this.1; show 0 ≤ brI _ _ _; omega, this.2⟩
              have hp : plusI d.now c.br.lease = timI (timI d.now + c.br.lease) := by rw [plusI, show numI c.br.lease = c.br.lease from numI_br (by decide) (by decide)]
              rw [hp] at a3
              have ht2 := rtime_prog (timI d.now + c.br.lease)
              generalize timI d.now = t1 at *
              generalize c.br.lease = cl at *
              generalize timI (t1 + cl) = t2 at *
              refine wps_slot (s := 54) (v := .bool true) (by show V.bool _ = _; rw [k0]; rfl) ?_
              refine walk (k := ?_)
              repeat' first | refine And.intro ?_ ?_ | intro
              all_goals refine leaf ?_
              all_goals try
                exfalso
                omega
              refine callE (ht1) ?_
              refine walk1 (k := ?_)
              repeat' first | refine And.intro ?_ ?_ | intro
              all_goals refine leaf ?_
              refine callE (h4) ?_
              refine walk1 (k := ?_)
              repeat' first | refine And.intro ?_ ?_ | intro
              all_goals refine leaf ?_
              refine callE (ht2) ?_
              refine walk1 (k := ?_)
              repeat' first | refine And.intro ?_ ?_ | intro
              all_goals refine leaf ?_
              refine c_cond_f (by show V.bool _ = _; rw [a3]; simp) ?_
              refine walk1 (k := ?_)
              repeat' first | refine And.intro ?_ ?_ | intro
              all_goals refine leaf ?_
              refine wps_slot (s := 81) (v := .bool false) (by show V.bool _ = _; simp [k0]) ?_
              refine walk1 (k := ?_)
              repeat' first | refine And.intro ?_ ?_ | intro
              all_goals refine leaf ?_
              refine wps_slot (s := 99) (v := .bool false) (by show V.bool _ = _; simp [k0]) ?_
              refine walk1 (k := ?_)
              repeat' first | refine And.intro ?_ ?_ | intro
              all_goals refine leaf ?_
              cases tk with
              | true =>
                refine walk1 (k := ?_)
                repeat' first | refine And.intro ?_ ?_ | intro
                all_goals refine leaf ?_
                exact Nx.next (by omega) ⟨X.1, true, hX hz, by omega, fun _ => by omega, rfl, rfl⟩
              | false =>
                refine walk1 (k := ?_)
                repeat' first | refine And.intro ?_ ?_ | intro
                all_goals refine leaf ?_
                exact Nx.next (by omega) ⟨X.1, (d.kind % 6 == 0), hX hz, by omega, fun _ => by omega, rfl, rfl⟩
            · obtain ⟨a1, a2⟩ := hB k0 (by omega) hz
              refine callE (h2) ?_
              refine walk1 (k := ?_)
              repeat' first | refine And.intro ?_ ?_ | intro
              all_goals refine leaf ?_
              refine callE (h3) ?_
              refine walk1 (k := ?_)
              repeat' first | refine And.intro ?_ ?_ | intro
              all_goals refine leaf ?_
              refine wps_slot (s := 54) (v := .bool false) (by show V.bool _ = _; simp [k0]) ?_
              refine walk1 (k := ?_)
              repeat' first | refine And.intro ?_ ?_ | intro
              all_goals refine leaf ?_
              refine wps_slot (s := 81) (v := .bool true) (by show V.bool _ = _; simp [k0]) ?_
              cases tk with
              | false =>
                refine walk1 (k := ?_)
                repeat' first | refine And.intro ?_ ?_ | intro
                all_goals refine leaf ?_
                refine wps_slot (s := 99) (v := .bool true) (by show V.bool _ = _; simp [k0]) ?_
                refine walk1 (k := ?_)
                repeat' first | refine And.intro ?_ ?_ | intro
                all_goals refine leaf ?_
                refine c_cond_f (by show V.bool _ = _; rw [a1]; simp) ?_
                refine walk1 (k := ?_)
                repeat' first | refine And.intro ?_ ?_ | intro
                all_goals refine leaf ?_
                exact Nx.next (by omega) ⟨X.1, (d.kind % 6 == 0), hX hz, by omega, (fun h => absurd (by simpa using h) k0), rfl, rfl⟩
              | true =>
                have htk := htk rfl
                have hown : d.own = true ∨ (d.own = false ∧ e.token = d.token) := by
                  cases ho : d.own with
                  | true => exact .inl rfl
                  | false => exact .inr ⟨rfl, a2 ho⟩
                rcases hown with ho | ⟨ho, hto⟩
                · skip
                  refine walk1 (k := ?_)
                  repeat' first | refine And.intro ?_ ?_ | intro
                  all_goals refine leaf ?_
                  refine wps_slot (s := 89) (v := .bool false) (by show V.bool (!d.own) = _; rw [ho]; rfl) ?_
                  refine walk1 (k := ?_)
                  repeat' first | refine And.intro ?_ ?_ | intro
                  all_goals refine leaf ?_
                  refine wps_slot (s := 99) (v := .bool true) (by show V.bool _ = _; simp [k0]) ?_
                  refine walk1 (k := ?_)
                  repeat' first | refine And.intro ?_ ?_ | intro
                  all_goals refine leaf ?_
                  refine c_cond_f (by show V.bool _ = _; rw [a1]; simp) ?_
                  refine walk1 (k := ?_)
                  repeat' first | refine And.intro ?_ ?_ | intro
                  all_goals refine leaf ?_
                  exact Nx.next (by omega) ⟨X.1, true, hX hz, by omega, fun _ => by omega, rfl, rfl⟩
                · skip
                  refine walk1 (k := ?_)
                  repeat' first | refine And.intro ?_ ?_ | intro
                  all_goals refine leaf ?_
                  refine wps_slot (s := 89) (v := .bool true) (by show V.bool (!d.own) = _; rw [ho]; rfl) ?_
                  refine walk1 (k := ?_)
                  repeat' first | refine And.intro ?_ ?_ | intro
                  all_goals refine leaf ?_
                  refine c_cond_f (by show V.bool (d.token == e0.token) = _; simp; omega) ?_
                  refine walk1 (k := ?_)
                  repeat' first | refine And.intro ?_ ?_ | intro
                  all_goals refine leaf ?_
                  refine wps_slot (s := 99) (v := .bool true) (by show V.bool _ = _; simp [k0]) ?_
                  refine walk1 (k := ?_)
                  repeat' first | refine And.intro ?_ ?_ | intro
                  all_goals refine leaf ?_
                  refine c_cond_f (by show V.bool _ = _; rw [a1]; simp) ?_
                  refine walk1 (k := ?_)
                  repeat' first | refine And.intro ?_ ?_ | intro
                  all_goals refine leaf ?_
                  exact Nx.next (by omega) ⟨X.1, true, hX hz, by omega, fun _ => by omega, rfl, rfl⟩
          · skip
            refine callE (h2) ?_
            refine walk1 (k := ?_)
            repeat' first | refine And.intro ?_ ?_ | intro
            all_goals refine leaf ?_
            refine callE (h3) ?_
            refine walk (k := ?_)
            repeat' first | refine And.intro ?_ ?_ | intro
            all_goals refine leaf ?_
            all_goals first
              | (exfalso; omega)
              | exact Nx.next (by omega) ⟨e, tk, hsm, ht, htk, rfl, rfl⟩
    · skip
      refine walk1 (k := ?_)
      repeat' first | refine And.intro ?_ ?_ | intro
      all_goals refine leaf ?_
      refine c_cond_f (by show V.bool _ = _; simp; omega) ?_
      have hps := pass_prog e e0.token 0 c hsm
      have hpz : tk = true → (passL e e0.token 0 c).2 ≠ 0 := fun h h2 => by
        have := (ownI_can (pass_keep h2).2).2
        have := htk h
        omega
      generalize passL e e0.token 0 c = Y at *
      unfold stV Entry.enc at hps
      unfold Entry.enc at hh
      rw [hce] at hps hh
      refine walk1 (k := ?_)
      repeat' first | refine And.intro ?_ ?_ | intro
      all_goals refine leaf ?_
      refine callE (hps) ?_
      refine walk1 (k := ?_)
      repeat' first | refine And.intro ?_ ?_ | intro
      all_goals refine leaf ?_
      cases tk with
      | false =>
        refine walk (k := ?_)
        repeat' first | refine And.intro ?_ ?_ | intro
        all_goals refine leaf ?_
        all_goals exact doneR rfl
      | true =>
        have hpz := hpz rfl
        refine walk (k := ?_)
        repeat' first | refine And.intro ?_ ?_ | intro
        all_goals refine leaf ?_
        all_goals first
          | exact doneR rfl
          | (exfalso; omega)
  · refine c_cond_t (by show V.bool _ = _; simp; omega) ?_
    refine walk1 (k := ?_)
    repeat' first | refine And.intro ?_ ?_ | intro
    all_goals refine leaf ?_
    exact doneR rfl
end Go.Proofs.YtelgcaacaolgfaaGreatDoor

namespace Go.Proofs.YtelgcaacaolgfaaGreatDoor
open Go Go.CM
set_option maxRecDepth 100000
set_option maxHeartbeats 4000000

theorem walkLeaseFences (vs : List V) (H : Heap) (hg : Givens H 1 [.agg [.i .i64, .s, .i .i64, .i .i64, .i .i64, .i .i64, .s, .i .i64, .i .i64, .i .i64, .s, .s, .s, .s], .rows [.i .u8, .b, .i .i64, .i .i64, .i .i64, .s, .i .i64, .i .i64, .i .i64, .s, .s, .s, .s], .agg [.i .i64, .i .i64, .i .i64, .i .i64, .i .i64, .i .i64]] vs) (hb : Bnds reachBytes [.agg [.i .i64, .s, .i .i64, .i .i64, .i .i64, .i .i64, .s, .i .i64, .i .i64, .i .i64, .s, .s, .s, .s], .rows [.i .u8, .b, .i .i64, .i .i64, .i .i64, .s, .i .i64, .i .i64, .i .i64, .s, .s, .s, .s], .agg [.i .i64, .i .i64, .i .i64, .i .i64, .i .i64, .i .i64]] vs) (_ : ∀ id o, H id = some o → o.rw = false) : CallsC Tryz.prog nlaw21_LeaseFences vs H fun v _ => v = .bool true := by
  obtain ⟨v, vs, rfl, ⟨cs, rfl, h0⟩, hg1⟩ := hg.cons
  obtain ⟨w, vs, rfl, ⟨rs, hf, hlen, hr⟩, hg2⟩ := hg1.cons
  obtain ⟨w, vs, rfl, ⟨cs3, rfl, h3⟩, hg3⟩ := hg2.cons
  obtain rfl := hg3.nil
  obtain ⟨e, rfl⟩ := entOf h0
  obtain ⟨c, rfl⟩ := confOf h3
  have hb0 : BndV reachBytes (.agg e.enc) := hb.1
  have hs0 : smallE e := by
    have r : reachBytes = 140737488351232 := rfl
    have h1 := hb0 e.method (by simp [Entry.enc])
    have h2 := hb0 e.path (by simp [Entry.enc])
    have h3 := hb0 e.body (by simp [Entry.enc])
    show _ + _ + _ ≤ _
    omega
  obtain ⟨ds, rfl⟩ := rowsOf (fun d : {d : Deed // 0 ≤ d.kind ∧ d.kind ≤ 255} => d.1.enc) (fun r hr => by obtain ⟨d, h1, h2⟩ := deedOf (hf r hr); exact ⟨⟨d, h2⟩, h1⟩)
  obtain ⟨t, rfl, ht1, ht⟩ := givenRowsA hr
  have hh := ht [] (Has.nil H) (by simp)
  have hp := fences_prog e t false (ds.map (·.1)) c (fun d hd => by obtain ⟨x, _, rfl⟩ := List.mem_map.1 hd; exact x.2) hs0
  rw [List.length_map, List.flatMap_map] at hp
  exact (CallsR.reads (R := []) hp hh).mono fun _ _ h => h.1
end Go.Proofs.YtelgcaacaolgfaaGreatDoor
