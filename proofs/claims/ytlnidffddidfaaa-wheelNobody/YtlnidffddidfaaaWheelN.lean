/-
  The wheel: Tick.
-/
import Derived.Test.YtlnidffddidfaaaWheelM
import Derived.Test.YtlnidffddidfaaaWheelC
namespace Go.Proofs.Ytlnidffddidfaaa
open Go Go.CM
set_option maxRecDepth 100000
set_option maxHeartbeats 4000000

theorem S1.len {now t k s : Nat} {ins : List Ent} {D bys : List Tmr} (h : S1 now t k s ins D bys) (p : Nat × Nat) : D.length + (rowAt ins p).length ≤ bys.length := by
  have h1 := h.perm.length_eq
  have h2 := (flat_take ins p).length_eq
  rw [List.length_append] at h1 h2
  omega
abbrev TkL (d w t mi mb : Nat) (ins : List Ent) (D bys : List Tmr) : List Ob := TL d true D :: WO w t mi mb :: IO mi ins :: BO mb bys :: rowsO ins
theorem tick_prog (w now : Nat) (l : List Tmr) (L : List Ob) (n : Int) (hw : Wl w now l L) : CallsL Try.prog nwheel_Wheel_Tick [.ptr w 0, .int .i64 n] L fun v L' => ∃ o L2,
    v = .slice o 0 ((dueT (max now (tm n).toNat : Nat) l).map Tmr.id).length 1 ∧ L' = IL o true ((dueT (max now (tm n).toNat : Nat) l).map Tmr.id) :: L2 ∧ Wl w (max now (tm n).toNat) (l.drop (dueT (max now (tm n).toNat : Nat) l).length) L2 := by
  obtain ⟨mi, mb, ins, bys, rfl, hw, hp, hs⟩ := hw
  have hn := hw.now
  have hlen := hw.len
  have htn := tm_nat n
  generalize hT : (tm n).toNat = T at *
  have hti := time_prog n
  rw [htn.1] at hti
  have hTl := htn.2
  have ht0 := take_prog w now mi mb ins (7, 0)
  refine swheel_Wheel_Tick fun H hh => ?_
  dsimp only [cwheel_Wheel_Tick]
  refine walk (k := ?_)
  repeat' first | refine And.intro ?_ ?_ | intro
  all_goals refine leaf ?_
  refine callL (ht0) ?_
  rintro _ _ H' ⟨s0, rfl, rfl⟩ hh
  refine walk1 (k := ?_)
  repeat' first | refine And.intro ?_ ?_ | intro
  all_goals refine leaf ?_
  have hS0 : S1 now (max now T) 0 0 (takeP ins (7, 0)) (rowAt ins (7, 0)) bys := S1.start hw (Nat.le_max_left _ _)
  refine cutO [0, 5] (fun vs L => ∃ d ins' D, S2 (max now T) ins' D bys ∧ vs = [.ptr w 0, .slice d 0 D.length 2] ∧ L = TkL d w (max now T) mi mb ins' D bys) ?_ ?_
  · skip
    refine callE (hti) ?_
    refine walk1 (k := ?_)
    repeat' first | refine And.intro ?_ ?_ | intro
    all_goals refine leaf ?_
    by_cases hlt : now < T
    · refine c_cond_t (by show V.bool _ = _; simp; omega) ?_
      rw [Nat.max_eq_right (Nat.le_of_lt hlt)] at hS0 ⊢
      obtain ⟨top, hi, hhi⟩ := Hi.of (now := now) (at_ := T) hn hTl hlt
      have htop := hi.le
      have hhp := high_prog T now hTl hn
      rw [hhi] at hhp
      refine walk1 (k := ?_)
      repeat' first | refine And.intro ?_ ?_ | intro
      all_goals refine leaf ?_
      refine callE (hhp) ?_
      refine walk1 (k := ?_)
      repeat' first | refine And.intro ?_ ?_ | intro
      all_goals refine leaf ?_
      refine loopN [0, 1, 5, 6, 36, 37] top (fun k vs L => ∃ d ins' D, S1 now T k 0 ins' D bys ∧ vs = [.ptr w 0, .int .i64 T, .slice d 0 D.length 2, .int .i64 top, .int .i64 top, .int .i64 k] ∧ L = TkL d w now mi mb ins' D bys) (Nx.here ⟨s0, _, _, hS0, rfl, rfl⟩) ?_
      clear hh hS0
      rintro k _ _ e H hk ⟨d, ins1, D, hS, rfl, rfl⟩ hh
      simp only [puts]
      by_cases hkt : k < top
      · skip
        refine walk1 (k := ?_)
        repeat' first | refine And.intro ?_ ?_ | intro
        all_goals refine leaf ?_
        refine c_cond_t (by show V.bool _ = _; simp; omega) ?_
        refine walk1 (k := ?_)
        repeat' first | refine And.intro ?_ ?_ | intro
        all_goals refine leaf ?_
        refine loopN [0, 1, 5, 6, 7, 36, 37, 40] 64 (fun s vs L => ∃ d ins' D, S1 now T k s ins' D bys ∧ vs = [.ptr w 0, .int .i64 T, .slice d 0 D.length 2, .int .i64 top, .int .i64 k, .int .i64 top, .int .i64 k, .int .i64 s] ∧ L = TkL d w now mi mb ins' D bys) (Nx.here ⟨d, _, _, hS, rfl, rfl⟩) ?_
        clear hh hS d ins1 D e H
        rintro s _ _ e H hs64 ⟨d, ins1, D, hS, rfl, rfl⟩ hh
        simp only [puts]
        by_cases hs : s < 64
        · skip
          refine walk1 (k := ?_)
          repeat' first | refine And.intro ?_ ?_ | intro
          all_goals refine leaf ?_
          refine c_cond_t (by show V.bool _ = _; simp; omega) ?_
          refine walk1 (k := ?_)
          repeat' first | refine And.intro ?_ ?_ | intro
          all_goals refine leaf ?_
          have htk := take_prog w now mi mb ins1 (k, s)
          refine callL (htk) ?_
          rintro _ _ H' ⟨s1, rfl, rfl⟩ hh
          have hln := hS.len (k, s)
          refine wps_approw hh (rowAt ins1 (k, s)) (l := D) (enc := Tmr.enc) (m := 1) rfl rfl .here (fun _ => rfl) (fun id' => .there (.there (.there (.skip .here1)))) (by omega) fun id' H' hh => ?_
          refine walk1 (k := ?_)
          repeat' first | refine And.intro ?_ ?_ | intro
          all_goals refine leaf ?_
          exact Nx.next hs ⟨id', _, _, hS.take hn hTl hi (.inl hkt), rfl, rfl⟩
        · skip
          refine walk1 (k := ?_)
          repeat' first | refine And.intro ?_ ?_ | intro
          all_goals refine leaf ?_
          refine c_cond_f (by show V.bool _ = _; simp; omega) ?_
          refine walk1 (k := ?_)
          repeat' first | refine And.intro ?_ ?_ | intro
          all_goals refine leaf ?_
          have : s = 64 := by omega
          subst this
          exact Nx.next hkt ⟨d, _, _, hS.up hn, rfl, rfl⟩
      · skip
        refine walk1 (k := ?_)
        repeat' first | refine And.intro ?_ ?_ | intro
        all_goals refine leaf ?_
        refine c_cond_f (by show V.bool _ = _; simp; omega) ?_
        refine walk1 (k := ?_)
        repeat' first | refine And.intro ?_ ?_ | intro
        all_goals refine leaf ?_
        have : k = top := by omega
        subst this
        have hdg : CallsR Try.prog nwheel_digit [.int .i64 T, .int .i64 k] [] fun v => v = .int .i64 ((dg T k : Nat) : Int) := digit_prog T k hTl htop
        have hdl := dg_lt T k
        refine callE (hdg) ?_
        refine walk1 (k := ?_)
        repeat' first | refine And.intro ?_ ?_ | intro
        all_goals refine leaf ?_
        refine loopN [0, 1, 5, 6, 9, 55, 56] (dg T k) (fun s vs L => ∃ d ins' D, S1 now T k s ins' D bys ∧ vs = [.ptr w 0, .int .i64 T, .slice d 0 D.length 2, .int .i64 k, .int .i64 (dg T k : Nat), .int .i64 (dg T k : Nat), .int .i64 s] ∧ L = TkL d w now mi mb ins' D bys) (Nx.here ⟨d, _, _, hS, rfl, rfl⟩) ?_
        clear hh hS d ins1 D e H
        rintro s _ _ e H hsl ⟨d, ins1, D, hS, rfl, rfl⟩ hh
        simp only [puts]
        by_cases hs : s < dg T k
        · skip
          refine walk1 (k := ?_)
          repeat' first | refine And.intro ?_ ?_ | intro
          all_goals refine leaf ?_
          refine c_cond_t (by show V.bool _ = _; simp; omega) ?_
          refine walk1 (k := ?_)
          repeat' first | refine And.intro ?_ ?_ | intro
          all_goals refine leaf ?_
          have htk := take_prog w now mi mb ins1 (k, s)
          refine callL (htk) ?_
          rintro _ _ H' ⟨s1, rfl, rfl⟩ hh
          have hln := hS.len (k, s)
          refine wps_approw hh (rowAt ins1 (k, s)) (l := D) (enc := Tmr.enc) (m := 1) rfl rfl .here (fun _ => rfl) (fun id' => .there (.there (.there (.skip .here1)))) (by omega) fun id' H' hh => ?_
          refine walk1 (k := ?_)
          repeat' first | refine And.intro ?_ ?_ | intro
          all_goals refine leaf ?_
          exact Nx.next hs ⟨id', _, _, hS.take hn hTl hi (.inr ⟨rfl, hs⟩), rfl, rfl⟩
        · skip
          refine walk1 (k := ?_)
          repeat' first | refine And.intro ?_ ?_ | intro
          all_goals refine leaf ?_
          refine c_cond_f (by show V.bool _ = _; simp; omega) ?_
          refine walk1 (k := ?_)
          repeat' first | refine And.intro ?_ ?_ | intro
          all_goals refine leaf ?_
          have : s = dg T k := by omega
          subst this
          have htk := take_prog w now mi mb ins1 (k, dg T k)
          refine callL (htk) ?_
          rintro _ _ H' ⟨s1, rfl, rfl⟩ hh
          refine walk1 (k := ?_)
          repeat' first | refine And.intro ?_ ?_ | intro
          all_goals refine leaf ?_
          have hag : ∀ x ∈ rowAt ins1 (k, dg T k), 0 ≤ x.at_ ∧ x.at_ ≤ 1099511627776 := fun x hx => hS.ri.rng x (hS.ri.rowAt_mem.1 hx).1
          have hln := hS.len (k, dg T k)
          have hfl := (flat_take ins1 (k, dg T k))
          have hpm := hS.perm
          have hdue := hS.due
          have hRT := hS.turn hn hTl hi
          have hlf := hfl.length_eq
          have hlp := hpm.length_eq
          generalize hA : rowAt ins1 (k, dg T k) = A at *
          generalize hF : takeP ins1 (k, dg T k) = F at *
          rw [List.length_append] at hlf hlp
          refine loopN [0, 5, 76, 77, 78] A.length (fun i vs L => ∃ ins2 all2, RI T ins2 all2 ∧ all2.Perm (A.take i ++ flat F) ∧ vs = [.ptr w 0, .slice d 0 D.length 2, .slice s1 0 A.length 2, .int .i64 A.length, .int .i64 i] ∧ L = TL s1 true A :: TkL d w T mi mb ins2 D bys) (Nx.here ⟨F, _, hRT, .refl _, rfl, rfl⟩) ?_
          clear hh hA hF
          rintro i _ _ e H hiA ⟨ins2, all2, hr2, hp2, rfl, rfl⟩ hh
          simp only [puts]
          by_cases hia : i < A.length
          · skip
            refine walk1 (k := ?_)
            repeat' first | refine And.intro ?_ ?_ | intro
            all_goals refine leaf ?_
            refine c_cond_t (by show V.bool _ = _; simp; omega) ?_
            refine walk1 (k := ?_)
            repeat' first | refine And.intro ?_ ?_ | intro
            all_goals refine leaf ?_
            have hl2 := hp2.length_eq
            rw [List.length_append, List.length_take] at hl2
            have hpt := put_prog w T mi mb ins2 all2 (nth A i) hr2 (by omega) hTl (hag _ (nth_mem hia))
            refine callL (hpt) ?_
            rintro _ _ H' ⟨ins3, rfl, hr3, rfl⟩ hh
            refine walk1 (k := ?_)
            repeat' first | refine And.intro ?_ ?_ | intro
            all_goals refine leaf ?_
            refine Nx.next hia ⟨ins3, _, hr3, ?_, rfl, rfl⟩
            rw [take_getD hia, List.append_assoc]
            exact (hp2.cons _).trans List.perm_middle.symm
          · skip
            refine walk1 (k := ?_)
            repeat' first | refine And.intro ?_ ?_ | intro
            all_goals refine leaf ?_
            refine c_cond_f (by show V.bool _ = _; simp; omega) ?_
            refine walk1 (k := ?_)
            repeat' first | refine And.intro ?_ ?_ | intro
            all_goals refine leaf ?_
            rw [List.take_of_length_le (by omega)] at hp2
            have ht2 := take_prog w T mi mb ins2 (7, 0)
            refine callL (ht2) ?_
            rintro _ _ H' ⟨s2, rfl, rfl⟩ hh
            have hS2 := S2.last (D := D) (bys := bys) hr2 hTl (((hp2.trans hfl.symm).append_left D).trans hpm) hdue
            have hl3 := hS2.perm.length_eq
            rw [List.length_append, List.length_append] at hl3
            refine wps_approw hh (rowAt ins2 (7, 0)) (l := D) (enc := Tmr.enc) (m := 1) rfl rfl .here (fun _ => rfl) (fun id' => .there (.there (.there (.skip (.there .here1))))) (by omega) fun id' H' hh => ?_
            refine walk1 (k := ?_)
            repeat' first | refine And.intro ?_ ?_ | intro
            all_goals refine leaf ?_
            exact Nx.cut ⟨id', _, _, hS2, rfl, rfl⟩
    · refine c_cond_f (by show V.bool _ = _; simp; omega) ?_
      rw [Nat.max_eq_left (by omega)] at hS0 ⊢
      refine walk1 (k := ?_)
      repeat' first | refine And.intro ?_ ?_ | intro
      all_goals refine leaf ?_
      refine Nx.cut ⟨s0, _, _, ⟨hS0.ri, hS0.perm, hS0.due, fun x hx => ?_⟩, rfl, rfl⟩
      obtain ⟨h1, h2⟩ := takeP_mem hw.ri hx
      exact Nat.lt_of_not_le fun hle => h2 (plc_due hle)
  clear hh hS0
  rintro _ _ e H ⟨d, ins1, D, hS, rfl, rfl⟩ hh
  simp only [puts]
  have htl : max now T ≤ 1099511627776 := Nat.max_le.2 ⟨hn, hTl⟩
  generalize max now T = t at *
  have hlp := hS.perm.length_eq
  rw [List.length_append] at hlp
  refine walk1 (k := ?_)
  repeat' first | refine And.intro ?_ ?_ | intro
  all_goals refine leaf ?_
  refine callL (sortT_prog d D (by omega)) ?_
  rintro _ _ H' ⟨D', hpD, hsD, rfl, rfl⟩ hh
  have hS' : S2 t ins1 D' bys := ⟨hS.ri, (hpD.append_right _).trans hS.perm, fun x hx => hS.due x (hpD.mem_iff.1 hx), hS.left⟩
  have hdl := hpD.length_eq
  rw [← hdl]
  refine walk1 (k := ?_)
  repeat' first | refine And.intro ?_ ?_ | intro
  all_goals refine leaf ?_
  refine loopN [0, 14, 93, 94, 95] D'.length (fun i vs L => ∃ o B, (D'.drop i ++ flat ins1).Perm B ∧ vs = [.ptr w 0, .slice o 0 ((D'.take i).map Tmr.id).length 1, .slice d 0 D'.length 2, .int .i64 D'.length, .int .i64 i] ∧ L = IL o true ((D'.take i).map Tmr.id) :: TkL d w t mi mb ins1 D' B)
    (Nx.hereW [_, .slice 0 0 0 1, _, _, _] ⟨0, bys, hS'.perm, rfl, rfl⟩) ?_
  clear hh
  rintro i _ _ e H hiD ⟨o, B, hB, rfl, rfl⟩ hh
  simp only [puts]
  have hti : ((D'.take i).map Tmr.id).length = i := by simp; omega
  by_cases hid : i < D'.length
  · skip
    refine walk1 (k := ?_)
    repeat' first | refine And.intro ?_ ?_ | intro
    all_goals refine leaf ?_
    refine c_cond_t (by show V.bool _ = _; simp; omega) ?_
    refine walk1 (k := ?_)
    repeat' first | refine And.intro ?_ ?_ | intro
    all_goals refine leaf ?_
    rename_i tid _ _ _ hh
    have hD := drop_getD hid
    have hnd0 : ((D' ++ flat ins1).map Tmr.id).Nodup := ((hS'.perm.map Tmr.id).nodup_iff).2 hw.nd
    have hnd1 : ((D'.drop i ++ flat ins1).map Tmr.id).Nodup := (((List.drop_sublist i D').append_right (flat ins1)).map Tmr.id).nodup hnd0
    have hndB : (B.map Tmr.id).Nodup := ((hB.map Tmr.id).nodup_iff).1 hnd1
    have hmB : nth D' i ∈ B := hB.mem_iff.1 (by rw [hD]; simp)
    have hf := find_by (nth D' i).id B
    rcases find_cases (isI (nth D' i).id) B with ⟨h1, h2⟩ | ⟨j, hj, h1, h2⟩
    · have := h2 _ hmB
      rw [isI_iff.2 rfl] at this; cases this
    · rw [h1] at hf
      refine wps_del hh (es' := (B.eraseIdx j).map byV) rfl hf (by rw [delE, map_eraseIdx']) (.there (.there (.there (.there (.there .here1))))) fun H' hh => ?_
      refine walk1 (k := ?_)
      repeat' first | refine And.intro ?_ ?_ | intro
      all_goals refine leaf ?_
      rename_i t2 o2 _ _
      have hst : (D'.take (i + 1)).map Tmr.id = (D'.take i).map Tmr.id ++ [(nth D' i).id] := by rw [take_getD hid, List.map_append]; rfl
      refine Nx.next hid ⟨o2, B.eraseIdx j, ?_, by rw [hst] <;> rfl, by rw [hst] <;> rfl⟩
      obtain ⟨j', hj', hje⟩ := List.mem_iff_getElem.1 hmB
      have hjj : j = j' := one_id hndB hj hj' (by rw [isI_iff.1 h2, nth_getElem hj', hje])
      subst hjj
      have hBj := erase_perm hj
      rw [nth_getElem hj, hje] at hBj
      rw [hD] at hB
      exact (hB.trans hBj).cons_inv
  · skip
    refine walk1 (k := ?_)
    repeat' first | refine And.intro ?_ ?_ | intro
    all_goals refine leaf ?_
    refine c_cond_f (by show V.bool _ = _; simp; omega) ?_
    refine walk1 (k := ?_)
    repeat' first | refine And.intro ?_ ?_ | intro
    all_goals refine leaf ?_
    have : i = D'.length := by omega
    subst this
    rw [List.drop_length, List.nil_append] at hB
    rw [List.take_length] at hh ⊢
    have hrg : ∀ x ∈ D' ++ flat ins1, 0 ≤ x.at_ := fun x hx => (hw.ri.rng x (hS'.perm.mem_iff.1 hx)).1
    obtain ⟨e1, e2⟩ := due_split (t := (t : Int)) hs (hp.symm.trans hS'.perm.symm) (fun x hx => by have := hS'.due x hx; have := hrg x (by simp [hx]); omega) (fun x hx => by have := hS'.left x hx; have := hrg x (List.mem_append_right _ hx); omega) hsD
    rw [← e1] at e2 ⊢
    have hsub : ∀ x ∈ B, x ∈ bys := fun x hx => hS'.perm.mem_iff.1 (List.mem_append_right _ (hB.mem_iff.2 hx))
    refine done ⟨o, _, rfl, rfl, mi, mb, ins1, B, rfl, ⟨⟨hS'.ri.nd, hS'.ri.at_, hB, fun x hx => hw.ri.rng x (hsub x hx)⟩, ?_, ?_, ?_⟩, hB.symm.trans e2, hs.sublist (List.drop_sublist _ _)⟩
    · have hnd0 : ((D' ++ flat ins1).map Tmr.id).Nodup := ((hS'.perm.map Tmr.id).nodup_iff).2 hw.nd
      exact ((hB.map Tmr.id).nodup_iff).1 (((List.sublist_append_right D' (flat ins1)).map Tmr.id).nodup hnd0)
    · exact htl
    · have := hB.length_eq
      rw [hdl] at *
      omega
end Go.Proofs.Ytlnidffddidfaaa
