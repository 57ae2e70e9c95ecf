/-
  The wheel: Next.
-/
import Derived.Test.YtlnidffddidfaaaWheelK
namespace Go.Proofs.Ytlnidffddidfaaa
open Go Go.CM
set_option maxRecDepth 100000
set_option maxHeartbeats 4000000

theorem rm_of {x : Ob} {L : List Ob} (h : x ∈ L) : ∃ R, Rm x L R := by
  obtain ⟨A, B, rfl⟩ := List.append_of_mem h
  exact ⟨A ++ B, .skip .here⟩
/-- The place's row: nothing, or a row that is there. -/
theorem row_cases (ins : List Ent) (p : Nat × Nat) : (ins.findIdx? (isP p) = none ∧ rowAt ins p = []) ∨ ∃ i, i < ins.length ∧ ins.findIdx? (isP p) = some i ∧ rowAt ins p = (nth ins i).row := by
  unfold rowAt
  rcases find_cases (isP p) ins with ⟨h1, _⟩ | ⟨i, hi, h1, _⟩
  · rw [h1]; exact .inl ⟨rfl, rfl⟩
  · rw [h1]; exact .inr ⟨i, hi, rfl, rfl⟩
theorem nat_at {t : Tmr} {n : Nat} (h : 0 ≤ t.at_ ∧ t.at_ ≤ 1099511627776) : t.at_.toNat ≤ n ↔ t.at_ ≤ n := by omega
def NextSays (bys : List Tmr) (v : V) : Prop := (bys = [] ∧ v = .tup [.int .i64 0, .bool false]) ∨ ∃ e ∈ bys, v = .tup [.int .i64 e.at_, .bool true] ∧ ∀ x ∈ bys, e.at_ ≤ x.at_
/-- All that is left lies at a place, or behind it. -/
def Behind (now k s : Nat) (bys : List Tmr) : Prop := ∀ x ∈ bys, (plc now x.at_.toNat).1 ≠ 7 ∧ (k < (plc now x.at_.toNat).1 ∨ (k = (plc now x.at_.toNat).1 ∧ s ≤ (plc now x.at_.toNat).2))
theorem next_prog (w now mi mb : Nat) (ins : List Ent) (bys : List Tmr) (hw : WI now ins bys) : CallsR Try.prog nwheel_Wheel_Next [.ptr w 0] (WLo w now mi mb ins bys) (NextSays bys) := by
  have hri := hw.ri
  have hlen := hw.len
  refine swheel_Wheel_Next fun H hh => ?_
  dsimp only [cwheel_Wheel_Next]
  refine walk (k := ?_)
  repeat' first | refine And.intro ?_ ?_ | intro
  all_goals refine leaf ?_
  have hf := find_in (7, 0) ins
  have hst : (rowAt ins (7, 0) ≠ [] → ∀ e ∈ rowAt ins (7, 0), (∀ x ∈ rowAt ins (7, 0), e.at_ ≤ x.at_) → NextSays bys (.tup [.int .i64 e.at_, .bool true])) := by
    intro _ e he hm
    have h1 := hri.rowAt_mem.1 he
    refine .inr ⟨e, h1.1, rfl, fun x hx => ?_⟩
    by_cases hx7 : (plc now x.at_.toNat) = (7, 0)
    · exact hm x (hri.rowAt_mem.2 ⟨hx, hx7⟩)
    · have g1 := hri.rng _ hx
      have g2 := hri.rng _ h1.1
      have := (plc_last hw.now (at_ := e.at_.toNat) (by show _ ≤ 1099511627776; omega)).1 (by rw [h1.2])
      have h3 : ¬ x.at_.toNat ≤ now := fun hle => hx7 (plc_due hle)
      omega
  have hno : rowAt ins (7, 0) = [] → Behind now 0 0 bys := by
    intro h0 x hx
    have : (plc now x.at_.toNat).1 ≠ 7 := fun h7 => by
      have g1 := hri.rng _ hx
      have := (plc_last hw.now (at_ := x.at_.toNat) (by show _ ≤ 1099511627776; omega)).1 h7
      have := hri.rowAt_mem.2 ⟨hx, plc_due this⟩
      rw [h0] at this; cases this
    exact ⟨this, by omega⟩
  have rest : Behind now 0 0 bys → True := fun _ => trivial
  refine cutO [0] (fun vs L => Behind now 0 0 bys ∧ vs = [.ptr w 0] ∧ L = WLo w now mi mb ins bys) ?_ ?_
  · rcases row_cases ins (7, 0) with ⟨h1, h2⟩ | ⟨i, hi, h1, h2⟩
    · rw [h1] at hf
      refine wps_lookN hh rfl (.there .here) hf ?_
      refine walk1 (k := ?_)
      repeat' first | refine And.intro ?_ ?_ | intro
      all_goals refine leaf ?_
      exact Nx.cut ⟨hno h2, rfl, rfl⟩
    · rw [h1] at hf
      refine wps_lookF hh rfl (.there .here) hf (e := entV (nth ins i)) (by rw [List.getElem?_map, getD_some hi]; rfl) ?_
      by_cases h0 : (nth ins i).row = []
      · skip
        refine walk1 (k := ?_)
        repeat' first | refine And.intro ?_ ?_ | intro
        all_goals refine leaf ?_
        refine c_cond_f (by show V.bool _ = _; simp [h0]) ?_
        refine walk1 (k := ?_)
        repeat' first | refine And.intro ?_ ?_ | intro
        all_goals refine leaf ?_
        exact Nx.cut ⟨hno (h2.trans h0), rfl, rfl⟩
      · skip
        refine walk1 (k := ?_)
        repeat' first | refine And.intro ?_ ?_ | intro
        all_goals refine leaf ?_
        refine c_cond_t (by show V.bool _ = _; simp; exact List.length_pos_iff.2 h0) ?_
        refine walk1 (k := ?_)
        repeat' first | refine And.intro ?_ ?_ | intro
        all_goals refine leaf ?_
        obtain ⟨R, hR⟩ := rm_of (x := TL (nth ins i).s true (nth ins i).row) (L := rowsO ins) (List.mem_map.2 ⟨nth ins i, nth_mem hi, rfl⟩)
        have hle := hri.row_le hi
        refine callR (least_prog (nth ins i).s true (nth ins i).row (by omega) h0) ?_ (ht := .cons (.there (.there (.there hR))) .nil)
        rintro _ ⟨e, he, rfl, hm⟩
        refine walk1 (k := ?_)
        repeat' first | refine And.intro ?_ ?_ | intro
        all_goals refine leaf ?_
        rw [h2] at hst
        exact doneR (hst h0 e he hm)
  clear hh hst hno rest
  rintro _ _ e H ⟨hb, rfl, rfl⟩ hh
  simp only [puts]
  refine walk1 (k := ?_)
  repeat' first | refine And.intro ?_ ?_ | intro
  all_goals refine leaf ?_
  refine loopN [0, 21] 7 (fun k vs L => Behind now k 0 bys ∧ vs = [.ptr w 0, .int .i64 k] ∧ L = WLo w now mi mb ins bys) (Nx.here ⟨hb, rfl, rfl⟩) ?_
  clear hh hb e H
  rintro k _ _ e H hk ⟨hb, rfl, rfl⟩ hh
  simp only [puts]
  by_cases hk7 : k < 7
  · skip
    refine walk1 (k := ?_)
    repeat' first | refine And.intro ?_ ?_ | intro
    all_goals refine leaf ?_
    refine c_cond_t (by show V.bool _ = _; simp; omega) ?_
    refine walk1 (k := ?_)
    repeat' first | refine And.intro ?_ ?_ | intro
    all_goals refine leaf ?_
    refine loopN [0, 5, 21, 24] 64 (fun s vs L => Behind now k s bys ∧ vs = [.ptr w 0, .int .i64 k, .int .i64 k, .int .i64 s] ∧ L = WLo w now mi mb ins bys) (Nx.here ⟨hb, rfl, rfl⟩) ?_
    clear hh hb e H
    rintro s _ _ e H hs ⟨hb, rfl, rfl⟩ hh
    simp only [puts]
    by_cases hs64 : s < 64
    · skip
      refine walk1 (k := ?_)
      repeat' first | refine And.intro ?_ ?_ | intro
      all_goals refine leaf ?_
      refine c_cond_t (by show V.bool _ = _; simp; omega) ?_
      refine walk1 (k := ?_)
      repeat' first | refine And.intro ?_ ?_ | intro
      all_goals refine leaf ?_
      have hf := find_in (k, s) ins
      have hnext : rowAt ins (k, s) = [] → Behind now k (s + 1) bys := by
        intro h0 x hx
        obtain ⟨h1, h2⟩ := hb x hx
        refine ⟨h1, ?_⟩
        rcases h2 with h2 | ⟨h2, h3⟩
        · exact .inl h2
        · refine .inr ⟨h2, ?_⟩
          have : s ≠ (plc now x.at_.toNat).2 := fun h => by
            have : x ∈ rowAt ins (k, s) := hri.rowAt_mem.2 ⟨hx, by rw [h2, h]⟩
            rw [h0] at this; cases this
          omega
      rcases row_cases ins (k, s) with ⟨h1, h2⟩ | ⟨i, hi, h1, h2⟩
      · rw [h1] at hf
        refine wps_lookN hh rfl (.there .here) hf ?_
        refine walk1 (k := ?_)
        repeat' first | refine And.intro ?_ ?_ | intro
        all_goals refine leaf ?_
        exact Nx.next hs64 ⟨hnext h2, rfl, rfl⟩
      · rw [h1] at hf
        refine wps_lookF hh rfl (.there .here) hf (e := entV (nth ins i)) (by rw [List.getElem?_map, getD_some hi]; rfl) ?_
        by_cases h0 : (nth ins i).row = []
        · skip
          refine walk1 (k := ?_)
          repeat' first | refine And.intro ?_ ?_ | intro
          all_goals refine leaf ?_
          refine c_cond_f (by show V.bool _ = _; simp [h0]) ?_
          refine walk1 (k := ?_)
          repeat' first | refine And.intro ?_ ?_ | intro
          all_goals refine leaf ?_
          exact Nx.next hs64 ⟨hnext (h2.trans h0), rfl, rfl⟩
        · skip
          refine walk1 (k := ?_)
          repeat' first | refine And.intro ?_ ?_ | intro
          all_goals refine leaf ?_
          refine c_cond_t (by show V.bool _ = _; simp; exact List.length_pos_iff.2 h0) ?_
          refine walk1 (k := ?_)
          repeat' first | refine And.intro ?_ ?_ | intro
          all_goals refine leaf ?_
          obtain ⟨R, hR⟩ := rm_of (x := TL (nth ins i).s true (nth ins i).row) (L := rowsO ins) (List.mem_map.2 ⟨nth ins i, nth_mem hi, rfl⟩)
          have hle := hri.row_le hi
          refine callR (least_prog (nth ins i).s true (nth ins i).row (by omega) h0) ?_ (ht := .cons (.there (.there (.there hR))) .nil)
          rintro _ ⟨t, ht, rfl, hm⟩
          refine walk1 (k := ?_)
          repeat' first | refine And.intro ?_ ?_ | intro
          all_goals refine leaf ?_
          have g1 : t ∈ bys ∧ plc now t.at_.toNat = (k, s) := hri.rowAt_mem.1 (by rw [h2]; exact ht)
          refine doneR (.inr ⟨t, g1.1, rfl, fun x hx => ?_⟩)
          obtain ⟨g2, g3⟩ := hb x hx
          have r1 := hri.rng _ hx
          have r2 := hri.rng _ g1.1
          by_cases hxe : plc now x.at_.toNat = (k, s)
          · exact hm x (by rw [← h2]; exact hri.rowAt_mem.2 ⟨hx, hxe⟩)
          · have hlt := plc_lt (now := now) (a := t.at_.toNat) (b := x.at_.toNat) (k := k) (s := s) (k' := (plc now x.at_.toNat).1) (s' := (plc now x.at_.toNat).2) hw.now (by show _ ≤ 1099511627776; omega) (by show _ ≤ 1099511627776; omega) g1.2 rfl (by omega) g2 (by
              rcases g3 with g3 | ⟨g3, g4⟩
              · exact .inl g3
              · refine .inr ⟨g3, ?_⟩
                have : s ≠ (plc now x.at_.toNat).2 := fun h => hxe (by rw [h, g3])
                omega)
            omega
    · skip
      refine walk1 (k := ?_)
      repeat' first | refine And.intro ?_ ?_ | intro
      all_goals refine leaf ?_
      refine c_cond_f (by show V.bool _ = _; simp; omega) ?_
      refine walk1 (k := ?_)
      repeat' first | refine And.intro ?_ ?_ | intro
      all_goals refine leaf ?_
      refine Nx.next hk7 ⟨fun x hx => ?_, rfl, rfl⟩
      obtain ⟨h1, h2⟩ := hb x hx
      refine ⟨h1, ?_⟩
      rcases h2 with h2 | ⟨h2, h3⟩
      · omega
      · exfalso
        have r1 := hri.rng _ hx
        obtain ⟨_, h4⟩ := plc_hi hw.now (at_ := x.at_.toNat) (k := (plc now x.at_.toNat).1) (s := (plc now x.at_.toNat).2) (by show _ ≤ 1099511627776; omega) rfl h1
        have := dg_lt x.at_.toNat (plc now x.at_.toNat).1
        omega
  · skip
    refine walk1 (k := ?_)
    repeat' first | refine And.intro ?_ ?_ | intro
    all_goals refine leaf ?_
    refine c_cond_f (by show V.bool _ = _; simp; omega) ?_
    refine walk1 (k := ?_)
    repeat' first | refine And.intro ?_ ?_ | intro
    all_goals refine leaf ?_
    refine doneR (.inl ⟨?_, rfl⟩)
    refine List.eq_nil_iff_forall_not_mem.2 fun x hx => ?_
    obtain ⟨h1, h2⟩ := hb x hx
    have r1 := hri.rng _ hx
    obtain ⟨h3, _⟩ := plc_hi hw.now (at_ := x.at_.toNat) (k := (plc now x.at_.toNat).1) (s := (plc now x.at_.toNat).2) (by show _ ≤ 1099511627776; omega) rfl h1
    have := h3.le
    omega
end Go.Proofs.Ytlnidffddidfaaa
