/-
  The wheel: Tick, in plain words.
-/
import Derived.Test.YtlnidffddidfaaaWheelL
namespace Go.Proofs.Ytlnidffddidfaaa
open Go Go.CM
set_option maxRecDepth 100000
set_option maxHeartbeats 4000000

theorem takeP_mem {now : Nat} {ins : List Ent} {all : List Tmr} (h : RI now ins all) {p : Nat × Nat} {x : Tmr} (hx : x ∈ flat (takeP ins p)) : x ∈ all ∧ plc now x.at_.toNat ≠ p := by
  obtain ⟨e, he, ht⟩ := List.mem_flatMap.1 hx
  have he' := (takeP_sub ins p).subset he
  refine ⟨h.row he' ht, fun hp => ?_⟩
  have hep := (h.at_ e he' x ht).symm.trans hp
  unfold takeP at he
  rcases find_cases (isP p) ins with ⟨h1, h2⟩ | ⟨i, hi, h1, h2⟩
  · have := h2 e he'
    rw [isP_iff.2 hep] at this; cases this
  · rw [h1] at he
    simp only at he
    have hnd := ((((erase_perm hi).map Ent.p)).nodup_iff).1 h.nd
    exact (List.nodup_cons.1 hnd).1 (by rw [isP_iff.1 h2, ← hep]; exact List.mem_map_of_mem he)
/-- What is on the way of a tick: what was taken is due, and what is left lies behind a place. -/
structure S1 (now t k s : Nat) (ins : List Ent) (D bys : List Tmr) : Prop where
  ri : RI now ins (flat ins)
  perm : (D ++ flat ins).Perm bys
  due : ∀ x ∈ D, x.at_.toNat ≤ t
  left : Behind now k s (flat ins)
theorem RI.own {now : Nat} {ins : List Ent} {all : List Tmr} (h : RI now ins all) : RI now ins (flat ins) := ⟨h.nd, h.at_, .refl _, fun t ht => h.rng t (h.perm.mem_iff.1 ht)⟩
theorem S1.start {now t : Nat} {ins : List Ent} {bys : List Tmr} (h : WI now ins bys) (ht : now ≤ t) : S1 now t 0 0 (takeP ins (7, 0)) (rowAt ins (7, 0)) bys := by
  refine ⟨h.ri.take _, (flat_take ins (7, 0)).symm.trans h.ri.perm, fun x hx => ?_, fun x hx => ?_⟩
  · have h1 := h.ri.rowAt_mem.1 hx
    have h2 := h.ri.rng _ h1.1
    have := (plc_last h.now (at_ := x.at_.toNat) (by show _ ≤ 1099511627776; omega)).1 (by rw [h1.2])
    omega
  · obtain ⟨h1, h2⟩ := takeP_mem h.ri hx
    have h3 := h.ri.rng _ h1
    refine ⟨fun h7 => h2 (plc_due ((plc_last h.now (at_ := x.at_.toNat) (by show _ ≤ 1099511627776; omega)).1 h7)), by omega⟩
theorem S1.take {now t k s top : Nat} {ins : List Ent} {D bys : List Tmr} (h : S1 now t k s ins D bys) (hn : now ≤ 1099511627776) (ht : t ≤ 1099511627776) (hi : Hi now t top) (hd : k < top ∨ (k = top ∧ s < dg t top)) :
    S1 now t k (s + 1) (takeP ins (k, s)) (D ++ rowAt ins (k, s)) bys := by
  have hk7 : k ≠ 7 := by have := hi.le; omega
  refine ⟨h.ri.take _, ?_, fun x hx => ?_, fun x hx => ?_⟩
  · rw [List.append_assoc]
    exact ((flat_take ins (k, s)).symm.append_left D).trans h.perm
  · rcases List.mem_append.1 hx with hx | hx
    · exact h.due x hx
    · have h1 := h.ri.rowAt_mem.1 hx
      have h2 := h.ri.rng _ h1.1
      exact tick_due hn ht (at_ := x.at_.toNat) (by show _ ≤ 1099511627776; omega) hi h1.2 hk7 hd
  · obtain ⟨h1, h2⟩ := takeP_mem h.ri hx
    obtain ⟨h3, h4⟩ := h.left x h1
    refine ⟨h3, ?_⟩
    rcases h4 with h4 | ⟨h4, h5⟩
    · exact .inl h4
    · refine .inr ⟨h4, ?_⟩
      have : s ≠ (plc now x.at_.toNat).2 := fun h => h2 (by rw [h, h4])
      omega
theorem S1.up {now t k : Nat} {ins : List Ent} {D bys : List Tmr} (hn : now ≤ 1099511627776) (h : S1 now t k 64 ins D bys) : S1 now t (k + 1) 0 ins D bys := by
  refine ⟨h.ri, h.perm, h.due, fun x hx => ?_⟩
  obtain ⟨h1, h2⟩ := h.left x hx
  refine ⟨h1, ?_⟩
  rcases h2 with h2 | ⟨h2, h3⟩
  · omega
  · exfalso
    have r1 := h.ri.rng _ hx
    obtain ⟨_, h4⟩ := plc_hi hn (at_ := x.at_.toNat) (k := (plc now x.at_.toNat).1) (s := (plc now x.at_.toNat).2) (by show _ ≤ 1099511627776; omega) rfl h1
    have := dg_lt x.at_.toNat (plc now x.at_.toNat).1
    omega
/-- The new time: what is left beyond the last place taken stays where it is. -/
theorem S1.turn {now t top : Nat} {ins : List Ent} {D bys : List Tmr} (h : S1 now t top (dg t top) ins D bys) (hn : now ≤ 1099511627776) (ht : t ≤ 1099511627776) (hi : Hi now t top) :
    RI t (takeP ins (top, dg t top)) (flat (takeP ins (top, dg t top))) := by
  have hr := h.ri.take (top, dg t top)
  refine ⟨hr.nd, fun e he x hx => ?_, .refl _, hr.rng⟩
  have hxm : x ∈ flat (takeP ins (top, dg t top)) := List.mem_flatMap.2 ⟨e, he, hx⟩
  obtain ⟨h1, h2⟩ := takeP_mem h.ri hxm
  obtain ⟨h3, h4⟩ := h.left x h1
  have h5 := h.ri.rng _ h1
  have h6 := hr.at_ e he x hx
  rw [← h6]
  refine (tick_stay hn ht (at_ := x.at_.toNat) (k := (plc now x.at_.toNat).1) (s := (plc now x.at_.toNat).2) (by show _ ≤ 1099511627776; omega) hi rfl h3 ?_).2
  rcases h4 with h4 | ⟨h4, h5⟩
  · exact .inl h4
  · refine .inr ⟨h4.symm, ?_⟩
    have : dg t top ≠ (plc now x.at_.toNat).2 := fun h => h2 (by rw [h, h4])
    omega
/-- Behind a tick: what was taken is due, what is left isn't. -/
structure S2 (t : Nat) (ins : List Ent) (D bys : List Tmr) : Prop where
  ri : RI t ins (flat ins)
  perm : (D ++ flat ins).Perm bys
  due : ∀ x ∈ D, x.at_.toNat ≤ t
  left : ∀ x ∈ flat ins, t < x.at_.toNat
theorem S2.last {t : Nat} {ins : List Ent} {D all bys : List Tmr} (hr : RI t ins all) (ht : t ≤ 1099511627776) (hp : (D ++ all).Perm bys) (hd : ∀ x ∈ D, x.at_.toNat ≤ t) : S2 t (takeP ins (7, 0)) (D ++ rowAt ins (7, 0)) bys := by
  refine ⟨hr.take _, ?_, fun x hx => ?_, fun x hx => ?_⟩
  · rw [List.append_assoc]
    exact (((flat_take ins (7, 0)).symm.trans hr.perm).append_left D).trans hp
  · rcases List.mem_append.1 hx with hx | hx
    · exact hd x hx
    · have h1 := hr.rowAt_mem.1 hx
      have h2 := hr.rng _ h1.1
      exact (plc_last ht (at_ := x.at_.toNat) (by show _ ≤ 1099511627776; omega)).1 (by rw [h1.2])
  · obtain ⟨h1, h2⟩ := takeP_mem hr hx
    exact Nat.lt_of_not_le fun hle => h2 (plc_due hle)
/-- Of a list in order what is due is at the head. -/
theorem due_filter {t : Int} : ∀ {l : List Tmr}, l.Pairwise ltT → l.filter (fun e => decide (e.at_ ≤ t)) = dueT t l
  | [], _ => rfl
  | a :: l, h => by
    have hc := List.pairwise_cons.1 h
    by_cases ha : a.at_ ≤ t
    · rw [List.filter_cons_of_pos (by simpa using ha), due_filter hc.2]
      show _ = (a :: l).takeWhile _
      rw [List.takeWhile_cons_of_pos (by simpa using ha)]
    · show _ = (a :: l).takeWhile _
      rw [List.takeWhile_cons_of_neg (by simpa using ha)]
      refine List.filter_eq_nil_iff.2 fun e he => ?_
      rcases List.mem_cons.1 he with rfl | he
      · simpa using ha
      · have := ltT_iff.1 (hc.1 e he)
        simp only [decide_eq_true_eq]
        omega
theorem due_split {t : Int} {l D F : List Tmr} (hl : l.Pairwise ltT) (hp : l.Perm (D ++ F)) (hd : ∀ x ∈ D, x.at_ ≤ t) (hf : ∀ x ∈ F, t < x.at_) (hs : D.Pairwise (fun x y => ¬ ltT y x)) : D = dueT t l ∧ F.Perm (l.drop (dueT t l).length) := by
  have h1 : (dueT t l).Perm D := by
    rw [← due_filter hl]
    refine (hp.filter _).trans ?_
    rw [List.filter_append, List.filter_eq_self.2 (fun x hx => decide_eq_true (hd x hx)), List.filter_eq_nil_iff.2 (fun x hx => by have := hf x hx; simp only [decide_eq_true_eq]; omega), List.append_nil]
  have h2 : D = dueT t l := by
    refine List.Perm.eq_of_pairwise (le := fun x y => ¬ ltT y x) (fun _ _ _ _ h1 h2 => ltT_tri h2 h1) hs ((hl.sublist (List.takeWhile_sublist _)).imp fun h1 h2 => ltT_irrefl _ (ltT_trans h1 h2)) h1.symm
  refine ⟨h2, ?_⟩
  have h3 : l = dueT t l ++ l.drop (dueT t l).length := by
    have := List.takeWhile_append_dropWhile (p := fun e : Tmr => decide (e.at_ ≤ t)) (l := l)
    have h4 : l.dropWhile (fun e => decide (e.at_ ≤ t)) = l.drop (dueT t l).length := by
      have : l.drop (dueT t l).length = (dueT t l ++ l.dropWhile fun e => decide (e.at_ ≤ t)).drop (dueT t l).length := by rw [List.takeWhile_append_dropWhile]
      rw [this, List.drop_left]
    rw [← h4]; exact this.symm
  rw [h2] at hp
  have h5 : (dueT t l ++ l.drop (dueT t l).length).Perm (dueT t l ++ F) := by rw [← h3]; exact hp
  exact ((List.perm_append_left_iff _).1 h5).symm
end Go.Proofs.Ytlnidffddidfaaa
