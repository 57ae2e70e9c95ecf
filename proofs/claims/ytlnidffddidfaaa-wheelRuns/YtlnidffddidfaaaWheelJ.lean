/-
  The wheel: a place's row is taken, a timer is put where it belongs.
-/
import Derived.Test.YtlnidffddidfaaaWheelI
namespace Go.Proofs.Ytlnidffddidfaaa
open Go Go.CM
set_option maxRecDepth 100000
set_option maxHeartbeats 4000000

def rowAt (ins : List Ent) (p : Nat × Nat) : List Tmr := match ins.findIdx? (isP p) with
  | some i => (nth ins i).row
  | none => []
def takeP (ins : List Ent) (p : Nat × Nat) : List Ent := match ins.findIdx? (isP p) with
  | some i => ins.eraseIdx i
  | none => ins
abbrev flat (ins : List Ent) : List Tmr := ins.flatMap Ent.row
theorem flat_take (ins : List Ent) (p : Nat × Nat) : (flat ins).Perm (rowAt ins p ++ flat (takeP ins p)) := by
  unfold rowAt takeP
  rcases find_cases (isP p) ins with ⟨h1, _⟩ | ⟨i, hi, h1, _⟩
  · rw [h1]; exact .refl _
  · rw [h1]; exact (erase_perm hi).flatMap_right _
/-- Each timer stands in the row of its place. -/
structure RI (now : Nat) (ins : List Ent) (all : List Tmr) : Prop where
  nd : (ins.map Ent.p).Nodup
  at_ : ∀ e ∈ ins, ∀ t ∈ e.row, plc now t.at_.toNat = e.p
  perm : (flat ins).Perm all
  rng : ∀ t ∈ all, 0 ≤ t.at_ ∧ t.at_ ≤ 1099511627776
theorem RI.mem {now : Nat} {ins : List Ent} {all : List Tmr} (h : RI now ins all) {t : Tmr} (ht : t ∈ all) : ∃ e ∈ ins, t ∈ e.row ∧ e.p = plc now t.at_.toNat := by
  have := h.perm.mem_iff.2 ht
  obtain ⟨e, he, ht⟩ := List.mem_flatMap.1 this
  exact ⟨e, he, ht, (h.at_ e he t ht).symm⟩
theorem RI.row {now : Nat} {ins : List Ent} {all : List Tmr} (h : RI now ins all) {e : Ent} (he : e ∈ ins) {t : Tmr} (ht : t ∈ e.row) : t ∈ all :=
  h.perm.mem_iff.1 (List.mem_flatMap.2 ⟨e, he, ht⟩)
theorem RI.rowAt_mem {now : Nat} {ins : List Ent} {all : List Tmr} (h : RI now ins all) {p : Nat × Nat} {t : Tmr} : t ∈ rowAt ins p ↔ t ∈ all ∧ plc now t.at_.toNat = p := by
  unfold rowAt
  rcases find_cases (isP p) ins with ⟨h1, h2⟩ | ⟨i, hi, h1, h2⟩
  · rw [h1]
    refine ⟨fun h => (by cases h), fun ⟨h3, h4⟩ => ?_⟩
    obtain ⟨e, he, _, h5⟩ := h.mem h3
    have := h2 e he
    rw [isP_iff.2 (h5.trans h4)] at this; cases this
  · rw [h1]
    have hp := isP_iff.1 h2
    refine ⟨fun h3 => ⟨h.row (nth_mem hi) h3, (h.at_ _ (nth_mem hi) t h3).trans hp⟩, fun ⟨h3, h4⟩ => ?_⟩
    obtain ⟨e, he, ht, h5⟩ := h.mem h3
    obtain ⟨j, hj, rfl⟩ := List.mem_iff_getElem.1 he
    have hnd := h.nd
    rw [List.nodup_iff_pairwise_ne, List.pairwise_iff_getElem] at hnd
    have : i = j := by
      rcases Nat.lt_trichotomy i j with hlt | rfl | hlt
      · exact absurd (by rw [List.getElem_map, List.getElem_map, ← nth_getElem hi, hp, h5, h4]) (hnd i j (by simpa using hi) (by simpa using hj) hlt)
      · rfl
      · exact absurd (by rw [List.getElem_map, List.getElem_map, ← nth_getElem hi, hp, h5, h4]) (hnd j i (by simpa using hj) (by simpa using hi) hlt)
    subst this
    show t ∈ (nth ins i).row
    rw [nth_getElem hi]; exact ht
theorem RI.rowAt_le {now : Nat} {ins : List Ent} {all : List Tmr} (h : RI now ins all) (p : Nat × Nat) : (rowAt ins p).length ≤ all.length := by
  have h1 := (flat_take ins p).length_eq
  have h2 := h.perm.length_eq
  rw [List.length_append] at h1
  omega
theorem RI.row_le {now : Nat} {ins : List Ent} {all : List Tmr} (h : RI now ins all) {i : Nat} (hi : i < ins.length) : (nth ins i).row.length ≤ all.length := by
  have h1 := ((erase_perm hi).flatMap_right Ent.row).length_eq
  have h2 := h.perm.length_eq
  rw [List.flatMap_cons, List.length_append] at h1
  simp only [flat] at h2
  omega
theorem takeP_sub (ins : List Ent) (p : Nat × Nat) : (takeP ins p).Sublist ins := by
  unfold takeP
  split
  · exact List.eraseIdx_sublist ..
  · exact List.Sublist.refl _
/-- What is left when a place's row is taken. -/
theorem RI.take {now : Nat} {ins : List Ent} {all : List Tmr} (h : RI now ins all) (p : Nat × Nat) : RI now (takeP ins p) (flat (takeP ins p)) :=
  ⟨((takeP_sub ins p).map _).nodup h.nd, fun e he => h.at_ e ((takeP_sub ins p).subset he), .refl _, fun t ht => h.rng t (by
    obtain ⟨e, he, ht⟩ := List.mem_flatMap.1 ht
    exact h.row ((takeP_sub ins p).subset he) ht)⟩
theorem take_prog (w now mi mb : Nat) (ins : List Ent) (p : Nat × Nat) : CallsL Try.prog nwheel_Wheel_take [.ptr w 0, .agg (plC p)] (WO w now mi mb :: IO mi ins :: rowsO ins) fun v L' => ∃ s,
    v = .slice s 0 (rowAt ins p).length 2 ∧ L' = TL s true (rowAt ins p) :: WO w now mi mb :: IO mi (takeP ins p) :: rowsO (takeP ins p) := by
  refine swheel_Wheel_take fun H hh => ?_
  dsimp only [cwheel_Wheel_take]
  refine walk (k := ?_)
  repeat' first | refine And.intro ?_ ?_ | intro
  all_goals refine leaf ?_
  unfold rowAt takeP
  have hf := find_in p ins
  rename_i b _ hh
  rcases find_cases (isP p) ins with ⟨h1, _⟩ | ⟨i, hi, h1, _⟩
  · rw [h1] at hf
    refine wps_lookN hh rfl (.there (.there .here)) hf ?_
    refine walk1 (k := ?_)
    repeat' first | refine And.intro ?_ ?_ | intro
    all_goals refine leaf ?_
    refine wps_del hh (L' := [(b, .cells true (plC p)), WO w now mi mb] ++ IO mi ins :: rowsO ins) rfl hf rfl (.there (.there .here1)) fun H' hh => ?_
    refine walk1 (k := ?_)
    repeat' first | refine And.intro ?_ ?_ | intro
    all_goals refine leaf ?_
    have hh := hh.ghost true
    simp only [h1]
    refine CEnds.wk (Wk.nils 0 2) ?_
    exact done ⟨0, rfl, rfl⟩
  · rw [h1] at hf
    refine wps_lookF hh rfl (.there (.there .here)) hf (e := entV (nth ins i)) (by rw [List.getElem?_map, getD_some hi]; rfl) ?_
    refine walk1 (k := ?_)
    repeat' first | refine And.intro ?_ ?_ | intro
    all_goals refine leaf ?_
    refine wps_del hh (L' := (b, .cells true (plC p)) :: WO w now mi mb :: IO mi (ins.eraseIdx i) :: rowsO ins) rfl hf (by rw [delE, map_eraseIdx']) (.there (.there .here1)) fun H' hh => ?_
    refine walk1 (k := ?_)
    repeat' first | refine And.intro ?_ ?_ | intro
    all_goals refine leaf ?_
    simp only [h1]
    have hp : (rowsO ins).Perm (TL (nth ins i).s true (nth ins i).row :: rowsO (ins.eraseIdx i)) := (erase_perm hi).map _
    have hh := hh.perm (((hp.cons _).cons _).cons _)
    exact done ⟨(nth ins i).s, rfl, rfl⟩
theorem tl_len (l : List Tmr) : (l.flatMap Tmr.enc).length = l.length * 2 := rows_length (sz := 2) (fun _ => rfl) l
theorem rowsO_set {ins : List Ent} {i : Nat} (e : Ent) : (rowsO ins).set i (TL e.s true e.row) = rowsO (ins.set i e) := by
  rw [rowsO, rowsO, List.map_set]
theorem RI.put {now : Nat} {ins : List Ent} {all : List Tmr} (h : RI now ins all) {t : Tmr} (ht : 0 ≤ t.at_ ∧ t.at_ ≤ 1099511627776) {i : Nat} (hi : i < ins.length) (hp : (nth ins i).p = plc now t.at_.toNat) (s : Nat) :
    RI now (ins.set i ⟨(nth ins i).p, s, (nth ins i).row ++ [t]⟩) (t :: all) := by
  refine ⟨?_, fun e he x hx => ?_, ?_, fun x hx => ?_⟩
  · have : (ins.set i ⟨(nth ins i).p, s, (nth ins i).row ++ [t]⟩).map Ent.p = ins.map Ent.p := by
      rw [List.map_set]
      refine List.ext_getElem? fun k => ?_
      rw [List.getElem?_set]
      split
      · rename_i h; subst h
        rw [if_pos (by simpa using hi), List.getElem?_map, getD_some hi]; rfl
      · rfl
    rw [this]; exact h.nd
  · rcases List.mem_or_eq_of_mem_set he with he | rfl
    · exact h.at_ e he x hx
    · rcases List.mem_append.1 hx with hx | hx
      · exact h.at_ _ (nth_mem hi) x hx
      · simp at hx; subst hx; exact hp.symm
  · have h1 := ((set_perm (⟨(nth ins i).p, s, (nth ins i).row ++ [t]⟩ : Ent) hi).flatMap_right Ent.row)
    refine h1.trans ?_
    rw [List.flatMap_cons]
    have h2 := ((erase_perm hi).flatMap_right Ent.row).symm.trans h.perm
    rw [List.flatMap_cons] at h2
    show ((nth ins i).row ++ [t] ++ _).Perm _
    rw [List.append_assoc]
    exact List.perm_middle.trans (h2.cons t)
  · rcases List.mem_cons.1 hx with rfl | hx
    · exact ht
    · exact h.rng x hx
theorem RI.putN {now : Nat} {ins : List Ent} {all : List Tmr} (h : RI now ins all) {t : Tmr} (ht : 0 ≤ t.at_ ∧ t.at_ ≤ 1099511627776) (hn : ∀ e ∈ ins, e.p ≠ plc now t.at_.toNat) (s : Nat) :
    RI now (ins ++ [⟨plc now t.at_.toNat, s, [t]⟩]) (t :: all) := by
  refine ⟨?_, fun e he x hx => ?_, ?_, fun x hx => ?_⟩
  · rw [List.map_append, List.nodup_append]
    refine ⟨h.nd, by simp, fun a ha b hb => ?_⟩
    simp at hb; subst hb
    obtain ⟨e, he, rfl⟩ := List.mem_map.1 ha
    exact hn e he
  · rcases List.mem_append.1 he with he | he
    · exact h.at_ e he x hx
    · simp at he; subst he; simp at hx; subst hx; rfl
  · show ((ins ++ _).flatMap _).Perm _
    rw [List.flatMap_append]
    exact (List.perm_append_singleton t _).trans (h.perm.cons t)
  · rcases List.mem_cons.1 hx with rfl | hx
    · exact ht
    · exact h.rng x hx
theorem put_prog (w now mi mb : Nat) (ins : List Ent) (all : List Tmr) (t : Tmr) (hr : RI now ins all) (hl : all.length ≤ 1000) (hn : now ≤ 1099511627776) (ht : 0 ≤ t.at_ ∧ t.at_ ≤ 1099511627776) : CallsL Try.prog nwheel_Wheel_put [.ptr w 0, .agg t.enc] (WO w now mi mb :: IO mi ins :: rowsO ins) fun v L' => ∃ ins',
    v = .tup [] ∧ RI now ins' (t :: all) ∧ L' = WO w now mi mb :: IO mi ins' :: rowsO ins' := by
  have hta : t.at_ = (t.at_.toNat : Int) := (Int.toNat_of_nonneg ht.1).symm
  have hto := of_prog w now mi mb t.at_.toNat hn (by omega)
  rw [← hta] at hto
  refine swheel_Wheel_put fun H hh => ?_
  dsimp only [cwheel_Wheel_put]
  refine walk (k := ?_)
  repeat' first | refine And.intro ?_ ?_ | intro
  all_goals refine leaf ?_
  refine callE (hto) ?_
  refine walk1 (k := ?_)
  repeat' first | refine And.intro ?_ ?_ | intro
  all_goals refine leaf ?_
  rename_i b3 _ _ b4 _ _ _ _ l16 _ hh
  have hf := find_in (plc now t.at_.toNat) ins
  rcases find_cases (isP (plc now t.at_.toNat)) ins with ⟨h1, h2⟩ | ⟨i, hi, h1, h2⟩
  · rw [h1] at hf
    generalize hP : plc now t.at_.toNat = P at *
    refine wps_mentN hh (L' := fun n => (l16, .cells true t.enc) :: (b4, .cells true (plC P)) :: (b3, .cells true t.enc) :: WO w now mi mb :: (mi, .mapE (ins.map entV ++ [(.agg (plC P), .nils)]) (ins.map entV).length n) :: rowsO ins) rfl rfl hf (fun n => .there (.there (.there (.there .here1)))) fun n H' hh => ?_
    refine walk1 (k := ?_)
    repeat' first | refine And.intro ?_ ?_ | intro
    all_goals refine leaf ?_
    refine wps_app_nil hh (m := 0) (vs := t.enc) rfl (src_slice hh (b := true) (cs := t.enc) .here rfl) (by omega) fun id H' hh => ?_
    refine wps_mset hh (e := (.agg (plC P), .nils)) (es' := (ins ++ [(⟨P, id, [t]⟩ : Ent)]).map entV) (L' := (id, .cells true t.enc) :: (l16, .cells true t.enc) :: (b4, .cells true (plC P)) :: (b3, .cells true t.enc) :: WO w now mi mb :: IO mi (ins ++ [(⟨P, id, [t]⟩ : Ent)]) :: rowsO ins)
      rfl rfl List.getElem?_concat_length rfl (by rw [List.set_append_right _ _ (Nat.le_refl _), Nat.sub_self, List.map_append]; rfl) (.there (.there (.there (.there (.there .here1))))) fun H' hh => ?_
    refine walk1 (k := ?_)
    repeat' first | refine And.intro ?_ ?_ | intro
    all_goals refine leaf ?_
    subst hP
    have hx : rowsO (ins ++ [(⟨plc now t.at_.toNat, id, [t]⟩ : Ent)]) = rowsO ins ++ [(id, .cells true t.enc)] := by rw [rowsO, List.map_append]; rfl
    have hq : (WO w now mi mb :: IO mi (ins ++ [(⟨plc now t.at_.toNat, id, [t]⟩ : Ent)]) :: rowsO (ins ++ [(⟨plc now t.at_.toNat, id, [t]⟩ : Ent)])).Perm ((id, .cells true t.enc) :: WO w now mi mb :: IO mi (ins ++ [(⟨plc now t.at_.toNat, id, [t]⟩ : Ent)]) :: rowsO ins) := by
      rw [hx]
      exact List.perm_append_singleton (id, HObj.cells true t.enc) (WO w now mi mb :: IO mi (ins ++ [(⟨plc now t.at_.toNat, id, [t]⟩ : Ent)]) :: rowsO ins)
    have hh := Has.ord hh (N := (id, .cells true t.enc) :: WO w now mi mb :: IO mi (ins ++ [(⟨plc now t.at_.toNat, id, [t]⟩ : Ent)]) :: rowsO ins) (R := [(l16, .cells true t.enc), (b4, .cells true (plC (plc now t.at_.toNat))), (b3, .cells true t.enc)])
      (.cons .here (.cons (.there (.there (.there .here))) (.cons (.there (.there (.there .here))) (.one (.there (.there (.there .all)))))))
    exact CEnds.mk (hh.perm hq.symm) ⟨_, rfl, hr.putN ht (fun e he h => by have := h2 e he; rw [isP_iff.2 h] at this; cases this) id, rfl⟩
  · rw [h1] at hf
    generalize hP : plc now t.at_.toNat = P at *
    have hp : (nth ins i).p = P := isP_iff.1 h2
    refine wps_mentF hh (L' := fun n => (l16, .cells true t.enc) :: (b4, .cells true (plC P)) :: (b3, .cells true t.enc) :: WO w now mi mb :: (mi, .mapE ((ins.map entV).set i (.agg (plC P), (entV (nth ins i)).2)) i n) :: rowsO ins) rfl rfl hf (e := entV (nth ins i)) (by rw [List.getElem?_map, getD_some hi]; rfl) (fun n => .there (.there (.there (.there .here1)))) fun n H' hh => ?_
    refine walk1 (k := ?_)
    repeat' first | refine And.intro ?_ ?_ | intro
    all_goals refine leaf ?_
    have hle := hr.row_le hi
    refine wps_app hh (esz := 1) (m := 1) (cs := (nth ins i).row.flatMap Tmr.enc) (vs := t.enc) (len := (nth ins i).row.length) (L' := fun id' => (l16, .cells true t.enc) :: (b4, .cells true (plC P)) :: (b3, .cells true t.enc) :: WO w now mi mb :: (mi, .mapE ((ins.map entV).set i (.agg (plC P), (entV (nth ins i)).2)) i n) :: (rowsO ins).set i (id', .cells true ((nth ins i).row.flatMap Tmr.enc ++ t.enc)))
      rfl (fun id' => .there (.there (.there (.there (.there (upd_set' (by rw [List.getElem?_map, getD_some hi]; rfl))))))) (src_slice hh (b := true) (cs := t.enc) .here rfl) (tl_len _) (by omega) fun id H' hh => ?_
    have hx : (rowsO ins).set i (id, .cells true ((nth ins i).row.flatMap Tmr.enc ++ t.enc)) = rowsO (ins.set i (⟨(nth ins i).p, id, (nth ins i).row ++ [t]⟩ : Ent)) := by
      rw [← rowsO_set]; simp [TL, List.flatMap_append]
    rw [hx] at hh
    refine wps_mset hh (e := (.agg (plC P), (entV (nth ins i)).2)) (es' := (ins.set i (⟨(nth ins i).p, id, (nth ins i).row ++ [t]⟩ : Ent)).map entV) (L' := (l16, .cells true t.enc) :: (b4, .cells true (plC P)) :: (b3, .cells true t.enc) :: WO w now mi mb :: IO mi (ins.set i (⟨(nth ins i).p, id, (nth ins i).row ++ [t]⟩ : Ent)) :: rowsO (ins.set i (⟨(nth ins i).p, id, (nth ins i).row ++ [t]⟩ : Ent)))
      rfl rfl (by rw [List.getElem?_set_self (by simpa using hi)]) rfl (by rw [List.set_set, List.map_set, hp]; congr 1; simp only [entV]; rw [List.length_append]; rfl) (.there (.there (.there (.there .here1)))) fun H' hh => ?_
    refine walk1 (k := ?_)
    repeat' first | refine And.intro ?_ ?_ | intro
    all_goals refine leaf ?_
    subst hP
    exact done ⟨_, rfl, hr.put ht hi hp id, rfl⟩
end Go.Proofs.Ytlnidffddidfaaa
