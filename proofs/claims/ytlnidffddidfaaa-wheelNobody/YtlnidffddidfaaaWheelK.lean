/-
  The wheel: New, Len, Now, At, Drop, Add.
-/
import Derived.Test.YtlnidffddidfaaaWheelJ
import Derived.Test.YtlnidffddidfaaaWheelG
namespace Go.Proofs.Ytlnidffddidfaaa
open Go Go.CM
set_option maxRecDepth 100000
set_option maxHeartbeats 4000000

abbrev WLo (w now mi mb : Nat) (ins : List Ent) (bys : List Tmr) : List Ob := WO w now mi mb :: IO mi ins :: BO mb bys :: rowsO ins
structure WI (now : Nat) (ins : List Ent) (bys : List Tmr) : Prop where
  ri : RI now ins bys
  nd : (bys.map Tmr.id).Nodup
  now : now ≤ 1099511627776
  len : bys.length ≤ 500
theorem one_id {l : List Tmr} (h : (l.map Tmr.id).Nodup) {i j : Nat} (hi : i < l.length) (hj : j < l.length) (e : (nth l i).id = (nth l j).id) : i = j := by
  rw [List.nodup_iff_pairwise_ne, List.pairwise_iff_getElem] at h
  rw [nth_getElem hi, nth_getElem hj] at e
  rcases Nat.lt_trichotomy i j with hlt | rfl | hlt
  · exact absurd (by rw [List.getElem_map, List.getElem_map]; exact e) (h i j (by simpa using hi) (by simpa using hj) hlt)
  · rfl
  · exact absurd (by rw [List.getElem_map, List.getElem_map]; exact e.symm) (h j i (by simpa using hj) (by simpa using hi) hlt)
theorem others_cons {D E : List Tmr} {x : Tmr} (h : D.Perm (x :: E)) (nd : (D.map Tmr.id).Nodup) : (othersT x.id D).Perm E := by
  have h1 := h.filter fun e => decide (e.id ≠ x.id)
  have nd2 : ((x :: E).map Tmr.id).Nodup := ((h.map Tmr.id).nodup_iff).1 nd
  rw [List.filter_cons_of_neg (by simp)] at h1
  have h2 : E.filter (fun e => decide (e.id ≠ x.id)) = E := othersT_none fun e he k => (List.nodup_cons.1 nd2).1 (by rw [← k]; exact List.mem_map_of_mem he)
  rwa [h2] at h1
/-- One is dropped. -/
theorem WI.drop {now : Nat} {ins : List Ent} {bys : List Tmr} (h : WI now ins bys) {i j : Nat} (hi : i < ins.length) (hj : j < bys.length) (hp : (nth ins i).p = plc now (nth bys j).at_.toNat) (s : Nat) :
    WI now (ins.set i ⟨(nth ins i).p, s, othersT (nth bys j).id (nth ins i).row⟩) (bys.eraseIdx j) := by
  have hr := h.ri
  have hmem : nth bys j ∈ (nth ins i).row := by
    obtain ⟨e, he, ht, h5⟩ := hr.mem (nth_mem hj)
    obtain ⟨k, hk, rfl⟩ := List.mem_iff_getElem.1 he
    have hnd := hr.nd
    rw [List.nodup_iff_pairwise_ne, List.pairwise_iff_getElem] at hnd
    have : i = k := by
      rcases Nat.lt_trichotomy i k with hlt | rfl | hlt
      · exact absurd (by rw [List.getElem_map, List.getElem_map, ← nth_getElem hi, hp, h5]) (hnd i k (by simpa using hi) (by simpa using hk) hlt)
      · rfl
      · exact absurd (by rw [List.getElem_map, List.getElem_map, ← nth_getElem hi, hp, h5]) (hnd k i (by simpa using hk) (by simpa using hi) hlt)
    subst this
    rw [nth_getElem hi]; exact ht
  have hfl : (flat ins).Perm ((nth ins i).row ++ flat (ins.eraseIdx i)) := (erase_perm hi).flatMap_right _
  have hndf : ((flat ins).map Tmr.id).Nodup := ((hr.perm.map Tmr.id).nodup_iff).2 h.nd
  have hnde : ∀ e ∈ flat (ins.eraseIdx i), e.id ≠ (nth bys j).id := fun e he hc => by
    have := ((hfl.map Tmr.id).nodup_iff).1 hndf
    rw [List.map_append, List.nodup_append] at this
    exact this.2.2 _ (List.mem_map_of_mem hmem) _ (List.mem_map_of_mem he) hc.symm
  have hb : (othersT (nth bys j).id bys).Perm (bys.eraseIdx j) := others_cons (erase_perm hj) h.nd
  refine ⟨⟨?_, fun e he x hx => ?_, ?_, fun x hx => ?_⟩, ?_, h.now, ?_⟩
  · have : (ins.set i ⟨(nth ins i).p, s, othersT (nth bys j).id (nth ins i).row⟩).map Ent.p = ins.map Ent.p := by
      rw [List.map_set]
      refine List.ext_getElem? fun k => ?_
      rw [List.getElem?_set]
      split
      · rename_i h; subst h
        rw [if_pos (by simpa using hi), List.getElem?_map, getD_some hi]; rfl
      · rfl
    rw [this]; exact hr.nd
  · rcases List.mem_or_eq_of_mem_set he with he | rfl
    · exact hr.at_ e he x hx
    · exact hr.at_ _ (nth_mem hi) x (List.mem_filter.1 hx).1
  · have h1 := ((set_perm (⟨(nth ins i).p, s, othersT (nth bys j).id (nth ins i).row⟩ : Ent) hi).flatMap_right Ent.row)
    refine h1.trans ?_
    rw [List.flatMap_cons]
    have h2 := (hfl.symm.trans hr.perm).filter fun e => decide (e.id ≠ (nth bys j).id)
    rw [List.filter_append] at h2
    rw [show (flat (ins.eraseIdx i)).filter (fun e => decide (e.id ≠ (nth bys j).id)) = flat (ins.eraseIdx i) from othersT_none hnde] at h2
    exact h2.trans hb
  · exact hr.rng x ((List.eraseIdx_sublist ..).subset hx)
  · exact ((List.eraseIdx_sublist ..).map _).nodup h.nd
  · have := (List.eraseIdx_sublist bys j).length_le
    have := h.len; omega
theorem WI.find {now : Nat} {ins : List Ent} {bys : List Tmr} (h : WI now ins bys) {j : Nat} (hj : j < bys.length) : ∃ i, i < ins.length ∧ ins.findIdx? (isP (plc now (nth bys j).at_.toNat)) = some i ∧ (nth ins i).p = plc now (nth bys j).at_.toNat := by
  rcases find_cases (isP (plc now (nth bys j).at_.toNat)) ins with ⟨_, h2⟩ | ⟨i, hi, h1, h2⟩
  · obtain ⟨e, he, _, h5⟩ := h.ri.mem (nth_mem hj)
    have := h2 e he
    rw [isP_iff.2 h5] at this; cases this
  · exact ⟨i, hi, h1, isP_iff.1 h2⟩

theorem wlen_nil : CallsR Try.prog nwheel_Wheel_Len [.nilp] [] fun v => v = .int .i64 0 := by
  refine swheel_Wheel_Len fun H hh => ?_
  dsimp only [cwheel_Wheel_Len]
  refine walk (k := ?_)
  repeat' first | refine And.intro ?_ ?_ | intro
  all_goals refine leaf ?_
  exact doneR rfl
theorem wnow_nil : CallsR Try.prog nwheel_Wheel_Now [.nilp] [] fun v => v = .int .i64 0 := by
  refine swheel_Wheel_Now fun H hh => ?_
  dsimp only [cwheel_Wheel_Now]
  refine walk (k := ?_)
  repeat' first | refine And.intro ?_ ?_ | intro
  all_goals refine leaf ?_
  exact doneR rfl
theorem wat_nil (n : Int) : CallsR Try.prog nwheel_Wheel_At [.nilp, .int .i64 n] [] fun v => v = .tup [.int .i64 0, .bool false] := by
  refine swheel_Wheel_At fun H hh => ?_
  dsimp only [cwheel_Wheel_At]
  refine walk (k := ?_)
  repeat' first | refine And.intro ?_ ?_ | intro
  all_goals refine leaf ?_
  exact doneR rfl
theorem wdrop_nil (n : Int) : CallsR Try.prog nwheel_Wheel_Drop [.nilp, .int .i64 n] [] fun v => v = .bool false := by
  refine swheel_Wheel_Drop fun H hh => ?_
  dsimp only [cwheel_Wheel_Drop]
  refine walk (k := ?_)
  repeat' first | refine And.intro ?_ ?_ | intro
  all_goals refine leaf ?_
  exact doneR rfl
theorem wadd_nil (n a : Int) : CallsR Try.prog nwheel_Wheel_Add [.nilp, .int .i64 n, .int .i64 a] [] fun v => v = .bool false := by
  refine swheel_Wheel_Add fun H hh => ?_
  dsimp only [cwheel_Wheel_Add]
  refine walk (k := ?_)
  repeat' first | refine And.intro ?_ ?_ | intro
  all_goals refine leaf ?_
  exact doneR rfl
theorem wnext_nil : CallsR Try.prog nwheel_Wheel_Next [.nilp] [] fun v => v = .tup [.int .i64 0, .bool false] := by
  refine swheel_Wheel_Next fun H hh => ?_
  dsimp only [cwheel_Wheel_Next]
  refine walk (k := ?_)
  repeat' first | refine And.intro ?_ ?_ | intro
  all_goals refine leaf ?_
  exact doneR rfl
theorem wtick_nil (n : Int) : CallsR Try.prog nwheel_Wheel_Tick [.nilp, .int .i64 n] [] fun v => v = .nils := by
  refine swheel_Wheel_Tick fun H hh => ?_
  dsimp only [cwheel_Wheel_Tick]
  refine walk (k := ?_)
  repeat' first | refine And.intro ?_ ?_ | intro
  all_goals refine leaf ?_
  exact doneR rfl
theorem wlen_prog (w now mi mb : Nat) (bys : List Tmr) : CallsR Try.prog nwheel_Wheel_Len [.ptr w 0] [WO w now mi mb, BO mb bys] fun v => v = .int .i64 bys.length := by
  refine swheel_Wheel_Len fun H hh => ?_
  dsimp only [cwheel_Wheel_Len]
  refine walk (k := ?_)
  repeat' first | refine And.intro ?_ ?_ | intro
  all_goals refine leaf ?_
  exact doneR (show V.int .i64 ((bys.map byV).length : Nat) = V.int .i64 bys.length from by rw [List.length_map])
theorem wnow_prog (w now mi mb : Nat) : CallsR Try.prog nwheel_Wheel_Now [.ptr w 0] [WO w now mi mb] fun v => v = .int .i64 now := by
  refine swheel_Wheel_Now fun H hh => ?_
  dsimp only [cwheel_Wheel_Now]
  refine walk (k := ?_)
  repeat' first | refine And.intro ?_ ?_ | intro
  all_goals refine leaf ?_
  exact doneR rfl
theorem wnew_prog (n : Int) : CallsN Try.prog nwheel_New [.int .i64 n] [] fun v Lo => ∃ w mi mb, v = .ptr w 0 ∧ Lo = WLo w (tm n).toNat mi mb [] [] := by
  refine swheel_New fun H hh => ?_
  dsimp only [cwheel_New]
  refine walk (k := ?_)
  repeat' first | refine And.intro ?_ ?_ | intro
  all_goals refine leaf ?_
  refine callE (time_prog n) ?_
  refine walk (k := ?_)
  repeat' first | refine And.intro ?_ ?_ | intro
  all_goals refine leaf ?_
  have : tm n = ((tm n).toNat : Int) := by
    unfold tm; split
    · rfl
    · split
      · rfl
      · omega
  rename_i mi _ _ mb _ _ w _ hh
  rw [this] at hh
  exact doneN ⟨w, mi, mb, rfl, rfl⟩
theorem wat_prog (w now mi mb : Nat) (bys : List Tmr) (n : Int) : CallsR Try.prog nwheel_Wheel_At [.ptr w 0, .int .i64 n] [WO w now mi mb, BO mb bys] fun v =>
    (v = .tup [.int .i64 0, .bool false] ∧ ∀ e ∈ bys, e.id ≠ n) ∨ ∃ e ∈ bys, e.id = n ∧ v = .tup [.int .i64 e.at_, .bool true] := by
  refine swheel_Wheel_At fun H hh => ?_
  dsimp only [cwheel_Wheel_At]
  refine walk (k := ?_)
  repeat' first | refine And.intro ?_ ?_ | intro
  all_goals refine leaf ?_
  have hf := find_by n bys
  rcases find_cases (isI n) bys with ⟨h1, h2⟩ | ⟨j, hj, h1, h2⟩
  · rw [h1] at hf
    refine wps_lookN hh rfl (.there .here) hf ?_
    refine walk1 (k := ?_)
    repeat' first | refine And.intro ?_ ?_ | intro
    all_goals refine leaf ?_
    exact doneR (.inl ⟨rfl, fun e he hc => by have := h2 e he; rw [isI_iff.2 hc] at this; cases this⟩)
  · rw [h1] at hf
    refine wps_lookF hh rfl (.there .here) hf (e := byV (nth bys j)) (by rw [List.getElem?_map, getD_some hj]; rfl) ?_
    refine walk1 (k := ?_)
    repeat' first | refine And.intro ?_ ?_ | intro
    all_goals refine leaf ?_
    exact doneR (.inr ⟨nth bys j, nth_mem hj, isI_iff.1 h2, rfl⟩)
theorem wdrop_prog (w now mi mb : Nat) (ins : List Ent) (bys : List Tmr) (n : Int) (hw : WI now ins bys) : CallsL Try.prog nwheel_Wheel_Drop [.ptr w 0, .int .i64 n] (WLo w now mi mb ins bys) fun v L' =>
    (v = .bool false ∧ (∀ e ∈ bys, e.id ≠ n) ∧ L' = WLo w now mi mb ins bys) ∨ ∃ ins' j, v = .bool true ∧ j < bys.length ∧ (nth bys j).id = n ∧ WI now ins' (bys.eraseIdx j) ∧ L' = WLo w now mi mb ins' (bys.eraseIdx j) := by
  refine swheel_Wheel_Drop fun H hh => ?_
  dsimp only [cwheel_Wheel_Drop]
  refine walk (k := ?_)
  repeat' first | refine And.intro ?_ ?_ | intro
  all_goals refine leaf ?_
  have hf := find_by n bys
  rcases find_cases (isI n) bys with ⟨h1, h2⟩ | ⟨j, hj, h1, h2⟩
  · rw [h1] at hf
    refine wps_lookN ‹_› rfl (.there (.there (.there .here))) hf ?_
    refine walk1 (k := ?_)
    repeat' first | refine And.intro ?_ ?_ | intro
    all_goals refine leaf ?_
    exact done (.inl ⟨rfl, fun e he hc => (by have := h2 e he; rw [isI_iff.2 hc] at this; cases this), rfl⟩)
  · rw [h1] at hf
    have hid := isI_iff.1 h2
    refine wps_lookF ‹_› rfl (.there (.there (.there .here))) hf (e := byV (nth bys j)) (by rw [List.getElem?_map, getD_some hj]; rfl) ?_
    refine walk1 (k := ?_)
    repeat' first | refine And.intro ?_ ?_ | intro
    all_goals refine leaf ?_
    obtain ⟨i, hi, g1, g2⟩ := hw.find hj
    have hrg := hw.ri.rng _ (nth_mem hj)
    have hta : (nth bys j).at_ = ((nth bys j).at_.toNat : Int) := (Int.toNat_of_nonneg hrg.1).symm
    have hto := of_prog w now mi mb (nth bys j).at_.toNat hw.now (by omega)
    rw [← hta] at hto
    refine callE (hto) ?_
    refine walk1 (k := ?_)
    repeat' first | refine And.intro ?_ ?_ | intro
    all_goals refine leaf ?_
    rename_i c _ _ b5 _ _ _ _ b7 _ _ _ hh
    generalize hP : plc now (nth bys j).at_.toNat = P at *
    have hfi := find_in P ins
    rw [g1] at hfi
    refine wps_lookF hh rfl (.there (.there (.there (.there .here)))) hfi (e := entV (nth ins i)) (by rw [List.getElem?_map, getD_some hi]; rfl) ?_
    refine walk1 (k := ?_)
    repeat' first | refine And.intro ?_ ?_ | intro
    all_goals refine leaf ?_
    have hp : (rowsO ins).Perm (TL (nth ins i).s true (nth ins i).row :: rowsO (ins.eraseIdx i)) := (erase_perm hi).map _
    have hh := hh.perm ((((((hp.cons _).cons _).cons _).cons _).cons _).cons _)
    have hle := hw.ri.row_le hi
    have hlb := hw.len
    refine callK (delete_prog (nth ins i).s c (nth ins i).row n (by omega)) ?_
    rintro _ _ H' ⟨rfl, rfl⟩ hh
    have hq : (rowsO (ins.set i ⟨(nth ins i).p, (nth ins i).s, othersT n (nth ins i).row⟩)).Perm (TL (nth ins i).s true (othersT n (nth ins i).row) :: rowsO (ins.eraseIdx i)) := (set_perm _ hi).map _
    refine wps_put hh (es' := (ins.set i ⟨(nth ins i).p, (nth ins i).s, othersT n (nth ins i).row⟩).map entV) (L' := _) rfl rfl hfi ?_ (.there (.there (.there (.there (.there .here1))))) fun H' hh => ?_
    · rw [putE, List.map_set, g2]; rfl
    refine walk1 (k := ?_)
    repeat' first | refine And.intro ?_ ?_ | intro
    all_goals refine leaf ?_
    refine wps_del hh (es' := (bys.eraseIdx j).map byV) rfl hf (by rw [delE, map_eraseIdx']) (.there (.there (.there (.there (.there (.there .here1)))))) fun H' hh => ?_
    refine walk1 (k := ?_)
    repeat' first | refine And.intro ?_ ?_ | intro
    all_goals refine leaf ?_
    have hws := hw.drop hi hj (by rw [hP]; exact g2) (nth ins i).s
    rw [hid] at hws
    refine CEnds.mk (L := WLo w now mi mb (ins.set i ⟨(nth ins i).p, (nth ins i).s, othersT n (nth ins i).row⟩) (bys.eraseIdx j)) ?_ (.inr ⟨_, j, rfl, hj, hid, hws, rfl⟩)
    refine Has.perm ?_ (((hq.cons _).cons _).cons _).symm
    exact hh.ord (R := [CO c n, (b7, .cells true (plC P)), (b5, .cells true (nth bys j).enc)]) (.cons (.there (.there (.there (.there .here)))) (.cons (.there (.there (.there (.there .here)))) (.cons (.there (.there (.there (.there .here)))) (.cons .here (.one (.there (.there (.there .all))))))))
theorem ids_of {l r : List Tmr} (h : l.Perm r) (n : Int) : (∀ e ∈ l, e.id ≠ n) ↔ ∀ e ∈ r, e.id ≠ n := ⟨fun g e he => g e (h.mem_iff.2 he), fun g e he => g e (h.mem_iff.1 he)⟩

/-- A WHEEL with timers, said by a list in order. -/
def Wl (w now : Nat) (l : List Tmr) (L : List Ob) : Prop := ∃ mi mb ins bys, L = WLo w now mi mb ins bys ∧ WI now ins bys ∧ bys.Perm l ∧ l.Pairwise ltT
theorem tm_nat (n : Int) : tm n = ((tm n).toNat : Int) ∧ (tm n).toNat ≤ 1099511627776 := by
  unfold tm tmax; split
  · exact ⟨rfl, by decide⟩
  · split
    · exact ⟨rfl, by decide⟩
    · omega
theorem new_prog (n : Int) : CallsN Try.prog nwheel_New [.int .i64 n] [] fun v Lo => ∃ w, v = .ptr w 0 ∧ Wl w (tm n).toNat [] Lo :=
  CallsL.mono (wnew_prog n) fun v L' ⟨Lo, ⟨w, mi, mb, h1, h2⟩, h3⟩ => ⟨Lo, ⟨w, h1, mi, mb, [], [], h2, ⟨⟨by simp, by simp, .refl _, by simp⟩, by simp, (tm_nat n).2, by simp⟩, .refl _, .nil⟩, h3⟩
theorem drop_prog (w now : Nat) (l : List Tmr) (L : List Ob) (n : Int) (hw : Wl w now l L) : CallsL Try.prog nwheel_Wheel_Drop [.ptr w 0, .int .i64 n] L fun v L' =>
    v = .bool (decide (((othersT n l).length : Int) < (l.length : Int))) ∧ Wl w now (othersT n l) L' := by
  obtain ⟨mi, mb, ins, bys, rfl, hw, hp, hs⟩ := hw
  refine CallsL.mono (wdrop_prog w now mi mb ins bys n hw) ?_
  rintro v L' (⟨rfl, h1, rfl⟩ | ⟨ins', j, rfl, hj, h1, h2, rfl⟩)
  · rw [othersT_none ((ids_of hp n).1 h1)]
    exact ⟨by simp, mi, mb, ins, bys, rfl, hw, hp, hs⟩
  · subst h1
    have h3 : (othersT (nth bys j).id l).Perm (bys.eraseIdx j) := others_cons (hp.symm.trans (erase_perm hj)) (((hp.map Tmr.id).nodup_iff).1 hw.nd)
    have h4 := h3.length_eq
    have h5 := hp.length_eq
    rw [List.length_eraseIdx, if_pos hj] at h4
    exact ⟨by rw [decide_eq_true (by omega)], mi, mb, ins', bys.eraseIdx j, rfl, h2, h3.symm, hs.filter _⟩
theorem insT_perm (d : Tmr) (l : List Tmr) : (insT d l).Perm (d :: l) := by
  unfold insT
  refine List.perm_middle.trans (.cons d ?_)
  rw [List.takeWhile_append_dropWhile]
theorem insT_sorted {d : Tmr} : ∀ {l : List Tmr}, l.Pairwise ltT → (∀ e ∈ l, e.id ≠ d.id) → (insT d l).Pairwise ltT
  | [], _, _ => by simp [insT]
  | a :: l, h, hn => by
    by_cases hc : ltT a d
    · have ih := insT_sorted (List.pairwise_cons.1 h).2 fun e he => hn e (by simp [he])
      have e : insT d (a :: l) = a :: insT d l := by simp [insT, hc]
      rw [e]
      refine List.pairwise_cons.2 ⟨fun x hx => ?_, ih⟩
      rcases List.mem_cons.1 ((insT_perm d l).mem_iff.1 hx) with rfl | hx
      · exact hc
      · exact (List.pairwise_cons.1 h).1 x hx
    · have e : insT d (a :: l) = d :: a :: l := by simp [insT, hc]
      rw [e]
      have hda : ltT d a := by
        have := hn a (by simp)
        rw [ltT_iff] at hc ⊢; omega
      refine List.pairwise_cons.2 ⟨fun x hx => ?_, h⟩
      rcases List.mem_cons.1 hx with rfl | hx
      · exact hda
      · exact ltT_trans hda ((List.pairwise_cons.1 h).1 x hx)
theorem add_prog (w now : Nat) (l : List Tmr) (L : List Ob) (n a : Int) (hw : Wl w now l L) (hl : l.length ≤ 499) : CallsL Try.prog nwheel_Wheel_Add [.ptr w 0, .int .i64 n, .int .i64 a] L fun v L' =>
    v = .bool (!decide (((othersT n l).length : Int) < (l.length : Int))) ∧ Wl w now (insT ⟨n, tm a⟩ (othersT n l)) L' := by
  have hd := drop_prog w now l L n hw
  refine swheel_Wheel_Add fun H hh => ?_
  dsimp only [cwheel_Wheel_Add]
  refine walk (k := ?_)
  repeat' first | refine And.intro ?_ ?_ | intro
  all_goals refine leaf ?_
  refine callL (hd) ?_
  rintro _ L' H' ⟨rfl, mi, mb, ins, bys, rfl, hw', hp, hs⟩ hh
  refine walk1 (k := ?_)
  repeat' first | refine And.intro ?_ ?_ | intro
  all_goals refine leaf ?_
  refine callE (time_prog a) ?_
  refine walk1 (k := ?_)
  repeat' first | refine And.intro ?_ ?_ | intro
  all_goals refine leaf ?_
  rename_i b8 _ _ _ hh
  have hno : ∀ e ∈ bys, e.id ≠ n := (ids_of hp n).2 fun e he => by simpa using (List.mem_filter.1 he).2
  have hf := find_by n bys
  rcases find_cases (isI n) bys with ⟨h1, h2⟩ | ⟨j, hj, h1, h2⟩
  · rw [h1] at hf
    refine wps_put hh (es' := (bys ++ [(⟨n, tm a⟩ : Tmr)]).map byV) rfl rfl hf (by rw [putE, List.map_append]; rfl) (.there (.there (.there .here1))) fun H' hh => ?_
    refine walk1 (k := ?_)
    repeat' first | refine And.intro ?_ ?_ | intro
    all_goals refine leaf ?_
    have hta := tm_nat a
    have hlen := hp.length_eq
    have hle := othersT_le n l
    have hpp := put_prog w now mi mb ins bys ⟨n, tm a⟩ hw'.ri (by have := hw'.len; omega) hw'.now (by show 0 ≤ tm a ∧ tm a ≤ _; omega)
    refine callL (hpp) ?_
    rintro _ _ H' ⟨ins', rfl, hr, rfl⟩ hh
    refine walk1 (k := ?_)
    repeat' first | refine And.intro ?_ ?_ | intro
    all_goals refine leaf ?_
    have hps : (bys ++ [(⟨n, tm a⟩ : Tmr)]).Perm (⟨n, tm a⟩ :: bys) := List.perm_append_singleton _ _
    have hndc : ((bys ++ [(⟨n, tm a⟩ : Tmr)]).map Tmr.id).Nodup := by
      rw [List.map_append, List.nodup_append]
      refine ⟨hw'.nd, by simp, fun x hx y hy => ?_⟩
      obtain ⟨e, he, rfl⟩ := List.mem_map.1 hx
      simp at hy; subst hy
      exact hno e he
    exact done ⟨rfl, mi, mb, ins', bys ++ [⟨n, tm a⟩], rfl, ⟨⟨hr.nd, hr.at_, hr.perm.trans hps.symm, fun t ht => hr.rng t (hps.mem_iff.1 ht)⟩, hndc, hw'.now, by simp; omega⟩,
      hps.trans ((hp.cons _).trans (insT_perm _ _).symm), insT_sorted hs fun e he => by simpa using (List.mem_filter.1 he).2⟩
  · exact absurd (isI_iff.1 h2) (hno _ (nth_mem hj))
end Go.Proofs.Ytlnidffddidfaaa
