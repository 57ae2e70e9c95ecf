/-
  The wheel: its calls said by the list in order; the law's beginning.
-/
import Derived.Test.YtlnidffddidfaaaWheelN
namespace Go.Proofs.Ytlnidffddidfaaa
open Go Go.CM
set_option maxRecDepth 100000
set_option maxHeartbeats 4000000

theorem CallsR.wide {P : Program} {f : FuncId} {args : List V} {N L R : List Ob} {Q : V → Prop} (h : CallsR P f args N Q) (ht : Tk N L R) : CallsR P f args L Q :=
  fun H hh => (CallsR.reads h (hh.tk ht)).mono fun v H' ⟨hq, e⟩ => ⟨L, ⟨hq, rfl⟩, e ▸ hh⟩
theorem CallsR.mono' {P : Program} {f : FuncId} {args : List V} {N : List Ob} {Q Q' : V → Prop} (h : CallsR P f args N Q) (hq : ∀ v, Q v → Q' v) : CallsR P f args N Q' :=
  CallsL.mono h fun v _ ⟨a, b⟩ => ⟨hq v a, b⟩
/-- The time of a number, as a list is looked through. -/
def scanT (n : Int) (a : Int × Bool) (l : List Tmr) : Int × Bool := l.foldl (fun a e => if e.id = n then (e.at_, true) else a) a
theorem scanT_none {n : Int} : ∀ {l : List Tmr} {a : Int × Bool}, (∀ e ∈ l, e.id ≠ n) → scanT n a l = a
  | [], _, _ => rfl
  | x :: l, a, h => by
    show scanT n (if x.id = n then _ else a) l = a
    rw [if_neg (h x (by simp)), scanT_none fun e he => h e (by simp [he])]
theorem scanT_one {n : Int} : ∀ {l : List Tmr} {a : Int × Bool} {e : Tmr}, (l.map Tmr.id).Nodup → e ∈ l → e.id = n → scanT n a l = (e.at_, true)
  | x :: l, a, e, h, he, hn => by
    obtain ⟨h1, h2⟩ := List.nodup_cons.1 h
    show scanT n (if x.id = n then (x.at_, true) else a) l = _
    rcases List.mem_cons.1 he with rfl | he
    · rw [if_pos hn, scanT_none fun y hy hc => h1 (by rw [hn, ← hc]; exact List.mem_map_of_mem hy)]
    · exact scanT_one h2 he hn
theorem scanT_step {n : Int} {l : List Tmr} {i : Nat} (hi : i < l.length) (a : Int × Bool) : scanT n a (l.take (i + 1)) = if (nth l i).id = n then ((nth l i).at_, true) else scanT n a (l.take i) := by
  unfold scanT
  rw [take_getD hi, List.foldl_append]; rfl
theorem Wl.nd {w now : Nat} {l : List Tmr} {L : List Ob} (h : Wl w now l L) : (l.map Tmr.id).Nodup := by
  obtain ⟨mi, mb, ins, bys, _, hw, hp, _⟩ := h
  exact ((hp.map Tmr.id).nodup_iff).1 hw.nd
theorem at_prog (w now : Nat) (l : List Tmr) (L : List Ob) (n : Int) (h : Wl w now l L) : CallsR Try.prog nwheel_Wheel_At [.ptr w 0, .int .i64 n] L fun v => v = .tup [.int .i64 (scanT n (0, false) l).1, .bool (scanT n (0, false) l).2] := by
  have hnd := h.nd
  obtain ⟨mi, mb, ins, bys, rfl, hw, hp, hs⟩ := h
  refine CallsR.mono' (CallsR.wide (wat_prog w now mi mb bys n) (.cons .here (.cons (.there .here) .nil))) ?_
  rintro v (⟨rfl, h1⟩ | ⟨e, he, h1, rfl⟩)
  · rw [scanT_none ((ids_of hp n).1 h1)]
  · rw [scanT_one hnd (hp.mem_iff.1 he) h1]
theorem len_prog (w now : Nat) (l : List Tmr) (L : List Ob) (h : Wl w now l L) : CallsR Try.prog nwheel_Wheel_Len [.ptr w 0] L fun v => v = .int .i64 l.length := by
  obtain ⟨mi, mb, ins, bys, rfl, hw, hp, hs⟩ := h
  rw [← hp.length_eq]
  exact CallsR.wide (wlen_prog w now mi mb bys) (.cons .here (.cons (.there .here) .nil))
theorem now_prog (w now : Nat) (l : List Tmr) (L : List Ob) (h : Wl w now l L) : CallsR Try.prog nwheel_Wheel_Now [.ptr w 0] L fun v => v = .int .i64 now := by
  obtain ⟨mi, mb, ins, bys, rfl, hw, hp, hs⟩ := h
  exact CallsR.wide (wnow_prog w now mi mb) (.cons .here .nil)
def nextV : List Tmr → V
  | [] => .tup [.int .i64 0, .bool false]
  | a :: _ => .tup [.int .i64 a.at_, .bool true]
theorem nxt_prog (w now : Nat) (l : List Tmr) (L : List Ob) (h : Wl w now l L) : CallsR Try.prog nwheel_Wheel_Next [.ptr w 0] L fun v => v = nextV l := by
  obtain ⟨mi, mb, ins, bys, rfl, hw, hp, hs⟩ := h
  refine CallsR.mono' (next_prog w now mi mb ins bys hw) ?_
  rintro v (⟨h1, rfl⟩ | ⟨e, he, rfl, hm⟩)
  · subst h1
    obtain rfl := hp.symm.eq_nil
    rfl
  · cases l with
    | nil => have := hp.mem_iff.1 he; cases this
    | cons a l =>
      have h1 := hm a (hp.mem_iff.2 (by simp))
      have h2 : a.at_ ≤ e.at_ := by
        rcases List.mem_cons.1 (hp.mem_iff.1 he) with rfl | he
        · exact Int.le_refl _
        · have := ltT_iff.1 ((List.pairwise_cons.1 hs).1 e he); omega
      show V.tup _ = V.tup _
      rw [show e.at_ = a.at_ by omega]

theorem awake_prog : CallsR Try.prog nlaw46_awake [] [] fun v => v = .bool true := by
  refine slaw46_awake fun H hh => ?_
  dsimp only [claw46_awake]
  refine walk (k := ?_)
  repeat' first | refine And.intro ?_ ?_ | intro
  all_goals refine leaf ?_
  refine callL (new_prog 0) ?_
  rintro _ L1 H' ⟨Lo, ⟨w, rfl, h1⟩, rfl⟩ hh
  rw [List.append_nil] at hh
  refine walk1 (k := ?_)
  repeat' first | refine And.intro ?_ ?_ | intro
  all_goals refine leaf ?_
  refine callL (add_prog w _ [] Lo 7 5 h1 (by simp)) ?_
  rintro _ L2 H' ⟨rfl, h2⟩ hh
  refine walk1 (k := ?_)
  repeat' first | refine And.intro ?_ ?_ | intro
  all_goals refine leaf ?_
  refine callL (add_prog w _ _ L2 3 5 h2 (by decide)) ?_
  rintro _ L3 H' ⟨rfl, h3⟩ hh
  refine walk1 (k := ?_)
  repeat' first | refine And.intro ?_ ?_ | intro
  all_goals refine leaf ?_
  refine callL (add_prog w _ _ L3 1 2 h3 (by decide)) ?_
  rintro _ L4 H' ⟨rfl, h4⟩ hh
  refine walk1 (k := ?_)
  repeat' first | refine And.intro ?_ ?_ | intro
  all_goals refine leaf ?_
  refine callL (tick_prog w _ _ L4 5 h4) ?_
  rintro _ _ H' ⟨o, L5, rfl, rfl, h5⟩ hh
  have e1 : (dueT (max (tm 0).toNat (tm 5).toNat : Nat) (insT ⟨1, tm 2⟩ (othersT 1 (insT ⟨3, tm 5⟩ (othersT 3 (insT ⟨7, tm 5⟩ (othersT 7 []))))))).map Tmr.id = [1, 3, 7] := by decide
  have e2 : (insT ⟨1, tm 2⟩ (othersT 1 (insT ⟨3, tm 5⟩ (othersT 3 (insT ⟨7, tm 5⟩ (othersT 7 [])))))).drop (dueT (max (tm 0).toNat (tm 5).toNat : Nat) (insT ⟨1, tm 2⟩ (othersT 1 (insT ⟨3, tm 5⟩ (othersT 3 (insT ⟨7, tm 5⟩ (othersT 7 []))))))).length = [] := by decide
  have e3 : max (tm 0).toNat (tm 5).toNat = 5 := by decide
  rw [e1] at hh ⊢
  rw [e2, e3] at h5
  refine walk1 (k := ?_)
  repeat' first | refine And.intro ?_ ?_ | intro
  all_goals refine leaf ?_
  rename_i x _ hh
  have hsm := rsameT_prog o x true true [1, 3, 7] [1, 3, 7] (by decide)
  refine callE (hsm) ?_
  refine walk1 (k := ?_)
  repeat' first | refine And.intro ?_ ?_ | intro
  all_goals refine leaf ?_
  refine callE (len_prog w _ _ L5 h5) ?_
  refine walk1 (k := ?_)
  repeat' first | refine And.intro ?_ ?_ | intro
  all_goals refine leaf ?_
  refine callE (now_prog w _ _ L5 h5) ?_
  refine walk1 (k := ?_)
  repeat' first | refine And.intro ?_ ?_ | intro
  all_goals refine leaf ?_
  exact doneR rfl

structure Deed where
  kind : Int
  id : Int
  at_ : Int
  deriving Inhabited
def Deed.enc (x : Deed) : List V := [.int .u8 x.kind, .int .i64 x.id, .int .i64 x.at_]
abbrev DL (t : Nat) (b : Bool) (l : List Deed) : Ob := (t, .cells b (l.flatMap Deed.enc))
theorem insT_length (d : Tmr) (l : List Tmr) : (insT d l).length = l.length + 1 := by
  rw [(insT_perm d l).length_eq]; rfl
theorem dueT_le (n : Int) (l : List Tmr) : (dueT n l).length ≤ l.length := (List.takeWhile_sublist _).length_le
theorem runs_prog (now : Int) (t : Nat) (b : Bool) (l : List Deed) : CallsR Try.prog nlaw46_WheelRuns [.int .i64 now, .slice t 0 l.length 3] [DL t b l] fun v => v = .bool true := by
  have hrt := rtime_prog now
  rw [(tm_nat now).1] at hrt
  refine slaw46_WheelRuns fun H hh => ?_
  dsimp only [claw46_WheelRuns]
  refine walk (k := ?_)
  repeat' first | refine And.intro ?_ ?_ | intro
  all_goals refine leaf ?_
  refine callE (awake_prog) ?_
  refine walk (k := ?_)
  repeat' first | refine And.intro ?_ ?_ | intro
  all_goals refine leaf ?_
  · exact doneR rfl
  refine callL (new_prog now) ?_
  rintro _ _ H' ⟨Lw, ⟨w, rfl, hw⟩, rfl⟩ hh
  rw [List.append_nil] at hh
  generalize (tm now).toNat = n0 at *
  refine walk (k := ?_)
  repeat' first | refine And.intro ?_ ?_ | intro
  all_goals refine leaf ?_
  refine callE (hrt) ?_
  refine walk1 (k := ?_)
  repeat' first | refine And.intro ?_ ?_ | intro
  all_goals refine leaf ?_
  refine loopN [0, 5, 6, 30, 31, 32] l.length (fun i vs L => ∃ n r want Lw, Wl w n want Lw ∧ want.length ≤ i ∧ vs = [.int .i64 (n : Nat), .ptr w 0, .slice r 0 want.length 2, .slice t 0 l.length 3, .int .i64 l.length, .int .i64 i] ∧ L = TL r true want :: DL t b l :: Lw) (Nx.hereW [_, _, .slice 0 0 0 2, _, _, _] ⟨n0, 0, [], Lw, hw, Nat.le_refl _, rfl, rfl⟩) ?_
  clear hh hw hrt
  rintro i _ _ e H hi ⟨n, r, want, Lw, hw, hwl, rfl, rfl⟩ hh
  simp only [puts]
  by_cases hn : i < l.length
  · skip
    refine walk1 (k := ?_)
    repeat' first | refine And.intro ?_ ?_ | intro
    all_goals refine leaf ?_
    refine c_cond_t (by show V.bool _ = _; simp; omega) ?_
    refine walk1 (k := ?_)
    repeat' first | refine And.intro ?_ ?_ | intro
    all_goals refine leaf ?_
    refine callN (rdropT_prog r true want (nth l i).id (by omega)) ?_
    rintro _ _ H2 ⟨o, rfl, rfl⟩ hh
    have hle := othersT_le (nth l i).id want
    refine walk1 (k := ?_)
    repeat' first | refine And.intro ?_ ?_ | intro
    all_goals refine leaf ?_
    rename_i did _ _ _ _
    obtain ⟨x, hx⟩ : ∃ x, decide (((othersT (nth l i).id want).length : Int) < (want.length : Int)) = x := ⟨_, rfl⟩
    rw [hx]
    generalize hm : (nth l i).kind.tmod 4 = m
    refine cutBW [0, 5, 6, 8, 30, 31, 32] (fun vs L => ∃ n r want Lw did, Wl w n want Lw ∧ want.length ≤ i + 1 ∧ vs = [.int .i64 (n : Nat), .ptr w 0, .slice r 0 want.length 2, .ptr did 0, .slice t 0 l.length 3, .int .i64 l.length, .int .i64 i] ∧ L = TL r true want :: (did, .cells true (nth l i).enc) :: DL t b l :: Lw) ?_ ?_
    rotate_left
    · clear hh hw hwl hx hle
      rintro _ _ e H ⟨n, r, want, Lw, did, hw, hwl, rfl, rfl⟩ hh
      simp only [puts]
      refine walk1 (k := ?_)
      repeat' first | refine And.intro ?_ ?_ | intro
      all_goals refine leaf ?_
      refine callE (at_prog w n want Lw (nth l i).id hw) ?_
      refine walk1 (k := ?_)
      repeat' first | refine And.intro ?_ ?_ | intro
      all_goals refine leaf ?_
      refine loopN [0, 5, 6, 8, 13, 14, 15, 16, 30, 31, 32, 97, 98, 99] want.length (fun j vs L => vs = [.int .i64 (n : Nat), .ptr w 0, .slice r 0 want.length 2, .ptr did 0, .int .i64 (scanT (nth l i).id (0, false) want).1, .bool (scanT (nth l i).id (0, false) want).2, .int .i64 (scanT (nth l i).id (0, false) (want.take j)).1, .bool (scanT (nth l i).id (0, false) (want.take j)).2,
        .slice t 0 l.length 3, .int .i64 l.length, .int .i64 i, .slice r 0 want.length 2, .int .i64 want.length, .int .i64 j] ∧ L = TL r true want :: (did, .cells true (nth l i).enc) :: DL t b l :: Lw) (Nx.here ⟨rfl, rfl⟩) ?_
      clear hh
      rintro j _ _ e H hj ⟨rfl, rfl⟩ hh
      simp only [puts]
      by_cases hjw : j < want.length
      · skip
        refine walk1 (k := ?_)
        repeat' first | refine And.intro ?_ ?_ | intro
        all_goals refine leaf ?_
        refine c_cond_t (by show V.bool _ = _; simp; omega) ?_
        refine walk1 (k := ?_)
        repeat' first | refine And.intro ?_ ?_ | intro
        all_goals refine leaf ?_
        have hst := scanT_step (n := (nth l i).id) hjw (0, false)
        by_cases hid : (nth want j).id = (nth l i).id
        · rw [if_pos hid] at hst
          refine c_cond_t (by show V.bool _ = _; simp [hid]) ?_
          refine walk1 (k := ?_)
          repeat' first | refine And.intro ?_ ?_ | intro
          all_goals refine leaf ?_
          exact Nx.next hjw ⟨by rw [hst] <;> rfl, rfl⟩
        · rw [if_neg hid] at hst
          refine c_cond_f (by show V.bool _ = _; simp [hid]) ?_
          refine walk1 (k := ?_)
          repeat' first | refine And.intro ?_ ?_ | intro
          all_goals refine leaf ?_
          exact Nx.next hjw ⟨by rw [hst] <;> rfl, rfl⟩
      · skip
        refine walk1 (k := ?_)
        repeat' first | refine And.intro ?_ ?_ | intro
        all_goals refine leaf ?_
        refine c_cond_f (by show V.bool _ = _; simp; omega) ?_
        refine walk1 (k := ?_)
        repeat' first | refine And.intro ?_ ?_ | intro
        all_goals refine leaf ?_
        rw [List.take_of_length_le (by omega)]
        have hnx := nxt_prog w n want Lw hw
        generalize scanT (nth l i).id (0, false) want = sc
        obtain ⟨s1, s2⟩ := sc
        cases want with
        | nil =>
          refine callE (hnx) ?_
          refine walk1 (k := ?_)
          repeat' first | refine And.intro ?_ ?_ | intro
          all_goals refine leaf ?_
          refine wps_slot (s := 119) (v := .bool false) (by show V.bool _ = _; simp) ?_
          refine walk1 (k := ?_)
          repeat' first | refine And.intro ?_ ?_ | intro
          all_goals refine leaf ?_
          refine wps_slot (s := 124) (v := .bool false) (by show V.bool _ = _; simp) ?_
          refine walk1 (k := ?_)
          repeat' first | refine And.intro ?_ ?_ | intro
          all_goals refine leaf ?_
          refine callE (len_prog w n [] Lw hw) ?_
          refine walk1 (k := ?_)
          repeat' first | refine And.intro ?_ ?_ | intro
          all_goals refine leaf ?_
          refine wps_slot (s := 131) (v := .bool false) (by show V.bool _ = _; simp) ?_
          refine walk1 (k := ?_)
          repeat' first | refine And.intro ?_ ?_ | intro
          all_goals refine leaf ?_
          refine callE (now_prog w n [] Lw hw) ?_
          refine walk1 (k := ?_)
          repeat' first | refine And.intro ?_ ?_ | intro
          all_goals refine leaf ?_
          refine wps_slot (s := 137) (v := .bool false) (by show V.bool _ = _; simp) ?_
          refine walk1 (k := ?_)
          repeat' first | refine And.intro ?_ ?_ | intro
          all_goals refine leaf ?_
          exact Nx.next hn ⟨n, r, [], Lw, hw, hwl, rfl, rfl⟩
        | cons d0 rs =>
          refine callE (hnx) ?_
          refine walk1 (k := ?_)
          repeat' first | refine And.intro ?_ ?_ | intro
          all_goals refine leaf ?_
          refine wps_slot (s := 119) (v := .bool false) (by show V.bool _ = _; simp) ?_
          refine walk1 (k := ?_)
          repeat' first | refine And.intro ?_ ?_ | intro
          all_goals refine leaf ?_
          refine wps_slot (s := 124) (v := .bool false) (by show V.bool _ = _; simp) ?_
          refine walk1 (k := ?_)
          repeat' first | refine And.intro ?_ ?_ | intro
          all_goals refine leaf ?_
          refine callE (len_prog w n (d0 :: rs) Lw hw) ?_
          refine walk1 (k := ?_)
          repeat' first | refine And.intro ?_ ?_ | intro
          all_goals refine leaf ?_
          refine wps_slot (s := 131) (v := .bool false) (by show V.bool _ = _; simp) ?_
          refine walk1 (k := ?_)
          repeat' first | refine And.intro ?_ ?_ | intro
          all_goals refine leaf ?_
          refine callE (now_prog w n (d0 :: rs) Lw hw) ?_
          refine walk1 (k := ?_)
          repeat' first | refine And.intro ?_ ?_ | intro
          all_goals refine leaf ?_
          refine wps_slot (s := 137) (v := .bool false) (by show V.bool _ = _; simp) ?_
          refine walk1 (k := ?_)
          repeat' first | refine And.intro ?_ ?_ | intro
          all_goals refine leaf ?_
          refine wps_slot (s := 144) (v := .bool false) (by show V.bool _ = _; simp; try omega) ?_
          refine walk1 (k := ?_)
          repeat' first | refine And.intro ?_ ?_ | intro
          all_goals refine leaf ?_
          refine wps_slot (s := 155) (v := .bool false) (by show V.bool _ = _; simp [nth_zero]) ?_
          refine walk1 (k := ?_)
          repeat' first | refine And.intro ?_ ?_ | intro
          all_goals refine leaf ?_
          exact Nx.next hn ⟨n, r, d0 :: rs, Lw, hw, hwl, rfl, rfl⟩
    have hdw := drop_prog w n want Lw (nth l i).id hw
    have haw := add_prog w n want Lw (nth l i).id (nth l i).at_ hw (by omega)
    rw [hx] at hdw haw
    by_cases h2 : m = 2
    · refine c_cond_t (by show V.bool _ = _; simp [h2]) ?_
      refine walk1 (k := ?_)
      repeat' first | refine And.intro ?_ ?_ | intro
      all_goals refine leaf ?_
      refine callL (hdw) ?_
      rintro _ Lw2 H3 ⟨rfl, hw2⟩ hh
      refine walk1 (k := ?_)
      repeat' first | refine And.intro ?_ ?_ | intro
      all_goals refine leaf ?_
      refine c_cond_f (by show V.bool _ = _; cases x <;> rfl) ?_
      refine walk1 (k := ?_)
      repeat' first | refine And.intro ?_ ?_ | intro
      all_goals refine leaf ?_
      exact Nw.mk (Nx.cut ⟨n, o, _, Lw2, did, hw2, by omega, rfl, rfl⟩)
    refine c_cond_f (by show V.bool _ = _; simp [h2]) ?_
    refine walk1 (k := ?_)
    repeat' first | refine And.intro ?_ ?_ | intro
    all_goals refine leaf ?_
    by_cases h3 : m = 3
    · refine c_cond_t (by show V.bool _ = _; simp [h3]) ?_
      have hrt := rtime_prog (nth l i).at_
      have htk := tick_prog w n want Lw (nth l i).at_ hw
      have htn := tm_nat (nth l i).at_
      generalize (tm (nth l i).at_).toNat = T at *
      rw [htn.1] at hrt
      refine walk1 (k := ?_)
      repeat' first | refine And.intro ?_ ?_ | intro
      all_goals refine leaf ?_
      refine callE hrt ?_
      refine wps_rd (v := .int .i64 ((max n T : Nat) : Int)) (by show some (V.int _ (if _ then _ else _)) = _; congr 2; split <;> omega) ?_
      refine walk1 (k := ?_)
      repeat' first | refine And.intro ?_ ?_ | intro
      all_goals refine leaf ?_
      refine callN (rtickT_prog r true want (max n T : Nat) (by omega)) ?_
      rintro _ _ H3 ⟨od, rfl, rfl⟩ hh
      refine walk1 (k := ?_)
      repeat' first | refine And.intro ?_ ?_ | intro
      all_goals refine leaf ?_
      refine callL (htk) ?_
      rintro _ _ H4 ⟨ow, Lw2, rfl, rfl, hw2⟩ hh
      have hdl := dueT_le ((max n T : Nat) : Int) want
      have hwd : (want.drop (dueT ((max n T : Nat) : Int) want).length).length = want.length - (dueT ((max n T : Nat) : Int) want).length := List.length_drop
      generalize hdu : dueT ((max n T : Nat) : Int) want = du at *
      refine walk1 (k := ?_)
      repeat' first | refine And.intro ?_ ?_ | intro
      all_goals refine leaf ?_
      have hsm := rsameT_prog ow od true true (du.map Tmr.id) (du.map Tmr.id) (by simp; omega)
      refine callE (hsm) ?_
      refine walk1 (k := ?_)
      repeat' first | refine And.intro ?_ ?_ | intro
      all_goals refine leaf ?_
      refine c_cond_f (by show V.bool _ = _; simp) ?_
      refine walk1 (k := ?_)
      repeat' first | refine And.intro ?_ ?_ | intro
      all_goals refine leaf ?_
      by_cases hwn : want = []
      · subst hwn
        obtain rfl : du = [] := List.eq_nil_of_length_eq_zero (by simpa using hdl)
        exact Nw.mk (Nx.cut ⟨max n T, r, [], Lw2, did, hw2, by simp, rfl, rfl⟩)
      · refine Nw.base (id := r) (off := du.length * 2) (len := want.length - du.length) (e := 2) (cs := want.flatMap Tmr.enc) (cs' := (want.drop du.length).flatMap Tmr.enc) 6 (by assumption) rfl (fun id' => by repeat (first | with_reducible apply Upd.cns | with_reducible apply Upd.nl | with_reducible apply Upd.asc | exact Upd.here1 | with_reducible apply Upd.there | with_reducible apply Upd.skip))
          (rows_drop (sz := 2) (fun _ => rfl) want du.length) (by rw [tl_len]; omega) (fun h => by have := congrArg List.length h; rw [tl_len] at this; simp only [List.length_nil] at this; exact hwn (List.eq_nil_of_length_eq_zero (by omega))) fun r' H' hh => ?_
        exact Nw.mk (Nx.cut ⟨max n T, r', _, Lw2, did, hw2, by omega, by rw [hwd] <;> rfl, rfl⟩)
    refine c_cond_f (by show V.bool _ = _; simp [h3]) ?_
    refine walk1 (k := ?_)
    repeat' first | refine And.intro ?_ ?_ | intro
    all_goals refine leaf ?_
    refine callL (haw) ?_
    rintro _ Lw2 H3 ⟨rfl, hw2⟩ hh
    refine walk1 (k := ?_)
    repeat' first | refine And.intro ?_ ?_ | intro
    all_goals refine leaf ?_
    refine c_cond_f (by show V.bool _ = _; cases x <;> rfl) ?_
    refine walk1 (k := ?_)
    repeat' first | refine And.intro ?_ ?_ | intro
    all_goals refine leaf ?_
    refine callN (raddT_prog r true want (nth l i).id (nth l i).at_ (by omega)) ?_
    rintro _ _ H2 ⟨o4, o5, rfl, rfl⟩ hh
    have hil := insT_length ⟨(nth l i).id, tm (nth l i).at_⟩ (othersT (nth l i).id want)
    refine walk1 (k := ?_)
    repeat' first | refine And.intro ?_ ?_ | intro
    all_goals refine leaf ?_
    exact Nw.mk (Nx.cut ⟨n, o4, _, Lw2, did, hw2, by omega, rfl, rfl⟩)
  · skip
    refine walk1 (k := ?_)
    repeat' first | refine And.intro ?_ ?_ | intro
    all_goals refine leaf ?_
    refine c_cond_f (by show V.bool _ = _; simp; omega) ?_
    refine walk1 (k := ?_)
    repeat' first | refine And.intro ?_ ?_ | intro
    all_goals refine leaf ?_
    exact doneR rfl
theorem deedOf {cs : List V} (h : Fits [.i .u8, .i .i64, .i .i64] cs) : ∃ j : Deed, cs = j.enc := by
  obtain ⟨_, _, rfl, ⟨a, rfl, _⟩, h1⟩ := h.cons
  obtain ⟨_, _, rfl, ⟨b, rfl, _⟩, h2⟩ := h1.cons
  obtain ⟨_, _, rfl, ⟨c, rfl, _⟩, h3⟩ := h2.cons
  obtain rfl := h3.nil
  exact ⟨⟨a, b, c⟩, rfl⟩
theorem walkWheelRuns (vs : List V) (H : Heap) (hg : Givens H 1 [.one (.i .i64), .rows [.i .u8, .i .i64, .i .i64]] vs) (_ : ∀ id o, H id = some o → o.rw = false) : CallsC Try.prog nlaw46_WheelRuns vs H fun v _ => v = .bool true := by
  obtain ⟨_, vs, rfl, ⟨n, rfl, _⟩, hg1⟩ := hg.cons
  obtain ⟨_, vs, rfl, ⟨rs, hf, hlen, hr⟩, hg2⟩ := hg1.cons
  obtain rfl := hg2.nil
  obtain ⟨ds, rfl⟩ := rowsOf Deed.enc (fun r hr => deedOf (hf r hr))
  obtain ⟨t, rfl, ht⟩ := givenRows hr
  rw [List.length_map]
  exact (CallsR.reads (R := []) (runs_prog n t false ds) ht).mono fun _ _ h => h.1
end Go.Proofs.Ytlnidffddidfaaa
