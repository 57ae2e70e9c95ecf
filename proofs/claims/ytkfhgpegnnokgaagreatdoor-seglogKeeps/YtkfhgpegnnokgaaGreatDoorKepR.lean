/-
  A log behind a crash is opened.
-/
import Derived.Test.YtkfhgpegnnokgaaGreatDoorKepQ
import Derived.Test.YtkfhgpegnnokgaaGreatDoorRotW
namespace Go.Proofs.YtkfhgpegnnokgaaGreatDoor
open Go Go.CM
set_option maxRecDepth 100000
set_option maxHeartbeats 4000000

theorem DOk.refuse {D : Dsk} (h : DOk D) {f : Int} (b : Bool) (h0 : -1 ≤ f) (h1 : f ≤ 9223372036854775807) : DOk ⟨D.sure, D.waits, D.room, f, b⟩ := ⟨h.used, h.files, h.nd, h.ne, h.inn, h.room0, h.room1, h0, h1⟩
theorem DOk.reroom {D : Dsk} (h : DOk D) (n : Int) : DOk ⟨D.sure, D.waits, roomI n, D.fuse, D.down⟩ := ⟨h.used, h.files, h.nd, h.ne, h.inn, by show 0 ≤ roomI n; unfold roomI; omega, by show roomI n ≤ _; unfold roomI; omega, h.fuse0, h.fuse1⟩
theorem KInv.refuse {D : Dsk} {last : Int} {all : List Tx} {sure : Nat} (h : KInv D last all sure) (r f : Int) (b : Bool) : KInv ⟨D.sure, D.waits, r, f, b⟩ last all sure := by
  rcases h with ⟨room, fuse, down, rfl, h2⟩ | ⟨segs, a, bb, room, fuse, down, rfl, h2⟩
  · exact .inl ⟨r, f, b, rfl, h2⟩
  · exact .inr ⟨segs, a, bb, r, f, b, rfl, h2⟩
theorem KInv.pos {D : Dsk} {last : Int} {all : List Tx} {sure : Nat} (h : KInv D last all sure) : 1 ≤ last ∧ sure ≤ all.length := by
  rcases h with ⟨room, fuse, down, rfl, rfl, rfl, rfl⟩ | ⟨segs, a, bb, room, fuse, down, rfl, rfl, rfl, h4⟩
  · exact ⟨by omega, Nat.le_refl _⟩
  · refine ⟨by omega, ?_⟩
    rw [List.length_append]; omega
theorem DOk.appS {D : Dsk} (h : DOk D) (last limit : Int) (s : Tx) (rest : Int) : DOk (appS D last limit s rest).D := by
  have hU : ∀ {E : Dsk} (n : Int), DOk E → DOk (appU E last n s).D := fun n hE => by
    unfold appU
    split
    · exact hE.app _ _
    · exact hE.app _ _
  have hT : ∀ (n : Int) (fr : Bool), DOk (appT D last n fr s rest).D := fun n fr => by
    unfold appT
    repeat' split
    · exact h
    · exact h
    · exact hU n (h.sync _)
    · exact h.sync _
    · exact hU n h
  unfold YtkfhgpegnnokgaaGreatDoor.appS
  repeat' split
  · exact h
  · exact hT _ _
  · exact hT _ _
def PreO (D : Dsk) (last : Int) (got : List Tx) : Prop :=
  (∃ room fuse down, D = kZ room fuse down ∧ last = 1 ∧ got = []) ∨
  ∃ segs c tail room fuse down, D = kT segs c tail room fuse down ∧ last = segs.length + 1 ∧ tailP tail ∧ got = segs.flatten ++ c
theorem PreO.refuse {D : Dsk} {last : Int} {got : List Tx} (h : PreO D last got) (f : Int) (b : Bool) : PreO ⟨D.sure, D.waits, D.room, f, b⟩ last got := by
  rcases h with ⟨room, fuse, down, rfl, h2⟩ | ⟨segs, c, tail, room, fuse, down, rfl, h2⟩
  · exact .inl ⟨room, f, b, rfl, h2⟩
  · exact .inr ⟨segs, c, tail, room, f, b, rfl, h2⟩
theorem PreO.crash {D : Dsk} {last : Int} {got : List Tx} (h : PreO D last got) (k : Int) : PreO (crashD D k) last got := by
  rcases h with ⟨room, fuse, down, rfl, h2⟩ | ⟨segs, c, tail, room, fuse, down, rfl, h2⟩
  · exact .inl ⟨room, -1, false, rfl, h2⟩
  · exact .inr ⟨segs, c, tail, room, -1, false, rfl, h2⟩
theorem KInv.preO {D : Dsk} {last : Int} {all : List Tx} {sure : Nat} (h : KInv D last all sure) (hl : last ≤ 9999) (hlen : ∀ r ∈ all, r.length ≤ 2000) (k : Int) : ∃ got, PreO (crashD D k) last got ∧ got <+: all ∧ sure ≤ got.length := by
  rcases h.crash hl hlen k with ⟨room, h1, h2, h3⟩ | ⟨segs, c, tail, room, h1, h2, h3, h4, h5⟩
  · have hlast : last = 1 := by
      rcases h with ⟨_, _, _, _, h, _, _⟩ | ⟨segs, a, bb, r, f, dn, rfl, _, _, _⟩
      · exact h
      · have := congrArg (fun D : Dsk => D.sure.length) h1
        have h6 : (crS (sureI 1 segs ++ [(segN (segs.length + 1), framesT a)]) (bb.map fun r => (segN (segs.length + 1), makeT r)) k.toNat (bb.map fun r => (segN (segs.length + 1), makeT r)).length).length = 0 := this
        obtain ⟨f1, _⟩ := kfacts segs (framesT a) (by omega)
        have e2 : (bb.map fun r => (segN (segs.length + 1), makeT r)).length = bb.length := List.length_map ..
        rw [e2, crS_last _ f1 _ _ _ (Nat.le_refl _), List.length_append] at h6
        exact absurd h6 (by show ¬ (_ + 1 = 0); omega)
    exact ⟨[], .inl ⟨room, -1, false, h1, hlast, rfl⟩, List.nil_prefix, by omega⟩
  · exact ⟨segs.flatten ++ c, .inr ⟨segs, c, tail, room, -1, false, h1, h2.symm, h3, rfl⟩, h4, h5⟩
theorem preO_open (d m ws : Nat) {D : Dsk} {last : Int} {got : List Tx} (hP : PreO D last got) (h : DOk D) (hl : last ≤ 9999) (hlen : ∀ r ∈ got, r.length ≤ 2000) (limit : Int) (e : Nat) :
    CallsL Tryz.prog nseglog_Open [.ptr d 0, .int .i64 1, .int .i64 limit] (DO d m ws D.waits.length D.room D.fuse D.down :: MO m D.sure :: WO ws D.waits :: LO e) fun v L' =>
      (deadD D.fuse D.down = true ∧ v = .tup [.nilp, .nils, .int .i64 12] ∧ ∃ D', L' = DL d m ws D' ++ LO e ∧ PreO D' last got ∧ DOk D') ∨
      (∃ g o D', v = .tup [.ptr g 0, .slice o 0 got.length 1, .int .i64 0] ∧ L' = GO g d 1 last (limI limit) :: TL o true got :: (DL d m ws D' ++ LO e) ∧ DOk D' ∧ KInv D' last got got.length) := by
  rcases hP with ⟨room, fuse, down, rfl, rfl, rfl⟩ | ⟨segs, c, tail, room, fuse, down, rfl, rfl, ht, rfl⟩
  · refine (open_new d m ws (kZ room fuse down) rfl h limit e).mono fun v L' ⟨g, o, h1, h2⟩ => .inr ⟨g, o, _, h1, h2, h, .inl ⟨room, fuse, down, rfl, rfl, rfl, rfl⟩⟩
  · have hn : segs.length ≤ 9999 := by omega
    have hko := kT_open segs c tail room fuse down hn ht hlen
    refine (sopen_prog d m ws (kT segs c tail room fuse down) 1 limit e (by omega) (by omega) h).mono fun v L' hq => ?_
    rw [hko.1] at hq
    dsimp only at hq
    rw [hko.2] at hq
    by_cases h0 : tail = []
    · subst h0
      rw [if_pos rfl] at hq
      obtain ⟨g, o, h1, h2⟩ := hq.2 rfl
      refine .inr ⟨g, o, _, h1, h2, h, .inr ⟨segs, c, [], room, fuse, down, kT_nil .., rfl, by rw [List.append_nil], Nat.le_refl _⟩⟩
    · rw [if_neg h0] at hq
      by_cases hd : deadD fuse down = true
      · rw [if_pos hd] at hq
        obtain ⟨h1, h2⟩ := hq.1 (show ¬ ((12 : Int) = 0) by decide)
        refine .inl ⟨hd, h1, _, h2, .inr ⟨segs, c, tail, room, _, _, rfl, rfl, ht, rfl⟩, ?_⟩
        have h3 := h.dead
        exact h3.refuse true h3.fuse0 h3.fuse1
      · rw [if_neg hd] at hq
        obtain ⟨g, o, h1, h2⟩ := hq.2 rfl
        refine .inr ⟨g, o, _, h1, h2, ?_, .inr ⟨segs, c, [], room, _, _, rfl, rfl, by rw [List.append_nil], Nat.le_refl _⟩⟩
        obtain ⟨f1, f2, f3, f4, f5⟩ := kfacts segs (framesT c ++ tail) hn
        have h3 := h.dead.other (s := segN (segs.length + 1)) (t := framesT c) f3 (by
          show (framesT c).length ≤ (getT _ (sureI 1 segs ++ [(segN (segs.length + 1), framesT c ++ tail)]) ++ _).length
          rw [f4, List.length_append, List.length_append]; omega)
        have h4 := h3.refuse false h3.fuse0 h3.fuse1
        have e1 : setT (segN (segs.length + 1)) (framesT c) (kT segs c tail room fuse down).dead.sure = sureI 1 segs ++ [(segN (segs.length + 1), framesT c)] := set_last f1
        rw [e1] at h4
        exact h4
structure Deed where
  kind : Int
  s : Tx
  n : Int
  m : Int
  by_ : Int
  deriving Inhabited
def deedC (x : Deed) : List V := [.int .u8 x.kind, .str x.s, .int .i64 x.n, .int .i64 x.m, .int .i64 x.by_]
abbrev DR (t : Nat) (l : List Deed) : Ob := (t, .cells false (l.flatMap deedC))
def smallB (l : List Deed) : Bool := decide (l.length ≤ 60) && l.all fun x => decide (x.s.length ≤ 300)
theorem small_prog (t : Nat) (l : List Deed) : CallsR Tryz.prog nlaw11_Small [.slice t 0 l.length 5] [DR t l] fun v => v = .bool (smallB l) := by
  unfold smallB
  by_cases h60 : l.length ≤ 60
  · rw [decide_eq_true h60, Bool.true_and]
    refine slaw11_Small fun H hh => ?_
    dsimp only [claw11_Small]
    refine walk1 (k := ?_)
    repeat' first | refine And.intro ?_ ?_ | intro
    all_goals refine leaf ?_
    refine c_cond_f (congrArg V.bool (decide_eq_false (by omega))) ?_
    refine walk1 (k := ?_)
    repeat' first | refine And.intro ?_ ?_ | intro
    all_goals refine leaf ?_
    refine loopN [8, 9, 10] l.length (fun i vs L => vs = [.slice t 0 l.length 5, .int .i64 l.length, .int .i64 (i : Nat)] ∧ L = [DR t l] ∧ (l.take i).all (fun x => decide (x.s.length ≤ 300)) = true) (Nx.here ⟨rfl, rfl, rfl⟩) ?_
    clear hh
    rintro i _ _ env H hi ⟨rfl, rfl, hall⟩ hh
    simp only [puts]
    by_cases hn : i < l.length
    · have hst := take_getD hn
      refine walk1 (k := ?_)
      repeat' first | refine And.intro ?_ ?_ | intro
      all_goals refine leaf ?_
      refine c_cond_t (congrArg V.bool (decide_eq_true (by omega))) ?_
      refine walk1 (k := ?_)
      repeat' first | refine And.intro ?_ ?_ | intro
      all_goals refine leaf ?_
      by_cases h3 : 300 < (nth l i).s.length
      · refine c_cond_t (congrArg V.bool (decide_eq_true (by omega))) ?_
        refine walk1 (k := ?_)
        repeat' first | refine And.intro ?_ ?_ | intro
        all_goals refine leaf ?_
        have : l.all (fun x => decide (x.s.length ≤ 300)) = false := by
          rw [List.all_eq_false]
          exact ⟨_, nth_mem hn, by simpa using h3⟩
        rw [this]
        exact doneR rfl
      · refine c_cond_f (congrArg V.bool (decide_eq_false (by omega))) ?_
        refine walk1 (k := ?_)
        repeat' first | refine And.intro ?_ ?_ | intro
        all_goals refine leaf ?_
        exact Nx.next hn ⟨rfl, rfl, by rw [hst, List.all_append, hall, List.all_cons, List.all_nil, decide_eq_true (by omega)]; rfl⟩
    · skip
      refine walk1 (k := ?_)
      repeat' first | refine And.intro ?_ ?_ | intro
      all_goals refine leaf ?_
      refine c_cond_f (congrArg V.bool (decide_eq_false (by omega))) ?_
      refine walk1 (k := ?_)
      repeat' first | refine And.intro ?_ ?_ | intro
      all_goals refine leaf ?_
      rw [List.take_of_length_le (by omega)] at hall
      rw [hall]
      exact doneR rfl
  · rw [decide_eq_false h60, Bool.false_and]
    refine slaw11_Small fun H hh => ?_
    dsimp only [claw11_Small]
    refine walk1 (k := ?_)
    repeat' first | refine And.intro ?_ ?_ | intro
    all_goals refine leaf ?_
    refine c_cond_t (congrArg V.bool (decide_eq_true (by omega))) ?_
    refine walk1 (k := ?_)
    repeat' first | refine And.intro ?_ ?_ | intro
    all_goals refine leaf ?_
    exact doneR rfl
theorem same_prog (o p : Nat) (c1 c2 : Bool) (a b : List Tx) (k : Nat) (hk : k ≤ b.length) (ha : a.length ≤ 1000000) : CallsR Tryz.prog nlaw11_same [.slice o 0 a.length 1, .slice p 0 k 1] [TL o c1 a, TL p c2 b] fun v => v = .bool (decide (a = b.take k)) := by
  by_cases hl : a.length = k
  · skip
    refine slaw11_same fun H hh => ?_
    dsimp only [claw11_same]
    refine walk1 (k := ?_)
    repeat' first | refine And.intro ?_ ?_ | intro
    all_goals refine leaf ?_
    refine c_cond_f (by show V.bool _ = _; simp [hl]) ?_
    refine walk1 (k := ?_)
    repeat' first | refine And.intro ?_ ?_ | intro
    all_goals refine leaf ?_
    refine loopN [0, 1, 11, 12, 13] a.length (fun i vs L => vs = [.slice o 0 a.length 1, .slice p 0 k 1, .slice o 0 a.length 1, .int .i64 a.length, .int .i64 (i : Nat)] ∧ L = [TL o c1 a, TL p c2 b] ∧ a.take i = b.take i) (Nx.here ⟨rfl, rfl, rfl⟩) ?_
    clear hh
    rintro i _ _ env H hi ⟨rfl, rfl, heq⟩ hh
    simp only [puts]
    by_cases hn : i < a.length
    · have hst := take_getD hn
      have hst2 := take_getD (l := b) (i := i) (by omega)
      refine walk1 (k := ?_)
      repeat' first | refine And.intro ?_ ?_ | intro
      all_goals refine leaf ?_
      refine c_cond_t (congrArg V.bool (decide_eq_true (by omega))) ?_
      refine walk1 (k := ?_)
      repeat' first | refine And.intro ?_ ?_ | intro
      all_goals refine leaf ?_
      by_cases he : nth a i = nth b i
      · refine c_cond_f (by show V.bool _ = _; simpa using he) ?_
        refine walk1 (k := ?_)
        repeat' first | refine And.intro ?_ ?_ | intro
        all_goals refine leaf ?_
        exact Nx.next hn ⟨rfl, rfl, by rw [hst, hst2, heq, he]⟩
      · refine c_cond_t (by show V.bool _ = _; simpa using he) ?_
        refine walk1 (k := ?_)
        repeat' first | refine And.intro ?_ ?_ | intro
        all_goals refine leaf ?_
        have hne : a ≠ b.take k := fun e => he (by
          rw [e, nth_eq, nth_eq, List.getD_eq_getElem?_getD, List.getD_eq_getElem?_getD, List.getElem?_take_of_lt (by omega)])
        rw [decide_eq_false hne]
        exact doneR rfl
    · skip
      refine walk1 (k := ?_)
      repeat' first | refine And.intro ?_ ?_ | intro
      all_goals refine leaf ?_
      refine c_cond_f (congrArg V.bool (decide_eq_false (by omega))) ?_
      refine walk1 (k := ?_)
      repeat' first | refine And.intro ?_ ?_ | intro
      all_goals refine leaf ?_
      have hie : i = a.length := by omega
      subst hie
      rw [List.take_length] at heq
      rw [decide_eq_true (by rw [← hl]; exact heq)]
      exact doneR rfl
  · have hne : a ≠ b.take k := fun e => hl (by rw [e, List.length_take]; omega)
    rw [decide_eq_false hne]
    refine slaw11_same fun H hh => ?_
    dsimp only [claw11_same]
    refine walk1 (k := ?_)
    repeat' first | refine And.intro ?_ ?_ | intro
    all_goals refine leaf ?_
    refine c_cond_t (by show V.bool _ = _; simp; omega) ?_
    refine walk1 (k := ?_)
    repeat' first | refine And.intro ?_ ?_ | intro
    all_goals refine leaf ?_
    exact doneR rfl
end Go.Proofs.YtkfhgpegnnokgaaGreatDoor
