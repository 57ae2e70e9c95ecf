/-
  The law of a log whose power may fail.
-/
import Derived.Test.YtkfhgpegnnokgaaGreatDoorKepR
import Derived.Test.YtkfhgpegnnokgaaGreatDoorGlbW
namespace Go.Proofs.YtkfhgpegnnokgaaGreatDoor
open Go Go.CM
set_option maxRecDepth 100000
set_option maxHeartbeats 4000000

def DW (x : Deed) : Prop := 0 ≤ x.kind ∧ x.kind ≤ 255 ∧ x.n ≤ 9223372036854775807 ∧ x.m ≤ 9223372036854775807 ∧ x.by_ ≤ 9223372036854775807
theorem len_app {all : List Tx} {s : Tx} (h : ∀ r ∈ all, r.length ≤ 300) (hs : s.length ≤ 300) : ∀ r ∈ all ++ [s], r.length ≤ 300 := fun r hr => by
  rcases List.mem_append.1 hr with k | k
  · exact h r k
  · simp at k; subst k; exact hs
theorem max_one (k : Int) (h : k ≤ 9223372036854775807) : -1 ≤ max k (-1) ∧ max k (-1) ≤ 9223372036854775807 := by omega
theorem klaw_prog (t : Nat) (l : List Deed) (limit : Int) (hw : ∀ x ∈ l, DW x) (e : Nat) : CallsR Tryz.prog nlaw11_SeglogKeeps [.int .i64 limit, .slice t 0 l.length 5] (DR t l :: LO e) fun v => v = .bool true := by
  have hnew : CallsL Tryz.prog ndisk_New [.int .i64 9000] [] fun v L' => ∃ d m, v = .ptr d 0 ∧ L' = DL d m 0 (logS []) := dnew_prog 9000
  have hok0 : DOk (logS []) := newD_ok 9000
  have hopen := fun d m => open_new d m 0 (logS []) rfl hok0 limit e
  have hsm := small_prog t l
  refine slaw11_SeglogKeeps fun H hh => ?_
  dsimp only [claw11_SeglogKeeps]
  refine walk1 (k := ?_)
  repeat' first | refine And.intro ?_ ?_ | intro
  all_goals refine leaf ?_
  refine callE ((lawake_prog e)) ?_
  refine walk1 (k := ?_)
  repeat' first | refine And.intro ?_ ?_ | intro
  all_goals refine leaf ?_
  cases hS : smallB l with
  | false =>
    rw [hS] at hsm
    refine callE (hsm) ?_
    refine walk1 (k := ?_)
    repeat' first | refine And.intro ?_ ?_ | intro
    all_goals refine leaf ?_
    exact doneR rfl
  | true =>
  rw [hS] at hsm
  unfold smallB at hS
  simp only [Bool.and_eq_true, decide_eq_true_eq, List.all_eq_true] at hS
  obtain ⟨hl60, hS⟩ := hS
  refine callE (hsm) ?_
  refine walk1 (k := ?_)
  repeat' first | refine And.intro ?_ ?_ | intro
  all_goals refine leaf ?_
  refine callL (hnew) ?_
  rintro v L' H' ⟨d, m, rfl, rfl⟩ hh
  refine walk1 (k := ?_)
  repeat' first | refine And.intro ?_ ?_ | intro
  all_goals refine leaf ?_
  refine callL (hopen d m) ?_
  rintro v L' H' ⟨g, o, rfl, rfl⟩ hh
  refine walk1 (k := ?_)
  repeat' first | refine And.intro ?_ ?_ | intro
  all_goals refine leaf ?_
  refine loopN [0, 5, 6, 9, 10, 29, 30, 31] l.length (fun i vs L => ∃ (o g ws : Nat) (last : Int) (D : Dsk) (all : List Tx) (sure : Nat), DOk D ∧ KInv D last all sure ∧ last ≤ i + 1 ∧ (∀ r ∈ all, r.length ≤ 300) ∧ all.length ≤ i ∧
      vs = [.int .i64 limit, .ptr d 0, .ptr g 0, .slice o 0 all.length 1, .int .i64 (sure : Nat), .slice t 0 l.length 5, .int .i64 l.length, .int .i64 (i : Nat)] ∧
      L = TL o true all :: GO g d 1 last (limI limit) :: DO d m ws D.waits.length D.room D.fuse D.down :: MO m D.sure :: WO ws D.waits :: DR t l :: LO e)
    (Nx.hereW [_, _, _, .slice 0 0 0 1, _, _, _, _] ⟨0, g, 0, 1, logS [], [], 0, hok0, .inl ⟨9000, -1, false, rfl, rfl, rfl, rfl⟩, by omega, by simp, Nat.le_refl _, rfl, rfl⟩) ?_
  clear hh
  rintro i _ _ env H hi ⟨o, g, ws, last, D, all, sure, hok, hKI, hli, h300, hal, rfl, rfl⟩ hh
  simp only [puts]
  by_cases hn : i < l.length
  · have hx := hS _ (nth_mem hn)
    have hwx := hw _ (nth_mem hn)
    have hpos := hKI.pos
    refine walk1 (k := ?_)
    repeat' first | refine And.intro ?_ ?_ | intro
    all_goals refine leaf ?_
    refine c_cond_t (congrArg V.bool (decide_eq_true (by omega))) ?_
    refine walk1 (k := ?_)
    repeat' first | refine And.intro ?_ ?_ | intro
    all_goals refine leaf ?_
    have hx2 := nth_mem hn
    generalize nth l i = x at *
    generalize x.kind.tmod 9 = q at *
    by_cases h0 : q = 0
    · refine c_cond_t (congrArg V.bool (beq_iff_eq.2 (by omega))) ?_
      refine walk1 (k := ?_)
      repeat' first | refine And.intro ?_ ?_ | intro
      all_goals refine leaf ?_
      refine c_cond_t (congrArg V.bool (beq_iff_eq.2 (by omega))) ?_
      refine walk1 (k := ?_)
      repeat' first | refine And.intro ?_ ?_ | intro
      all_goals refine leaf ?_
      have h1 := sappend_prog g d m ws D 1 last (limI limit) x.s x.n e (by omega) hpos.1 (by omega) hok
      have hk := hKI.app (by omega) (limI limit) x.s hx x.n
      have hokA := hok.appS last (limI limit) x.s x.n
      generalize appS D last (limI limit) x.s x.n = R at *
      refine callL (h1) ?_
      rintro v L' H' ⟨ws', rfl, rfl⟩ hh
      refine walk1 (k := ?_)
      repeat' first | refine And.intro ?_ ?_ | intro
      all_goals refine leaf ?_
      by_cases he : R.e = 0
      · rw [if_pos he] at hk
        have hint : Hint txC x.s := trivial
        refine c_cond_t (congrArg V.bool (beq_iff_eq.2 he)) ?_
        refine walk1 (k := ?_)
        repeat' first | refine And.intro ?_ ?_ | intro
        all_goals refine leaf ?_
        exact Nx.next hn ⟨_, g, ws', R.last, R.D, all ++ [x.s], sure, hokA, hk.1, by have := hk.2; push_cast; omega, len_app h300 hx, by rw [List.length_append, List.length_singleton]; omega, rfl, rfl⟩
      · rw [if_neg he] at hk
        refine c_cond_f (congrArg V.bool (beq_eq_false_iff_ne.2 he)) ?_
        refine walk1 (k := ?_)
        repeat' first | refine And.intro ?_ ?_ | intro
        all_goals refine leaf ?_
        exact Nx.next hn ⟨o, g, ws', R.last, R.D, all, sure, hokA, hk.1, by have := hk.2; push_cast; omega, h300, by omega, rfl, rfl⟩
    refine c_cond_f (congrArg V.bool (beq_eq_false_iff_ne.2 (by omega))) ?_
    refine walk1 (k := ?_)
    repeat' first | refine And.intro ?_ ?_ | intro
    all_goals refine leaf ?_
    by_cases h1 : q = 1
    · refine c_cond_t (congrArg V.bool (beq_iff_eq.2 (by omega))) ?_
      refine walk1 (k := ?_)
      repeat' first | refine And.intro ?_ ?_ | intro
      all_goals refine leaf ?_
      refine c_cond_t (congrArg V.bool (beq_iff_eq.2 (by omega))) ?_
      refine walk1 (k := ?_)
      repeat' first | refine And.intro ?_ ?_ | intro
      all_goals refine leaf ?_
      have h1 := sappend_prog g d m ws D 1 last (limI limit) x.s x.n e (by omega) hpos.1 (by omega) hok
      have hk := hKI.app (by omega) (limI limit) x.s hx x.n
      have hokA := hok.appS last (limI limit) x.s x.n
      generalize appS D last (limI limit) x.s x.n = R at *
      refine callL (h1) ?_
      rintro v L' H' ⟨ws', rfl, rfl⟩ hh
      refine walk1 (k := ?_)
      repeat' first | refine And.intro ?_ ?_ | intro
      all_goals refine leaf ?_
      by_cases he : R.e = 0
      · rw [if_pos he] at hk
        have hint : Hint txC x.s := trivial
        refine c_cond_t (congrArg V.bool (beq_iff_eq.2 he)) ?_
        refine walk1 (k := ?_)
        repeat' first | refine And.intro ?_ ?_ | intro
        all_goals refine leaf ?_
        exact Nx.next hn ⟨_, g, ws', R.last, R.D, all ++ [x.s], sure, hokA, hk.1, by have := hk.2; push_cast; omega, len_app h300 hx, by rw [List.length_append, List.length_singleton]; omega, rfl, rfl⟩
      · rw [if_neg he] at hk
        refine c_cond_f (congrArg V.bool (beq_eq_false_iff_ne.2 he)) ?_
        refine walk1 (k := ?_)
        repeat' first | refine And.intro ?_ ?_ | intro
        all_goals refine leaf ?_
        exact Nx.next hn ⟨o, g, ws', R.last, R.D, all, sure, hokA, hk.1, by have := hk.2; push_cast; omega, h300, by omega, rfl, rfl⟩
    refine c_cond_f (congrArg V.bool (beq_eq_false_iff_ne.2 (by omega))) ?_
    refine walk1 (k := ?_)
    repeat' first | refine And.intro ?_ ?_ | intro
    all_goals refine leaf ?_
    by_cases h2 : q = 2
    · refine c_cond_t (congrArg V.bool (beq_iff_eq.2 (by omega))) ?_
      refine walk1 (k := ?_)
      repeat' first | refine And.intro ?_ ?_ | intro
      all_goals refine leaf ?_
      have h1 := sappend_prog g d m ws D 1 last (limI limit) x.s x.n e (by omega) hpos.1 (by omega) hok
      have hk := hKI.app (by omega) (limI limit) x.s hx x.n
      have hokA := hok.appS last (limI limit) x.s x.n
      generalize appS D last (limI limit) x.s x.n = R at *
      refine callL (h1) ?_
      rintro v L' H' ⟨ws', rfl, rfl⟩ hh
      refine walk1 (k := ?_)
      repeat' first | refine And.intro ?_ ?_ | intro
      all_goals refine leaf ?_
      by_cases he : R.e = 0
      · rw [if_pos he] at hk
        have hint : Hint txC x.s := trivial
        refine c_cond_t (congrArg V.bool (beq_iff_eq.2 he)) ?_
        refine walk1 (k := ?_)
        repeat' first | refine And.intro ?_ ?_ | intro
        all_goals refine leaf ?_
        exact Nx.next hn ⟨_, g, ws', R.last, R.D, all ++ [x.s], sure, hokA, hk.1, by have := hk.2; push_cast; omega, len_app h300 hx, by rw [List.length_append, List.length_singleton]; omega, rfl, rfl⟩
      · rw [if_neg he] at hk
        refine c_cond_f (congrArg V.bool (beq_eq_false_iff_ne.2 he)) ?_
        refine walk1 (k := ?_)
        repeat' first | refine And.intro ?_ ?_ | intro
        all_goals refine leaf ?_
        exact Nx.next hn ⟨o, g, ws', R.last, R.D, all, sure, hokA, hk.1, by have := hk.2; push_cast; omega, h300, by omega, rfl, rfl⟩
    refine c_cond_f (congrArg V.bool (beq_eq_false_iff_ne.2 (by omega))) ?_
    refine walk1 (k := ?_)
    repeat' first | refine And.intro ?_ ?_ | intro
    all_goals refine leaf ?_
    by_cases h3 : q = 3
    · refine c_cond_t (congrArg V.bool (beq_iff_eq.2 (by omega))) ?_
      refine walk1 (k := ?_)
      repeat' first | refine And.intro ?_ ?_ | intro
      all_goals refine leaf ?_
      refine c_cond_t (congrArg V.bool (beq_iff_eq.2 (by omega))) ?_
      refine walk1 (k := ?_)
      repeat' first | refine And.intro ?_ ?_ | intro
      all_goals refine leaf ?_
      have h1 := ssync_prog g d m ws D 1 last (limI limit) e hok
      have hk := hKI.sync (by omega)
      have hokS : DOk (if sizeS D last < 0 then D else syncR D (segN last)) := by
        split
        · exact hok
        · exact hok.sync _
      generalize (if sizeS D last < 0 then D else syncR D (segN last)) = D2 at *
      generalize (if sizeS D last < 0 then 0 else readyE D (segN last)) = r at *
      refine callL (h1) ?_
      rintro v L' H' ⟨rfl, rfl⟩ hh
      refine walk1 (k := ?_)
      repeat' first | refine And.intro ?_ ?_ | intro
      all_goals refine leaf ?_
      by_cases he : r = 0
      · rw [if_pos he] at hk
        refine c_cond_t (congrArg V.bool (beq_iff_eq.2 he)) ?_
        refine walk1 (k := ?_)
        repeat' first | refine And.intro ?_ ?_ | intro
        all_goals refine leaf ?_
        exact Nx.next hn ⟨o, g, ws, last, D2, all, all.length, hokS, hk, by push_cast; omega, h300, by omega, rfl, rfl⟩
      · rw [if_neg he] at hk
        refine c_cond_f (congrArg V.bool (beq_eq_false_iff_ne.2 he)) ?_
        refine walk1 (k := ?_)
        repeat' first | refine And.intro ?_ ?_ | intro
        all_goals refine leaf ?_
        exact Nx.next hn ⟨o, g, ws, last, D2, all, sure, hokS, hk, by push_cast; omega, h300, by omega, rfl, rfl⟩
    refine c_cond_f (congrArg V.bool (beq_eq_false_iff_ne.2 (by omega))) ?_
    refine walk1 (k := ?_)
    repeat' first | refine And.intro ?_ ?_ | intro
    all_goals refine leaf ?_
    by_cases h4 : q = 4
    · refine c_cond_t (congrArg V.bool (beq_iff_eq.2 (by omega))) ?_
      refine walk1 (k := ?_)
      repeat' first | refine And.intro ?_ ?_ | intro
      all_goals refine leaf ?_
      have h1 := ssync_prog g d m ws D 1 last (limI limit) e hok
      have hk := hKI.sync (by omega)
      have hokS : DOk (if sizeS D last < 0 then D else syncR D (segN last)) := by
        split
        · exact hok
        · exact hok.sync _
      generalize (if sizeS D last < 0 then D else syncR D (segN last)) = D2 at *
      generalize (if sizeS D last < 0 then 0 else readyE D (segN last)) = r at *
      refine callL (h1) ?_
      rintro v L' H' ⟨rfl, rfl⟩ hh
      refine walk1 (k := ?_)
      repeat' first | refine And.intro ?_ ?_ | intro
      all_goals refine leaf ?_
      by_cases he : r = 0
      · rw [if_pos he] at hk
        refine c_cond_t (congrArg V.bool (beq_iff_eq.2 he)) ?_
        refine walk1 (k := ?_)
        repeat' first | refine And.intro ?_ ?_ | intro
        all_goals refine leaf ?_
        exact Nx.next hn ⟨o, g, ws, last, D2, all, all.length, hokS, hk, by push_cast; omega, h300, by omega, rfl, rfl⟩
      · rw [if_neg he] at hk
        refine c_cond_f (congrArg V.bool (beq_eq_false_iff_ne.2 he)) ?_
        refine walk1 (k := ?_)
        repeat' first | refine And.intro ?_ ?_ | intro
        all_goals refine leaf ?_
        exact Nx.next hn ⟨o, g, ws, last, D2, all, sure, hokS, hk, by push_cast; omega, h300, by omega, rfl, rfl⟩
    refine c_cond_f (congrArg V.bool (beq_eq_false_iff_ne.2 (by omega))) ?_
    refine walk1 (k := ?_)
    repeat' first | refine And.intro ?_ ?_ | intro
    all_goals refine leaf ?_
    by_cases h5 : q = 5
    · refine c_cond_t (congrArg V.bool (beq_iff_eq.2 (by omega))) ?_
      refine walk1 (k := ?_)
      repeat' first | refine And.intro ?_ ?_ | intro
      all_goals refine leaf ?_
      obtain ⟨got, hP, hpre, hsg⟩ := hKI.preO (by omega) (fun r hr => by have := h300 r hr; omega) x.n
      have hgl : got.length ≤ all.length := hpre.length_le
      have hgs : ∀ r ∈ got, r.length ≤ 300 := fun r hr => h300 r (hpre.subset hr)
      have hg2 : ∀ r ∈ got, r.length ≤ 2000 := fun r hr => by have := hgs r hr; omega
      have h1 := dcrash_prog d m ws D x.n hwx.2.2.1 hok
      have hok1 := hok.crash x.n
      have h2 := dfuse_prog d m 0 0 (crashD D x.n).room (-1) false x.m
      rw [show (if false = true then (-1 : Int) else max x.m (-1)) = max x.m (-1) from rfl] at h2
      have hmx := max_one x.m hwx.2.2.2.1
      have hok2 := hok1.refuse (f := max x.m (-1)) false hmx.1 hmx.2
      have hP2 := hP.refuse (max x.m (-1)) false
      have h3 := preO_open d m 0 hP2 hok2 (by omega) hg2 limit e
      refine callL (h1) ?_
      rintro v L' H' rfl hh
      refine walk1 (k := ?_)
      repeat' first | refine And.intro ?_ ?_ | intro
      all_goals refine leaf ?_
      refine callL (h2) ?_
      rintro v L' H' rfl hh
      refine walk1 (k := ?_)
      repeat' first | refine And.intro ?_ ?_ | intro
      all_goals refine leaf ?_
      refine callL (h3) ?_
      rintro v L' H' (⟨hdd, rfl, D3, rfl, hP3, hok3⟩ | ⟨g2, o2, D4, rfl, rfl, hok4, hK4⟩) hh
      · skip
        refine walk1 (k := ?_)
        repeat' first | refine And.intro ?_ ?_ | intro
        all_goals refine leaf ?_
        refine callL (dcrash_prog d m 0 D3 x.by_ hwx.2.2.2.2 hok3) ?_
        rintro v L' H' rfl hh
        refine walk1 (k := ?_)
        repeat' first | refine And.intro ?_ ?_ | intro
        all_goals refine leaf ?_
        refine callL (preO_open d m 0 (hP3.crash x.by_) (hok3.crash x.by_) (by omega) hg2 limit e) ?_
        rintro v L' H' (⟨hdd, _⟩ | ⟨g2, o2, D4, rfl, rfl, hok4, hK4⟩) hh
        · exact absurd hdd (show ¬ (deadD (-1) false = true) by decide)
        · skip
          refine walk1 (k := ?_)
          repeat' first | refine And.intro ?_ ?_ | intro
          all_goals refine leaf ?_
          refine wps_slot (s := 100) (v := .bool false) (congrArg V.bool (decide_eq_false (by omega))) ?_
          refine walk1 (k := ?_)
          repeat' first | refine And.intro ?_ ?_ | intro
          all_goals refine leaf ?_
          refine wps_slot (s := 107) (v := .bool false) (congrArg V.bool (decide_eq_false (by omega))) ?_
          refine walk1 (k := ?_)
          repeat' first | refine And.intro ?_ ?_ | intro
          all_goals refine leaf ?_
          have hsm2 := same_prog o2 o true true got all got.length hgl (by omega)
          rw [decide_eq_true (List.prefix_iff_eq_take.1 hpre)] at hsm2
          refine callE (hsm2) ?_
          refine walk1 (k := ?_)
          repeat' first | refine And.intro ?_ ?_ | intro
          all_goals refine leaf ?_
          refine callL (dfuse_prog d m 0 D4.waits.length D4.room D4.fuse D4.down (-1)) ?_
          rintro v L' H' rfl hh
          refine walk1 (k := ?_)
          repeat' first | refine And.intro ?_ ?_ | intro
          all_goals refine leaf ?_
          have hfz : -1 ≤ (if D4.down = true then D4.fuse else max (-1) (-1)) ∧ (if D4.down = true then D4.fuse else max (-1) (-1)) ≤ 9223372036854775807 := by
            have := hok4.fuse0
            have := hok4.fuse1
            split <;> omega
          exact Nx.next hn ⟨o2, g2, 0, last, ⟨D4.sure, D4.waits, D4.room, (if D4.down = true then D4.fuse else max (-1) (-1)), D4.down⟩, got, got.length, hok4.refuse _ hfz.1 hfz.2, hK4.refuse _ _ _, by push_cast; omega, hgs, by omega, rfl, rfl⟩
      · skip
        refine walk1 (k := ?_)
        repeat' first | refine And.intro ?_ ?_ | intro
        all_goals refine leaf ?_
        refine wps_slot (s := 100) (v := .bool false) (congrArg V.bool (decide_eq_false (by omega))) ?_
        refine walk1 (k := ?_)
        repeat' first | refine And.intro ?_ ?_ | intro
        all_goals refine leaf ?_
        refine wps_slot (s := 107) (v := .bool false) (congrArg V.bool (decide_eq_false (by omega))) ?_
        refine walk1 (k := ?_)
        repeat' first | refine And.intro ?_ ?_ | intro
        all_goals refine leaf ?_
        have hsm2 := same_prog o2 o true true got all got.length hgl (by omega)
        rw [decide_eq_true (List.prefix_iff_eq_take.1 hpre)] at hsm2
        refine callE (hsm2) ?_
        refine walk1 (k := ?_)
        repeat' first | refine And.intro ?_ ?_ | intro
        all_goals refine leaf ?_
        refine callL (dfuse_prog d m 0 D4.waits.length D4.room D4.fuse D4.down (-1)) ?_
        rintro v L' H' rfl hh
        refine walk1 (k := ?_)
        repeat' first | refine And.intro ?_ ?_ | intro
        all_goals refine leaf ?_
        have hfz : -1 ≤ (if D4.down = true then D4.fuse else max (-1) (-1)) ∧ (if D4.down = true then D4.fuse else max (-1) (-1)) ≤ 9223372036854775807 := by
          have := hok4.fuse0
          have := hok4.fuse1
          split <;> omega
        exact Nx.next hn ⟨o2, g2, 0, last, ⟨D4.sure, D4.waits, D4.room, (if D4.down = true then D4.fuse else max (-1) (-1)), D4.down⟩, got, got.length, hok4.refuse _ hfz.1 hfz.2, hK4.refuse _ _ _, by push_cast; omega, hgs, by omega, rfl, rfl⟩
    refine c_cond_f (congrArg V.bool (beq_eq_false_iff_ne.2 (by omega))) ?_
    refine walk1 (k := ?_)
    repeat' first | refine And.intro ?_ ?_ | intro
    all_goals refine leaf ?_
    by_cases h6 : q = 6
    · refine c_cond_t (congrArg V.bool (beq_iff_eq.2 (by omega))) ?_
      refine walk1 (k := ?_)
      repeat' first | refine And.intro ?_ ?_ | intro
      all_goals refine leaf ?_
      refine callL (droom_prog d m (.slice ws 0 D.waits.length 2) D.room D.fuse D.down x.n) ?_
      rintro v L' H' rfl hh
      refine walk1 (k := ?_)
      repeat' first | refine And.intro ?_ ?_ | intro
      all_goals refine leaf ?_
      exact Nx.next hn ⟨o, g, ws, last, ⟨D.sure, D.waits, roomI x.n, D.fuse, D.down⟩, all, sure, hok.reroom x.n, hKI.refuse _ _ _, by push_cast; omega, h300, by omega, rfl, rfl⟩
    refine c_cond_f (congrArg V.bool (beq_eq_false_iff_ne.2 (by omega))) ?_
    refine walk1 (k := ?_)
    repeat' first | refine And.intro ?_ ?_ | intro
    all_goals refine leaf ?_
    by_cases h7 : q = 7
    · refine c_cond_t (congrArg V.bool (beq_iff_eq.2 (by omega))) ?_
      refine walk1 (k := ?_)
      repeat' first | refine And.intro ?_ ?_ | intro
      all_goals refine leaf ?_
      refine callL (dfuse_prog d m ws D.waits.length D.room D.fuse D.down x.n) ?_
      rintro v L' H' rfl hh
      refine walk1 (k := ?_)
      repeat' first | refine And.intro ?_ ?_ | intro
      all_goals refine leaf ?_
      have hfz : -1 ≤ (if D.down = true then D.fuse else max x.n (-1)) ∧ (if D.down = true then D.fuse else max x.n (-1)) ≤ 9223372036854775807 := by
        have := hok.fuse0
        have := hok.fuse1
        have := hwx.2.2.1
        split <;> omega
      exact Nx.next hn ⟨o, g, ws, last, ⟨D.sure, D.waits, D.room, (if D.down = true then D.fuse else max x.n (-1)), D.down⟩, all, sure, hok.refuse _ hfz.1 hfz.2, hKI.refuse _ _ _, by push_cast; omega, h300, by omega, rfl, rfl⟩
    refine c_cond_f (congrArg V.bool (beq_eq_false_iff_ne.2 (by omega))) ?_
    refine walk1 (k := ?_)
    repeat' first | refine And.intro ?_ ?_ | intro
    all_goals refine leaf ?_
    exact Nx.next hn ⟨o, g, ws, last, D, all, sure, hok, hKI, by push_cast; omega, h300, by omega, rfl, rfl⟩
  · skip
    refine walk1 (k := ?_)
    repeat' first | refine And.intro ?_ ?_ | intro
    all_goals refine leaf ?_
    refine c_cond_f (congrArg V.bool (decide_eq_false (by omega))) ?_
    refine walk1 (k := ?_)
    repeat' first | refine And.intro ?_ ?_ | intro
    all_goals refine leaf ?_
    exact doneR rfl
theorem deedOf {cs : List V} (h : Fits [.i .u8, .s, .i .i64, .i .i64, .i .i64] cs) : ∃ x : Deed, cs = deedC x ∧ DW x := by
  obtain ⟨_, _, rfl, ⟨a1, rfl, w1⟩, h1⟩ := h.cons
  obtain ⟨_, _, rfl, ⟨a2, rfl, _⟩, h2⟩ := h1.cons
  obtain ⟨_, _, rfl, ⟨a3, rfl, w3⟩, h3⟩ := h2.cons
  obtain ⟨_, _, rfl, ⟨a4, rfl, w4⟩, h4⟩ := h3.cons
  obtain ⟨_, _, rfl, ⟨a5, rfl, w5⟩, h5⟩ := h4.cons
  obtain rfl := h5.nil
  simp [Lit.wf, IntKind.min, IntKind.max, IntKind.signed, IntKind.bits] at w1 w3 w4 w5
  exact ⟨⟨a1, a2, a3, a4, a5⟩, rfl, by show 0 ≤ a1; omega, by show a1 ≤ 255; omega, by show a3 ≤ _; omega, by show a4 ≤ _; omega, by show a5 ≤ _; omega⟩
theorem deedC_inj {x y : Deed} (h : deedC x = deedC y) : x = y := by
  obtain ⟨a1, a2, a3, a4, a5⟩ := x
  obtain ⟨b1, b2, b3, b4, b5⟩ := y
  simp only [deedC, List.cons.injEq, V.int.injEq, V.str.injEq, true_and, and_true] at h
  obtain ⟨rfl, rfl, rfl, rfl, rfl⟩ := h
  rfl
theorem walkSeglogKeeps (vs : List V) (H : Heap) (e : Nat) (hg : Givens H 1 [.one (.i .i64), .rows [.i .u8, .s, .i .i64, .i .i64, .i .i64]] vs) (hh : Has H (LO e)) : CallsC Tryz.prog nlaw11_SeglogKeeps vs H fun v _ => v = .bool true := by
  obtain ⟨_, vs, rfl, ⟨n, rfl, _⟩, hg1⟩ := hg.cons
  obtain ⟨_, vs, rfl, ⟨rs, hf, hlen, hr⟩, hg2⟩ := hg1.cons
  obtain rfl := hg2.nil
  obtain ⟨l, rfl⟩ := rowsOf deedC (fun r hr => (deedOf (hf r hr)).imp fun _ h => h.1)
  have hw : ∀ x ∈ l, DW x := fun x hx => by
    obtain ⟨y, h1, h2⟩ := deedOf (hf _ (List.mem_map_of_mem hx))
    rw [deedC_inj h1]; exact h2
  obtain ⟨t, rfl, ht1, ht⟩ := givenRowsA hr
  have hL := ht (LO e) hh (fun x hx => by
    right
    simp only [libOb, List.mem_cons, List.not_mem_nil, or_false] at hx
    rcases hx with rfl | rfl
    · exact (show (2 * gErr + 1 : Nat) ≠ 2 * (1 + 1) by decide)
    · exact (show (2 * gPow + 1 : Nat) ≠ 2 * (1 + 1) by decide))
  exact (CallsR.reads (R := []) (klaw_prog t l n hw e) (by rwa [List.append_nil])).mono fun _ _ h => h.1
end Go.Proofs.YtkfhgpegnnokgaaGreatDoor
