/-
  A log in segments: a record is appended.
-/
import Derived.Test.YtkfhgpegnnokgaaGreatDoorSegB
namespace Go.Proofs.YtkfhgpegnnokgaaGreatDoor
open Go Go.CM
set_option maxRecDepth 100000
set_option maxHeartbeats 4000000

structure ApR where
  e : Int
  last : Int
  D : Dsk
def appU (D : Dsk) (last n : Int) (s : Tx) : ApR := if appE D (segN n) (makeT s) = 0 then ⟨0, n, appR D (segN n) (makeT s)⟩ else ⟨appE D (segN n) (makeT s), last, appR D (segN n) (makeT s)⟩
def noRoom (D : Dsk) (fr : Bool) (s : Tx) (rest : Int) : Prop := (fr = true ∧ 13 < D.sure.length) ∨ max (D.room - (D.used : Nat)) 0 < (makeT s).length + limI rest
instance (D : Dsk) (fr : Bool) (s : Tx) (rest : Int) : Decidable (noRoom D fr s rest) := by unfold noRoom; infer_instance
def appT (D : Dsk) (last n : Int) (fr : Bool) (s : Tx) (rest : Int) : ApR :=
  if 99999 < n then ⟨10, last, D⟩ else if noRoom D fr s rest then ⟨2, last, D⟩ else
  if last < n then (if readyE D (segN last) = 0 then appU (syncR D (segN last)) last n s else ⟨readyE D (segN last), last, syncR D (segN last)⟩) else appU D last n s
def roll (D : Dsk) (last limit : Int) (s : Tx) : Prop := 0 < sizeS D last ∧ limit < sizeS D last + (makeT s).length
instance (D : Dsk) (last limit : Int) (s : Tx) : Decidable (roll D last limit s) := by unfold roll; infer_instance
def appS (D : Dsk) (last limit : Int) (s : Tx) (rest : Int) : ApR :=
  if 2000 < s.length then ⟨5, last, D⟩ else
  if roll D last limit s then appT D last (last + 1) true s rest else appT D last last (decide (sizeS D last < 0)) s rest
theorem size_le {D : Dsk} (h : DOk D) (last : Int) : -1 ≤ sizeS D last ∧ sizeS D last ≤ 60000 := by
  have := file_le h (segN last)
  unfold sizeS
  split <;> omega
theorem sappend_prog (g d m ws : Nat) (D : Dsk) (first last limit : Int) (s : Tx) (rest : Int) (e : Nat) (hs : s.length ≤ 1000000) (hl0 : 1 ≤ last) (hl1 : last ≤ 99999) (h : DOk D) :
    CallsL Tryz.prog nseglog_Log_Append [.ptr g 0, .str s, .int .i64 rest] (GO g d first last limit :: DO d m ws D.waits.length D.room D.fuse D.down :: MO m D.sure :: WO ws D.waits :: LO e) fun v L' =>
      ∃ ws', v = .int .i64 (appS D last limit s rest).e ∧ L' = GO g d first (appS D last limit s rest).last limit :: (DL d m ws' (appS D last limit s rest).D ++ LO e) := by
  have hmk := fmake_prog s
  have hsz := ssize_prog g d m ws D first last limit e h
  have hho := dholes_prog d m ws D.waits.length D.room D.fuse D.down D.sure (by have := h.files; omega)
  have hfr := dfree_prog d m ws D h
  have hnl := sname_prog last e
  have hn1 := sname_prog (last + 1) e
  have hsy := dsync_prog d m ws D (segN last) h
  have hD1 := h.sync (segN last)
  have hml := make_len s
  have hsl := size_le h last
  have hu := h.used
  have hr0 := h.room0
  have hr1 := h.room1
  have hfl := h.files
  have hlim : 0 ≤ limI rest ∧ limI rest ≤ 1073741824 := by unfold limI; omega
  unfold appS
  by_cases h2 : 2000 < s.length
  · rw [if_pos h2] at hmk ⊢
    refine sseglog_Log_Append fun H hh => ?_
    dsimp only [cseglog_Log_Append]
    refine walk1 (k := ?_)
    repeat' first | refine And.intro ?_ ?_ | intro
    all_goals refine leaf ?_
    refine callE (hmk) ?_
    refine walk1 (k := ?_)
    repeat' first | refine And.intro ?_ ?_ | intro
    all_goals refine leaf ?_
    exact done ⟨ws, rfl, rfl⟩
  rw [if_neg h2] at hmk ⊢
  have hap := fun (n : Int) => dappend_prog d m ws D (segN n) (makeT s) h (by omega)
  have hap1 := fun (n : Int) => dappend_prog d m ws (syncR D (segN last)) (segN n) (makeT s) hD1 (by omega)
  refine sseglog_Log_Append fun H hh => ?_
  dsimp only [cseglog_Log_Append]
  refine walk1 (k := ?_)
  repeat' first | refine And.intro ?_ ?_ | intro
  all_goals refine leaf ?_
  refine callE (hmk) ?_
  refine walk1 (k := ?_)
  repeat' first | refine And.intro ?_ ?_ | intro
  all_goals refine leaf ?_
  refine callE (hsz) ?_
  refine walk1 (k := ?_)
  repeat' first | refine And.intro ?_ ?_ | intro
  all_goals refine leaf ?_
  by_cases hr : roll D last limit s
  · rw [if_pos hr]
    have hr' : 0 < sizeS D last ∧ limit < sizeS D last + (makeT s).length := hr
    refine wps_slot (s := 34) (v := .bool true) (congrArg V.bool (decide_eq_true hr'.1)) ?_
    refine walk1 (k := ?_)
    repeat' first | refine And.intro ?_ ?_ | intro
    all_goals refine leaf ?_
    refine c_cond_t (congrArg V.bool (decide_eq_true (by omega))) ?_
    refine walk1 (k := ?_)
    repeat' first | refine And.intro ?_ ?_ | intro
    all_goals refine leaf ?_
    unfold appT
    refine c_slot (s := 2) (v := .int .i64 (limI rest)) (by show V.int .i64 _ = _; rw [limI_at]) ?_
    by_cases hn : 99999 < last + 1
    · rw [if_pos hn]
      refine c_cond_t (congrArg V.bool (decide_eq_true hn)) ?_
      refine walk1 (k := ?_)
      repeat' first | refine And.intro ?_ ?_ | intro
      all_goals refine leaf ?_
      exact done ⟨ws, rfl, rfl⟩
    rw [if_neg hn]
    refine c_cond_f (congrArg V.bool (decide_eq_false hn)) ?_
    refine walk1 (k := ?_)
    repeat' first | refine And.intro ?_ ?_ | intro
    all_goals refine leaf ?_
    refine callE (hho) ?_
    refine walk1 (k := ?_)
    repeat' first | refine And.intro ?_ ?_ | intro
    all_goals refine leaf ?_
    by_cases h16 : 13 < D.sure.length
    · rw [if_pos (.inl ⟨rfl, h16⟩)]
      refine c_cond_t (congrArg V.bool (decide_eq_true (by omega))) ?_
      refine walk1 (k := ?_)
      repeat' first | refine And.intro ?_ ?_ | intro
      all_goals refine leaf ?_
      refine c_cond_t (congrArg V.bool (decide_eq_true (by omega))) ?_
      refine walk1 (k := ?_)
      repeat' first | refine And.intro ?_ ?_ | intro
      all_goals refine leaf ?_
      exact done ⟨ws, rfl, rfl⟩
    refine c_cond_f (congrArg V.bool (decide_eq_false (by omega))) ?_
    refine walk1 (k := ?_)
    repeat' first | refine And.intro ?_ ?_ | intro
    all_goals refine leaf ?_
    refine callE (hfr) ?_
    refine walk1 (k := ?_)
    repeat' first | refine And.intro ?_ ?_ | intro
    all_goals refine leaf ?_
    by_cases hro : max (D.room - (D.used : Nat)) 0 < (makeT s).length + limI rest
    · rw [if_pos (.inr hro)]
      refine c_cond_t (congrArg V.bool (decide_eq_true hro)) ?_
      refine walk1 (k := ?_)
      repeat' first | refine And.intro ?_ ?_ | intro
      all_goals refine leaf ?_
      exact done ⟨ws, rfl, rfl⟩
    rw [if_neg (fun k => k.elim (fun k => h16 k.2) hro)]
    refine c_cond_f (congrArg V.bool (decide_eq_false hro)) ?_
    refine walk1 (k := ?_)
    repeat' first | refine And.intro ?_ ?_ | intro
    all_goals refine leaf ?_
    rw [if_pos (show last < last + 1 by omega)]
    refine c_cond_t (congrArg V.bool (decide_eq_true (by omega))) ?_
    refine walk1 (k := ?_)
    repeat' first | refine And.intro ?_ ?_ | intro
    all_goals refine leaf ?_
    refine callE (hnl) ?_
    refine walk1 (k := ?_)
    repeat' first | refine And.intro ?_ ?_ | intro
    all_goals refine leaf ?_
    refine callL (hsy) ?_
    rintro v L' H' ⟨rfl, rfl⟩ hh
    refine walk1 (k := ?_)
    repeat' first | refine And.intro ?_ ?_ | intro
    all_goals refine leaf ?_
    by_cases he1 : readyE D (segN last) = 0
    · rw [if_pos he1]
      refine c_cond_f (by show V.bool _ = _; simpa using he1) ?_
      refine walk1 (k := ?_)
      repeat' first | refine And.intro ?_ ?_ | intro
      all_goals refine leaf ?_
      refine callE (hn1) ?_
      refine walk1 (k := ?_)
      repeat' first | refine And.intro ?_ ?_ | intro
      all_goals refine leaf ?_
      refine callL (hap1 (last + 1)) ?_
      rintro v L' H' ⟨ws', rfl, rfl⟩ hh
      refine walk1 (k := ?_)
      repeat' first | refine And.intro ?_ ?_ | intro
      all_goals refine leaf ?_
      unfold appU
      by_cases he2 : appE (syncR D (segN last)) (segN (last + 1)) (makeT s) = 0
      · rw [if_pos he2]
        refine c_cond_f (by show V.bool _ = _; simpa using he2) ?_
        refine walk1 (k := ?_)
        repeat' first | refine And.intro ?_ ?_ | intro
        all_goals refine leaf ?_
        exact done ⟨ws', rfl, rfl⟩
      · rw [if_neg he2]
        refine c_cond_t (by show V.bool _ = _; simpa using he2) ?_
        refine walk1 (k := ?_)
        repeat' first | refine And.intro ?_ ?_ | intro
        all_goals refine leaf ?_
        exact done ⟨ws', rfl, rfl⟩
    · rw [if_neg he1]
      refine c_cond_t (by show V.bool _ = _; simpa using he1) ?_
      refine walk1 (k := ?_)
      repeat' first | refine And.intro ?_ ?_ | intro
      all_goals refine leaf ?_
      exact done ⟨ws, rfl, rfl⟩
  · rw [if_neg hr]
    have hr' : 0 < sizeS D last → sizeS D last + (makeT s).length ≤ limit := fun k => by
      refine Int.not_lt.1 fun k2 => hr ⟨k, k2⟩
    by_cases hp : 0 < sizeS D last
    · have hr' := hr' hp
      refine wps_slot (s := 34) (v := .bool true) (congrArg V.bool (decide_eq_true hp)) ?_
      refine walk1 (k := ?_)
      repeat' first | refine And.intro ?_ ?_ | intro
      all_goals refine leaf ?_
      refine c_cond_f (congrArg V.bool (decide_eq_false (by omega))) ?_
      refine walk1 (k := ?_)
      repeat' first | refine And.intro ?_ ?_ | intro
      all_goals refine leaf ?_
      have hz : decide (sizeS D last < 0) = false := decide_eq_false (by omega)
      refine c_slot (s := 11) (v := .bool false) (congrArg V.bool hz) ?_
      rw [hz]
      unfold appT
      refine c_slot (s := 2) (v := .int .i64 (limI rest)) (by show V.int .i64 _ = _; rw [limI_at]) ?_
      by_cases hn : 99999 < last
      · rw [if_pos hn]
        refine c_cond_t (congrArg V.bool (decide_eq_true hn)) ?_
        refine walk1 (k := ?_)
        repeat' first | refine And.intro ?_ ?_ | intro
        all_goals refine leaf ?_
        exact done ⟨ws, rfl, rfl⟩
      rw [if_neg hn]
      refine c_cond_f (congrArg V.bool (decide_eq_false hn)) ?_
      refine walk1 (k := ?_)
      repeat' first | refine And.intro ?_ ?_ | intro
      all_goals refine leaf ?_
      refine callE (hfr) ?_
      refine walk1 (k := ?_)
      repeat' first | refine And.intro ?_ ?_ | intro
      all_goals refine leaf ?_
      by_cases hro : max (D.room - (D.used : Nat)) 0 < (makeT s).length + limI rest
      · rw [if_pos (.inr hro)]
        refine c_cond_t (congrArg V.bool (decide_eq_true hro)) ?_
        refine walk1 (k := ?_)
        repeat' first | refine And.intro ?_ ?_ | intro
        all_goals refine leaf ?_
        exact done ⟨ws, rfl, rfl⟩
      rw [if_neg (fun k => k.elim (fun k => absurd k.1 (by decide)) hro)]
      refine c_cond_f (congrArg V.bool (decide_eq_false hro)) ?_
      refine walk1 (k := ?_)
      repeat' first | refine And.intro ?_ ?_ | intro
      all_goals refine leaf ?_
      rw [if_neg (show ¬ last < last by omega)]
      refine c_cond_f (congrArg V.bool (decide_eq_false (by omega))) ?_
      refine walk1 (k := ?_)
      repeat' first | refine And.intro ?_ ?_ | intro
      all_goals refine leaf ?_
      refine callE (hnl) ?_
      refine walk1 (k := ?_)
      repeat' first | refine And.intro ?_ ?_ | intro
      all_goals refine leaf ?_
      refine callL (hap last) ?_
      rintro v L' H' ⟨ws', rfl, rfl⟩ hh
      refine walk1 (k := ?_)
      repeat' first | refine And.intro ?_ ?_ | intro
      all_goals refine leaf ?_
      unfold appU
      by_cases he2 : appE D (segN (last)) (makeT s) = 0
      · rw [if_pos he2]
        refine c_cond_f (by show V.bool _ = _; simpa using he2) ?_
        refine walk1 (k := ?_)
        repeat' first | refine And.intro ?_ ?_ | intro
        all_goals refine leaf ?_
        exact done ⟨ws', rfl, rfl⟩
      · rw [if_neg he2]
        refine c_cond_t (by show V.bool _ = _; simpa using he2) ?_
        refine walk1 (k := ?_)
        repeat' first | refine And.intro ?_ ?_ | intro
        all_goals refine leaf ?_
        exact done ⟨ws', rfl, rfl⟩
    · refine wps_slot (s := 34) (v := .bool false) (congrArg V.bool (decide_eq_false hp)) ?_
      refine walk1 (k := ?_)
      repeat' first | refine And.intro ?_ ?_ | intro
      all_goals refine leaf ?_
      by_cases hz : sizeS D last < 0
      · have hz : decide (sizeS D last < 0) = true := decide_eq_true hz
        refine c_slot (s := 11) (v := .bool true) (congrArg V.bool hz) ?_
        rw [hz]
        unfold appT
        refine c_slot (s := 2) (v := .int .i64 (limI rest)) (by show V.int .i64 _ = _; rw [limI_at]) ?_
        by_cases hn : 99999 < last
        · rw [if_pos hn]
          refine c_cond_t (congrArg V.bool (decide_eq_true hn)) ?_
          refine walk1 (k := ?_)
          repeat' first | refine And.intro ?_ ?_ | intro
          all_goals refine leaf ?_
          exact done ⟨ws, rfl, rfl⟩
        rw [if_neg hn]
        refine c_cond_f (congrArg V.bool (decide_eq_false hn)) ?_
        refine walk1 (k := ?_)
        repeat' first | refine And.intro ?_ ?_ | intro
        all_goals refine leaf ?_
        refine callE (hho) ?_
        refine walk1 (k := ?_)
        repeat' first | refine And.intro ?_ ?_ | intro
        all_goals refine leaf ?_
        by_cases h16 : 13 < D.sure.length
        · rw [if_pos (.inl ⟨rfl, h16⟩)]
          refine c_cond_t (congrArg V.bool (decide_eq_true (by omega))) ?_
          refine walk1 (k := ?_)
          repeat' first | refine And.intro ?_ ?_ | intro
          all_goals refine leaf ?_
          refine c_cond_t (congrArg V.bool (decide_eq_true (by omega))) ?_
          refine walk1 (k := ?_)
          repeat' first | refine And.intro ?_ ?_ | intro
          all_goals refine leaf ?_
          exact done ⟨ws, rfl, rfl⟩
        refine c_cond_f (congrArg V.bool (decide_eq_false (by omega))) ?_
        refine walk1 (k := ?_)
        repeat' first | refine And.intro ?_ ?_ | intro
        all_goals refine leaf ?_
        refine callE (hfr) ?_
        refine walk1 (k := ?_)
        repeat' first | refine And.intro ?_ ?_ | intro
        all_goals refine leaf ?_
        by_cases hro : max (D.room - (D.used : Nat)) 0 < (makeT s).length + limI rest
        · rw [if_pos (.inr hro)]
          refine c_cond_t (congrArg V.bool (decide_eq_true hro)) ?_
          refine walk1 (k := ?_)
          repeat' first | refine And.intro ?_ ?_ | intro
          all_goals refine leaf ?_
          exact done ⟨ws, rfl, rfl⟩
        rw [if_neg (fun k => k.elim (fun k => h16 k.2) hro)]
        refine c_cond_f (congrArg V.bool (decide_eq_false hro)) ?_
        refine walk1 (k := ?_)
        repeat' first | refine And.intro ?_ ?_ | intro
        all_goals refine leaf ?_
        rw [if_neg (show ¬ last < last by omega)]
        refine c_cond_f (congrArg V.bool (decide_eq_false (by omega))) ?_
        refine walk1 (k := ?_)
        repeat' first | refine And.intro ?_ ?_ | intro
        all_goals refine leaf ?_
        refine callE (hnl) ?_
        refine walk1 (k := ?_)
        repeat' first | refine And.intro ?_ ?_ | intro
        all_goals refine leaf ?_
        refine callL (hap last) ?_
        rintro v L' H' ⟨ws', rfl, rfl⟩ hh
        refine walk1 (k := ?_)
        repeat' first | refine And.intro ?_ ?_ | intro
        all_goals refine leaf ?_
        unfold appU
        by_cases he2 : appE D (segN (last)) (makeT s) = 0
        · rw [if_pos he2]
          refine c_cond_f (by show V.bool _ = _; simpa using he2) ?_
          refine walk1 (k := ?_)
          repeat' first | refine And.intro ?_ ?_ | intro
          all_goals refine leaf ?_
          exact done ⟨ws', rfl, rfl⟩
        · rw [if_neg he2]
          refine c_cond_t (by show V.bool _ = _; simpa using he2) ?_
          refine walk1 (k := ?_)
          repeat' first | refine And.intro ?_ ?_ | intro
          all_goals refine leaf ?_
          exact done ⟨ws', rfl, rfl⟩
      · have hz : decide (sizeS D last < 0) = false := decide_eq_false hz
        refine c_slot (s := 11) (v := .bool false) (congrArg V.bool hz) ?_
        rw [hz]
        unfold appT
        refine c_slot (s := 2) (v := .int .i64 (limI rest)) (by show V.int .i64 _ = _; rw [limI_at]) ?_
        by_cases hn : 99999 < last
        · rw [if_pos hn]
          refine c_cond_t (congrArg V.bool (decide_eq_true hn)) ?_
          refine walk1 (k := ?_)
          repeat' first | refine And.intro ?_ ?_ | intro
          all_goals refine leaf ?_
          exact done ⟨ws, rfl, rfl⟩
        rw [if_neg hn]
        refine c_cond_f (congrArg V.bool (decide_eq_false hn)) ?_
        refine walk1 (k := ?_)
        repeat' first | refine And.intro ?_ ?_ | intro
        all_goals refine leaf ?_
        refine callE (hfr) ?_
        refine walk1 (k := ?_)
        repeat' first | refine And.intro ?_ ?_ | intro
        all_goals refine leaf ?_
        by_cases hro : max (D.room - (D.used : Nat)) 0 < (makeT s).length + limI rest
        · rw [if_pos (.inr hro)]
          refine c_cond_t (congrArg V.bool (decide_eq_true hro)) ?_
          refine walk1 (k := ?_)
          repeat' first | refine And.intro ?_ ?_ | intro
          all_goals refine leaf ?_
          exact done ⟨ws, rfl, rfl⟩
        rw [if_neg (fun k => k.elim (fun k => absurd k.1 (by decide)) hro)]
        refine c_cond_f (congrArg V.bool (decide_eq_false hro)) ?_
        refine walk1 (k := ?_)
        repeat' first | refine And.intro ?_ ?_ | intro
        all_goals refine leaf ?_
        rw [if_neg (show ¬ last < last by omega)]
        refine c_cond_f (congrArg V.bool (decide_eq_false (by omega))) ?_
        refine walk1 (k := ?_)
        repeat' first | refine And.intro ?_ ?_ | intro
        all_goals refine leaf ?_
        refine callE (hnl) ?_
        refine walk1 (k := ?_)
        repeat' first | refine And.intro ?_ ?_ | intro
        all_goals refine leaf ?_
        refine callL (hap last) ?_
        rintro v L' H' ⟨ws', rfl, rfl⟩ hh
        refine walk1 (k := ?_)
        repeat' first | refine And.intro ?_ ?_ | intro
        all_goals refine leaf ?_
        unfold appU
        by_cases he2 : appE D (segN (last)) (makeT s) = 0
        · rw [if_pos he2]
          refine c_cond_f (by show V.bool _ = _; simpa using he2) ?_
          refine walk1 (k := ?_)
          repeat' first | refine And.intro ?_ ?_ | intro
          all_goals refine leaf ?_
          exact done ⟨ws', rfl, rfl⟩
        · rw [if_neg he2]
          refine c_cond_t (by show V.bool _ = _; simpa using he2) ?_
          refine walk1 (k := ?_)
          repeat' first | refine And.intro ?_ ?_ | intro
          all_goals refine leaf ?_
          exact done ⟨ws', rfl, rfl⟩
end Go.Proofs.YtkfhgpegnnokgaaGreatDoor
