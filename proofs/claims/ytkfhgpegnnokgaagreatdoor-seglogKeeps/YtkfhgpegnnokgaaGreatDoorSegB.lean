/-
  A log in segments: it is opened.
-/
import Derived.Test.YtkfhgpegnnokgaaGreatDoorSegA
import Derived.Test.YtkfhgpegnnokgaaGreatDoorDskH
namespace Go.Proofs.YtkfhgpegnnokgaaGreatDoor
open Go Go.CM
set_option maxRecDepth 100000
set_option maxHeartbeats 4000000

structure OpR where
  e : Int
  last : Int
  recs : List Tx
  D : Dsk
def openF (D : Dsk) : Int → List Tx → List Int → OpR
  | last, recs, [] => ⟨0, last, recs, D⟩
  | _, recs, n :: rest =>
    if (splitT (fileT D (segN n))).2.2 = 0 then openF D n (recs ++ (splitT (fileT D (segN n))).1) rest
    else if (splitT (fileT D (segN n))).2.2 = 3 ∧ rest = [] then
      ⟨readyE D (segN n), n, recs ++ (splitT (fileT D (segN n))).1, cutR D (segN n) ((splitT (fileT D (segN n))).2.1 : Nat)⟩
    else ⟨(splitT (fileT D (segN n))).2.2, n, [], D⟩
theorem openF_cons (D : Dsk) (last : Int) (recs : List Tx) (n : Int) (rest : List Int) : openF D last recs (n :: rest) =
    if (splitT (fileT D (segN n))).2.2 = 0 then openF D n (recs ++ (splitT (fileT D (segN n))).1) rest
    else if (splitT (fileT D (segN n))).2.2 = 3 ∧ rest = [] then
      ⟨readyE D (segN n), n, recs ++ (splitT (fileT D (segN n))).1, cutR D (segN n) ((splitT (fileT D (segN n))).2.1 : Nat)⟩
    else ⟨(splitT (fileT D (segN n))).2.2, n, [], D⟩ := rfl
theorem splitF_len : ∀ (f : Nat) (s : Tx), (splitF f s).1.length ≤ s.length
  | 0, _ => Nat.zero_le _
  | f + 1, s => by
    unfold splitF
    split
    · exact Nat.zero_le _
    · split
      · rename_i he
        have h1 := first_ok he
        have h2 := splitF_len f (s.drop (firstT s).2.1)
        rw [List.length_drop] at h2
        rw [List.length_cons]; omega
      · exact Nat.zero_le _
theorem split_len (s : Tx) : (splitT s).1.length ≤ s.length := splitF_len _ _
def limI (n : Int) : Int := min (max n 0) 1073741824
theorem limI_at (m : Int) : (if 1073741824 < (if m < 0 then 0 else m) then 1073741824 else if m < 0 then 0 else m) = limI m := by
  unfold limI
  repeat' split
  all_goals omega
theorem numO_len {first : Int} : ∀ {l out r : List Int}, numO first l out = some r → r.length ≤ out.length + l.length
  | [], out, r, h => by cases h; exact Nat.le_refl _
  | n :: l, out, r, h => by
    rw [numO_cons] at h
    split at h
    · have := numO_len h; rw [List.length_cons]; omega
    · split at h
      · have := numO_len h; rw [List.length_append, List.length_singleton] at this; rw [List.length_cons]; omega
      · cases h
theorem dread2_prog (d m ws : Nat) (D : Dsk) (s : Tx) (h : DOk D) : CallsR Tryz.prog ndisk_Disk_Read [.ptr d 0, .str s] (DL d m ws D) fun v => v = .tup [.str (fileT D s), .int .i64 (if hasT s D.sure = true then 0 else 6)] := by
  have h1 := dread_prog d m ws D s h
  unfold fileT
  by_cases hp : hasT s D.sure = true
  · rw [if_pos hp] at h1 ⊢
    rw [if_pos hp]
    exact h1
  · rw [if_neg hp] at h1 ⊢
    rw [if_neg hp]
    exact h1
theorem sopen_prog (d m ws : Nat) (D : Dsk) (first limit : Int) (e : Nat) (h0 : 1 ≤ first) (h1 : first ≤ 99999) (h : DOk D) :
    CallsL Tryz.prog nseglog_Open [.ptr d 0, .int .i64 first, .int .i64 limit] (DO d m ws D.waits.length D.room D.fuse D.down :: MO m D.sure :: WO ws D.waits :: LO e) fun v L' => match numO first (allL lgW D.sure) [] with
      | none => v = .tup [.nilp, .nils, .int .i64 6] ∧ L' = DL d m ws D ++ LO e
      | some out => ((openF D first [] out).e ≠ 0 → v = .tup [.nilp, .nils, .int .i64 (openF D first [] out).e] ∧ L' = DL d m ws (openF D first [] out).D ++ LO e) ∧
        ((openF D first [] out).e = 0 → ∃ g o, v = .tup [.ptr g 0, .slice o 0 (openF D first [] out).recs.length 1, .int .i64 0] ∧ L' = GO g d first (openF D first [] out).last (limI limit) :: TL o true (openF D first [] out).recs :: (DL d m ws (openF D first [] out).D ++ LO e)) := by
  have hfl := h.files
  have hnu := snumbers_prog d m ws D.waits.length D.room D.fuse D.down D.sure first e h0 h1 (by omega)
  have hle := all_len lgW D.sure
  cases hA : numO first (allL lgW D.sure) [] with
  | none =>
    rw [hA] at hnu
    refine sseglog_Open fun H hh => ?_
    dsimp only [cseglog_Open]
    refine walk1 (k := ?_)
    repeat' first | refine And.intro ?_ ?_ | intro
    all_goals refine leaf ?_
    refine wps_slot (s := 27) (v := .bool false) (congrArg V.bool (decide_eq_false (by omega))) ?_
    refine walk1 (k := ?_)
    repeat' first | refine And.intro ?_ ?_ | intro
    all_goals refine leaf ?_
    refine c_cond_f (congrArg V.bool (decide_eq_false (by omega))) ?_
    refine walk1 (k := ?_)
    repeat' first | refine And.intro ?_ ?_ | intro
    all_goals refine leaf ?_
    refine callN (hnu) ?_
    rintro v Lo H' ⟨rfl, rfl⟩ hh
    refine walk1 (k := ?_)
    repeat' first | refine And.intro ?_ ?_ | intro
    all_goals refine leaf ?_
    exact done ⟨rfl, rfl⟩
  | some A =>
    rw [hA] at hnu
    have hAl := numO_len hA
    rw [List.length_nil, Nat.zero_add] at hAl
    refine sseglog_Open fun H hh => ?_
    dsimp only [cseglog_Open]
    refine walk1 (k := ?_)
    repeat' first | refine And.intro ?_ ?_ | intro
    all_goals refine leaf ?_
    refine wps_slot (s := 27) (v := .bool false) (congrArg V.bool (decide_eq_false (by omega))) ?_
    refine walk1 (k := ?_)
    repeat' first | refine And.intro ?_ ?_ | intro
    all_goals refine leaf ?_
    refine c_cond_f (congrArg V.bool (decide_eq_false (by omega))) ?_
    refine walk1 (k := ?_)
    repeat' first | refine And.intro ?_ ?_ | intro
    all_goals refine leaf ?_
    refine callN (hnu) ?_
    rintro v Lo H' ⟨q, rfl, rfl⟩ hh
    refine walk1 (k := ?_)
    repeat' first | refine And.intro ?_ ?_ | intro
    all_goals refine leaf ?_
    rename_i g _ hh
    rw [limI_at] at hh
    refine loopN [0, 1, 9, 11, 12, 47, 48, 49] A.length (fun i vs L => ∃ (o : Nat) (recs : List Tx) (last : Int) (E : Dsk), DOk E ∧ recs.length ≤ i * 60000 ∧ openF D first [] A = openF E last recs (A.drop i) ∧
        vs = [.ptr d 0, .int .i64 first, .slice q 0 A.length 1, .ptr g 0, .slice o 0 recs.length 1, .slice q 0 A.length 1, .int .i64 A.length, .int .i64 (i : Nat)] ∧
        L = TL o true recs :: GO g d first last (limI limit) :: IL q true A :: DO d m ws E.waits.length E.room E.fuse E.down :: MO m E.sure :: WO ws E.waits :: LO e)
      (Nx.hereW [_, _, _, _, .slice 0 0 0 1, _, _, _] ⟨0, [], first, D, h, Nat.zero_le _, rfl, rfl, rfl⟩) ?_
    clear hh
    rintro i _ _ env H hi ⟨o, recs, last, E, hE, hrl, hop, rfl, rfl⟩ hh
    simp only [puts]
    by_cases hn : i < A.length
    · rw [drop_getD hn, openF_cons] at hop
      have h1 := sname_prog (nth A i) e
      have h2 := dread2_prog d m ws E (segN (nth A i)) hE
      have hfl := file_le hE (segN (nth A i))
      have h3 := fsplit_prog (fileT E (segN (nth A i))) (by omega)
      have hsl := split_len (fileT E (segN (nth A i)))
      have h4 := fun k : Int => dcut_prog d m ws E (segN (nth A i)) k hE
      have hE2 := fun k : Int => hE.cut (segN (nth A i)) k
      generalize splitT (fileT E (segN (nth A i))) = r at *
      refine walk1 (k := ?_)
      repeat' first | refine And.intro ?_ ?_ | intro
      all_goals refine leaf ?_
      refine c_cond_t (by show V.bool _ = _; simp; omega) ?_
      refine walk1 (k := ?_)
      repeat' first | refine And.intro ?_ ?_ | intro
      all_goals refine leaf ?_
      refine callE (h1) ?_
      refine walk1 (k := ?_)
      repeat' first | refine And.intro ?_ ?_ | intro
      all_goals refine leaf ?_
      refine callE (h2) ?_
      refine walk1 (k := ?_)
      repeat' first | refine And.intro ?_ ?_ | intro
      all_goals refine leaf ?_
      refine callN (h3) ?_
      rintro v Lo H' ⟨o2, rfl, rfl⟩ hh
      refine walk1 (k := ?_)
      repeat' first | refine And.intro ?_ ?_ | intro
      all_goals refine leaf ?_
      refine wps_approw (by assumption) r.1 (l := recs) (enc := txC) (m := 0) rfl rfl .here (fun _ => rfl) (fun _ => .there .here1) (by omega) fun o3 _ hh => ?_
      refine walk1 (k := ?_)
      repeat' first | refine And.intro ?_ ?_ | intro
      all_goals refine leaf ?_
      have hrl2 : (recs ++ r.1).length ≤ (i + 1) * 60000 := by rw [List.length_append]; omega
      by_cases he : r.2.2 = 0
      · rw [if_pos he] at hop
        refine c_cond_t (congrArg V.bool (beq_iff_eq.2 he)) ?_
        refine walk1 (k := ?_)
        repeat' first | refine And.intro ?_ ?_ | intro
        all_goals refine leaf ?_
        exact Nx.next hn ⟨o3, recs ++ r.1, nth A i, E, hE, hrl2, hop, rfl, rfl⟩
      rw [if_neg he] at hop
      refine c_cond_f (congrArg V.bool (beq_eq_false_iff_ne.2 he)) ?_
      refine walk1 (k := ?_)
      repeat' first | refine And.intro ?_ ?_ | intro
      all_goals refine leaf ?_
      by_cases hc : r.2.2 = 3 ∧ A.drop (i + 1) = []
      · rw [if_pos hc] at hop
        have hlen : A.length ≤ i + 1 := by
          have := congrArg List.length hc.2
          rw [List.length_drop, List.length_nil] at this; omega
        refine wps_slot (s := 88) (v := .bool false) (by show V.bool _ = _; rw [hc.1]; rfl) ?_
        refine walk1 (k := ?_)
        repeat' first | refine And.intro ?_ ?_ | intro
        all_goals refine leaf ?_
        refine c_cond_f (congrArg V.bool (decide_eq_false (by omega))) ?_
        refine walk1 (k := ?_)
        repeat' first | refine And.intro ?_ ?_ | intro
        all_goals refine leaf ?_
        refine callE (h1) ?_
        refine walk1 (k := ?_)
        repeat' first | refine And.intro ?_ ?_ | intro
        all_goals refine leaf ?_
        refine callL (h4 (r.2.1 : Nat)) ?_
        rintro v L' H' ⟨rfl, rfl⟩ hh
        refine walk1 (k := ?_)
        repeat' first | refine And.intro ?_ ?_ | intro
        all_goals refine leaf ?_
        by_cases hr : readyE E (segN (nth A i)) = 0
        · refine c_cond_f (by show V.bool _ = _; simpa using hr) ?_
          refine walk1 (k := ?_)
          repeat' first | refine And.intro ?_ ?_ | intro
          all_goals refine leaf ?_
          rw [hr] at hop
          exact Nx.next hn ⟨o3, recs ++ r.1, nth A i, cutR E (segN (nth A i)) (r.2.1 : Nat), hE2 _, hrl2, by rw [hop, hc.2]; rfl, rfl, rfl⟩
        · refine c_cond_t (by show V.bool _ = _; simpa using hr) ?_
          refine walk1 (k := ?_)
          repeat' first | refine And.intro ?_ ?_ | intro
          all_goals refine leaf ?_
          rw [hop]
          exact done ⟨fun _ => ⟨rfl, rfl⟩, fun k => absurd k hr⟩
      · rw [if_neg hc] at hop
        by_cases h3' : r.2.2 = 3
        · have hlen : i + 1 < A.length := by
            refine Nat.lt_of_not_le fun k => hc ⟨h3', List.drop_of_length_le k⟩
          refine wps_slot (s := 88) (v := .bool false) (by show V.bool _ = _; rw [h3']; rfl) ?_
          refine walk1 (k := ?_)
          repeat' first | refine And.intro ?_ ?_ | intro
          all_goals refine leaf ?_
          refine c_cond_t (congrArg V.bool (decide_eq_true (by omega))) ?_
          refine walk1 (k := ?_)
          repeat' first | refine And.intro ?_ ?_ | intro
          all_goals refine leaf ?_
          rw [hop]
          exact done ⟨fun _ => ⟨rfl, rfl⟩, fun k => absurd k he⟩
        · refine wps_slot (s := 88) (v := .bool true) (by show V.bool _ = _; simpa using h3') ?_
          refine walk1 (k := ?_)
          repeat' first | refine And.intro ?_ ?_ | intro
          all_goals refine leaf ?_
          rw [hop]
          exact done ⟨fun _ => ⟨rfl, rfl⟩, fun k => absurd k he⟩
    · skip
      refine walk1 (k := ?_)
      repeat' first | refine And.intro ?_ ?_ | intro
      all_goals refine leaf ?_
      refine c_cond_f (by show V.bool _ = _; simp; omega) ?_
      refine walk1 (k := ?_)
      repeat' first | refine And.intro ?_ ?_ | intro
      all_goals refine leaf ?_
      rw [List.drop_of_length_le (by omega)] at hop
      rw [hop]
      exact done ⟨fun k => absurd rfl k, fun _ => ⟨g, o, rfl, rfl⟩⟩
end Go.Proofs.YtkfhgpegnnokgaaGreatDoor
