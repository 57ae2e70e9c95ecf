/-
  Texts joined: A text, cut at each /: strings.Split. What is left of a path: the code.
-/
import Derived.Test.YtjgcgepfidcihaaGreatDoorRightC
namespace Go.Proofs.YtjgcgepfidcihaaGreatDoor
open Go Go.CM
set_option maxRecDepth 100000
set_option maxHeartbeats 4000000

def strC (p : List UInt8) : List V := [.str p]
theorem rep_str : ∀ n : Nat, rep [V.str []] n = (List.replicate n ([] : List UInt8)).flatMap strC
  | 0 => rfl
  | n + 1 => by rw [rep, rep_str n, List.replicate_succ, List.flatMap_cons]; rfl
theorem set_mid {α : Type} (A : List α) (x y : α) (B : List α) {i : Nat} (h : i = A.length) : (A ++ x :: B).set i y = A ++ y :: B := by
  subst h
  simp
theorem gensplit_prog (s : List UInt8) (hs : s.length ≤ 1000000) : CallsN Tryz.prog nstrings_genSplit [.str s, .str [47], .int .i64 0, .int .i64 (-1)] [] fun v Lo => ∃ a, v = .slice a 0 (splitL s).length 1 ∧ Lo = [(a, .cells true ((splitL s).flatMap strC))] := by
  have h1 := count_prog s 47
  have h2 := splitL_len s
  have h3 := count_le s 47
  refine sstrings_genSplit fun H hh => ?_
  dsimp only [cstrings_genSplit]
  refine walk1 (k := ?_)
  repeat' first | refine And.intro ?_ ?_ | intro
  all_goals refine leaf ?_
  refine callE (h1) ?_
  refine walk1 (k := ?_)
  repeat' first | refine And.intro ?_ ?_ | intro
  all_goals refine leaf ?_
  obtain ⟨N, hN⟩ : ∃ N, N = (splitL s).length := ⟨_, rfl⟩
  refine wps_slot (s := 3) (v := .int .i64 (N : Nat)) (by show V.int _ _ = _; congr 1; split <;> omega) ?_
  refine wps_slot (s := 30) (v := .int .i64 (N : Nat)) (by show V.int _ _ = _; congr 1; split <;> omega) ?_
  refine wps_mkSl hh rfl rfl (by omega) fun a _ hh => ?_
  rw [show ((N : Nat) : Int).toNat = N from rfl, rep_str] at hh
  rw [show ((N : Nat) : Int).toNat = N from rfl]
  refine walk1 (k := ?_)
  repeat' first | refine And.intro ?_ ?_ | intro
  all_goals refine leaf ?_
  refine loopN [0, 1, 2, 3, 9, 10] (N - 1) (fun i vs L => ∃ (done : List (List UInt8)) (r : List UInt8), done ++ splitL r = splitL s ∧ done.length = i ∧ r.length ≤ s.length ∧ vs = [.str r, .str [47], .int .i64 0, .int .i64 ((N : Nat) - 1), .slice a 0 N 1, .int .i64 (i : Nat)] ∧ L = [(a, .cells true ((done ++ List.replicate (N - i) []).flatMap strC))])
    (Nx.here ⟨[], s, rfl, rfl, Nat.le_refl _, rfl, rfl⟩) ?_
  clear hh
  rintro i _ _ e H hi ⟨dn, r, hd, hdl, hr, rfl, rfl⟩ hh
  simp only [puts]
  have hlen := congrArg List.length hd
  rw [List.length_append, ← hN] at hlen
  have hix := index_prog r 47
  have hge := Lib.indexByte_ge r 47
  refine walk (k := ?_)
  repeat' first | refine And.intro ?_ ?_ | intro
  all_goals refine leaf ?_
  · have hne : Lib.indexByte r 47 ≠ -1 := fun e => by
      have := congrArg List.length (splitL_none (index_none e))
      rw [List.length_singleton] at this
      omega
    obtain ⟨m, hm, hml, hmc, hmk⟩ := index_some hne
    have hsp := splitL_some hmk hml hmc
    rw [hm] at hix
    rw [hsp] at hd hlen
    rw [List.length_cons] at hlen
    have ecut : (dn ++ List.replicate (N - i) []).set i (r.take m) = (dn ++ [r.take m]) ++ List.replicate (N - (i + 1)) [] := by
      rw [show N - i = (N - (i + 1)) + 1 by omega, List.replicate_succ, set_mid _ _ _ _ hdl.symm, List.append_assoc]
      rfl
    refine callE (hix) ?_
    refine walk (k := ?_)
    repeat' first | refine And.intro ?_ ?_ | intro
    all_goals refine leaf ?_
    refine wps_slot (s := 48) (v := .str (r.take m)) rfl ?_
    refine wps_sr hh (enc := strC) (u := r.take m) (L' := [(a, .cells true (((dn ++ List.replicate (N - i) []).set i (r.take m)).flatMap strC))]) rfl rfl rfl rfl (fun _ => rfl) (by rw [List.length_append, List.length_replicate]; omega) .here1 fun H' hh => ?_
    rw [ecut] at hh
    refine walk1 (k := ?_)
    repeat' first | refine And.intro ?_ ?_ | intro
    all_goals refine leaf ?_
    exact Nx.next (by omega) ⟨dn ++ [r.take m], r.drop (m + 1), by rw [List.append_assoc]; exact hd, by rw [List.length_append, List.length_singleton, hdl], by rw [List.length_drop]; omega, rfl, rfl⟩
  · have h1 : (splitL r).length = 1 := by
      have := splitL_ne r
      have := List.length_pos_iff.2 this
      omega
    have hne : Lib.indexByte r 47 = -1 := Classical.byContradiction fun e => by
      obtain ⟨m, hm, hml, hmc, hmk⟩ := index_some e
      rw [splitL_some hmk hml hmc, List.length_cons] at h1
      exact splitL_ne (r.drop (m + 1)) (List.length_eq_zero_iff.1 (by omega))
    rw [splitL_none (index_none hne)] at hd
    have ecut : (dn ++ List.replicate (N - i) []).set i r = splitL s := by
      rw [show N - i = 0 + 1 by omega, List.replicate_succ, set_mid _ _ _ _ hdl.symm, ← hd]
      rfl
    refine wps_sr hh (enc := strC) (u := r) (L' := [(a, .cells true (((dn ++ List.replicate (N - i) []).set i r).flatMap strC))]) rfl rfl rfl rfl (fun _ => rfl) (by rw [List.length_append, List.length_replicate]; omega) .here1 fun H' hh => ?_
    rw [ecut] at hh
    refine walk1 (k := ?_)
    repeat' first | refine And.intro ?_ ?_ | intro
    all_goals refine leaf ?_
    rw [show ((i : Int) + 1).toNat = (splitL s).length by omega]
    exact doneN ⟨a, rfl, rfl⟩
theorem split_prog (s : List UInt8) (hs : s.length ≤ 1000000) : CallsN Tryz.prog nstrings_Split [.str s, .str [47]] [] fun v Lo => ∃ a, v = .slice a 0 (splitL s).length 1 ∧ Lo = [(a, .cells true ((splitL s).flatMap strC))] := by
  have h1 := gensplit_prog s hs
  refine sstrings_Split fun H hh => ?_
  dsimp only [cstrings_Split]
  refine walk1 (k := ?_)
  repeat' first | refine And.intro ?_ ?_ | intro
  all_goals refine leaf ?_
  refine callN (h1) ?_
  rintro v Lo H' ⟨a, rfl, rfl⟩ hh
  refine walk1 (k := ?_)
  repeat' first | refine And.intro ?_ ?_ | intro
  all_goals refine leaf ?_
  exact doneN ⟨a, rfl, rfl⟩
end Go.Proofs.YtjgcgepfidcihaaGreatDoor

namespace Go.Proofs.YtjgcgepfidcihaaGreatDoor
open Go Go.CM
set_option maxRecDepth 100000
set_option maxHeartbeats 4000000

theorem partL_none {s : List UInt8} (h : readP s 0 = none) : partL s = none := by rw [partL, h]
theorem partL_bad {s o : List UInt8} (h : readP s 0 = some o) (hk : ¬ okL o) : partL s = none := by rw [partL, h]; exact if_neg hk
theorem partL_ok {s o : List UInt8} (h : readP s 0 = some o) (hk : okL o) : partL s = some o := by rw [partL, h]; exact if_pos hk
theorem partV (s : List UInt8) : (partL s = none ∧ ∃ o, readV s = .tup [.str o, .bool false]) ∨ ∃ o, partL s = some o ∧ o.length ≤ 60 ∧ readV s = .tup [.str o, .bool true] := by
  rcases ho : readP s 0 with _ | o
  · exact .inl ⟨partL_none ho, _, readV_none ho⟩
  · by_cases hk : okL o
    · refine .inr ⟨o, partL_ok ho hk, ?_, by rw [readV_some ho, decide_eq_true hk]⟩
      rcases hk with rfl | ⟨h, _⟩
      · simp
      · omega
    · exact .inl ⟨partL_bad ho hk, _, by rw [readV_some ho, decide_eq_false hk]⟩
theorem partsL_nil (out : List (List UInt8)) : partsL out [] = some out := rfl
theorem partsL_bad {out ps : List (List UInt8)} {p : List UInt8} (h : partL p = none) : partsL out (p :: ps) = none := by rw [partsL, h]
theorem partsL_skip {out ps : List (List UInt8)} {p o : List UInt8} (h : partL p = some o) (hk : o = [] ∨ o = [46]) : partsL out (p :: ps) = partsL out ps := by rw [partsL, h]; exact if_pos hk
theorem partsL_none {ps : List (List UInt8)} {p : List UInt8} (h : partL p = some [46, 46]) : partsL [] (p :: ps) = none := by rw [partsL, h]; rfl
theorem partsL_up {out ps : List (List UInt8)} {p : List UInt8} (h : partL p = some [46, 46]) (hk : out ≠ []) : partsL out (p :: ps) = partsL out.dropLast ps := by rw [partsL, h]; exact if_neg hk
theorem partsL_put {out ps : List (List UInt8)} {p o : List UInt8} (h : partL p = some o) (h1 : o ≠ []) (h2 : o ≠ [46]) (h3 : o ≠ [46, 46]) : partsL out (p :: ps) = partsL (out ++ [o]) ps := by
  rw [partsL, h]
  exact (if_neg (fun h => h.elim h1 h2)).trans (if_neg h3)
theorem splitL_mem : ∀ {s p : List UInt8}, p ∈ splitL s → p.length ≤ s.length
  | [], p, h => by
    simp only [splitL, List.mem_singleton] at h
    subst h
    exact Nat.le_refl _
  | c :: r, p, h => by
    rw [splitL] at h
    split at h
    · rcases List.mem_cons.1 h with rfl | h
      · simp
      · have := splitL_mem h; simp only [List.length_cons]; omega
    · split at h
      · simp only [List.mem_singleton] at h
        subst h
        simp
      · rename_i q qs hq
        rcases List.mem_cons.1 h with rfl | h
        · have := splitL_mem (s := r) (p := q) (by rw [hq]; simp)
          simp only [List.length_cons]; omega
        · have := splitL_mem (s := r) (p := p) (by rw [hq]; simp [h])
          simp only [List.length_cons]; omega
theorem parts_prog (s : List UInt8) (hs : s.length ≤ 1000000) : CallsN Tryz.prog ncanon_parts [.str s] [] fun v Lo => (partsL [] (splitL s) = none ∧ v = .tup [.nils, .bool false]) ∨ ∃ l a, partsL [] (splitL s) = some l ∧ l.length ≤ s.length + 1 ∧ (∀ p ∈ l, p.length ≤ 60) ∧ v = .tup [.slice a 0 l.length 1, .bool true] ∧ Lo = [(a, .cells true (l.flatMap strC))] := by
  have h2 := splitL_len s
  have h3 := count_le s 47
  refine scanon_parts fun H hh => ?_
  dsimp only [ccanon_parts]
  refine walk1 (k := ?_)
  repeat' first | refine And.intro ?_ ?_ | intro
  all_goals refine leaf ?_
  refine callN ((split_prog s hs)) ?_
  rintro v Lo H' ⟨b, rfl, rfl⟩ hh
  refine walk1 (k := ?_)
  repeat' first | refine And.intro ?_ ?_ | intro
  all_goals refine leaf ?_
  generalize hS : splitL s = S at *
  refine loopN [4, 10, 11, 12] S.length (fun i vs L => ∃ (out : List (List UInt8)) (J : List V) (a : Nat), partsL [] S = partsL out (S.drop i) ∧ out.length ≤ i ∧ (∀ p ∈ out, p.length ≤ 60) ∧ vs = [.slice a 0 out.length 1, .slice b 0 S.length 1, .int .i64 S.length, .int .i64 (i : Nat)] ∧ L = [(a, .cells true (out.flatMap strC ++ J)), (b, .cells true (S.flatMap strC))])
    (Nx.hereW [.slice 0 0 0 1, .slice b 0 S.length 1, .int .i64 S.length, .int .i64 (0 : Nat)] ⟨[], [], 0, rfl, Nat.le_refl _, by simp, rfl, rfl⟩) ?_
  clear hh
  rintro i _ _ e H hi ⟨out, J, a, ho, hol, hok, rfl, rfl⟩ hh
  simp only [puts]
  refine walk (k := ?_)
  repeat' first | refine And.intro ?_ ?_ | intro
  all_goals refine leaf ?_
  · have hn : i < S.length := by omega
    have hd := drop_getD hn
    rw [hd] at ho
    have hm : (nth S i).length ≤ s.length := splitL_mem (by rw [hS]; exact nth_mem hn)
    refine callN ((read_prog (nth S i) (by omega))) ?_
    rintro v Lo H' rfl hh
    replace hh := hh.right
    rcases partV (nth S i) with ⟨hp, o, hv⟩ | ⟨o, hp, hol, hv⟩
    · rw [hv]
      refine walk (k := ?_)
      repeat' first | refine And.intro ?_ ?_ | intro
      all_goals refine leaf ?_
      refine CEnds.mk hh ⟨_, .inl ⟨?_, rfl⟩, (List.append_nil _).symm⟩
      rw [ho, partsL_bad hp]
    · rw [hv]
      have hc : o = [] ∨ o = [46] ∨ o = [46, 46] ∨ (o ≠ [] ∧ o ≠ [46] ∧ o ≠ [46, 46]) := by
        by_cases c1 : o = [] <;> by_cases c2 : o = [46] <;> by_cases c3 : o = [46, 46] <;> simp [c1, c2, c3]
      rcases hc with rfl | rfl | rfl | ⟨c1, c2, c3⟩
      · rw [partsL_skip hp (.inl rfl)] at ho
        refine walk (k := ?_)
        repeat' first | refine And.intro ?_ ?_ | intro
        all_goals refine leaf ?_
        exact Nx.next (by omega) ⟨out, J, a, ho, by omega, hok, rfl, rfl⟩
      · rw [partsL_skip hp (.inr rfl)] at ho
        refine walk (k := ?_)
        repeat' first | refine And.intro ?_ ?_ | intro
        all_goals refine leaf ?_
        exact Nx.next (by omega) ⟨out, J, a, ho, by omega, hok, rfl, rfl⟩
      · skip
        refine walk (k := ?_)
        repeat' first | refine And.intro ?_ ?_ | intro
        all_goals refine leaf ?_
        · rename_i h0
          have h0 : out = [] := List.length_eq_zero_iff.1 (by omega)
          subst h0
          refine CEnds.mk hh ⟨_, .inl ⟨?_, rfl⟩, (List.append_nil _).symm⟩
          rw [ho, partsL_none hp]
        · rename_i h0
          have hne : out ≠ [] := fun e => h0 (by rw [e]; rfl)
          rw [partsL_up hp hne] at ho
          obtain ⟨x, hx⟩ : ∃ x, out = out.dropLast ++ [x] := ⟨_, (List.dropLast_concat_getLast hne).symm⟩
          have hl : out.dropLast.length = out.length - 1 := List.length_dropLast
          have hf : out.flatMap strC ++ J = out.dropLast.flatMap strC ++ (strC x ++ J) := by
            conv => lhs; rw [hx]
            simp
          rw [hf] at hh
          rw [show ((out.length : Int) - 1).toNat = out.dropLast.length by omega]
          exact Nx.next (by omega) ⟨out.dropLast, strC x ++ J, a, ho, by omega, fun p h => hok p (List.dropLast_subset _ h), rfl, rfl⟩
      · rw [partsL_put hp c1 c2 c3] at ho
        refine walk (k := ?_)
        repeat' first | refine And.intro ?_ ?_ | intro
        all_goals refine leaf ?_
        all_goals first
          | exact absurd ‹_› c1
          | exact absurd ‹_› c2
          | exact absurd ‹_› c3
          | skip
        rename_i t _ hh
        have hf : (out ++ [o]).flatMap strC = out.flatMap strC ++ [.str o] := by simp [strC]
        have hlo : (out.flatMap strC).length = out.length := by rw [rows_length (sz := 1) (fun _ => rfl), Nat.mul_one]
        have hok2 : ∀ p ∈ out ++ [o], p.length ≤ 60 := fun p h => (List.mem_append.1 h).elim (hok p) fun h => by rw [List.mem_singleton.1 h]; exact hol
        have hle : (out ++ [o]).length = out.length + 1 := by simp
        by_cases hJ : out.flatMap strC ++ J = []
        · obtain ⟨h0, rfl⟩ := List.append_eq_nil_iff.1 hJ
          rw [List.append_nil] at hh
          refine wps_app hh (L' := fun id' => [(t, .cells true [.str o]), (id', .cells true (out.flatMap strC ++ [.str o])), (b, .cells true (S.flatMap strC))]) (m := 1) rfl (fun id' => .there .here1) (src_slice (esz := 0) hh .here rfl) (by rw [hlo]; omega) (by omega) fun a2 H' hh => ?_
          rw [← hf, ← List.append_nil ((out ++ [o]).flatMap strC)] at hh
          rw [← hle]
          refine walk (k := ?_)
          repeat' first | refine And.intro ?_ ?_ | intro
          all_goals refine leaf ?_
          exact Nx.next (by omega) ⟨out ++ [o], [], a2, ho, by omega, hok2, rfl, rfl⟩
        · have ha0 : a ≠ 0 := hh.ne0 (b := true) (cs := out.flatMap strC ++ J) (by simp) hJ
          have hcut : ((out.flatMap strC ++ J).drop 0).take (out.length * 1) = out.flatMap strC := by rw [List.drop_zero, Nat.mul_one, List.take_append_of_le_length (by omega), List.take_of_length_le (by omega)]
          refine wps_appc hh (L' := fun id' => [(t, .cells true [.str o]), (id', .cells true (((out.flatMap strC ++ J).drop 0).take (out.length * 1) ++ [.str o])), (b, .cells true (S.flatMap strC))]) (m := 1) ha0 rfl (fun id' => .there .here1) (src_slice (esz := 0) hh .here rfl) (by rw [List.length_append]; omega) (by omega) fun a2 H' hh => ?_
          rw [hcut, ← hf, ← List.append_nil ((out ++ [o]).flatMap strC)] at hh
          rw [← hle]
          refine walk (k := ?_)
          repeat' first | refine And.intro ?_ ?_ | intro
          all_goals refine leaf ?_
          exact Nx.next (by omega) ⟨out ++ [o], [], a2, ho, by omega, hok2, rfl, rfl⟩
  · rw [List.drop_of_length_le (by omega)] at ho
    by_cases hJ : out.flatMap strC ++ J = []
    · obtain ⟨h0, rfl⟩ := List.append_eq_nil_iff.1 hJ
      rw [List.append_nil] at hh
      exact doneN (.inr ⟨out, a, ho, by omega, hok, rfl, rfl⟩)
    · exact CEnds.cut hh (L' := [(a, .cells true (out.flatMap strC)), (b, .cells true (S.flatMap strC))]) .here1 hJ fun H' hh => doneN (.inr ⟨out, a, ho, by omega, hok, rfl, rfl⟩)
end Go.Proofs.YtjgcgepfidcihaaGreatDoor
