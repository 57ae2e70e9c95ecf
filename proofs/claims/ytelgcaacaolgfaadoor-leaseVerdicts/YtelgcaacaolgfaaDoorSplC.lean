/-
  A text, cut at each /: strings.Split.
-/
import Derived.Test.YtelgcaacaolgfaaDoorWritC
namespace Go.Proofs.YtelgcaacaolgfaaDoor
open Go Go.CM
set_option maxRecDepth 100000
set_option maxHeartbeats 4000000

def strC (p : List UInt8) : List V := [.str p]
theorem rep_str : ∀ n : Nat, rep [V.str []] n = (List.replicate n ([] : List UInt8)).flatMap strC
  | 0 => rfl
  | n + 1 => by rw [rep, rep_str n, List.replicate_succ, List.flatMap_cons]; rfl
theorem set_mid {α : Type} (A : List α) (x y : α) (B : List α) {i : Nat} (h : i = A.length) : (A ++ x :: B).set i y = A ++ y :: B := by
  subst h
  simp
theorem gensplit_prog (s : List UInt8) (hs : s.length ≤ 1000000) : CallsN Tryd.prog nstrings_genSplit [.str s, .str [47], .int .i64 0, .int .i64 (-1)] [] fun v Lo => ∃ a, v = .slice a 0 (splitL s).length 1 ∧ Lo = [(a, .cells true ((splitL s).flatMap strC))] := by
  have h1 := count_prog s 47
  have h2 := splitL_len s
  have h3 := count_le s 47
  refine sstrings_genSplit fun H hh => ?_
  dsimp only [cstrings_genSplit]
  refine walk1 (k := ?_)
  repeat' first | refine And.intro ?_ ?_ | intro
  all_goals refine leaf ?_
  refine callE (h1) ?_
  refine walk1 (k := ?_)
  repeat' first | refine And.intro ?_ ?_ | intro
  all_goals refine leaf ?_
  obtain ⟨N, hN⟩ : ∃ N, N = (splitL s).length := ⟨_, rfl⟩
  refine wps_slot (s := 3) (v := .int .i64 (N : Nat)) (by show V.int _ _ = _; congr 1; split <;> omega) ?_
  refine wps_slot (s := 30) (v := .int .i64 (N : Nat)) (by show V.int _ _ = _; congr 1; split <;> omega) ?_
  refine wps_mkSl hh rfl rfl (by omega) fun a _ hh => ?_
  rw [show ((N : Nat) : Int).toNat = N from rfl, rep_str] at hh
  rw [show ((N : Nat) : Int).toNat = N from rfl]
  refine walk1 (k := ?_)
  repeat' first | refine And.intro ?_ ?_ | intro
  all_goals refine leaf ?_
  refine loopN [0, 1, 2, 3, 9, 10] (N - 1) (fun i vs L => ∃ (done : List (List UInt8)) (r : List UInt8), done ++ splitL r = splitL s ∧ done.length = i ∧ r.length ≤ s.length ∧ vs = [.str r, .str [47], .int .i64 0, .int .i64 ((N : Nat) - 1), .slice a 0 N 1, .int .i64 (i : Nat)] ∧ L = [(a, .cells true ((done ++ List.replicate (N - i) []).flatMap strC))])
    (Nx.here ⟨[], s, rfl, rfl, Nat.le_refl _, rfl, rfl⟩) ?_
  clear hh
  rintro i _ _ e H hi ⟨dn, r, hd, hdl, hr, rfl, rfl⟩ hh
  simp only [puts]
  have hlen := congrArg List.length hd
  rw [List.length_append, ← hN] at hlen
  have hix := index_prog r 47
  have hge := Lib.indexByte_ge r 47
  refine walk (k := ?_)
  repeat' first | refine And.intro ?_ ?_ | intro
  all_goals refine leaf ?_
  · have hne : Lib.indexByte r 47 ≠ -1 := fun e => by
      have := congrArg List.length (splitL_none (index_none e))
      rw [List.length_singleton] at this
      omega
    obtain ⟨m, hm, hml, hmc, hmk⟩ := index_some hne
    have hsp := splitL_some hmk hml hmc
    rw [hm] at hix
    rw [hsp] at hd hlen
    rw [List.length_cons] at hlen
    have ecut : (dn ++ List.replicate (N - i) []).set i (r.take m) = (dn ++ [r.take m]) ++ List.replicate (N - (i + 1)) [] := by
      rw [show N - i = (N - (i + 1)) + 1 by omega, List.replicate_succ, set_mid _ _ _ _ hdl.symm, List.append_assoc]
      rfl
    refine callE (hix) ?_
    refine walk (k := ?_)
    repeat' first | refine And.intro ?_ ?_ | intro
    all_goals refine leaf ?_
    refine wps_slot (s := 48) (v := .str (r.take m)) rfl ?_
    refine wps_sr hh (enc := strC) (u := r.take m) (L' := [(a, .cells true (((dn ++ List.replicate (N - i) []).set i (r.take m)).flatMap strC))]) rfl rfl rfl rfl (fun _ => rfl) (by rw [List.length_append, List.length_replicate]; omega) .here1 fun H' hh => ?_
    rw [ecut] at hh
    refine walk1 (k := ?_)
    repeat' first | refine And.intro ?_ ?_ | intro
    all_goals refine leaf ?_
    exact Nx.next (by omega) ⟨dn ++ [r.take m], r.drop (m + 1), by rw [List.append_assoc]; exact hd, by rw [List.length_append, List.length_singleton, hdl], by rw [List.length_drop]; omega, rfl, rfl⟩
  · have h1 : (splitL r).length = 1 := by
      have := splitL_ne r
      have := List.length_pos_iff.2 this
      omega
    have hne : Lib.indexByte r 47 = -1 := Classical.byContradiction fun e => by
      obtain ⟨m, hm, hml, hmc, hmk⟩ := index_some e
      rw [splitL_some hmk hml hmc, List.length_cons] at h1
      exact splitL_ne (r.drop (m + 1)) (List.length_eq_zero_iff.1 (by omega))
    rw [splitL_none (index_none hne)] at hd
    have ecut : (dn ++ List.replicate (N - i) []).set i r = splitL s := by
      rw [show N - i = 0 + 1 by omega, List.replicate_succ, set_mid _ _ _ _ hdl.symm, ← hd]
      rfl
    refine wps_sr hh (enc := strC) (u := r) (L' := [(a, .cells true (((dn ++ List.replicate (N - i) []).set i r).flatMap strC))]) rfl rfl rfl rfl (fun _ => rfl) (by rw [List.length_append, List.length_replicate]; omega) .here1 fun H' hh => ?_
    rw [ecut] at hh
    refine walk1 (k := ?_)
    repeat' first | refine And.intro ?_ ?_ | intro
    all_goals refine leaf ?_
    rw [show ((i : Int) + 1).toNat = (splitL s).length by omega]
    exact doneN ⟨a, rfl, rfl⟩
theorem split_prog (s : List UInt8) (hs : s.length ≤ 1000000) : CallsN Tryd.prog nstrings_Split [.str s, .str [47]] [] fun v Lo => ∃ a, v = .slice a 0 (splitL s).length 1 ∧ Lo = [(a, .cells true ((splitL s).flatMap strC))] := by
  have h1 := gensplit_prog s hs
  refine sstrings_Split fun H hh => ?_
  dsimp only [cstrings_Split]
  refine walk1 (k := ?_)
  repeat' first | refine And.intro ?_ ?_ | intro
  all_goals refine leaf ?_
  refine callN (h1) ?_
  rintro v Lo H' ⟨a, rfl, rfl⟩ hh
  refine walk1 (k := ?_)
  repeat' first | refine And.intro ?_ ?_ | intro
  all_goals refine leaf ?_
  exact doneN ⟨a, rfl, rfl⟩
end Go.Proofs.YtelgcaacaolgfaaDoor
