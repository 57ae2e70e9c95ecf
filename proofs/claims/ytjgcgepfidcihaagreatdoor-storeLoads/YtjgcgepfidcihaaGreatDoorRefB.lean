/-
  A part's form: the document's.
-/
import Derived.Test.YtjgcgepfidcihaaGreatDoorRefA
namespace Go.Proofs.YtjgcgepfidcihaaGreatDoor
open Go Go.CM
set_option maxRecDepth 100000
set_option maxHeartbeats 4000000

theorem hexB_int {n : Nat} (h : n < 16) : V.int .u8 (if n < 10 then 48 + (n : Int) else 65 + (n : Int) - 10) = .int .u8 ((hexB n).toNat : Nat) := by
  unfold hexB
  split
  · rw [UInt8.toNat_ofNat']
    exact congrArg (V.int .u8) (by omega)
  · rw [UInt8.toNat_ofNat']
    exact congrArg (V.int .u8) (by omega)
theorem rhex_prog (n : Nat) (hn : n < 16) : CallsR Tryz.prog nref05_hex [.int .i64 (n : Nat)] [] fun v => v = .str [hexB n] := by
  have he := hexB_int hn
  refine sref05_hex fun H hh => ?_
  dsimp only [cref05_hex]
  refine walk (k := ?_)
  repeat' first | refine And.intro ?_ ?_ | intro
  all_goals refine leaf ?_
  · rename_i h10 t _ hh
    rw [if_pos (by omega)] at he
    rw [he] at hh
    refine wps_b2s (l := [hexB n]) hh rfl .here ?_
    refine walk1 (k := ?_)
    repeat' first | refine And.intro ?_ ?_ | intro
    all_goals refine leaf ?_
    exact doneR rfl
  · rename_i h10 t _ hh
    rw [if_neg (by omega)] at he
    rw [he] at hh
    refine wps_b2s (l := [hexB n]) hh rfl .here ?_
    refine walk1 (k := ?_)
    repeat' first | refine And.intro ?_ ?_ | intro
    all_goals refine leaf ?_
    exact doneR rfl
theorem rwrite_prog (s : List UInt8) (hs : s.length ≤ 100000) : CallsR Tryz.prog nref05_write [.str s] [] fun v => v = .str (writeL s) := by
  refine sref05_write fun H hh => ?_
  dsimp only [cref05_write]
  refine walk (k := ?_)
  repeat' first | refine And.intro ?_ ?_ | intro
  all_goals refine leaf ?_
  refine loopN [0, 3, 4] s.length (fun i vs L => vs = [.str s, .str (writeL (s.take i)), .int .i64 (i : Nat)] ∧ L = []) (Nx.here ⟨rfl, rfl⟩) ?_
  clear hh
  rintro i _ _ e H hi ⟨rfl, rfl⟩ hh
  simp only [puts]
  have h3 := take_len3 s i
  have hx := UInt8.toNat_lt (s.getD i 0)
  by_cases hn : i < s.length
  · have en := write_next hn
    have hw1 := rhex_prog ((s.getD i 0).toNat / 16) (by omega)
    have hw2 := rhex_prog ((s.getD i 0).toNat % 16) (by omega)
    refine walk1 (k := ?_)
    repeat' first | refine And.intro ?_ ?_ | intro
    all_goals refine leaf ?_
    refine c_cond_t (by show V.bool _ = _; simp; omega) ?_
    refine c_skip (k_seq_n (c_seq (c_block (c_seq (c_ops ?_)))))
    refine wps_rd (v := .str s) rfl (wps_rd (v := .int .i64 (i : Nat)) rfl ?_)
    refine wps_isw (m := i) rfl rfl (Int.toNat_natCast i) ⟨by omega, by omega⟩ (wps_rd (v := .int .u8 ((s.getD i 0).toNat : Nat)) rfl (wps_nil (k_seq_n (c_seq ?_))))
    refine condP 52 [0, 3, 4, 5] (plP (s.getD i 0)) [.str s, .str (writeL (s.take i)), .int .i64 (i : Nat), .int .u8 ((s.getD i 0).toNat : Nat)] [] ?_ ?_ ?_
    · skip
      refine walk (k := ?_)
      repeat' first | refine And.intro ?_ ?_ | intro
      all_goals refine leaf ?_
      all_goals exact Nx.cnd rfl rfl (by simp [-List.getD_eq_getElem?_getD]; omega) (by assumption) Tk.nil
    · intro e H hh hc
      rw [putB, if_pos hc] at en
      simp only [puts]
      refine walk1 (k := ?_)
      repeat' first | refine And.intro ?_ ?_ | intro
      all_goals refine leaf ?_
      refine wps_slot (s := 58) (v := .str [s.getD i 0]) (congrArg V.str (cut1 (by omega))) ?_
      refine wps_rd (v := .str (writeL (s.take (i + 1)))) (by rw [en]; exact catV (by show _ + 1 ≤ _; omega)) ?_
      refine walk1 (k := ?_)
      repeat' first | refine And.intro ?_ ?_ | intro
      all_goals refine leaf ?_
      exact Nx.next (by omega) ⟨rfl, rfl⟩
    · intro e H hh hc
      rw [putB, if_neg hc] at en
      simp only [puts]
      refine walk1 (k := ?_)
      repeat' first | refine And.intro ?_ ?_ | intro
      all_goals refine leaf ?_
      refine wps_rd (v := .str (writeL (s.take i) ++ [37])) (catV (by show _ + 1 ≤ _; omega)) ?_
      refine walk1 (k := ?_)
      repeat' first | refine And.intro ?_ ?_ | intro
      all_goals refine leaf ?_
      refine wps_slot (s := 64) (v := .int .i64 ((s.getD i 0).toNat / 16 : Nat)) rfl ?_
      refine callE (hw1) ?_
      refine walk1 (k := ?_)
      repeat' first | refine And.intro ?_ ?_ | intro
      all_goals refine leaf ?_
      refine wps_rd (v := .str (writeL (s.take i) ++ [37] ++ [hexB ((s.getD i 0).toNat / 16)])) (catV (by rw [List.length_append]; show _ + 1 + 1 ≤ _; omega)) ?_
      refine walk1 (k := ?_)
      repeat' first | refine And.intro ?_ ?_ | intro
      all_goals refine leaf ?_
      refine wps_slot (s := 69) (v := .int .i64 ((s.getD i 0).toNat % 16 : Nat)) rfl ?_
      refine callE (hw2) ?_
      refine walk1 (k := ?_)
      repeat' first | refine And.intro ?_ ?_ | intro
      all_goals refine leaf ?_
      have ec : writeL (s.take (i + 1)) = (writeL (s.take i) ++ [37] ++ [hexB ((s.getD i 0).toNat / 16)]) ++ [hexB ((s.getD i 0).toNat % 16)] := by rw [en]; simp
      refine wps_rd (v := .str (writeL (s.take (i + 1)))) (by rw [ec]; exact catV (by rw [List.length_append, List.length_append]; show _ + 1 + 1 + 1 ≤ _; omega)) ?_
      refine walk1 (k := ?_)
      repeat' first | refine And.intro ?_ ?_ | intro
      all_goals refine leaf ?_
      exact Nx.next (by omega) ⟨rfl, rfl⟩
  · have et : s.take i = s := List.take_of_length_le (by omega)
    rw [et]
    refine walk1 (k := ?_)
    repeat' first | refine And.intro ?_ ?_ | intro
    all_goals refine leaf ?_
    refine c_cond_f (by show V.bool _ = _; simp; omega) ?_
    refine walk1 (k := ?_)
    repeat' first | refine And.intro ?_ ?_ | intro
    all_goals refine leaf ?_
    exact doneR rfl
end Go.Proofs.YtjgcgepfidcihaaGreatDoor
