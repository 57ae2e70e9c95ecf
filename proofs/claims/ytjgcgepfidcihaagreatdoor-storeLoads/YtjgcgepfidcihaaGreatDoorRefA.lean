/-
  Paths: the document's.
-/
import Derived.Test.YtjgcgepfidcihaaGreatDoorMayB
namespace Go.Proofs.YtjgcgepfidcihaaGreatDoor
open Go Go.CM
set_option maxRecDepth 100000
set_option maxHeartbeats 4000000

theorem rsright_prog (s : List UInt8) (most : Nat) (hs : s.length ≤ 1000000) : CallsR Tryz.prog nref04_Right [.str s, .int .i64 most] [] fun v => v = .bool (decide (rightP s.length most ((sgs s 0).map (·.1)))) := by
  have h1 := signs_prog s hs
  have hl := sgs_len s 0
  generalize hS : sgs s 0 = S at *
  generalize hX : S.map (·.1) = X at *
  have hXl : X.length ≤ s.length := by rw [← hX, List.length_map]; omega
  refine sref04_Right fun H hh => ?_
  dsimp only [cref04_Right]
  refine walk (k := ?_)
  repeat' first | refine And.intro ?_ ?_ | intro
  all_goals refine leaf ?_
  · exact doneR (congrArg V.bool (decide_eq_false (by omega)).symm)
  · exact doneR (congrArg V.bool (decide_eq_false (by omega)).symm)
  refine callN (h1) ?_
  rintro v Lo H' ⟨a, b, rfl, rfl⟩ hh
  refine walk1 (k := ?_)
  repeat' first | refine And.intro ?_ ?_ | intro
  all_goals refine leaf ?_
  refine loopN [5, 7] X.length (fun i vs L => ((∀ x : Nat, x ∈ X → srtI x ≠ 0) ↔ ∀ x : Nat, x ∈ X.drop i → srtI x ≠ 0) ∧ vs = [.slice a 0 X.length 1, .int .i64 i] ∧ L = [(a, .cells true (X.flatMap natC)), (b, .cells true ((S.map (·.2)).flatMap natC))]) (Nx.here ⟨Iff.rfl, rfl, rfl⟩) ?_
  clear hh
  rintro i _ _ e H hi ⟨ho, rfl, rfl⟩ hh
  simp only [puts]
  by_cases hn : i < X.length
  · have hm : nth X i ∈ X := nth_mem hn
    have h2 := rsort_prog ((nth X i : Nat) : Int)
    rw [drop_getD hn] at ho
    refine walk1 (k := ?_)
    repeat' first | refine And.intro ?_ ?_ | intro
    all_goals refine leaf ?_
    refine c_cond_t (by show V.bool _ = _; simp; omega) ?_
    refine walk1 (k := ?_)
    repeat' first | refine And.intro ?_ ?_ | intro
    all_goals refine leaf ?_
    refine callE (h2) ?_
    refine walk (k := ?_)
    repeat' first | refine And.intro ?_ ?_ | intro
    all_goals refine leaf ?_
    · refine doneR (congrArg V.bool (decide_eq_false ?_).symm)
      rintro ⟨_, h⟩
      exact h _ hm (by assumption)
    · rename_i hk
      refine Nx.next (by omega) ⟨ho.trans ⟨fun h x hx => h x (List.mem_cons_of_mem _ hx), fun h x hx => ?_⟩, rfl, rfl⟩
      rcases List.mem_cons.1 hx with rfl | hx
      · exact hk
      · exact h x hx
  · skip
    refine walk1 (k := ?_)
    repeat' first | refine And.intro ?_ ?_ | intro
    all_goals refine leaf ?_
    refine c_cond_f (by show V.bool _ = _; simp; omega) ?_
    refine walk1 (k := ?_)
    repeat' first | refine And.intro ?_ ?_ | intro
    all_goals refine leaf ?_
    refine doneR (congrArg V.bool (decide_eq_true ⟨by omega, ho.2 ?_⟩).symm)
    rw [List.drop_of_length_le (by omega)]
    simp
theorem pairB_int (a b : UInt8) (ha : 0 ≤ digI a.toNat) (hb : 0 ≤ digI b.toNat) : V.int .u8 (digI a.toNat * 16 + digI b.toNat) = .int .u8 ((pairB a b).toNat : Nat) := by
  have h1 := digI_le a.toNat
  have h2 := digI_le b.toNat
  obtain ⟨n1, e1⟩ : ∃ n : Nat, digI a.toNat = n := ⟨_, (Int.toNat_of_nonneg ha).symm⟩
  obtain ⟨n2, e2⟩ : ∃ n : Nat, digI b.toNat = n := ⟨_, (Int.toNat_of_nonneg hb).symm⟩
  rw [e1] at h1
  rw [e2] at h2
  rw [pairB, e1, e2, UInt8.toNat_ofNat']
  exact congrArg (V.int .u8) (by simp only [Int.toNat_natCast]; omega)
theorem cut1 {s : List UInt8} {i : Nat} (h : i < s.length) : (s.take (i + 1)).drop i = [s.getD i 0] := by
  have et : s.take (i + 1) = s.take i ++ [s.getD i 0] := by rw [List.take_add_one, List.getD_eq_getElem?_getD, List.getElem?_eq_getElem h]; rfl
  rw [et, List.drop_append_of_le_length (by rw [List.length_take]; omega), List.drop_of_length_le (by rw [List.length_take]; omega), List.nil_append]
theorem rread_prog (s : List UInt8) (hs : s.length ≤ 1000000) : CallsR Tryz.prog nref05_read [.str s] [] fun v => v = readV s := by
  refine sref05_read fun H hh => ?_
  dsimp only [cref05_read]
  refine walk (k := ?_)
  repeat' first | refine And.intro ?_ ?_ | intro
  all_goals refine leaf ?_
  refine loopM [0, 4, 5] (fun m vs L => ∃ (i : Nat) (out : List UInt8), readP s 0 = (readP s i).map (out ++ ·) ∧ out.length ≤ i ∧ i ≤ s.length ∧ m = s.length - i ∧ vs = [.str s, .str out, .int .i64 (i : Nat)] ∧ L = [])
    (Nx.intro (i := s.length) trivial ⟨0, [], by cases readP s 0 <;> rfl, Nat.le_refl _, Nat.zero_le _, rfl, rfl, rfl⟩) ?_
  clear hh
  rintro m _ L e H ⟨i, out, ho, hl, hi, rfl, rfl, rfl⟩ hh
  simp only [puts]
  refine walk (k := ?_)
  repeat' first | refine And.intro ?_ ?_ | intro
  all_goals refine leaf ?_
  · refine wps_slot (s := 21) (v := .str [s.getD i 0]) (congrArg V.str (cut1 (by omega))) ?_
    refine wps_rd (v := .str (out ++ [s.getD i 0])) (catV (by show _ + 1 ≤ _; omega)) ?_
    refine walk1 (k := ?_)
    repeat' first | refine And.intro ?_ ?_ | intro
    all_goals refine leaf ?_
    exact Nx.intro (i := s.length - (i + 1)) (by omega) ⟨i + 1, out ++ [s.getD i 0], by rw [ho, readP_at (by omega) (ne37 ‹_›), map_cat], by simp; omega, by omega, rfl, rfl, rfl⟩
  · rename_i h1 h2 h3
    refine doneR (readV_none ?_).symm
    rw [ho, readP_bad (by omega) (eq37 h2) (by omega)]
    rfl
  · rename_i h1 h2 h3
    have d1 := rdigit_prog (s.getD (i + 1) 0).toNat (by omega) (by have := UInt8.toNat_lt (s.getD (i + 1) 0); omega)
    have d2 := rdigit_prog (s.getD (i + 2) 0).toNat (by omega) (by have := UInt8.toNat_lt (s.getD (i + 2) 0); omega)
    refine callE (d1) ?_
    refine walk (k := ?_)
    repeat' first | refine And.intro ?_ ?_ | intro
    all_goals refine leaf ?_
    · refine doneR (readV_none ?_).symm
      rw [ho, readP_bad (by omega) (eq37 h2) (by omega)]
      rfl
    refine callE (d2) ?_
    refine walk (k := ?_)
    repeat' first | refine And.intro ?_ ?_ | intro
    all_goals refine leaf ?_
    · refine doneR (readV_none ?_).symm
      rw [ho, readP_bad (by omega) (eq37 h2) (by omega)]
      rfl
    rename_i g1 g2
    have b1 := digI_le (s.getD (i + 1) 0).toNat
    have b2 := digI_le (s.getD (i + 2) 0).toNat
    have er := readP_hex (p := i) (by omega) (eq37 h2) (by omega) (by omega)
    have ep := pairB_int (s.getD (i + 1) 0) (s.getD (i + 2) 0) (by omega) (by omega)
    refine callE (d1) ?_
    refine walk1 (k := ?_)
    repeat' first | refine And.intro ?_ ?_ | intro
    all_goals refine leaf ?_
    refine callE (d2) ?_
    refine walk1 (k := ?_)
    repeat' first | refine And.intro ?_ ?_ | intro
    all_goals refine leaf ?_
    rename_i t _ hh
    rw [ep] at hh
    refine wps_b2s (l := [pairB (s.getD (i + 1) 0) (s.getD (i + 2) 0)]) hh rfl .here ?_
    refine wps_rd (v := .str (out ++ [pairB (s.getD (i + 1) 0) (s.getD (i + 2) 0)])) (catV (by show _ + 1 ≤ _; omega)) ?_
    refine walk1 (k := ?_)
    repeat' first | refine And.intro ?_ ?_ | intro
    all_goals refine leaf ?_
    exact Nx.intro (i := s.length - (i + 3)) (by omega) ⟨i + 3, out ++ [pairB (s.getD (i + 1) 0) (s.getD (i + 2) 0)], by rw [ho, er, map_cat], by simp; omega, by omega, rfl, rfl, rfl⟩
  · rename_i he
    have ho : readP s 0 = some out := by rw [ho, readP_end (by omega)]; simp
    subst he
    exact doneR (by rw [readV_some ho, decide_eq_true (Or.inl rfl)])
  · rename_i he
    have ho : readP s 0 = some out := by rw [ho, readP_end (by omega)]; simp
    refine callE ((rsright_prog out 60 (by omega))) ?_
    refine walk1 (k := ?_)
    repeat' first | refine And.intro ?_ ?_ | intro
    all_goals refine leaf ?_
    refine doneR ?_
    rw [readV_some ho]
    refine congrArg (fun b => V.tup [.str out, .bool b]) ?_
    rw [decide_eq_decide]
    exact ⟨Or.inr, fun h => h.resolve_left he⟩
end Go.Proofs.YtjgcgepfidcihaaGreatDoor
