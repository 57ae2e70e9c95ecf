/-
  A path: the document's.
-/
import Derived.Test.YtjgcgepfidcihaaGreatDoorRefB
namespace Go.Proofs.YtjgcgepfidcihaaGreatDoor
open Go Go.CM
set_option maxRecDepth 100000
set_option maxHeartbeats 4000000

theorem eq47 {c : UInt8} (h : c.toNat = 47) : c = 47 := UInt8.toNat_inj.1 h
theorem part_nil' : partL [] = some [] := by rw [partL, readP_end (by simp)]; rfl
def rsP (s : List UInt8) (p : Nat) : List (List UInt8) := if p ≤ s.length then splitL (s.drop p) else []
theorem rsP_cut {s : List UInt8} {p q : Nat} (hpq : p ≤ q) (hq : q ≤ s.length) (hk : ∀ k, p ≤ k → k < q → s.getD k 0 ≠ 47) (he : q = s.length ∨ s.getD q 0 = 47) : rsP s p = (s.take q).drop p :: rsP s (q + 1) := by
  have hg : ∀ k, (s.drop p).getD k 0 = s.getD (p + k) 0 := fun k => by simp only [List.getD_eq_getElem?_getD, List.getElem?_drop]
  have ht : (s.take q).drop p = (s.drop p).take (q - p) := by rw [List.drop_take]
  rw [rsP, if_pos (by omega), ht]
  by_cases h47 : q < s.length ∧ s.getD q 0 = 47
  · rw [splitL_some (m := q - p) (fun k hk2 => by rw [hg]; exact hk _ (by omega) (by omega)) (by rw [List.length_drop]; omega) (by rw [hg, show p + (q - p) = q by omega]; exact h47.2), rsP, if_pos (by omega), List.drop_drop, show p + (q - p + 1) = q + 1 by omega]
  · have hql : q = s.length := by
      rcases he with h | h
      · exact h
      · exact Classical.byContradiction fun h2 => h47 ⟨by omega, h⟩
    rw [splitL_none (fun k hk2 => by rw [List.length_drop] at hk2; rw [hg]; exact hk _ (by omega) (by omega)), rsP, if_neg (by omega), List.take_of_length_le (by rw [List.length_drop]; omega)]
theorem rpath_prog (s : List UInt8) : CallsR Tryz.prog nref05_Path [.str s] [] fun v => v = pathV s := by
  have hb : 60 < s.length ∨ s.length ≤ 60 := by omega
  have hpl : pathL s = if s = [] ∨ 60 < s.length ∨ (s.getD 0 0).toNat ≠ 47 then none else match partsL [] (splitL s) with
    | none => none
    | some l => if 60 < (fullL (joinL l)).length then none else some (fullL (joinL l)) := rfl
  have hz : s = [] ∨ 0 < s.length := by
    cases s with
    | nil => exact .inl rfl
    | cons => exact .inr (by simp)
  rcases hz with rfl | hz
  · skip
    refine sref05_Path fun H hh => ?_
    dsimp only [cref05_Path]
    refine walk1 (k := ?_)
    repeat' first | refine And.intro ?_ ?_ | intro
    all_goals refine leaf ?_
    exact doneR rfl
  have hne : s ≠ [] := List.length_pos_iff.1 hz
  refine sref05_Path fun H hh => ?_
  dsimp only [cref05_Path]
  refine walk (k := ?_)
  repeat' first | refine And.intro ?_ ?_ | intro
  all_goals refine leaf ?_
  · exfalso; omega
  · rw [if_pos (by omega)] at hpl
    exact doneR (pathV_none hpl).symm
  · rw [if_pos (by omega)] at hpl
    exact doneR (pathV_none hpl).symm
  rename_i h1 h2 h3
  rw [if_neg (by rintro (h | h | h); exact hne h; omega; omega)] at hpl
  have hs0 : s.getD 0 0 = 47 := eq47 (by omega)
  have hsp : splitL s = [] :: splitL (s.drop 1) := splitL_some (m := 0) (fun k hk => by omega) hz hs0
  rw [hsp, partsL_skip part_nil' (.inl rfl)] at hpl
  have hr1 : splitL (s.drop 1) = rsP s 1 := by rw [rsP, if_pos (by omega)]
  rw [hr1] at hpl
  refine loopM [0, 4, 5] (fun m vs L => ∃ (p : Nat) (out : List (List UInt8)) (J : List V) (a : Nat), partsL [] (rsP s 1) = partsL out (rsP s p) ∧ 1 ≤ p ∧ p ≤ s.length + 1 ∧ out.length ≤ p ∧ (∀ x ∈ out, x.length ≤ 60) ∧ m = s.length + 1 - p ∧ vs = [.str s, .slice a 0 out.length 1, .int .i64 (p : Nat)] ∧ L = [(a, .cells true (out.flatMap strC ++ J))])
    (Nx.weak (i := s.length) (vs := [.str s, .slice 0 0 0 1, .int .i64 (1 : Nat)]) trivial (.cons (Wk.refl _) (.cons (Wk.nils 0 1) (.cons (Wk.refl _) .nil))) ⟨1, [], [], 0, rfl, by omega, by omega, by simp, by simp, by omega, rfl, rfl⟩ (hh.ghost true)) ?_
  clear hh
  rintro m _ _ e H ⟨p, out, J, a, ho, hp1, hpl2, hol, hok, rfl, rfl, rfl⟩ hh
  simp only [puts]
  by_cases hn : p ≤ s.length
  · skip
    refine walk1 (k := ?_)
    repeat' first | refine And.intro ?_ ?_ | intro
    all_goals refine leaf ?_
    refine c_cond_t (by show V.bool _ = _; simp; omega) ?_
    refine walk1 (k := ?_)
    repeat' first | refine And.intro ?_ ?_ | intro
    all_goals refine leaf ?_
    refine loopM [0, 4, 5, 6] (fun m vs L => ∃ q : Nat, p ≤ q ∧ q ≤ s.length ∧ (∀ k, p ≤ k → k < q → s.getD k 0 ≠ 47) ∧ m = s.length - q ∧ vs = [.str s, .slice a 0 out.length 1, .int .i64 (p : Nat), .int .i64 (q : Nat)] ∧ L = [(a, .cells true (out.flatMap strC ++ J))])
      (Nx.intro (i := s.length - p) trivial ⟨p, Nat.le_refl _, hn, fun k h1 h2 => by omega, rfl, rfl, rfl⟩) ?_
    clear hh
    rintro m _ _ e H ⟨q, hpq, hql, hk, rfl, rfl, rfl⟩ hh
    simp only [puts]
    by_cases hgo : q < s.length ∧ s.getD q 0 ≠ 47
    · have h47 : ¬ ((s.getD q 0).toNat : Int) = 47 := fun h => hgo.2 (eq47 (by omega))
      refine walk (k := ?_)
      repeat' first | refine And.intro ?_ ?_ | intro
      all_goals refine leaf ?_
      all_goals try
        exfalso
        omega
      refine Nx.intro (i := s.length - (q + 1)) (by omega) ⟨q + 1, by omega, by omega, fun k k1 k2 => ?_, rfl, rfl, rfl⟩
      by_cases e : k = q
      · subst e; exact hgo.2
      · exact hk k k1 (by omega)
    · have hend : q = s.length ∨ s.getD q 0 = 47 := by
        by_cases h : q = s.length
        · exact .inl h
        · exact .inr (Classical.byContradiction fun h2 => hgo ⟨by omega, h2⟩)
      have hcut := rsP_cut hpq hql hk hend
      have hz47 : q < s.length → ((s.getD q 0).toNat : Int) = 47 := fun h => by
        rcases hend with h2 | h2
        · omega
        · rw [h2]; rfl
      rw [hcut] at ho
      have hrd := rread_prog ((s.take q).drop p) (by rw [List.length_drop, List.length_take]; omega)
      refine walk (k := ?_)
      repeat' first | refine And.intro ?_ ?_ | intro
      all_goals refine leaf ?_
      all_goals try
        exfalso
        omega
      all_goals
        rcases partV ((s.take q).drop p) with ⟨hp, o, hv⟩ | ⟨o, hp, hol2, hv⟩
        · rw [hv] at hrd
          refine callE (hrd) ?_
          refine walk (k := ?_)
          repeat' first | refine And.intro ?_ ?_ | intro
          all_goals refine leaf ?_
          exact doneR (pathV_none (by rw [hpl, ho, partsL_bad hp])).symm
        · rw [hv] at hrd
          have hc : o = [] ∨ o = [46] ∨ o = [46, 46] ∨ (o ≠ [] ∧ o ≠ [46] ∧ o ≠ [46, 46]) := by
            by_cases c1 : o = [] <;> by_cases c2 : o = [46] <;> by_cases c3 : o = [46, 46] <;> simp [c1, c2, c3]
          rcases hc with rfl | rfl | rfl | ⟨c1, c2, c3⟩
          · rw [partsL_skip hp (.inl rfl)] at ho
            refine callE (hrd) ?_
            refine walk (k := ?_)
            repeat' first | refine And.intro ?_ ?_ | intro
            all_goals refine leaf ?_
            exact Nx.intro (i := s.length + 1 - (q + 1)) (by omega) ⟨q + 1, out, J, a, ho, by omega, by omega, by omega, hok, rfl, rfl, rfl⟩
          · rw [partsL_skip hp (.inr rfl)] at ho
            refine callE (hrd) ?_
            refine walk (k := ?_)
            repeat' first | refine And.intro ?_ ?_ | intro
            all_goals refine leaf ?_
            exact Nx.intro (i := s.length + 1 - (q + 1)) (by omega) ⟨q + 1, out, J, a, ho, by omega, by omega, by omega, hok, rfl, rfl, rfl⟩
          · skip
            refine callE (hrd) ?_
            refine walk (k := ?_)
            repeat' first | refine And.intro ?_ ?_ | intro
            all_goals refine leaf ?_
            · rename_i h0
              have h0 : out = [] := List.length_eq_zero_iff.1 (by omega)
              subst h0
              exact doneR (pathV_none (by rw [hpl, ho, partsL_none hp])).symm
            · rename_i h0
              have hne2 : out ≠ [] := fun e => h0 (by rw [e]; rfl)
              rw [partsL_up hp hne2] at ho
              obtain ⟨x, hx⟩ : ∃ x, out = out.dropLast ++ [x] := ⟨_, (List.dropLast_concat_getLast hne2).symm⟩
              have hl : out.dropLast.length = out.length - 1 := List.length_dropLast
              have hf : out.flatMap strC ++ J = out.dropLast.flatMap strC ++ (strC x ++ J) := by
                conv => lhs; rw [hx]
                simp
              rw [hf] at hh
              rw [show ((out.length : Int) - 1).toNat = out.dropLast.length by omega]
              exact Nx.intro (i := s.length + 1 - (q + 1)) (by omega) ⟨q + 1, out.dropLast, strC x ++ J, a, ho, by omega, by omega, by omega, fun p h => hok p (List.dropLast_subset _ h), rfl, rfl, rfl⟩
          · rw [partsL_put hp c1 c2 c3] at ho
            refine callE (hrd) ?_
            refine walk (k := ?_)
            repeat' first | refine And.intro ?_ ?_ | intro
            all_goals refine leaf ?_
            all_goals first
              | exact absurd ‹_› c1
              | exact absurd ‹_› c2
              | exact absurd ‹_› c3
              | skip
            rename_i t _ hh
            have hf : (out ++ [o]).flatMap strC = out.flatMap strC ++ [.str o] := by simp [strC]
            have hlo : (out.flatMap strC).length = out.length := by rw [rows_length (sz := 1) (fun _ => rfl), Nat.mul_one]
            have hok2 : ∀ p ∈ out ++ [o], p.length ≤ 60 := fun p h => (List.mem_append.1 h).elim (hok p) fun h => by rw [List.mem_singleton.1 h]; exact hol2
            have hle : (out ++ [o]).length = out.length + 1 := by simp
            by_cases hJ : out.flatMap strC ++ J = []
            · obtain ⟨h0, rfl⟩ := List.append_eq_nil_iff.1 hJ
              rw [List.append_nil] at hh
              refine wps_app hh (L' := fun id' => [(t, .cells true [.str o]), (id', .cells true (out.flatMap strC ++ [.str o]))]) (m := 1) rfl (fun id' => .there .here1) (src_slice (esz := 0) hh .here rfl) (by rw [hlo]; omega) (by omega) fun a2 H' hh => ?_
              rw [← hf, ← List.append_nil ((out ++ [o]).flatMap strC)] at hh
              rw [← hle]
              refine walk (k := ?_)
              repeat' first | refine And.intro ?_ ?_ | intro
              all_goals refine leaf ?_
              exact Nx.intro (i := s.length + 1 - (q + 1)) (by omega) ⟨q + 1, out ++ [o], [], a2, ho, by omega, by omega, by omega, hok2, rfl, rfl, rfl⟩
            · have ha0 : a ≠ 0 := hh.ne0 (b := true) (cs := out.flatMap strC ++ J) (by simp) hJ
              have hcut2 : ((out.flatMap strC ++ J).drop 0).take (out.length * 1) = out.flatMap strC := by rw [List.drop_zero, Nat.mul_one, List.take_append_of_le_length (by omega), List.take_of_length_le (by omega)]
              refine wps_appc hh (L' := fun id' => [(t, .cells true [.str o]), (id', .cells true (((out.flatMap strC ++ J).drop 0).take (out.length * 1) ++ [.str o]))]) (m := 1) ha0 rfl (fun id' => .there .here1) (src_slice (esz := 0) hh .here rfl) (by rw [List.length_append]; omega) (by omega) fun a2 H' hh => ?_
              rw [hcut2, ← hf, ← List.append_nil ((out ++ [o]).flatMap strC)] at hh
              rw [← hle]
              refine walk (k := ?_)
              repeat' first | refine And.intro ?_ ?_ | intro
              all_goals refine leaf ?_
              exact Nx.intro (i := s.length + 1 - (q + 1)) (by omega) ⟨q + 1, out ++ [o], [], a2, ho, by omega, by omega, by omega, hok2, rfl, rfl, rfl⟩
  · have hpe : rsP s p = [] := by rw [rsP, if_neg (by omega)]
    rw [hpe, partsL_nil] at ho
    rw [ho] at hpl
    dsimp only at hpl
    obtain ⟨H2, hw2, hh2⟩ : ∃ H2, HWk H H2 ∧ Has H2 [(a, .cells true (out.flatMap strC))] := by
      by_cases hJ : out.flatMap strC ++ J = []
      · obtain ⟨h0, rfl⟩ := List.append_eq_nil_iff.1 hJ
        exact ⟨H, HWk.refl H, by simpa using hh⟩
      · have ha0 : a ≠ 0 := hh.ne0 (b := true) (cs := out.flatMap strC ++ J) (by simp) hJ
        exact hh.wk ha0 .here1 (.cells _ _ (Wkp.pre _ _))
    refine C.wk (fun _ => Wk.refl _) hw2 ?_
    clear hh hw2
    have hh := hh2
    have hjl := joinL_len hok
    refine walk1 (k := ?_)
    repeat' first | refine And.intro ?_ ?_ | intro
    all_goals refine leaf ?_
    refine c_cond_f (by show V.bool _ = _; simp; omega) ?_
    refine walk1 (k := ?_)
    repeat' first | refine And.intro ?_ ?_ | intro
    all_goals refine leaf ?_
    refine loopN [4, 9, 10] out.length (fun i vs L => vs = [.slice a 0 out.length 1, .str (joinL (out.take i)), .int .i64 (i : Nat)] ∧ L = [(a, .cells true (out.flatMap strC))]) (Nx.here ⟨rfl, rfl⟩) ?_
    clear hh hh2
    rintro i _ _ e H hi ⟨rfl, rfl⟩ hh
    simp only [puts]
    refine walk (k := ?_)
    repeat' first | refine And.intro ?_ ?_ | intro
    all_goals refine leaf ?_
    · have hn3 : i < out.length := by omega
      have hm : (nth out i).length ≤ 60 := hok _ (nth_mem hn3)
      have hw := rwrite_prog (nth out i) (by omega)
      have hjt : (joinL (out.take i)).length ≤ 181 * i := by
        have := joinL_len (l := out.take i) fun p h => hok p (List.mem_of_mem_take h)
        rw [List.length_take] at this
        omega
      have hwl := write_len (nth out i)
      refine wps_rd (v := .str (joinL (out.take i) ++ [47])) (catV (by show _ + 1 ≤ _; omega)) ?_
      refine walk1 (k := ?_)
      repeat' first | refine And.intro ?_ ?_ | intro
      all_goals refine leaf ?_
      refine callE (hw) ?_
      refine walk1 (k := ?_)
      repeat' first | refine And.intro ?_ ?_ | intro
      all_goals refine leaf ?_
      refine wps_rd (v := .str (joinL (out.take (i + 1)))) (by
        have : joinL (out.take (i + 1)) = (joinL (out.take i) ++ [47]) ++ writeL (nth out i) := by rw [joinL_next hn3]; simp
        rw [this]
        exact catV (by rw [List.length_append]; show _ + 1 + _ ≤ _; omega)) ?_
      refine walk1 (k := ?_)
      repeat' first | refine And.intro ?_ ?_ | intro
      all_goals refine leaf ?_
      exact Nx.next (by omega) ⟨rfl, rfl⟩
    · rename_i hn3 he
      rw [List.take_of_length_le (by omega)] at he
      rw [show fullL (joinL out) = [47] by rw [fullL, if_pos he], if_neg (by decide)] at hpl
      exact doneR (pathV_some hpl).symm
    · rename_i hn3 he h60
      rw [List.take_of_length_le (by omega)] at he h60
      rw [show fullL (joinL out) = joinL out by rw [fullL, if_neg he], if_pos (by omega)] at hpl
      exact doneR (pathV_none hpl).symm
    · rename_i hn3 he h60
      rw [List.take_of_length_le (by omega)] at he h60 ⊢
      rw [show fullL (joinL out) = joinL out by rw [fullL, if_neg he], if_neg (by omega)] at hpl
      exact doneR (pathV_some hpl).symm
end Go.Proofs.YtjgcgepfidcihaaGreatDoor
