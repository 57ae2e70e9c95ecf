/-
  Entries are loaded: the document's; nobody's store.
-/
import Derived.Test.YtjgcgepfidcihaaGreatDoorLoaA
import Derived.Test.YtjgcgepfidcihaaGreatDoorOfC
namespace Go.Proofs.YtjgcgepfidcihaaGreatDoor
open Go Go.CM
set_option maxRecDepth 100000
set_option maxHeartbeats 4000000

theorem wload_prog (w o s : Nat) (b : Bool) (st : Sto) (l : List Entry) (top : Int) (hok : SOk st) (hl : l.length ≤ 1000) (hk : ∀ e ∈ l, e.key.length ≤ 1000000) :
    CallsL Tryz.prog nref18_Store_Load [.ptr w 0, .slice s 0 l.length 14, .int .i64 top] (EL s b l :: WL w st o) fun v L' => ∃ o2, v = .int .i64 (loadI st l top) ∧ L' = EL s b l :: WL w (loadS st l top) o2 := by
  have hlen := hok.len
  by_cases h0 : (0 < st.l.length ∨ 0 < st.top) ∨ (top < 0 ∨ 1073741824 < top)
  · have hv : loadI st l top = 1 := by
      by_cases h1 : 0 < st.l.length ∨ 0 < st.top
      · exact if_pos h1
      · have hm : mayI l top = 1 := if_pos (h0.resolve_left h1)
        rw [loadI, if_neg h1, hm]; rfl
    have hs : loadS st l top = st := if_neg (by rw [hv]; decide)
    rw [hv, hs]
    refine sref18_Store_Load fun H hh => ?_
    dsimp only [cref18_Store_Load]
    refine walk (k := ?_)
    repeat' first | refine And.intro ?_ ?_ | intro
    all_goals refine leaf ?_
    · exact done ⟨o, rfl, rfl⟩
    · exact done ⟨o, rfl, rfl⟩
    · exact done ⟨o, rfl, rfl⟩
    · exact done ⟨o, rfl, rfl⟩
    · exfalso; omega
  · have h0a := not_or.1 h0
    have hv0 : loadI st l top = if mayI l top ≠ 0 then mayI l top else if (putsL [] l).length < l.length then 7 else if 200 < l.length ∨ ¬ quoA (putsL [] l) (quoI st.most) then 2 else 0 := if_neg h0a.1
    have hm0 : mayI l top = if mayA l = false then 1 else if epoA l top = false then 9 else 0 := if_neg h0a.2
    refine sref18_Store_Load fun H hh => ?_
    dsimp only [cref18_Store_Load]
    refine walk (k := ?_)
    repeat' first | refine And.intro ?_ ?_ | intro
    all_goals refine leaf ?_
    · exfalso; omega
    · exfalso; omega
    · exfalso; omega
    · exfalso; omega
    refine loopN [0, 1, 2, 7] l.length (fun i vs L => (l.take i).all (fun e => decide (mayP e)) = true ∧ vs = [.ptr w 0, .slice s 0 l.length 14, .int .i64 top, .int .i64 (i : Nat)] ∧ L = EL s b l :: WL w st o) (Nx.here ⟨by simp, rfl, rfl⟩) ?_
    clear hh
    rintro i _ _ env H hi ⟨hall, rfl, rfl⟩ hh
    simp only [puts]
    by_cases hn : i < l.length
    · have hm := rmay_prog (nth l i) (hk _ (nth_mem hn))
      refine walk1 (k := ?_)
      repeat' first | refine And.intro ?_ ?_ | intro
      all_goals refine leaf ?_
      refine c_cond_t (by show V.bool _ = _; simp; omega) ?_
      refine walk1 (k := ?_)
      repeat' first | refine And.intro ?_ ?_ | intro
      all_goals refine leaf ?_
      refine callE (hm) ?_
      refine walk1 (k := ?_)
      repeat' first | refine And.intro ?_ ?_ | intro
      all_goals refine leaf ?_
      by_cases mp : mayP (nth l i)
      · refine c_cond_f (by show V.bool (!decide _) = _; rw [decide_eq_true mp]; rfl) ?_
        refine walk1 (k := ?_)
        repeat' first | refine And.intro ?_ ?_ | intro
        all_goals refine leaf ?_
        exact Nx.next hn ⟨allE_step hn hall (decide_eq_true mp), rfl, rfl⟩
      · have hA : mayA l = false := all_not hn (decide_eq_false mp)
        rw [if_pos hA] at hm0
        rw [hm0, if_pos (by decide)] at hv0
        have hs : loadS st l top = st := if_neg (by rw [hv0]; decide)
        rw [hv0, hs]
        refine c_cond_t (by show V.bool (!decide _) = _; rw [decide_eq_false mp]; rfl) ?_
        refine walk1 (k := ?_)
        repeat' first | refine And.intro ?_ ?_ | intro
        all_goals refine leaf ?_
        exact done ⟨o, rfl, rfl⟩
    · have hA : mayA l = true := by rw [List.take_of_length_le (by omega)] at hall; exact hall
      rw [if_neg (by rw [hA]; simp)] at hm0
      refine walk1 (k := ?_)
      repeat' first | refine And.intro ?_ ?_ | intro
      all_goals refine leaf ?_
      refine c_cond_f (by show V.bool _ = _; simp; omega) ?_
      refine walk1 (k := ?_)
      repeat' first | refine And.intro ?_ ?_ | intro
      all_goals refine leaf ?_
      clear hall hn hi
      refine loopN [0, 1, 2, 8] l.length (fun i vs L => (l.take i).all (fun e => decide (e.epoch ≤ top)) = true ∧ vs = [.ptr w 0, .slice s 0 l.length 14, .int .i64 top, .int .i64 (i : Nat)] ∧ L = EL s b l :: WL w st o) (Nx.here ⟨by simp, rfl, rfl⟩) ?_
      clear hh
      rintro j _ _ env H hj ⟨hall, rfl, rfl⟩ hh
      simp only [puts]
      by_cases hn : j < l.length
      · skip
        refine walk1 (k := ?_)
        repeat' first | refine And.intro ?_ ?_ | intro
        all_goals refine leaf ?_
        refine c_cond_t (by show V.bool _ = _; simp; omega) ?_
        refine walk1 (k := ?_)
        repeat' first | refine And.intro ?_ ?_ | intro
        all_goals refine leaf ?_
        by_cases mp : (nth l j).epoch ≤ top
        · refine c_cond_f (by show V.bool _ = _; simp; omega) ?_
          refine walk1 (k := ?_)
          repeat' first | refine And.intro ?_ ?_ | intro
          all_goals refine leaf ?_
          exact Nx.next hn ⟨allE_step hn hall (decide_eq_true mp), rfl, rfl⟩
        · have hE : epoA l top = false := all_not hn (decide_eq_false mp)
          rw [if_pos hE] at hm0
          rw [hm0, if_pos (by decide)] at hv0
          have hs : loadS st l top = st := if_neg (by rw [hv0]; decide)
          rw [hv0, hs]
          refine c_cond_t (by show V.bool _ = _; simp; omega) ?_
          refine walk1 (k := ?_)
          repeat' first | refine And.intro ?_ ?_ | intro
          all_goals refine leaf ?_
          exact done ⟨o, rfl, rfl⟩
      · have hE : epoA l top = true := by rw [List.take_of_length_le (by omega)] at hall; exact hall
        rw [if_neg (by rw [hE]; simp)] at hm0
        rw [hm0, if_neg (by decide)] at hv0
        refine walk1 (k := ?_)
        repeat' first | refine And.intro ?_ ?_ | intro
        all_goals refine leaf ?_
        refine c_cond_f (by show V.bool _ = _; simp; omega) ?_
        refine walk1 (k := ?_)
        repeat' first | refine And.intro ?_ ?_ | intro
        all_goals refine leaf ?_
        clear hall hn hj
        refine loopN [0, 1, 2, 9, 10] l.length (fun i vs L => ∃ o2, vs = [.ptr w 0, .slice s 0 l.length 14, .int .i64 top, .slice o2 0 (putsL [] (l.take i)).length 14, .int .i64 (i : Nat)] ∧ L = EL o2 true (putsL [] (l.take i)) :: EL s b l :: WL w st o)
          (Nx.hereW [_, _, _, .slice 0 0 0 14, _] ⟨0, rfl, rfl⟩) ?_
        clear hh
        rintro k _ _ env H hk2 ⟨o2, rfl, rfl⟩ hh
        simp only [puts]
        by_cases hn : k < l.length
        · have e1 : putsL [] (l.take (k + 1)) = putL (putsL [] (l.take k)) (nth l k) := by rw [take_getD hn, putsL_snoc]
          have hpl := putsL_le (l.take k) []
          simp only [List.length_nil, List.length_take] at hpl
          have hput := rput_prog o2 true (putsL [] (l.take k)) (nth l k) (by omega)
          rw [← e1] at hput
          refine walk1 (k := ?_)
          repeat' first | refine And.intro ?_ ?_ | intro
          all_goals refine leaf ?_
          refine c_cond_t (by show V.bool _ = _; simp; omega) ?_
          refine walk1 (k := ?_)
          repeat' first | refine And.intro ?_ ?_ | intro
          all_goals refine leaf ?_
          refine callN (hput) ?_
          rintro v Lo H' ⟨o3, rfl, rfl⟩ hh
          refine walk1 (k := ?_)
          repeat' first | refine And.intro ?_ ?_ | intro
          all_goals refine leaf ?_
          exact Nx.next hn ⟨o3, rfl, rfl⟩
        · have hX : l.take k = l := List.take_of_length_le (by omega)
          rw [hX] at hh ⊢
          have hpl := putsL_le l []
          simp only [List.length_nil] at hpl
          generalize hXX : putsL [] l = X at *
          refine walk1 (k := ?_)
          repeat' first | refine And.intro ?_ ?_ | intro
          all_goals refine leaf ?_
          refine c_cond_f (by show V.bool _ = _; simp; omega) ?_
          refine walk1 (k := ?_)
          repeat' first | refine And.intro ?_ ?_ | intro
          all_goals refine leaf ?_
          by_cases hlt : X.length < l.length
          · rw [if_pos hlt] at hv0
            have hs : loadS st l top = st := if_neg (by rw [hv0]; decide)
            rw [hv0, hs]
            refine c_cond_t (by show V.bool _ = _; simp [hlt]) ?_
            refine walk1 (k := ?_)
            repeat' first | refine And.intro ?_ ?_ | intro
            all_goals refine leaf ?_
            exact done ⟨o, rfl, rfl⟩
          · rw [if_neg hlt] at hv0
            refine c_cond_f (by show V.bool _ = _; simp; omega) ?_
            refine walk1 (k := ?_)
            repeat' first | refine And.intro ?_ ?_ | intro
            all_goals refine leaf ?_
            refine loopN [0, 1, 2, 9, 11] 4 (fun j vs L => (∀ t : Nat, t < j → (cnt X t : Int) ≤ quoI st.most) ∧ (0 < j → l.length ≤ 200) ∧ vs = [.ptr w 0, .slice s 0 l.length 14, .int .i64 top, .slice o2 0 X.length 14, .int .i64 (j : Nat)] ∧ L = EL o2 true X :: EL s b l :: WL w st o)
              (Nx.here ⟨fun t ht => absurd ht (Nat.not_lt_zero t), fun h => absurd h (by decide), rfl, rfl⟩) ?_
            clear hh
            rintro j _ _ env H hj ⟨hqa, hq2, rfl, rfl⟩ hh
            simp only [puts]
            by_cases hj4 : j < 4
            · have hof := rof_prog o2 true X (j : Nat) (by omega)
              have hmo := rmost_prog st.most
              have hnot : ¬ (cnt X (j : Nat) : Int) ≤ quoI st.most → ¬ quoA X (quoI st.most) := fun h k => by
                have h5 : j = 0 ∨ j = 1 ∨ j = 2 ∨ j = 3 := by omega
                rcases h5 with rfl | rfl | rfl | rfl
                · exact h k.1
                · exact h k.2.1
                · exact h k.2.2.1
                · exact h k.2.2.2
              refine walk1 (k := ?_)
              repeat' first | refine And.intro ?_ ?_ | intro
              all_goals refine leaf ?_
              refine c_cond_t (by show V.bool _ = _; simp; omega) ?_
              refine walk1 (k := ?_)
              repeat' first | refine And.intro ?_ ?_ | intro
              all_goals refine leaf ?_
              by_cases h200 : 200 < l.length
              · rw [if_pos (.inl h200)] at hv0
                have hs : loadS st l top = st := if_neg (by rw [hv0]; decide)
                rw [hv0, hs]
                refine wps_slot (s := 82) (v := .bool true) (by show V.bool _ = _; simp; omega) ?_
                refine walk1 (k := ?_)
                repeat' first | refine And.intro ?_ ?_ | intro
                all_goals refine leaf ?_
                exact done ⟨o, rfl, rfl⟩
              · refine wps_slot (s := 82) (v := .bool false) (by show V.bool _ = _; simp; omega) ?_
                refine walk1 (k := ?_)
                repeat' first | refine And.intro ?_ ?_ | intro
                all_goals refine leaf ?_
                refine callN (hof) ?_
                rintro v Lo H' ⟨o3, rfl, rfl⟩ hh
                refine walk1 (k := ?_)
                repeat' first | refine And.intro ?_ ?_ | intro
                all_goals refine leaf ?_
                refine callE (hmo) ?_
                refine walk1 (k := ?_)
                repeat' first | refine And.intro ?_ ?_ | intro
                all_goals refine leaf ?_
                by_cases hq : (cnt X (j : Nat) : Int) ≤ quoI st.most
                · refine c_cond_f (by show V.bool (decide (quoI st.most < (cnt X (j : Nat) : Int))) = _; rw [decide_eq_false (by omega)]) ?_
                  refine walk1 (k := ?_)
                  repeat' first | refine And.intro ?_ ?_ | intro
                  all_goals refine leaf ?_
                  exact Nx.next hj4 ⟨fun t ht => by
                    by_cases htk : t = j
                    · subst htk; exact hq
                    · exact hqa t (by omega), fun _ => by omega, rfl, rfl⟩
                · rw [if_pos (.inr (hnot hq))] at hv0
                  have hs : loadS st l top = st := if_neg (by rw [hv0]; decide)
                  rw [hv0, hs]
                  refine c_cond_t (by show V.bool (decide (quoI st.most < (cnt X (j : Nat) : Int))) = _; rw [decide_eq_true (by omega)]) ?_
                  refine walk1 (k := ?_)
                  repeat' first | refine And.intro ?_ ?_ | intro
                  all_goals refine leaf ?_
                  exact done ⟨o, rfl, rfl⟩
            · have hj5 : j = 4 := by omega
              subst hj5
              have hquo : quoA X (quoI st.most) := ⟨hqa 0 (by decide), hqa 1 (by decide), hqa 2 (by decide), hqa 3 (by decide)⟩
              have h200 := hq2 (by decide)
              rw [if_neg (fun h => h.elim (fun h => by omega) (fun h => h hquo))] at hv0
              have hs : loadS st l top = ⟨st.most, X, top⟩ := by rw [loadS, if_pos hv0, hXX]
              rw [hv0, hs]
              refine walk1 (k := ?_)
              repeat' first | refine And.intro ?_ ?_ | intro
              all_goals refine leaf ?_
              exact done ⟨o2, rfl, rfl⟩
end Go.Proofs.YtjgcgepfidcihaaGreatDoor
