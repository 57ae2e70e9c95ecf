/-
  The wheel: the document's Add.
-/
import Derived.Test.YtlnidffddidfaaaWheelF
namespace Go.Proofs.Ytlnidffddidfaaa
open Go Go.CM
set_option maxRecDepth 100000
set_option maxHeartbeats 4000000

def insT (d : Tmr) (l : List Tmr) : List Tmr := l.takeWhile (fun e => decide (ltT e d)) ++ d :: l.dropWhile (fun e => decide (ltT e d))
theorem allT_step {q : Tmr → Bool} {l : List Tmr} {i : Nat} (hi : i < l.length) (hall : (l.take i).all q = true) (hq : q (nth l i) = true) : (l.take (i + 1)).all q = true := by
  rw [take_getD hi, List.all_append, hall]; simp only [List.all_cons, List.all_nil, hq]; rfl
theorem raddT_prog (w : Nat) (b : Bool) (l : List Tmr) (n at_ : Int) (hl : l.length ≤ 499) : CallsN Try.prog nref46_Add [.slice w 0 l.length 2, .int .i64 n, .int .i64 at_] [TL w b l] fun v Lo => ∃ o o',
    v = .slice o 0 (insT ⟨n, tm at_⟩ (othersT n l)).length 2 ∧ Lo = [TL o true (insT ⟨n, tm at_⟩ (othersT n l)), TL o' true (othersT n l)] := by
  refine sref46_Add fun H hh => ?_
  dsimp only [cref46_Add]
  refine walk (k := ?_)
  repeat' first | refine And.intro ?_ ?_ | intro
  all_goals refine leaf ?_
  have hle := othersT_le n l
  refine callN (rdropT_prog w b l n (by omega)) ?_
  rintro _ _ H' ⟨o', rfl, rfl⟩ hh
  refine walk1 (k := ?_)
  repeat' first | refine And.intro ?_ ?_ | intro
  all_goals refine leaf ?_
  generalize othersT n l = r at *
  refine callE (rtime_prog at_) ?_
  refine walk1 (k := ?_)
  repeat' first | refine And.intro ?_ ?_ | intro
  all_goals refine leaf ?_
  rename_i did _ _ _ hh
  refine loopN [0, 1, 7, 8] r.length (fun i vs L => (r.take i).all (fun e => decide (ltT e ⟨n, tm at_⟩)) = true ∧ vs = [.slice o' 0 r.length 2, .int .i64 n, .ptr did 0, .int .i64 i] ∧ L = [TL o' true r, (did, .cells true (Tmr.enc ⟨n, tm at_⟩)), TL w b l]) (Nx.here ⟨by simp, rfl, rfl⟩) ?_
  clear hh
  rintro i _ _ e H hi ⟨hall, rfl, rfl⟩ hh
  simp only [puts]
  have hti : (r.take i).length = i := by simp; omega
  by_cases hn : i < r.length
  · skip
    refine walk1 (k := ?_)
    repeat' first | refine And.intro ?_ ?_ | intro
    all_goals refine leaf ?_
    refine wps_gs_d rfl (fun _ => ?_) (fun h => absurd (show (i : Int) < r.length by omega) h)
    refine walk1 (k := ?_)
    repeat' first | refine And.intro ?_ ?_ | intro
    all_goals refine leaf ?_
    by_cases h1 : (nth r i).at_ < tm at_
    · have hlt : ltT (nth r i) ⟨n, tm at_⟩ := ltT_iff.2 (.inl h1)
      refine wps_slot (s := 33) (v := .bool true) (by show V.bool _ = _; simp [h1]) ?_
      refine walk (k := ?_)
      repeat' first | refine And.intro ?_ ?_ | intro
      all_goals refine leaf ?_
      exact Nx.next hn ⟨allT_step hn hall (decide_eq_true hlt), rfl, rfl⟩
    · refine wps_slot (s := 33) (v := .bool false) (by show V.bool _ = _; simp [h1]) ?_
      refine walk1 (k := ?_)
      repeat' first | refine And.intro ?_ ?_ | intro
      all_goals refine leaf ?_
      by_cases h2 : (nth r i).at_ = tm at_
      · refine wps_slot (s := 42) (v := .bool true) (by show V.bool _ = _; simp [h2]) ?_
        by_cases h3 : (nth r i).id < n
        · have hlt : ltT (nth r i) ⟨n, tm at_⟩ := ltT_iff.2 (.inr ⟨h2, h3⟩)
          refine walk1 (k := ?_)
          repeat' first | refine And.intro ?_ ?_ | intro
          all_goals refine leaf ?_
          refine c_cond_t (by show V.bool _ = _; simp [h3]) ?_
          refine walk1 (k := ?_)
          repeat' first | refine And.intro ?_ ?_ | intro
          all_goals refine leaf ?_
          exact Nx.next hn ⟨allT_step hn hall (decide_eq_true hlt), rfl, rfl⟩
        · have hlt : ¬ ltT (nth r i) ⟨n, tm at_⟩ := fun h => by rw [ltT_iff] at h; simp only at h; omega
          refine walk1 (k := ?_)
          repeat' first | refine And.intro ?_ ?_ | intro
          all_goals refine leaf ?_
          refine c_cond_f (by show V.bool _ = _; simp [h3]) ?_
          refine walk1 (k := ?_)
          repeat' first | refine And.intro ?_ ?_ | intro
          all_goals refine leaf ?_
          rename_i lid _ hh
          obtain ⟨w1, w2⟩ := whileT_at (p := fun e => decide (ltT e ⟨n, tm at_⟩)) hi hall (.inr (decide_eq_false hlt))
          refine wps_apppart hh r (l := []) (enc := Tmr.enc) (m := 1) (n := i) (i := 0) (L' := fun o3 => [TL o3 true ([] ++ (r.drop 0).take i), TL o' true r, (did, .cells true (Tmr.enc ⟨n, tm at_⟩)), TL w b l]) rfl rfl (.there .here) (fun _ => rfl) (by omega) (fun o3 => .here1) (by simp; omega) fun o3 _ hh => ?_
          rw [List.nil_append, List.drop_zero] at hh ⊢
          refine wps_slot (s := 59) (v := .slice o3 0 (r.take i).length 2) rfl ?_
          refine walk1 (k := ?_)
          repeat' first | refine And.intro ?_ ?_ | intro
          all_goals refine leaf ?_
          rename_i t2 o4 _ hh
          refine wps_apppart hh r (l := r.take i ++ [⟨n, tm at_⟩]) (enc := Tmr.enc) (m := 1) (n := r.length - i) (i := i) (L' := fun o5 => [TL o5 true (r.take i ++ [⟨n, tm at_⟩] ++ (r.drop i).take (r.length - i)), TL o' true r, (did, .cells true (Tmr.enc ⟨n, tm at_⟩)), TL w b l]) rfl rfl (.there .here) (fun _ => rfl) (by omega) (fun o5 => .here1) (by simp; omega) fun o5 _ hh => ?_
          rw [show r.take i ++ [⟨n, tm at_⟩] ++ (r.drop i).take (r.length - i) = insT ⟨n, tm at_⟩ r by rw [insT, w1, w2, List.take_of_length_le (l := r.drop i) (by simp), List.append_assoc]; rfl] at hh ⊢
          refine walk (k := ?_)
          repeat' first | refine And.intro ?_ ?_ | intro
          all_goals refine leaf ?_
          exact doneN ⟨o5, o', rfl, rfl⟩
      · have hlt : ¬ ltT (nth r i) ⟨n, tm at_⟩ := fun h => by rw [ltT_iff] at h; simp only at h; omega
        refine wps_slot (s := 42) (v := .bool false) (by show V.bool _ = _; simp [h2]) ?_
        refine walk (k := ?_)
        repeat' first | refine And.intro ?_ ?_ | intro
        all_goals refine leaf ?_
        rename_i lid _ hh
        obtain ⟨w1, w2⟩ := whileT_at (p := fun e => decide (ltT e ⟨n, tm at_⟩)) hi hall (.inr (decide_eq_false hlt))
        refine wps_apppart hh r (l := []) (enc := Tmr.enc) (m := 1) (n := i) (i := 0) (L' := fun o3 => [TL o3 true ([] ++ (r.drop 0).take i), TL o' true r, (did, .cells true (Tmr.enc ⟨n, tm at_⟩)), TL w b l]) rfl rfl (.there .here) (fun _ => rfl) (by omega) (fun o3 => .here1) (by simp; omega) fun o3 _ hh => ?_
        rw [List.nil_append, List.drop_zero] at hh ⊢
        refine wps_slot (s := 59) (v := .slice o3 0 (r.take i).length 2) rfl ?_
        refine walk1 (k := ?_)
        repeat' first | refine And.intro ?_ ?_ | intro
        all_goals refine leaf ?_
        rename_i t2 o4 _ hh
        refine wps_apppart hh r (l := r.take i ++ [⟨n, tm at_⟩]) (enc := Tmr.enc) (m := 1) (n := r.length - i) (i := i) (L' := fun o5 => [TL o5 true (r.take i ++ [⟨n, tm at_⟩] ++ (r.drop i).take (r.length - i)), TL o' true r, (did, .cells true (Tmr.enc ⟨n, tm at_⟩)), TL w b l]) rfl rfl (.there .here) (fun _ => rfl) (by omega) (fun o5 => .here1) (by simp; omega) fun o5 _ hh => ?_
        rw [show r.take i ++ [⟨n, tm at_⟩] ++ (r.drop i).take (r.length - i) = insT ⟨n, tm at_⟩ r by rw [insT, w1, w2, List.take_of_length_le (l := r.drop i) (by simp), List.append_assoc]; rfl] at hh ⊢
        refine walk (k := ?_)
        repeat' first | refine And.intro ?_ ?_ | intro
        all_goals refine leaf ?_
        exact doneN ⟨o5, o', rfl, rfl⟩
  · skip
    refine walk1 (k := ?_)
    repeat' first | refine And.intro ?_ ?_ | intro
    all_goals refine leaf ?_
    refine wps_gs_d rfl (fun h => absurd (show (i : Int) < r.length from h) (by omega)) (fun _ => ?_)
    refine walk1 (k := ?_)
    repeat' first | refine And.intro ?_ ?_ | intro
    all_goals refine leaf ?_
    rename_i lid _ hh
    obtain ⟨w1, w2⟩ := whileT_at (p := fun e => decide (ltT e ⟨n, tm at_⟩)) hi hall (.inl (by omega))
    refine wps_apppart hh r (l := []) (enc := Tmr.enc) (m := 1) (n := i) (i := 0) (L' := fun o3 => [TL o3 true ([] ++ (r.drop 0).take i), TL o' true r, (did, .cells true (Tmr.enc ⟨n, tm at_⟩)), TL w b l]) rfl rfl (.there .here) (fun _ => rfl) (by omega) (fun o3 => .here1) (by simp; omega) fun o3 _ hh => ?_
    rw [List.nil_append, List.drop_zero] at hh ⊢
    refine wps_slot (s := 59) (v := .slice o3 0 (r.take i).length 2) rfl ?_
    refine walk1 (k := ?_)
    repeat' first | refine And.intro ?_ ?_ | intro
    all_goals refine leaf ?_
    rename_i t2 o4 _ hh
    refine wps_apppart hh r (l := r.take i ++ [⟨n, tm at_⟩]) (enc := Tmr.enc) (m := 1) (n := r.length - i) (i := i) (L' := fun o5 => [TL o5 true (r.take i ++ [⟨n, tm at_⟩] ++ (r.drop i).take (r.length - i)), TL o' true r, (did, .cells true (Tmr.enc ⟨n, tm at_⟩)), TL w b l]) rfl rfl (.there .here) (fun _ => rfl) (by omega) (fun o5 => .here1) (by simp; omega) fun o5 _ hh => ?_
    rw [show r.take i ++ [⟨n, tm at_⟩] ++ (r.drop i).take (r.length - i) = insT ⟨n, tm at_⟩ r by rw [insT, w1, w2, List.take_of_length_le (l := r.drop i) (by simp), List.append_assoc]; rfl] at hh ⊢
    refine walk (k := ?_)
    repeat' first | refine And.intro ?_ ?_ | intro
    all_goals refine leaf ?_
    exact doneN ⟨o5, o', rfl, rfl⟩
end Go.Proofs.Ytlnidffddidfaaa
