/-
  The statement WheelSteps: by ticks of whatever steps the same timers come.
-/
import Derived.Test.YtlnidffddidfaaaWheelO
namespace Go.Proofs.Ytlnidffddidfaaa
open Go Go.CM
set_option maxRecDepth 100000
set_option maxHeartbeats 4000000

theorem Wl.now_le {w now : Nat} {l : List Tmr} {L : List Ob} (h : Wl w now l L) : now ≤ 1099511627776 := by
  obtain ⟨mi, mb, ins, bys, _, hw, _, _⟩ := h
  exact hw.now
theorem dueT_app {n : Int} {a b : List Tmr} (h : ∀ x ∈ a, x.at_ ≤ n) : dueT n (a ++ b) = a ++ dueT n b :=
  List.takeWhile_append_of_pos fun x hx => decide_eq_true (h x hx)
theorem dueT_mem {n : Int} {l : List Tmr} {x : Tmr} (h : x ∈ dueT n l) : x.at_ ≤ n := by
  have := List.all_takeWhile (p := fun e : Tmr => decide (e.at_ ≤ n)) (l := l)
  simpa using List.all_eq_true.1 this x h
theorem due_take {n : Int} (l : List Tmr) : dueT n l ++ l.drop (dueT n l).length = l := by
  have h4 : l.dropWhile (fun e => decide (e.at_ ≤ n)) = l.drop (dueT n l).length := by
    have : l.drop (dueT n l).length = (dueT n l ++ l.dropWhile fun e => decide (e.at_ ≤ n)).drop (dueT n l).length := by rw [List.takeWhile_append_dropWhile]
    rw [this, List.drop_left]
  rw [← h4]; exact List.takeWhile_append_dropWhile
theorem steps_prog (t s : Nat) (b c : Bool) (l : List Deed) (times : List Int) : CallsR Try.prog nlaw46_WheelSteps [.slice t 0 l.length 3, .slice s 0 times.length 1] [DL t b l, IL s c times] fun v => v = .bool true := by
  refine slaw46_WheelSteps fun H hh => ?_
  dsimp only [claw46_WheelSteps]
  refine walk (k := ?_)
  repeat' first | refine And.intro ?_ ?_ | intro
  all_goals refine leaf ?_
  refine callE (awake_prog) ?_
  refine walk1 (k := ?_)
  repeat' first | refine And.intro ?_ ?_ | intro
  all_goals refine leaf ?_
  by_cases hl : 40 < l.length
  · refine wps_slot (s := 18) (v := .bool true) (by show V.bool _ = _; simp; omega) ?_
    refine walk1 (k := ?_)
    repeat' first | refine And.intro ?_ ?_ | intro
    all_goals refine leaf ?_
    exact doneR rfl
  refine wps_slot (s := 18) (v := .bool false) (by show V.bool _ = _; simp; omega) ?_
  refine walk1 (k := ?_)
  repeat' first | refine And.intro ?_ ?_ | intro
  all_goals refine leaf ?_
  by_cases hs : 20 < times.length
  · refine c_cond_t (by show V.bool _ = _; simp; omega) ?_
    refine walk1 (k := ?_)
    repeat' first | refine And.intro ?_ ?_ | intro
    all_goals refine leaf ?_
    exact doneR rfl
  refine c_cond_f (by show V.bool _ = _; simp; omega) ?_
  refine walk1 (k := ?_)
  repeat' first | refine And.intro ?_ ?_ | intro
  all_goals refine leaf ?_
  refine callL (new_prog 0) ?_
  rintro _ _ H' ⟨La, ⟨x, rfl, ha⟩, rfl⟩ hh
  rw [List.append_nil] at hh
  refine walk1 (k := ?_)
  repeat' first | refine And.intro ?_ ?_ | intro
  all_goals refine leaf ?_
  refine callL (new_prog 0) ?_
  rintro _ _ H' ⟨Lb, ⟨y, rfl, hb⟩, rfl⟩ hh
  rw [List.append_nil] at hh
  refine walk1 (k := ?_)
  repeat' first | refine And.intro ?_ ?_ | intro
  all_goals refine leaf ?_
  refine loopN [0, 1, 5, 6, 25, 26, 27] l.length (fun i vs L => ∃ want La Lb, Wl x 0 want La ∧ Wl y 0 want Lb ∧ want.length ≤ i ∧ vs = [.slice t 0 l.length 3, .slice s 0 times.length 1, .ptr x 0, .ptr y 0, .slice t 0 l.length 3, .int .i64 l.length, .int .i64 i] ∧ L = DL t b l :: IL s c times :: (La ++ Lb)) (Nx.here ⟨[], La, Lb, ha, hb, Nat.le_refl _, rfl, rfl⟩) ?_
  clear hh ha hb
  rintro i _ _ e H hi ⟨want, La, Lb, ha, hb, hwl, rfl, rfl⟩ hh
  simp only [puts]
  by_cases hn : i < l.length
  · skip
    refine walk1 (k := ?_)
    repeat' first | refine And.intro ?_ ?_ | intro
    all_goals refine leaf ?_
    refine c_cond_t (by show V.bool _ = _; simp; omega) ?_
    refine walk1 (k := ?_)
    repeat' first | refine And.intro ?_ ?_ | intro
    all_goals refine leaf ?_
    refine callL (add_prog x 0 want La (nth l i).id (nth l i).at_ ha (by omega)) ?_
    rintro _ La2 H3 ⟨rfl, ha2⟩ hh
    refine walk1 (k := ?_)
    repeat' first | refine And.intro ?_ ?_ | intro
    all_goals refine leaf ?_
    refine callL (add_prog y 0 want Lb (nth l i).id (nth l i).at_ hb (by omega)) ?_
    rintro _ Lb2 H3 ⟨rfl, hb2⟩ hh
    have hil := insT_length ⟨(nth l i).id, tm (nth l i).at_⟩ (othersT (nth l i).id want)
    have hle := othersT_le (nth l i).id want
    refine walk1 (k := ?_)
    repeat' first | refine And.intro ?_ ?_ | intro
    all_goals refine leaf ?_
    exact Nx.next hn ⟨_, La2, Lb2, ha2, hb2, by omega, rfl, rfl⟩
  refine walk1 (k := ?_)
  repeat' first | refine And.intro ?_ ?_ | intro
  all_goals refine leaf ?_
  refine c_cond_f (by show V.bool _ = _; simp; omega) ?_
  refine walk1 (k := ?_)
  repeat' first | refine And.intro ?_ ?_ | intro
  all_goals refine leaf ?_
  refine loopN [0, 1, 5, 6, 9, 10, 44, 45, 46] times.length (fun i vs L => ∃ n got rest o La, want = got ++ rest ∧ Wl x n rest La ∧ (∀ z ∈ got, z.at_ ≤ (n : Nat)) ∧ (i = 0 → got = []) ∧ (i ≠ 0 → got = dueT (n : Nat) want) ∧
    vs = [.slice t 0 l.length 3, .slice s 0 times.length 1, .ptr x 0, .ptr y 0, .slice o 0 (got.map Tmr.id).length 1, .int .i64 (n : Nat), .slice s 0 times.length 1, .int .i64 times.length, .int .i64 i] ∧ L = DL t b l :: IL s c times :: IL o true (got.map Tmr.id) :: (La ++ Lb))
    (Nx.hereW [_, _, _, _, .slice 0 0 0 1, _, _, _, _] ⟨0, [], want, 0, La, rfl, ha, by simp, fun _ => rfl, fun h => absurd rfl h, rfl, rfl⟩) ?_
  clear hh ha
  rintro k _ _ e H hk ⟨n, got, rest, o, La, hgr, ha, hgot, h0, h1, rfl, rfl⟩ hh
  simp only [puts]
  have hlen : got.length + rest.length = want.length := by rw [hgr, List.length_append]
  have hno := hi
  by_cases hn : k < times.length
  · skip
    refine walk1 (k := ?_)
    repeat' first | refine And.intro ?_ ?_ | intro
    all_goals refine leaf ?_
    refine c_cond_t (by show V.bool _ = _; simp; omega) ?_
    refine walk1 (k := ?_)
    repeat' first | refine And.intro ?_ ?_ | intro
    all_goals refine leaf ?_
    have hrt := rtime_prog (nth times k)
    have htk := tick_prog x n rest La (nth times k) ha
    have htn := tm_nat (nth times k)
    generalize (tm (nth times k)).toNat = T at *
    rw [htn.1] at hrt
    refine callL (htk) ?_
    rintro _ _ H4 ⟨ow, La2, rfl, rfl, ha2⟩ hh
    have hdl := dueT_le ((max n T : Nat) : Int) rest
    have hdt := due_take (n := ((max n T : Nat) : Int)) rest
    have hda : dueT ((max n T : Nat) : Int) (got ++ rest) = got ++ dueT ((max n T : Nat) : Int) rest := dueT_app fun z hz => by have := hgot z hz; omega
    have hmem : ∀ z ∈ dueT ((max n T : Nat) : Int) rest, z.at_ ≤ ((max n T : Nat) : Int) := fun z hz => dueT_mem hz
    generalize hdu : dueT ((max n T : Nat) : Int) rest = du at *
    refine wps_approw hh (du.map Tmr.id) (l := got.map Tmr.id) (enc := intC) (m := 0) rfl rfl .here (fun _ => rfl) (fun id' => .there (.skip (.there (.there .here1)))) (by simp; omega) fun id' H' hh => ?_
    rw [← List.map_append] at hh ⊢
    refine walk1 (k := ?_)
    repeat' first | refine And.intro ?_ ?_ | intro
    all_goals refine leaf ?_
    refine callE hrt ?_
    refine wps_rd (v := .int .i64 ((max n T : Nat) : Int)) (by show some (V.int _ (if _ then _ else _)) = _; congr 2; split <;> omega) ?_
    refine walk1 (k := ?_)
    repeat' first | refine And.intro ?_ ?_ | intro
    all_goals refine leaf ?_
    refine Nx.next hn ⟨max n T, got ++ du, rest.drop du.length, id', La2, ?_, ha2, fun z hz => ?_, fun h => absurd h (by omega), fun _ => ?_, rfl, rfl⟩
    · rw [List.append_assoc, hdt, hgr]
    · rcases List.mem_append.1 hz with hz | hz
      · have := hgot z hz; omega
      · exact hmem z hz
    · rw [hgr, hda]
  · skip
    refine walk1 (k := ?_)
    repeat' first | refine And.intro ?_ ?_ | intro
    all_goals refine leaf ?_
    refine c_cond_f (by show V.bool _ = _; simp; omega) ?_
    refine walk1 (k := ?_)
    repeat' first | refine And.intro ?_ ?_ | intro
    all_goals refine leaf ?_
    have hkt : k = times.length := by omega
    by_cases hz : times.length = 0
    · refine c_cond_t (by show V.bool _ = _; simp [hz]) ?_
      have hg0 := h0 (by omega)
      subst hg0
      rw [List.nil_append] at hgr
      subst hgr
      refine walk1 (k := ?_)
      repeat' first | refine And.intro ?_ ?_ | intro
      all_goals refine leaf ?_
      refine callE (len_prog x n want La ha) ?_
      refine walk1 (k := ?_)
      repeat' first | refine And.intro ?_ ?_ | intro
      all_goals refine leaf ?_
      refine callE (len_prog y 0 want Lb hb) ?_
      refine walk1 (k := ?_)
      repeat' first | refine And.intro ?_ ?_ | intro
      all_goals refine leaf ?_
      exact doneR (by simp)
    · refine c_cond_f (by show V.bool ((times.length : Int) == 0) = _; rw [beq_eq_false_iff_ne.2 (by omega)]) ?_
      have hgd := h1 (by omega)
      have hnl := ha.now_le
      have htk := tick_prog y 0 want Lb (n : Nat) hb
      have htm : (tm (n : Nat)).toNat = n := by unfold tm tmax; rw [if_neg (by omega)]; split <;> omega
      rw [htm, Nat.zero_max, ← hgd] at htk
      have hrest : want.drop got.length = rest := by rw [hgr, List.drop_left]
      rw [hrest] at htk
      refine walk1 (k := ?_)
      repeat' first | refine And.intro ?_ ?_ | intro
      all_goals refine leaf ?_
      refine callL (htk) ?_
      rintro _ _ H4 ⟨ow, Lb2, rfl, rfl, hb2⟩ hh
      refine walk1 (k := ?_)
      repeat' first | refine And.intro ?_ ?_ | intro
      all_goals refine leaf ?_
      have hsm := rsameT_prog ow o true true (got.map Tmr.id) (got.map Tmr.id) (by simp; omega)
      refine callE (hsm) ?_
      refine walk1 (k := ?_)
      repeat' first | refine And.intro ?_ ?_ | intro
      all_goals refine leaf ?_
      refine wps_slot (s := 73) (v := .bool true) (by show V.bool _ = _; simp) ?_
      refine walk1 (k := ?_)
      repeat' first | refine And.intro ?_ ?_ | intro
      all_goals refine leaf ?_
      refine callE (len_prog x n rest La ha) ?_
      refine walk1 (k := ?_)
      repeat' first | refine And.intro ?_ ?_ | intro
      all_goals refine leaf ?_
      refine callE (len_prog y n rest Lb2 hb2) ?_
      refine walk1 (k := ?_)
      repeat' first | refine And.intro ?_ ?_ | intro
      all_goals refine leaf ?_
      refine wps_slot (s := 80) (v := .bool true) (by show V.bool _ = _; simp) ?_
      refine walk1 (k := ?_)
      repeat' first | refine And.intro ?_ ?_ | intro
      all_goals refine leaf ?_
      refine callE (now_prog x n rest La ha) ?_
      refine walk1 (k := ?_)
      repeat' first | refine And.intro ?_ ?_ | intro
      all_goals refine leaf ?_
      refine callE (now_prog y n rest Lb2 hb2) ?_
      refine walk1 (k := ?_)
      repeat' first | refine And.intro ?_ ?_ | intro
      all_goals refine leaf ?_
      exact doneR (by simp)
theorem walkWheelSteps (vs : List V) (H : Heap) (hg : Givens H 1 [.rows [.i .u8, .i .i64, .i .i64], .rows [.i .i64]] vs) (_ : ∀ id o, H id = some o → o.rw = false) : CallsC Try.prog nlaw46_WheelSteps vs H fun v _ => v = .bool true := by
  obtain ⟨_, vs, rfl, ⟨rs, hf, hlen, hr⟩, hg2⟩ := hg.cons
  obtain ⟨_, vs, rfl, ⟨rs2, hf2, hlen2, hr2⟩, hg3⟩ := hg2.cons
  obtain rfl := hg3.nil
  obtain ⟨ds, rfl⟩ := rowsOf Deed.enc (fun r hr => deedOf (hf r hr))
  obtain ⟨ns, rfl⟩ := rowsOf intC (fun r hr => by obtain ⟨_, _, rfl, ⟨a, rfl, _⟩, h1⟩ := (hf2 r hr).cons; obtain rfl := h1.nil; exact ⟨a, rfl⟩)
  obtain ⟨t, rfl, ht1, ht⟩ := givenRowsA hr
  obtain ⟨s, rfl, hs1, hs⟩ := givenRowsA hr2
  have hh := ht _ (hs [] (Has.nil H) (by simp)) (by simp; omega)
  exact (CallsR.reads (R := []) (steps_prog t s false false ds ns) hh).mono fun _ _ h => h.1
end Go.Proofs.Ytlnidffddidfaaa
