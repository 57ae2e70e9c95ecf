/-
  The wheel: the least of a row; the wheel's places and numbers.
-/
import Derived.Test.YtlnidffddidfaaaWheelH
import Derived.Test.YtlnidffddidfaaaWheelP
namespace Go.Proofs.Ytlnidffddidfaaa
open Go Go.CM
set_option maxRecDepth 100000
set_option maxHeartbeats 4000000

theorem cmpI_neg (a b : Int) : cmpI a b < 0 ↔ a < b := by
  unfold cmpI
  repeat' split
  all_goals omega
theorem min_prog (s : Nat) (b : Bool) (l : List Tmr) (hl : l.length ≤ 1000) (h0 : l ≠ []) : CallsR Try.prog nslices_MinFunc_wheel_timer [.slice s 0 l.length 2, .func nwheel_least_1 []] [TL s b l] fun v => ∃ e ∈ l, v = .agg e.enc ∧ ∀ x ∈ l, e.at_ ≤ x.at_ := by
  refine sslices_MinFunc_wheel_timer fun H hh => ?_
  dsimp only [cslices_MinFunc_wheel_timer]
  refine walk (k := ?_)
  repeat' first | refine And.intro ?_ ?_ | intro
  all_goals refine leaf ?_
  · exfalso
    have := List.length_pos_iff.2 h0
    omega
  have hp := List.length_pos_iff.2 h0
  refine walk1 (k := ?_)
  repeat' first | refine And.intro ?_ ?_ | intro
  all_goals refine leaf ?_
  rename_i r4 _ _ _ m _ _ _ hh
  refine loopN [0, 1, 4, 5, 6] (l.length - 1) (fun i vs L => ∃ e ∈ l, (∀ x ∈ l.take (i + 1), e.at_ ≤ x.at_) ∧ vs = [.slice s 0 l.length 2, .func nwheel_least_1 [], .ptr r4 0, .ptr m 0, .int .i64 ((i + 1 : Nat) : Int)] ∧ L = [(m, .cells true e.enc), (r4, .cells true [.int .i64 0, .int .i64 0]), TL s b l])
    (Nx.here ⟨nth l 0, nth_mem hp, fun x hx => by rw [take_getD hp] at hx; simp at hx; rw [hx]; exact Int.le_refl _, rfl, rfl⟩) ?_
  clear hh
  rintro i _ _ e H hi ⟨x, hx, hmin, rfl, rfl⟩ hh
  simp only [puts]
  by_cases hn : i + 1 < l.length
  · skip
    refine walk1 (k := ?_)
    repeat' first | refine And.intro ?_ ?_ | intro
    all_goals refine leaf ?_
    refine c_cond_t (by show V.bool _ = _; simp; omega) ?_
    refine walk1 (k := ?_)
    repeat' first | refine And.intro ?_ ?_ | intro
    all_goals refine leaf ?_
    refine vcallE (least1_prog (nth l (i + 1)) x) ?_
    have hst : ∀ y : Tmr, y.at_ ≤ (nth l (i + 1)).at_ → (∀ z ∈ l.take (i + 1), y.at_ ≤ z.at_) → ∀ z ∈ l.take (i + 1 + 1), y.at_ ≤ z.at_ := fun y h1 h2 z hz => by
      rw [take_getD hn] at hz
      rcases List.mem_append.1 hz with hz | hz
      · exact h2 z hz
      · simp at hz; subst hz; exact h1
    by_cases hc : cmpI (nth l (i + 1)).at_ x.at_ < 0
    · skip
      refine walk1 (k := ?_)
      repeat' first | refine And.intro ?_ ?_ | intro
      all_goals refine leaf ?_
      refine c_cond_t (by show V.bool _ = _; simp [hc]) ?_
      refine walk1 (k := ?_)
      repeat' first | refine And.intro ?_ ?_ | intro
      all_goals refine leaf ?_
      have hc' := (cmpI_neg _ _).1 hc
      exact Nx.next (by omega) ⟨nth l (i + 1), nth_mem hn, hst _ (Int.le_refl _) fun z hz => by have := hmin z hz; omega, rfl, rfl⟩
    · skip
      refine walk1 (k := ?_)
      repeat' first | refine And.intro ?_ ?_ | intro
      all_goals refine leaf ?_
      refine c_cond_f (by show V.bool _ = _; simp; omega) ?_
      refine walk1 (k := ?_)
      repeat' first | refine And.intro ?_ ?_ | intro
      all_goals refine leaf ?_
      have hc' : ¬ _ := fun h => hc ((cmpI_neg _ _).2 h)
      exact Nx.next (by omega) ⟨x, hx, hst _ (by omega) hmin, rfl, rfl⟩
  · skip
    refine walk1 (k := ?_)
    repeat' first | refine And.intro ?_ ?_ | intro
    all_goals refine leaf ?_
    refine c_cond_f (by show V.bool _ = _; simp; omega) ?_
    refine walk1 (k := ?_)
    repeat' first | refine And.intro ?_ ?_ | intro
    all_goals refine leaf ?_
    rw [List.take_of_length_le (by omega)] at hmin
    exact doneR ⟨x, hx, rfl, hmin⟩
theorem least_prog (s : Nat) (b : Bool) (l : List Tmr) (hl : l.length ≤ 1000) (h0 : l ≠ []) : CallsR Try.prog nwheel_least [.slice s 0 l.length 2] [TL s b l] fun v => ∃ e ∈ l, v = .int .i64 e.at_ ∧ ∀ x ∈ l, e.at_ ≤ x.at_ := by
  refine swheel_least fun H hh => ?_
  dsimp only [cwheel_least]
  refine walk (k := ?_)
  repeat' first | refine And.intro ?_ ?_ | intro
  all_goals refine leaf ?_
  refine callR (min_prog s b l hl h0) ?_
  rintro _ ⟨e, he, rfl, hm⟩
  refine walk1 (k := ?_)
  repeat' first | refine And.intro ?_ ?_ | intro
  all_goals refine leaf ?_
  exact doneR ⟨e, he, rfl, hm⟩

/-- A place and its row. -/
structure Ent where
  p : Nat × Nat
  s : Nat
  row : List Tmr
  deriving Inhabited
def entV (e : Ent) : V × V := (.agg (plC e.p), .slice e.s 0 e.row.length 2)
def byV (t : Tmr) : V × V := (.int .i64 t.id, .agg t.enc)
abbrev kp : KT := (true, [.i, .i])
abbrev ki : KT := (false, [.i])
abbrev rowsO (ins : List Ent) : List Ob := ins.map fun e => TL e.s true e.row
abbrev IO (mi : Nat) (ins : List Ent) : Ob := (mi, .map (ins.map entV))
abbrev BO (mb : Nat) (bys : List Tmr) : Ob := (mb, .map (bys.map byV))
def isP (p : Nat × Nat) (e : Ent) : Bool := ((p.1 : Int) == (e.p.1 : Int)) && (((p.2 : Int) == (e.p.2 : Int)) && true)
theorem isP_iff {p : Nat × Nat} {e : Ent} : isP p e = true ↔ e.p = p := by
  obtain ⟨a, b⟩ := p
  obtain ⟨⟨c, d⟩, s, r⟩ := e
  simp only [isP, Bool.and_eq_true, beq_iff_eq, Bool.and_true, Prod.mk.injEq]
  omega
def isI (n : Int) (t : Tmr) : Bool := (n == t.id) && true
theorem isI_iff {n : Int} {t : Tmr} : isI n t = true ↔ t.id = n := by
  simp only [isI, Bool.and_true, beq_iff_eq]; exact eq_comm
theorem find_in (p : Nat × Nat) : ∀ ins : List Ent, findI kp (.agg (plC p)) (ins.map entV) = some (ins.findIdx? (isP p))
  | [] => rfl
  | x :: ms => by
    have ih := find_in p ms
    simp only [List.map_cons, findI, List.findIdx?_cons]
    have e : eqKey kp (.agg (plC p)) (entV x).1 = some (isP p x) := rfl
    rw [e]
    cases h : isP p x with
    | true => rfl
    | false =>
      rw [ih]
      cases ms.findIdx? (isP p) <;> rfl
theorem find_by (n : Int) : ∀ bys : List Tmr, findI ki (.int .i64 n) (bys.map byV) = some (bys.findIdx? (isI n))
  | [] => rfl
  | x :: ms => by
    have ih := find_by n ms
    simp only [List.map_cons, findI, List.findIdx?_cons]
    have e : eqKey ki (.int .i64 n) (byV x).1 = some (isI n x) := rfl
    rw [e]
    cases h : isI n x with
    | true => rfl
    | false =>
      rw [ih]
      cases ms.findIdx? (isI n) <;> rfl
/-- Where a place stands, or nowhere. -/
theorem find_cases {α : Type} [Inhabited α] (q : α → Bool) (l : List α) : (l.findIdx? q = none ∧ ∀ e ∈ l, q e = false) ∨ ∃ i, i < l.length ∧ l.findIdx? q = some i ∧ q (nth l i) = true := by
  rcases hf : l.findIdx? q with _ | i
  · exact .inl ⟨rfl, fun e he => by simpa using List.findIdx?_eq_none_iff.1 hf e he⟩
  · obtain ⟨h1, h2, _⟩ := List.findIdx?_eq_some_iff_getElem.1 hf
    exact .inr ⟨i, h1, rfl, by rw [nth_getElem h1]; exact h2⟩
end Go.Proofs.Ytlnidffddidfaaa
