/-
  The law's bounds, and that it is awake.
-/
import Derived.Test.YtelgcaacaolgfaaDoorLeaD
namespace Go.Proofs.YtelgcaacaolgfaaDoor
open Go Go.CM
set_option maxRecDepth 100000
set_option maxHeartbeats 4000000

abbrev smlE (e : Entry) : Prop := e.key.length ≤ 100 ∧ e.print.length ≤ 100 ∧ e.text.length ≤ 100 ∧ e.method.length ≤ 100 ∧ e.path.length ≤ 100 ∧ e.body.length ≤ 100
theorem small18_prog (s : Nat) (b : Bool) (r : Rec) : CallsR Tryd.prog nlaw18_Small [.slice s 0 1 15, .int .i64 1] [(s, .cells b r.enc)] fun v => ∃ c : Bool, v = .bool c ∧ (c = true → smlE r.e) := by
  have hre : r.enc = [r].flatMap Rec.enc := by simp
  rw [hre]
  refine slaw18_Small fun H hh => ?_
  dsimp only [claw18_Small]
  refine walk1 (k := ?_)
  repeat' first | refine And.intro ?_ ?_ | intro
  all_goals refine leaf ?_
  refine loopN [12, 13, 14] 1 (fun i vs L => (i = 1 → smlE r.e) ∧ vs = [.slice s 0 1 15, .int .i64 1, .int .i64 (i : Nat)] ∧ L = [(s, .cells b ([r].flatMap Rec.enc))]) (Nx.here ⟨fun h => absurd h (by decide), rfl, rfl⟩) ?_
  clear hh
  rintro i _ _ e H hi ⟨hall, rfl, rfl⟩ hh
  simp only [puts]
  by_cases hn : i < 1
  · have e0 : i = 0 := by omega
    subst e0
    rw [← hre] at hh
    unfold Rec.enc Entry.enc at hh
    refine walk (k := ?_)
    repeat' first | refine And.intro ?_ ?_ | intro
    all_goals refine leaf ?_
    all_goals first
      | exact doneR ⟨false, rfl, fun h => by cases h⟩
      | skip
    refine Nx.next (N := [(s, .cells b ([r].flatMap Rec.enc))]) (by omega) ⟨fun _ => ?_, rfl, rfl⟩
    omega
  · have e1 : i = 1 := by omega
    subst e1
    refine walk (k := ?_)
    repeat' first | refine And.intro ?_ ?_ | intro
    all_goals refine leaf ?_
    exact doneR ⟨true, rfl, fun _ => hall rfl⟩
structure Deed where
  kind : Int
  own : Bool
  token : Int
  now : Int
  status : Int
  text : List UInt8
  req : Req
  deriving Inhabited, DecidableEq
def Deed.enc (d : Deed) : List V := [.int .u8 d.kind, .bool d.own, .int .i64 d.token, .int .i64 d.now, .int .i64 d.status, .str d.text, .int .i64 d.req.client, .int .i64 d.req.serial, .int .i64 d.req.tenant, .str d.req.key, .str d.req.method, .str d.req.path, .str d.req.body]
abbrev smlD (d : Deed) : Prop := d.text.length ≤ 100 ∧ d.req.key.length ≤ 100 ∧ d.req.method.length ≤ 100 ∧ d.req.path.length ≤ 100 ∧ d.req.body.length ≤ 100
theorem small21_prog (e : Entry) (d : Deed) : CallsR Tryd.prog nlaw21_Small [.agg e.enc, .agg d.enc] [] fun v => ∃ c : Bool, v = .bool c ∧ (c = true → smlE e ∧ smlD d) := by
  unfold Entry.enc Deed.enc
  refine slaw21_Small fun H hh => ?_
  dsimp only [claw21_Small]
  refine walk1 (k := ?_)
  repeat' first | refine And.intro ?_ ?_ | intro
  all_goals refine leaf ?_
  rename_i s _ hh
  have hs := small18_prog s true ⟨0, e⟩
  unfold Rec.enc Entry.enc at hs
  refine callR (hs) ?_
  rintro v ⟨c, rfl, hc⟩
  cases c with
  | false =>
    refine walk1 (k := ?_)
    repeat' first | refine And.intro ?_ ?_ | intro
    all_goals refine leaf ?_
    exact doneR ⟨false, rfl, fun h => by cases h⟩
  | true =>
    have hc := hc rfl
    refine walk (k := ?_)
    repeat' first | refine And.intro ?_ ?_ | intro
    all_goals refine leaf ?_
    all_goals first
      | exact doneR ⟨false, rfl, fun h => by cases h⟩
      | (refine doneR ⟨_, rfl, fun h => ⟨hc, ?_⟩⟩
         have := of_decide_eq_true h
         omega)
theorem conf_prog : CallsR Tryd.prog nlaw21_conf [] [] fun v => v = .agg (Conf.mk 0 3 9 0 0 0).enc := by
  unfold Conf.enc
  refine slaw21_conf fun H hh => ?_
  dsimp only [claw21_conf]
  refine walk1 (k := ?_)
  repeat' first | refine And.intro ?_ ?_ | intro
  all_goals refine leaf ?_
  exact doneR rfl
end Go.Proofs.YtelgcaacaolgfaaDoor
