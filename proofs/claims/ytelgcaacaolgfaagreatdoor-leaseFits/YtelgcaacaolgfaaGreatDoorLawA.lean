/-
  Texts joined: The law's bounds, and that it is awake. The law is awake.
-/
import Derived.Test.YtelgcaacaolgfaaGreatDoorLeaC
namespace Go.Proofs.YtelgcaacaolgfaaGreatDoor
open Go Go.CM
set_option maxRecDepth 100000
set_option maxHeartbeats 4000000

abbrev smlE (e : Entry) : Prop := e.key.length ≤ 100 ∧ e.print.length ≤ 100 ∧ e.text.length ≤ 100 ∧ e.method.length ≤ 100 ∧ e.path.length ≤ 100 ∧ e.body.length ≤ 100
theorem small18_prog (s : Nat) (b : Bool) (r : Rec) : CallsR Tryz.prog nlaw18_Small [.slice s 0 1 15, .int .i64 1] [(s, .cells b r.enc)] fun v => ∃ c : Bool, v = .bool c ∧ (c = true → smlE r.e) := by
  have hre : r.enc = [r].flatMap Rec.enc := by simp
  rw [hre]
  refine slaw18_Small fun H hh => ?_
  dsimp only [claw18_Small]
  refine walk1 (k := ?_)
  repeat' first | refine And.intro ?_ ?_ | intro
  all_goals refine leaf ?_
  refine loopN [12, 13, 14] 1 (fun i vs L => (i = 1 → smlE r.e) ∧ vs = [.slice s 0 1 15, .int .i64 1, .int .i64 (i : Nat)] ∧ L = [(s, .cells b ([r].flatMap Rec.enc))]) (Nx.here ⟨fun h => absurd h (by decide), rfl, rfl⟩) ?_
  clear hh
  rintro i _ _ e H hi ⟨hall, rfl, rfl⟩ hh
  simp only [puts]
  by_cases hn : i < 1
  · have e0 : i = 0 := by omega
    subst e0
    rw [← hre] at hh
    unfold Rec.enc Entry.enc at hh
    refine walk (k := ?_)
    repeat' first | refine And.intro ?_ ?_ | intro
    all_goals refine leaf ?_
    all_goals first
      | exact doneR ⟨false, rfl, fun h => by cases h⟩
      | skip
    refine Nx.next (N := [(s, .cells b ([r].flatMap Rec.enc))]) (by omega) ⟨fun _ => ?_, rfl, rfl⟩
    omega
  · have e1 : i = 1 := by omega
    subst e1
    refine walk (k := ?_)
    repeat' first | refine And.intro ?_ ?_ | intro
    all_goals refine leaf ?_
    exact doneR ⟨true, rfl, fun _ => hall rfl⟩
structure Deed where
  kind : Int
  own : Bool
  token : Int
  now : Int
  status : Int
  text : List UInt8
  req : Req
  deriving Inhabited, DecidableEq
def Deed.enc (d : Deed) : List V := [.int .u8 d.kind, .bool d.own, .int .i64 d.token, .int .i64 d.now, .int .i64 d.status, .str d.text, .int .i64 d.req.client, .int .i64 d.req.serial, .int .i64 d.req.tenant, .str d.req.key, .str d.req.method, .str d.req.path, .str d.req.body]
abbrev smlD (d : Deed) : Prop := d.text.length ≤ 100 ∧ d.req.key.length ≤ 100 ∧ d.req.method.length ≤ 100 ∧ d.req.path.length ≤ 100 ∧ d.req.body.length ≤ 100
theorem small21_prog (e : Entry) (d : Deed) : CallsR Tryz.prog nlaw21_Small [.agg e.enc, .agg d.enc] [] fun v => ∃ c : Bool, v = .bool c ∧ (c = true → smlE e ∧ smlD d) := by
  unfold Entry.enc Deed.enc
  refine slaw21_Small fun H hh => ?_
  dsimp only [claw21_Small]
  refine walk1 (k := ?_)
  repeat' first | refine And.intro ?_ ?_ | intro
  all_goals refine leaf ?_
  rename_i s _ hh
  have hs := small18_prog s true ⟨0, e⟩
  unfold Rec.enc Entry.enc at hs
  refine callR (hs) ?_
  rintro v ⟨c, rfl, hc⟩
  cases c with
  | false =>
    refine walk1 (k := ?_)
    repeat' first | refine And.intro ?_ ?_ | intro
    all_goals refine leaf ?_
    exact doneR ⟨false, rfl, fun h => by cases h⟩
  | true =>
    have hc := hc rfl
    refine walk (k := ?_)
    repeat' first | refine And.intro ?_ ?_ | intro
    all_goals refine leaf ?_
    all_goals first
      | exact doneR ⟨false, rfl, fun h => by cases h⟩
      | (refine doneR ⟨_, rfl, fun h => ⟨hc, ?_⟩⟩
         have := of_decide_eq_true h
         omega)
theorem conf_prog : CallsR Tryz.prog nlaw21_conf [] [] fun v => v = .agg (Conf.mk 0 3 9 0 0 0).enc := by
  unfold Conf.enc
  refine slaw21_conf fun H hh => ?_
  dsimp only [claw21_conf]
  refine walk1 (k := ?_)
  repeat' first | refine And.intro ?_ ?_ | intro
  all_goals refine leaf ?_
  exact doneR rfl
end Go.Proofs.YtelgcaacaolgfaaGreatDoor

namespace Go.Proofs.YtelgcaacaolgfaaGreatDoor
open Go Go.CM
set_option maxRecDepth 100000
set_option maxHeartbeats 4000000

def rA : Req := ⟨0, 0, 0, [107], [103, 101, 116], [47, 97], []⟩
def xA : Req := ⟨0, 0, 0, [107], [71, 69, 84], [47, 97], []⟩
def cA : Conf := ⟨0, 3, 9, 0, 0, 0⟩
def eA (p : List UInt8) : Entry := ⟨0, [107], 1, 7, 1, 0, p, 13, 19, 0, [], [71, 69, 84], [47, 97], []⟩
def bA (p : List UInt8) : Entry := ⟨0, [107], 1, 7, 2, 0, p, 16, 19, 0, [], [71, 69, 84], [47, 97], []⟩
def fA (p : List UInt8) : Entry := ⟨0, [107], 2, 7, 2, 0, p, 0, 23, 200, [111, 107], [], [], []⟩
theorem sgs_one {c : UInt8} (h : c.toNat < 128) : (sgs [c] 0).map (·.1) = [c.toNat] := by
  have hf : firstS [c] = (c.toNat, 1) := by
    unfold firstS
    exact if_pos h
  rw [sgs_lt (by simp), List.drop_zero, hf]
  show _ :: List.map _ (sgs [c] (0 + 1)) = _
  rw [sgs_ge (by simp)]
  rfl
theorem part_nil : partL [] = some [] := by rw [partL, readP_end (by simp)]; rfl
theorem part_a : partL [97] = some [97] := by
  have hr : readP [97] 0 = some [97] := by rw [readP_at (by simp) (by decide), readP_end (by simp)]; rfl
  rw [partL, hr]
  refine if_pos (.inr ⟨by decide, ?_⟩)
  rw [sgs_one (by decide)]
  decide
theorem path_A : pathL [47, 97] = some [47, 97] := by
  have hs : splitL [47, 97] = [[], [97]] := by decide
  have hp : partsL [] [[], [97]] = some [[97]] := by
    rw [partsL_skip part_nil (.inl rfl), partsL_put part_a (by decide) (by decide) (by decide)]
    rfl
  unfold pathL
  rw [if_neg (by decide), hs, hp]
  decide
theorem key_A : keyOK [107] := by
  refine ⟨by decide, ?_⟩
  rw [sgs_one (by decide)]
  decide
theorem reqN_A : reqN rA = some xA := reqN_ok path_A ⟨by decide, by decide, key_A, by decide⟩
theorem beg_A : begL rA 7 10 cA = (eA (prtL [71, 69, 84] [47, 97] []), 0) := by
  rw [begL, reqN_A]
  rfl
theorem may_A {p : List UInt8} (hp : p.length = 32) : canP (eA p) := ⟨rfl, ⟨⟨of_decide_eq_true rfl, of_decide_eq_true rfl, key_A⟩, of_decide_eq_true rfl, of_decide_eq_true rfl, of_decide_eq_true rfl, hp, of_decide_eq_true rfl, of_decide_eq_true rfl⟩, .inl ⟨rfl, ⟨rfl, rfl⟩, ⟨of_decide_eq_true rfl, of_decide_eq_true rfl⟩, path_A, of_decide_eq_true rfl⟩⟩
theorem may_B {p : List UInt8} (hp : p.length = 32) : canP (bA p) := ⟨rfl, ⟨⟨of_decide_eq_true rfl, of_decide_eq_true rfl, key_A⟩, of_decide_eq_true rfl, of_decide_eq_true rfl, of_decide_eq_true rfl, hp, of_decide_eq_true rfl, of_decide_eq_true rfl⟩, .inl ⟨rfl, ⟨rfl, rfl⟩, ⟨of_decide_eq_true rfl, of_decide_eq_true rfl⟩, path_A, of_decide_eq_true rfl⟩⟩
theorem may_F {p : List UInt8} (hp : p.length = 32) : mayP (fA p) := ⟨⟨⟨of_decide_eq_true rfl, of_decide_eq_true rfl, key_A⟩, of_decide_eq_true rfl, of_decide_eq_true rfl, of_decide_eq_true rfl, hp, of_decide_eq_true rfl, of_decide_eq_true rfl⟩, .inr (.inl ⟨rfl, ⟨rfl, rfl⟩, of_decide_eq_true rfl, of_decide_eq_true rfl⟩)⟩
theorem take_A1 {p : List UInt8} (hp : p.length = 32) : takeL (eA p) 12 cA = (Entry.zero, 8) := by
  rw [takeL, if_neg (fun h => h (may_A hp)), if_pos ⟨rfl, of_decide_eq_true rfl⟩]
theorem take_A2 {p : List UInt8} (hp : p.length = 32) : takeL (eA p) 13 cA = (bA p, 0) := by
  rw [takeL, if_neg (fun h => h (may_A hp)), if_neg (fun h => absurd h.2 (of_decide_eq_true rfl)), if_neg (of_decide_eq_true rfl)]
  rfl
theorem fin_A {p : List UInt8} (hp : p.length = 32) : finL (bA p) 2 200 [111, 107] 14 cA = (fA p, 0) := by
  have ho : ownI (bA p) 2 = 0 := by rw [ownI, if_neg (fun h => h (may_B hp)), if_neg (of_decide_eq_true rfl)]
  have hf : finE (bA p) 200 [111, 107] 14 cA = fA p := rfl
  rw [finL, ho, hf, if_neg (of_decide_eq_true rfl), if_pos (may_F hp)]
theorem ver_A {p : List UInt8} : verI (fA p) p 14 = 5 := by
  have h1 : ¬ ((fA p).state < 1 ∨ 2 < (fA p).state ∨ expP (fA p) 14) := by
    rintro (h | h | h)
    · exact absurd h (of_decide_eq_true rfl : ¬ (fA p).state < 1)
    · exact absurd h (of_decide_eq_true rfl : ¬ 2 < (fA p).state)
    · exact absurd h.1 (of_decide_eq_true rfl : ¬ (fA p).expiry ≤ timI 14)
  rw [verI, if_neg h1, if_neg (fun h => h rfl)]
  exact if_pos rfl
theorem awake_prog : CallsR Tryz.prog nlaw21_awake [] [] fun v => v = .bool true := by
  have hc := conf_prog
  have h1 := begin_prog rA 7 10 cA
  rw [beg_A] at h1
  have hp : (prtL [71, 69, 84] [47, 97] []).length = 32 := shaL_len _
  generalize prtL [71, 69, 84] [47, 97] [] = p at *
  have h2 := take_prog (eA p) 12 cA (of_decide_eq_true rfl)
  rw [take_A1 hp] at h2
  have h3 := take_prog (eA p) 13 cA (of_decide_eq_true rfl)
  rw [take_A2 hp] at h3
  have h4 := finish_prog (bA p) 2 200 [111, 107] 14 cA (of_decide_eq_true rfl)
  rw [fin_A hp] at h4
  have h5 := verdict_prog (fA p) p 14
  rw [ver_A] at h5
  unfold stV Entry.enc Req.enc Conf.enc at *
  unfold rA eA bA fA cA Entry.zero at *
  dsimp only at h1 h2 h3 h4 h5 hc
  refine slaw21_awake fun H hh => ?_
  dsimp only [claw21_awake]
  refine walk1 (k := ?_)
  repeat' first | refine And.intro ?_ ?_ | intro
  all_goals refine leaf ?_
  refine callE (hc) ?_
  refine walk1 (k := ?_)
  repeat' first | refine And.intro ?_ ?_ | intro
  all_goals refine leaf ?_
  refine callE (h1) ?_
  refine walk1 (k := ?_)
  repeat' first | refine And.intro ?_ ?_ | intro
  all_goals refine leaf ?_
  refine callE (hc) ?_
  refine walk1 (k := ?_)
  repeat' first | refine And.intro ?_ ?_ | intro
  all_goals refine leaf ?_
  refine callE (h2) ?_
  refine walk1 (k := ?_)
  repeat' first | refine And.intro ?_ ?_ | intro
  all_goals refine leaf ?_
  refine callE (hc) ?_
  refine walk1 (k := ?_)
  repeat' first | refine And.intro ?_ ?_ | intro
  all_goals refine leaf ?_
  refine callE (h3) ?_
  refine walk1 (k := ?_)
  repeat' first | refine And.intro ?_ ?_ | intro
  all_goals refine leaf ?_
  refine callE (hc) ?_
  refine walk1 (k := ?_)
  repeat' first | refine And.intro ?_ ?_ | intro
  all_goals refine leaf ?_
  refine callE (h4) ?_
  refine walk1 (k := ?_)
  repeat' first | refine And.intro ?_ ?_ | intro
  all_goals refine leaf ?_
  refine callE (h5) ?_
  refine walk1 (k := ?_)
  repeat' first | refine And.intro ?_ ?_ | intro
  all_goals refine leaf ?_
  exact doneR rfl
end Go.Proofs.YtelgcaacaolgfaaGreatDoor
