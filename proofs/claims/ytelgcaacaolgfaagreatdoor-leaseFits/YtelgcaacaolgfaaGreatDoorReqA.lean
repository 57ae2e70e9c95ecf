/-
  Requests, with their forms: the code.
-/
import Derived.Test.YtelgcaacaolgfaaGreatDoorMayB
import Derived.Test.YtelgcaacaolgfaaGreatDoorPrtA
namespace Go.Proofs.YtelgcaacaolgfaaGreatDoor
open Go Go.CM
set_option maxRecDepth 100000
set_option maxHeartbeats 4000000

structure Req where
  client : Int
  serial : Int
  tenant : Int
  key : List UInt8
  method : List UInt8
  path : List UInt8
  body : List UInt8
  deriving Inhabited, DecidableEq
def Req.enc (r : Req) : List V := [.int .i64 r.client, .int .i64 r.serial, .int .i64 r.tenant, .str r.key, .str r.method, .str r.path, .str r.body]
def Req.zero : Req := ⟨0, 0, 0, [], [], [], []⟩
abbrev reqI (r : Req) : Prop := 0 ≤ r.tenant ∧ r.tenant < 4 ∧ 0 ≤ r.client ∧ r.client < 4 ∧ 0 ≤ r.serial ∧ r.serial ≤ 1073741824
abbrev reqP (r : Req) : Prop := metP r.method ∧ reqI r ∧ keyOK r.key ∧ r.body.length ≤ 80
def reqN (r : Req) : Option Req := match pathL r.path with
  | none => none
  | some o => if reqP r then some { r with method := r.method.map upB, path := o } else none
theorem reqN_path {r : Req} (h : pathL r.path = none) : reqN r = none := by rw [reqN, h]
theorem reqN_bad {r : Req} (h : ¬ reqP r) : reqN r = none := by
  rw [reqN]
  split
  · rfl
  · exact if_neg h
theorem reqN_ok {r : Req} {o : List UInt8} (h : pathL r.path = some o) (h2 : reqP r) : reqN r = some { r with method := r.method.map upB, path := o } := by rw [reqN, h]; exact if_pos h2
def reqV (r : Req) : V := match reqN r with
  | none => .tup [.agg Req.zero.enc, .bool false]
  | some x => .tup [.agg x.enc, .bool true]
theorem reqV_none {r : Req} (h : reqN r = none) : reqV r = .tup [.agg Req.zero.enc, .bool false] := by rw [reqV, h]
theorem reqV_some {r x : Req} (h : reqN r = some x) : reqV r = .tup [.agg x.enc, .bool true] := by rw [reqV, h]
theorem request_prog (r : Req) : CallsR Tryz.prog ncanon_Request [.agg r.enc] [] fun v => v = reqV r := by
  have h1 := method_prog r.method
  have h2 := path_prog r.path
  have h3 := keyR r.key
  rcases metV_of r.method with ⟨hm, _, hv⟩ | ⟨hm, hv⟩
  · rcases pathV_of r.path with ⟨o, hp, _, hw⟩ | ⟨hp, hw⟩
    · rw [hv] at h1
      rw [hw] at h2
      by_cases hi : reqI r
      · by_cases hk : keyOK r.key ∧ r.body.length ≤ 80
        · rw [decide_eq_true hk.1] at h3
          rw [reqV_some (reqN_ok hp ⟨hm, hi, hk⟩)]
          unfold Req.enc
          refine scanon_Request fun H hh => ?_
          dsimp only [ccanon_Request]
          refine walk1 (k := ?_)
          repeat' first | refine And.intro ?_ ?_ | intro
          all_goals refine leaf ?_
          refine callE (h1) ?_
          refine walk1 (k := ?_)
          repeat' first | refine And.intro ?_ ?_ | intro
          all_goals refine leaf ?_
          refine callE (h2) ?_
          refine walk1 (k := ?_)
          repeat' first | refine And.intro ?_ ?_ | intro
          all_goals refine leaf ?_
          refine wps_slot (s := 24) (v := .bool true) (congrArg V.bool (decide_eq_true hi.1)) ?_
          refine walk1 (k := ?_)
          repeat' first | refine And.intro ?_ ?_ | intro
          all_goals refine leaf ?_
          refine wps_slot (s := 29) (v := .bool true) (congrArg V.bool (decide_eq_true hi.2.1)) ?_
          refine walk1 (k := ?_)
          repeat' first | refine And.intro ?_ ?_ | intro
          all_goals refine leaf ?_
          refine wps_slot (s := 34) (v := .bool true) (congrArg V.bool (decide_eq_true hi.2.2.1)) ?_
          refine walk1 (k := ?_)
          repeat' first | refine And.intro ?_ ?_ | intro
          all_goals refine leaf ?_
          refine wps_slot (s := 39) (v := .bool true) (congrArg V.bool (decide_eq_true hi.2.2.2.1)) ?_
          refine walk1 (k := ?_)
          repeat' first | refine And.intro ?_ ?_ | intro
          all_goals refine leaf ?_
          refine wps_slot (s := 44) (v := .bool true) (congrArg V.bool (decide_eq_true hi.2.2.2.2.1)) ?_
          refine walk1 (k := ?_)
          repeat' first | refine And.intro ?_ ?_ | intro
          all_goals refine leaf ?_
          refine wps_slot (s := 59) (v := .bool false) (by show V.bool (!decide _) = _; rw [decide_eq_true hi.2.2.2.2.2]; rfl) ?_
          refine walk1 (k := ?_)
          repeat' first | refine And.intro ?_ ?_ | intro
          all_goals refine leaf ?_
          refine callE (h3) ?_
          refine walk (k := ?_)
          repeat' first | refine And.intro ?_ ?_ | intro
          all_goals refine leaf ?_
          all_goals try
            exfalso
            omega
          exact doneR rfl
        · rw [reqV_none (reqN_bad fun h => hk h.2.2)]
          unfold Req.enc Req.zero
          refine scanon_Request fun H hh => ?_
          dsimp only [ccanon_Request]
          refine walk1 (k := ?_)
          repeat' first | refine And.intro ?_ ?_ | intro
          all_goals refine leaf ?_
          refine callE (h1) ?_
          refine walk1 (k := ?_)
          repeat' first | refine And.intro ?_ ?_ | intro
          all_goals refine leaf ?_
          refine callE (h2) ?_
          refine walk1 (k := ?_)
          repeat' first | refine And.intro ?_ ?_ | intro
          all_goals refine leaf ?_
          refine wps_slot (s := 24) (v := .bool true) (congrArg V.bool (decide_eq_true hi.1)) ?_
          refine walk1 (k := ?_)
          repeat' first | refine And.intro ?_ ?_ | intro
          all_goals refine leaf ?_
          refine wps_slot (s := 29) (v := .bool true) (congrArg V.bool (decide_eq_true hi.2.1)) ?_
          refine walk1 (k := ?_)
          repeat' first | refine And.intro ?_ ?_ | intro
          all_goals refine leaf ?_
          refine wps_slot (s := 34) (v := .bool true) (congrArg V.bool (decide_eq_true hi.2.2.1)) ?_
          refine walk1 (k := ?_)
          repeat' first | refine And.intro ?_ ?_ | intro
          all_goals refine leaf ?_
          refine wps_slot (s := 39) (v := .bool true) (congrArg V.bool (decide_eq_true hi.2.2.2.1)) ?_
          refine walk1 (k := ?_)
          repeat' first | refine And.intro ?_ ?_ | intro
          all_goals refine leaf ?_
          refine wps_slot (s := 44) (v := .bool true) (congrArg V.bool (decide_eq_true hi.2.2.2.2.1)) ?_
          refine walk1 (k := ?_)
          repeat' first | refine And.intro ?_ ?_ | intro
          all_goals refine leaf ?_
          refine wps_slot (s := 59) (v := .bool false) (by show V.bool (!decide _) = _; rw [decide_eq_true hi.2.2.2.2.2]; rfl) ?_
          refine walk1 (k := ?_)
          repeat' first | refine And.intro ?_ ?_ | intro
          all_goals refine leaf ?_
          by_cases hk1 : keyOK r.key
          · rw [decide_eq_true hk1] at h3
            have hb : ¬ r.body.length ≤ 80 := fun h => hk ⟨hk1, h⟩
            refine callE (h3) ?_
            refine walk (k := ?_)
            repeat' first | refine And.intro ?_ ?_ | intro
            all_goals refine leaf ?_
            all_goals first
              | exact doneR rfl
              | (exfalso; omega)
          · rw [decide_eq_false hk1] at h3
            refine callE (h3) ?_
            refine walk1 (k := ?_)
            repeat' first | refine And.intro ?_ ?_ | intro
            all_goals refine leaf ?_
            exact doneR rfl
      · rw [reqV_none (reqN_bad fun h => hi h.2.1)]
        unfold Req.enc Req.zero
        refine scanon_Request fun H hh => ?_
        dsimp only [ccanon_Request]
        refine walk1 (k := ?_)
        repeat' first | refine And.intro ?_ ?_ | intro
        all_goals refine leaf ?_
        refine callE (h1) ?_
        refine walk1 (k := ?_)
        repeat' first | refine And.intro ?_ ?_ | intro
        all_goals refine leaf ?_
        refine callE (h2) ?_
        refine walk (k := ?_)
        repeat' first | refine And.intro ?_ ?_ | intro
        all_goals refine leaf ?_
        all_goals first
          | exact doneR rfl
          | (exfalso; omega)
    · rw [hv] at h1
      rw [hw] at h2
      rw [reqV_none (reqN_path hp)]
      unfold Req.enc Req.zero
      refine scanon_Request fun H hh => ?_
      dsimp only [ccanon_Request]
      refine walk1 (k := ?_)
      repeat' first | refine And.intro ?_ ?_ | intro
      all_goals refine leaf ?_
      refine callE (h1) ?_
      refine walk1 (k := ?_)
      repeat' first | refine And.intro ?_ ?_ | intro
      all_goals refine leaf ?_
      refine callE (h2) ?_
      refine walk (k := ?_)
      repeat' first | refine And.intro ?_ ?_ | intro
      all_goals refine leaf ?_
      all_goals exact doneR rfl
  · rw [hv] at h1
    rw [reqV_none (reqN_bad fun h => hm h.1)]
    obtain ⟨o, b, hw⟩ : ∃ o b, pathV r.path = .tup [.str o, .bool b] := by
      rcases pathV_of r.path with ⟨o, _, _, hw⟩ | ⟨_, hw⟩
      · exact ⟨o, true, hw⟩
      · exact ⟨[], false, hw⟩
    rw [hw] at h2
    unfold Req.enc Req.zero
    refine scanon_Request fun H hh => ?_
    dsimp only [ccanon_Request]
    refine walk1 (k := ?_)
    repeat' first | refine And.intro ?_ ?_ | intro
    all_goals refine leaf ?_
    refine callE (h1) ?_
    refine walk1 (k := ?_)
    repeat' first | refine And.intro ?_ ?_ | intro
    all_goals refine leaf ?_
    refine callE (h2) ?_
    refine walk (k := ?_)
    repeat' first | refine And.intro ?_ ?_ | intro
    all_goals refine leaf ?_
    all_goals exact doneR rfl
end Go.Proofs.YtelgcaacaolgfaaGreatDoor
