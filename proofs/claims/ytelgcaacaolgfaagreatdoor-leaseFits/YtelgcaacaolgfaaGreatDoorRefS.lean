/-
  Texts joined: Requests brought to their form: the document's. The document's lease: a beginning that can't be.
-/
import Derived.Test.YtelgcaacaolgfaaGreatDoorRefC
import Derived.Test.YtelgcaacaolgfaaGreatDoorReqA
import Derived.Test.YtelgcaacaolgfaaGreatDoorLeaC
namespace Go.Proofs.YtelgcaacaolgfaaGreatDoor
open Go Go.CM
set_option maxRecDepth 100000
set_option maxHeartbeats 4000000

theorem rrequest_prog (r : Req) (hk : r.key.length ≤ 1000000) : CallsR Tryz.prog nref05_Request [.agg r.enc] [] fun v => v = reqV r := by
  have h1 := rmethod_prog r.method
  have h2 := rpath_prog r.path
  have h3 := rkey_prog r.key hk
  rcases metV_of r.method with ⟨hm, _, hv⟩ | ⟨hm, hv⟩
  · rcases pathV_of r.path with ⟨o, hp, _, hw⟩ | ⟨hp, hw⟩
    · rw [hv] at h1
      rw [hw] at h2
      by_cases hq : reqP r
      · rw [decide_eq_true hq.2.2.1] at h3
        have hqi := hq.2.1
        have hqb := hq.2.2.2
        rw [reqV_some (reqN_ok hp hq)]
        unfold Req.enc
        refine sref05_Request fun H hh => ?_
        dsimp only [cref05_Request]
        refine walk1 (k := ?_)
        repeat' first | refine And.intro ?_ ?_ | intro
        all_goals refine leaf ?_
        refine callE (h1) ?_
        refine walk1 (k := ?_)
        repeat' first | refine And.intro ?_ ?_ | intro
        all_goals refine leaf ?_
        refine callE (h2) ?_
        refine walk1 (k := ?_)
        repeat' first | refine And.intro ?_ ?_ | intro
        all_goals refine leaf ?_
        refine callE (h3) ?_
        refine walk (k := ?_)
        repeat' first | refine And.intro ?_ ?_ | intro
        all_goals refine leaf ?_
        all_goals first
          | (exfalso; omega)
          | exact doneR rfl
      · rw [reqV_none (reqN_bad hq)]
        unfold Req.enc Req.zero
        by_cases hk1 : keyOK r.key
        · rw [decide_eq_true hk1] at h3
          have hq2 : ¬ (reqI r ∧ r.body.length ≤ 80) := fun h => hq ⟨hm, h.1, hk1, h.2⟩
          refine sref05_Request fun H hh => ?_
          dsimp only [cref05_Request]
          refine walk1 (k := ?_)
          repeat' first | refine And.intro ?_ ?_ | intro
          all_goals refine leaf ?_
          refine callE (h1) ?_
          refine walk1 (k := ?_)
          repeat' first | refine And.intro ?_ ?_ | intro
          all_goals refine leaf ?_
          refine callE (h2) ?_
          refine walk1 (k := ?_)
          repeat' first | refine And.intro ?_ ?_ | intro
          all_goals refine leaf ?_
          refine callE (h3) ?_
          refine walk (k := ?_)
          repeat' first | refine And.intro ?_ ?_ | intro
          all_goals refine leaf ?_
          all_goals first
            | exact doneR rfl
            | (exfalso; omega)
        · rw [decide_eq_false hk1] at h3
          refine sref05_Request fun H hh => ?_
          dsimp only [cref05_Request]
          refine walk1 (k := ?_)
          repeat' first | refine And.intro ?_ ?_ | intro
          all_goals refine leaf ?_
          refine callE (h1) ?_
          refine walk1 (k := ?_)
          repeat' first | refine And.intro ?_ ?_ | intro
          all_goals refine leaf ?_
          refine callE (h2) ?_
          refine walk1 (k := ?_)
          repeat' first | refine And.intro ?_ ?_ | intro
          all_goals refine leaf ?_
          refine callE (h3) ?_
          refine walk1 (k := ?_)
          repeat' first | refine And.intro ?_ ?_ | intro
          all_goals refine leaf ?_
          exact doneR rfl
    · rw [hv] at h1
      rw [hw] at h2
      rw [reqV_none (reqN_path hp)]
      unfold Req.enc Req.zero
      refine sref05_Request fun H hh => ?_
      dsimp only [cref05_Request]
      refine walk1 (k := ?_)
      repeat' first | refine And.intro ?_ ?_ | intro
      all_goals refine leaf ?_
      refine callE (h1) ?_
      refine walk1 (k := ?_)
      repeat' first | refine And.intro ?_ ?_ | intro
      all_goals refine leaf ?_
      refine callE (h2) ?_
      refine walk1 (k := ?_)
      repeat' first | refine And.intro ?_ ?_ | intro
      all_goals refine leaf ?_
      exact doneR rfl
  · rw [hv] at h1
    rw [reqV_none (reqN_bad fun h => hm h.1)]
    rcases pathV_of r.path with ⟨o, hp, _, hw⟩ | ⟨hp, hw⟩
    all_goals
      rw [hw] at h2
      unfold Req.enc Req.zero
      refine sref05_Request fun H hh => ?_
      dsimp only [cref05_Request]
      refine walk1 (k := ?_)
      repeat' first | refine And.intro ?_ ?_ | intro
      all_goals refine leaf ?_
      refine callE (h1) ?_
      refine walk1 (k := ?_)
      repeat' first | refine And.intro ?_ ?_ | intro
      all_goals refine leaf ?_
      refine callE (h2) ?_
      refine walk1 (k := ?_)
      repeat' first | refine And.intro ?_ ?_ | intro
      all_goals refine leaf ?_
      exact doneR rfl
end Go.Proofs.YtelgcaacaolgfaaGreatDoor

namespace Go.Proofs.YtelgcaacaolgfaaGreatDoor
open Go Go.CM
set_option maxRecDepth 100000
set_option maxHeartbeats 4000000

theorem rbegin_bad (r : Req) (now : Int) (c : Conf) (hk : r.key.length ≤ 1000000) (hb : (begL r 1 now c).2 ≠ 0) : CallsR Tryz.prog nref21_Begin [.agg r.enc, .int .i64 1, .int .i64 now, .agg c.enc] [] fun v => v = stV (begL r 1 now c) := by
  have h1 := rrequest_prog r hk
  rcases hx : reqN r with _ | x
  · have hb : begL r 1 now c = (Entry.zero, 1) := by rw [begL, hx]
    rw [hb]
    rw [reqV_none hx] at h1
    unfold stV Entry.enc Req.enc Conf.enc at *
    refine sref21_Begin fun H hh => ?_
    dsimp only [cref21_Begin]
    refine walk1 (k := ?_)
    repeat' first | refine And.intro ?_ ?_ | intro
    all_goals refine leaf ?_
    refine callE (h1) ?_
    refine walk1 (k := ?_)
    repeat' first | refine And.intro ?_ ?_ | intro
    all_goals refine leaf ?_
    exact doneR rfl
  · exact absurd (by rw [begL, hx]; rfl) hb
end Go.Proofs.YtelgcaacaolgfaaGreatDoor
