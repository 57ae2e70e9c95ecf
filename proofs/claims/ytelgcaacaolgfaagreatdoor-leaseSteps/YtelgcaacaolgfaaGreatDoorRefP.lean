/-
  An end and a beginning: the document's.
-/
import Derived.Test.YtelgcaacaolgfaaGreatDoorRefM
namespace Go.Proofs.YtelgcaacaolgfaaGreatDoor
open Go Go.CM
set_option maxRecDepth 100000
set_option maxHeartbeats 4000000

theorem rfinish_prog (e : Entry) (token status : Int) (text : List UInt8) (now : Int) (c : Conf) (hk : e.key.length ≤ 1000000) : CallsR Tryz.prog nref21_Finish [.agg e.enc, .int .i64 token, .int .i64 status, .str text, .int .i64 now, .agg c.enc] [] fun v => v = stV (finL e token status text now c) := by
  have h1 := rown_prog e token hk
  have h5 := rttl_until now c
  have h6 := rmay_prog (finE e status text now c) hk
  have hce : c.enc = [.int .i64 c.workers, .int .i64 c.lease, .int .i64 c.ttl, .int .i64 c.quota, .int .i64 c.segment, .int .i64 c.disk] := rfl
  have hbe : c.br.enc = [.int .i64 c.br.workers, .int .i64 c.br.lease, .int .i64 c.br.ttl, .int .i64 c.br.quota, .int .i64 c.br.segment, .int .i64 c.br.disk] := rfl
  have h4 := rconfig_prog c
  rw [hce] at h4 ⊢
  rw [hbe] at h4
  unfold stV finL
  by_cases hk : ownI e token ≠ 0
  · rw [if_pos hk]
    unfold Entry.enc at h1 ⊢
    refine sref21_Finish fun H hh => ?_
    dsimp only [cref21_Finish]
    refine walk (k := ?_)
    repeat' first | refine And.intro ?_ ?_ | intro
    all_goals refine leaf ?_
    refine callE (h1) ?_
    refine walk (k := ?_)
    repeat' first | refine And.intro ?_ ?_ | intro
    all_goals refine leaf ?_
    all_goals first
      | exact doneR rfl
      | (exfalso; omega)
  · rw [if_neg hk]
    have hk0 : ownI e token = 0 := by omega
    rw [hk0] at h1
    have hfi : (finE e status text now c).enc = [.int .i64 e.tenant, .str e.key, .int .i64 2, .int .i64 e.epoch, .int .i64 e.token, .int .i64 e.point, .str e.print, .int .i64 0, .int .i64 (plusI now c.br.ttl), .int .i64 status, .str text, .str [], .str [], .str []] := rfl
    rw [hfi] at h6
    by_cases hm : mayP (finE e status text now c)
    · rw [if_pos hm]
      rw [decide_eq_true hm] at h6
      show CallsR _ _ _ _ fun v => v = V.tup [.agg (finE e status text now c).enc, .int .i64 0]
      rw [hfi]
      generalize plusI now c.br.ttl = t1 at *
      generalize c.br.ttl = cl at *
      clear hce hbe hm hfi
      unfold Entry.enc at h1 ⊢
      refine sref21_Finish fun H hh => ?_
      dsimp only [cref21_Finish]
      refine walk1 (k := ?_)
      repeat' first | refine And.intro ?_ ?_ | intro
      all_goals refine leaf ?_
      refine callE (h1) ?_
      refine walk1 (k := ?_)
      repeat' first | refine And.intro ?_ ?_ | intro
      all_goals refine leaf ?_
      refine callE (h4) ?_
      refine walk1 (k := ?_)
      repeat' first | refine And.intro ?_ ?_ | intro
      all_goals refine leaf ?_
      refine callE (h5) ?_
      refine walk1 (k := ?_)
      repeat' first | refine And.intro ?_ ?_ | intro
      all_goals refine leaf ?_
      refine callE (h6) ?_
      refine walk1 (k := ?_)
      repeat' first | refine And.intro ?_ ?_ | intro
      all_goals refine leaf ?_
      exact doneR rfl
    · rw [if_neg hm]
      rw [decide_eq_false hm] at h6
      generalize plusI now c.br.ttl = t1 at *
      generalize c.br.ttl = cl at *
      clear hce hbe hm hfi
      unfold Entry.enc at h1 ⊢
      refine sref21_Finish fun H hh => ?_
      dsimp only [cref21_Finish]
      refine walk1 (k := ?_)
      repeat' first | refine And.intro ?_ ?_ | intro
      all_goals refine leaf ?_
      refine callE (h1) ?_
      refine walk1 (k := ?_)
      repeat' first | refine And.intro ?_ ?_ | intro
      all_goals refine leaf ?_
      refine callE (h4) ?_
      refine walk1 (k := ?_)
      repeat' first | refine And.intro ?_ ?_ | intro
      all_goals refine leaf ?_
      refine callE (h5) ?_
      refine walk1 (k := ?_)
      repeat' first | refine And.intro ?_ ?_ | intro
      all_goals refine leaf ?_
      refine callE (h6) ?_
      refine walk1 (k := ?_)
      repeat' first | refine And.intro ?_ ?_ | intro
      all_goals refine leaf ?_
      exact doneR rfl
theorem rbegin_prog (r : Req) (epoch now : Int) (c : Conf) (hk : r.key.length ≤ 1000000) : CallsR Tryz.prog nref21_Begin [.agg r.enc, .int .i64 epoch, .int .i64 now, .agg c.enc] [] fun v => v = stV (begL r epoch now c) := by
  have h1 := rrequest_prog r hk
  have h5 := rlease_until now c
  have h6 := rttl_until now c
  have hce : c.enc = [.int .i64 c.workers, .int .i64 c.lease, .int .i64 c.ttl, .int .i64 c.quota, .int .i64 c.segment, .int .i64 c.disk] := rfl
  have hbe : c.br.enc = [.int .i64 c.br.workers, .int .i64 c.br.lease, .int .i64 c.br.ttl, .int .i64 c.br.quota, .int .i64 c.br.segment, .int .i64 c.br.disk] := rfl
  have h4 := rconfig_prog c
  rw [hce] at h4 ⊢
  rw [hbe] at h4
  rcases hx : reqN r with _ | x
  · have hb : begL r epoch now c = (Entry.zero, 1) := by rw [begL, hx]
    rw [hb]
    rw [reqV_none hx] at h1
    unfold stV Entry.enc Req.enc at *
    refine sref21_Begin fun H hh => ?_
    dsimp only [cref21_Begin]
    refine walk1 (k := ?_)
    repeat' first | refine And.intro ?_ ?_ | intro
    all_goals refine leaf ?_
    refine callE (h1) ?_
    refine walk1 (k := ?_)
    repeat' first | refine And.intro ?_ ?_ | intro
    all_goals refine leaf ?_
    exact doneR rfl
  · obtain ⟨l1, l2, l3⟩ := reqN_lens hx
    have h7 := rprint_prog x.method x.path x.body (by omega) (by omega) (by omega)
    rw [reqV_some hx] at h1
    by_cases he : epoch < 1 ∨ 1073741824 < epoch
    · have hb : begL r epoch now c = (Entry.zero, 1) := by rw [begL, hx]; exact if_pos he
      rw [hb]
      unfold stV Entry.enc Req.enc at *
      refine sref21_Begin fun H hh => ?_
      dsimp only [cref21_Begin]
      refine walk1 (k := ?_)
      repeat' first | refine And.intro ?_ ?_ | intro
      all_goals refine leaf ?_
      refine callE (h1) ?_
      refine walk (k := ?_)
      repeat' first | refine And.intro ?_ ?_ | intro
      all_goals refine leaf ?_
      all_goals first
        | exact doneR rfl
        | (exfalso; omega)
    · have hb : begL r epoch now c = (begE x epoch now c, 0) := by rw [begL, hx]; exact if_neg he
      rw [hb]
      unfold begE
      generalize prtL x.method x.path x.body = P at *
      generalize plusI now c.br.lease = t1 at *
      generalize plusI now c.br.ttl = t2 at *
      generalize c.br.lease = cl at *
      generalize c.br.ttl = ct at *
      clear hce hbe hb hx l1 l2 l3
      unfold stV Entry.enc Req.enc at *
      refine sref21_Begin fun H hh => ?_
      dsimp only [cref21_Begin]
      refine walk1 (k := ?_)
      repeat' first | refine And.intro ?_ ?_ | intro
      all_goals refine leaf ?_
      refine callE (h1) ?_
      refine walk (k := ?_)
      repeat' first | refine And.intro ?_ ?_ | intro
      all_goals refine leaf ?_
      all_goals try
        exfalso
        omega
      refine callE (h4) ?_
      refine walk1 (k := ?_)
      repeat' first | refine And.intro ?_ ?_ | intro
      all_goals refine leaf ?_
      refine callE (h7) ?_
      refine walk1 (k := ?_)
      repeat' first | refine And.intro ?_ ?_ | intro
      all_goals refine leaf ?_
      refine callE (h5) ?_
      refine walk1 (k := ?_)
      repeat' first | refine And.intro ?_ ?_ | intro
      all_goals refine leaf ?_
      refine callE (h6) ?_
      refine walk1 (k := ?_)
      repeat' first | refine And.intro ?_ ?_ | intro
      all_goals refine leaf ?_
      exact doneR rfl
end Go.Proofs.YtelgcaacaolgfaaGreatDoor
