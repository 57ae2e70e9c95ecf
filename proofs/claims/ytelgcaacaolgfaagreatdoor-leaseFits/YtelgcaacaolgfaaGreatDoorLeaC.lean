/-
  Texts joined: More steps of an entry: the code. A beginning: the code. The other steps of an entry: the code.
-/
import Derived.Test.YtelgcaacaolgfaaGreatDoorLeaB
import Derived.Test.YtelgcaacaolgfaaGreatDoorReqA
namespace Go.Proofs.YtelgcaacaolgfaaGreatDoor
open Go Go.CM
set_option maxRecDepth 100000
set_option maxHeartbeats 4000000

def overE (e : Entry) (state : Int) : Entry := { e with state := state, lease := 0, method := [], path := [], body := [] }
theorem over_prog (e : Entry) (s : Int) : CallsR Tryz.prog nlease_over [.agg e.enc, .int .i64 s] [] fun v => v = .agg (overE e s).enc := by
  unfold Entry.enc overE
  refine slease_over fun H hh => ?_
  dsimp only [clease_over]
  refine walk1 (k := ?_)
  repeat' first | refine And.intro ?_ ?_ | intro
  all_goals refine leaf ?_
  exact doneR rfl
def finE (e : Entry) (status : Int) (text : List UInt8) (now : Int) (c : Conf) : Entry := { overE e 2 with status := status, text := text, expiry := plusI now c.br.ttl }
def finL (e : Entry) (token status : Int) (text : List UInt8) (now : Int) (c : Conf) : Entry × Int :=
  if ownI e token ≠ 0 then (Entry.zero, ownI e token) else if mayP (finE e status text now c) then (finE e status text now c, 0) else (Entry.zero, 1)
theorem finish_prog (e : Entry) (token status : Int) (text : List UInt8) (now : Int) (c : Conf) (hl : smallE e) : CallsR Tryz.prog nlease_Finish [.agg e.enc, .int .i64 token, .int .i64 status, .str text, .int .i64 now, .agg c.enc] [] fun v => v = stV (finL e token status text now c) := by
  have h1 := owned_prog e token hl
  have h2 := over_prog e 2
  have h4 := config_prog c
  have h5 := plus_prog now c.br.ttl
  have h6 := may_prog (finE e status text now c) (by simp [finE, overE])
  have hce : c.enc = [.int .i64 c.workers, .int .i64 c.lease, .int .i64 c.ttl, .int .i64 c.quota, .int .i64 c.segment, .int .i64 c.disk] := rfl
  have hbe : c.br.enc = [.int .i64 c.br.workers, .int .i64 c.br.lease, .int .i64 c.br.ttl, .int .i64 c.br.quota, .int .i64 c.br.segment, .int .i64 c.br.disk] := rfl
  rw [hce] at h4 ⊢
  rw [hbe] at h4
  unfold stV finL
  by_cases hk : ownI e token ≠ 0
  · rw [if_pos hk]
    unfold Entry.enc at h1 ⊢
    refine slease_Finish fun H hh => ?_
    dsimp only [clease_Finish]
    refine walk (k := ?_)
    repeat' first | refine And.intro ?_ ?_ | intro
    all_goals refine leaf ?_
    refine callE (h1) ?_
    refine walk (k := ?_)
    repeat' first | refine And.intro ?_ ?_ | intro
    all_goals refine leaf ?_
    all_goals first
      | exact doneR rfl
      | (exfalso; omega)
  · rw [if_neg hk]
    have hk0 : ownI e token = 0 := by omega
    rw [hk0] at h1
    have hen : (overE e 2).enc = [.int .i64 e.tenant, .str e.key, .int .i64 2, .int .i64 e.epoch, .int .i64 e.token, .int .i64 e.point, .str e.print, .int .i64 0, .int .i64 e.expiry, .int .i64 e.status, .str e.text, .str [], .str [], .str []] := rfl
    have hfi : (finE e status text now c).enc = [.int .i64 e.tenant, .str e.key, .int .i64 2, .int .i64 e.epoch, .int .i64 e.token, .int .i64 e.point, .str e.print, .int .i64 0, .int .i64 (plusI now c.br.ttl), .int .i64 status, .str text, .str [], .str [], .str []] := rfl
    rw [hen] at h2
    rw [hfi] at h6
    by_cases hm : mayP (finE e status text now c)
    · rw [if_pos hm]
      rw [decide_eq_true hm] at h6
      show CallsR _ _ _ _ fun v => v = V.tup [.agg (finE e status text now c).enc, .int .i64 0]
      rw [hfi]
      unfold Entry.enc at h1 h2 ⊢
      refine slease_Finish fun H hh => ?_
      dsimp only [clease_Finish]
      refine walk1 (k := ?_)
      repeat' first | refine And.intro ?_ ?_ | intro
      all_goals refine leaf ?_
      refine callE (h1) ?_
      refine walk1 (k := ?_)
      repeat' first | refine And.intro ?_ ?_ | intro
      all_goals refine leaf ?_
      refine callE (h2) ?_
      refine walk1 (k := ?_)
      repeat' first | refine And.intro ?_ ?_ | intro
      all_goals refine leaf ?_
      refine callE (h4) ?_
      refine walk1 (k := ?_)
      repeat' first | refine And.intro ?_ ?_ | intro
      all_goals refine leaf ?_
      refine callE (h5) ?_
      refine walk1 (k := ?_)
      repeat' first | refine And.intro ?_ ?_ | intro
      all_goals refine leaf ?_
      refine callE (h6) ?_
      refine walk1 (k := ?_)
      repeat' first | refine And.intro ?_ ?_ | intro
      all_goals refine leaf ?_
      exact doneR rfl
    · rw [if_neg hm]
      rw [decide_eq_false hm] at h6
      unfold Entry.enc at h1 h2 ⊢
      refine slease_Finish fun H hh => ?_
      dsimp only [clease_Finish]
      refine walk1 (k := ?_)
      repeat' first | refine And.intro ?_ ?_ | intro
      all_goals refine leaf ?_
      refine callE (h1) ?_
      refine walk1 (k := ?_)
      repeat' first | refine And.intro ?_ ?_ | intro
      all_goals refine leaf ?_
      refine callE (h2) ?_
      refine walk1 (k := ?_)
      repeat' first | refine And.intro ?_ ?_ | intro
      all_goals refine leaf ?_
      refine callE (h4) ?_
      refine walk1 (k := ?_)
      repeat' first | refine And.intro ?_ ?_ | intro
      all_goals refine leaf ?_
      refine callE (h5) ?_
      refine walk1 (k := ?_)
      repeat' first | refine And.intro ?_ ?_ | intro
      all_goals refine leaf ?_
      refine callE (h6) ?_
      refine walk1 (k := ?_)
      repeat' first | refine And.intro ?_ ?_ | intro
      all_goals refine leaf ?_
      exact doneR rfl
end Go.Proofs.YtelgcaacaolgfaaGreatDoor

namespace Go.Proofs.YtelgcaacaolgfaaGreatDoor
open Go Go.CM
set_option maxRecDepth 100000
set_option maxHeartbeats 4000000

def begE (x : Req) (epoch now : Int) (c : Conf) : Entry := ⟨x.tenant, x.key, 1, epoch, 1, 0, prtL x.method x.path x.body, plusI now c.br.lease, plusI now c.br.ttl, 0, [], x.method, x.path, x.body⟩
def begL (r : Req) (epoch now : Int) (c : Conf) : Entry × Int := match reqN r with
  | none => (Entry.zero, 1)
  | some x => if epoch < 1 ∨ 1073741824 < epoch then (Entry.zero, 1) else (begE x epoch now c, 0)
theorem pathL_le {p o : List UInt8} (h : pathL p = some o) : o.length ≤ 60 := by
  unfold pathL at h
  split at h
  · cases h
  · split at h
    · cases h
    · split at h
      · cases h
      · cases h
        omega
theorem reqN_lens {r x : Req} (h : reqN r = some x) : x.method.length ≤ 8 ∧ x.path.length ≤ 60 ∧ x.body.length ≤ 80 := by
  rw [reqN] at h
  split at h
  · cases h
  · rename_i o ho
    split at h
    · rename_i hp
      cases h
      refine ⟨?_, pathL_le ho, hp.2.2.2⟩
      show (r.method.map upB).length ≤ 8
      rw [List.length_map]
      exact hp.1.1.2
    · cases h
theorem begin_prog (r : Req) (epoch now : Int) (c : Conf) : CallsR Tryz.prog nlease_Begin [.agg r.enc, .int .i64 epoch, .int .i64 now, .agg c.enc] [] fun v => v = stV (begL r epoch now c) := by
  have h1 := request_prog r
  have h4 := config_prog c
  have h5 := plus_prog now c.br.lease
  have h6 := plus_prog now c.br.ttl
  have hce : c.enc = [.int .i64 c.workers, .int .i64 c.lease, .int .i64 c.ttl, .int .i64 c.quota, .int .i64 c.segment, .int .i64 c.disk] := rfl
  have hbe : c.br.enc = [.int .i64 c.br.workers, .int .i64 c.br.lease, .int .i64 c.br.ttl, .int .i64 c.br.quota, .int .i64 c.br.segment, .int .i64 c.br.disk] := rfl
  rw [hce] at h4 ⊢
  rw [hbe] at h4
  rcases hx : reqN r with _ | x
  · have hb : begL r epoch now c = (Entry.zero, 1) := by rw [begL, hx]
    rw [hb]
    rw [reqV_none hx] at h1
    unfold stV Entry.enc Req.enc at *
    refine slease_Begin fun H hh => ?_
    dsimp only [clease_Begin]
    refine walk1 (k := ?_)
    repeat' first | refine And.intro ?_ ?_ | intro
    all_goals refine leaf ?_
    refine callE (h1) ?_
    refine walk1 (k := ?_)
    repeat' first | refine And.intro ?_ ?_ | intro
    all_goals refine leaf ?_
    exact doneR rfl
  · obtain ⟨l1, l2, l3⟩ := reqN_lens hx
    have h7 := print_prog x.method x.path x.body (by omega) (by omega) (by omega)
    rw [reqV_some hx] at h1
    by_cases he : epoch < 1 ∨ 1073741824 < epoch
    · have hb : begL r epoch now c = (Entry.zero, 1) := by rw [begL, hx]; exact if_pos he
      rw [hb]
      unfold stV Entry.enc Req.enc at *
      refine slease_Begin fun H hh => ?_
      dsimp only [clease_Begin]
      refine walk1 (k := ?_)
      repeat' first | refine And.intro ?_ ?_ | intro
      all_goals refine leaf ?_
      refine callE (h1) ?_
      refine walk (k := ?_)
      repeat' first | refine And.intro ?_ ?_ | intro
      all_goals refine leaf ?_
      all_goals first
        | exact doneR rfl
        | (exfalso; omega)
        | skip
      all_goals exfalso
      all_goals omega
    · have hb : begL r epoch now c = (begE x epoch now c, 0) := by rw [begL, hx]; exact if_neg he
      rw [hb]
      unfold begE
      generalize prtL x.method x.path x.body = P at *
      generalize plusI now c.br.lease = t1 at *
      generalize plusI now c.br.ttl = t2 at *
      generalize c.br.lease = cl at *
      generalize c.br.ttl = ct at *
      clear hce hbe hb hx l1 l2 l3
      unfold stV Entry.enc Req.enc at *
      refine slease_Begin fun H hh => ?_
      dsimp only [clease_Begin]
      refine walk1 (k := ?_)
      repeat' first | refine And.intro ?_ ?_ | intro
      all_goals refine leaf ?_
      refine callE (h1) ?_
      refine walk (k := ?_)
      repeat' first | refine And.intro ?_ ?_ | intro
      all_goals refine leaf ?_
      all_goals try
        exfalso
        omega
      refine callE (h4) ?_
      refine walk1 (k := ?_)
      repeat' first | refine And.intro ?_ ?_ | intro
      all_goals refine leaf ?_
      refine callE (h7) ?_
      refine walk1 (k := ?_)
      repeat' first | refine And.intro ?_ ?_ | intro
      all_goals refine leaf ?_
      refine callE (h5) ?_
      refine walk1 (k := ?_)
      repeat' first | refine And.intro ?_ ?_ | intro
      all_goals refine leaf ?_
      refine callE (h6) ?_
      refine walk1 (k := ?_)
      repeat' first | refine And.intro ?_ ?_ | intro
      all_goals refine leaf ?_
      exact doneR rfl
end Go.Proofs.YtelgcaacaolgfaaGreatDoor

namespace Go.Proofs.YtelgcaacaolgfaaGreatDoor
open Go Go.CM
set_option maxRecDepth 100000
set_option maxHeartbeats 4000000

def passL (e : Entry) (token now : Int) (c : Conf) : Entry × Int :=
  if ownI e token ≠ 0 then (Entry.zero, ownI e token) else if e.point = 5 then (Entry.zero, 10) else ({ e with point := e.point + 1, lease := plusI now c.br.lease }, 0)
theorem ownI_can {e : Entry} {token : Int} (h : ownI e token = 0) : canP e ∧ e.token = token := by
  unfold ownI at h
  split at h
  · omega
  · rename_i h1
    split at h
    · omega
    · rename_i h2
      exact ⟨Classical.byContradiction h1, Classical.byContradiction h2⟩
theorem pass_prog (e : Entry) (token now : Int) (c : Conf) (hl : smallE e) : CallsR Tryz.prog nlease_Pass [.agg e.enc, .int .i64 token, .int .i64 now, .agg c.enc] [] fun v => v = stV (passL e token now c) := by
  have h1 := owned_prog e token hl
  have h4 := config_prog c
  have h5 := plus_prog now c.br.lease
  have hce : c.enc = [.int .i64 c.workers, .int .i64 c.lease, .int .i64 c.ttl, .int .i64 c.quota, .int .i64 c.segment, .int .i64 c.disk] := rfl
  have hbe : c.br.enc = [.int .i64 c.br.workers, .int .i64 c.br.lease, .int .i64 c.br.ttl, .int .i64 c.br.quota, .int .i64 c.br.segment, .int .i64 c.br.disk] := rfl
  rw [hce] at h4 ⊢
  rw [hbe] at h4
  unfold stV passL
  by_cases hk : ownI e token ≠ 0
  · rw [if_pos hk]
    unfold Entry.enc at h1 ⊢
    refine slease_Pass fun H hh => ?_
    dsimp only [clease_Pass]
    refine walk (k := ?_)
    repeat' first | refine And.intro ?_ ?_ | intro
    all_goals refine leaf ?_
    refine callE (h1) ?_
    refine walk (k := ?_)
    repeat' first | refine And.intro ?_ ?_ | intro
    all_goals refine leaf ?_
    all_goals first
      | exact doneR rfl
      | (exfalso; omega)
  · rw [if_neg hk]
    have hk0 : ownI e token = 0 := by omega
    rw [hk0] at h1
    have hpt : 0 ≤ e.point ∧ e.point ≤ 5 := (ownI_can hk0).1.2.1.2.2.2.1
    clear hk hk0
    generalize plusI now c.br.lease = t1 at *
    generalize c.br.lease = cl at *
    clear hce hbe
    by_cases hp : e.point = 5
    · rw [if_pos hp]
      unfold Entry.enc at h1 ⊢
      refine slease_Pass fun H hh => ?_
      dsimp only [clease_Pass]
      refine walk1 (k := ?_)
      repeat' first | refine And.intro ?_ ?_ | intro
      all_goals refine leaf ?_
      refine callE (h1) ?_
      refine walk (k := ?_)
      repeat' first | refine And.intro ?_ ?_ | intro
      all_goals refine leaf ?_
      all_goals first
        | exact doneR rfl
        | (exfalso; omega)
    · rw [if_neg hp]
      unfold Entry.enc at h1 ⊢
      refine slease_Pass fun H hh => ?_
      dsimp only [clease_Pass]
      refine walk1 (k := ?_)
      repeat' first | refine And.intro ?_ ?_ | intro
      all_goals refine leaf ?_
      refine callE (h1) ?_
      refine walk (k := ?_)
      repeat' first | refine And.intro ?_ ?_ | intro
      all_goals refine leaf ?_
      all_goals try
        exfalso
        omega
      refine callE (h4) ?_
      refine walk1 (k := ?_)
      repeat' first | refine And.intro ?_ ?_ | intro
      all_goals refine leaf ?_
      refine callE (h5) ?_
      refine walk1 (k := ?_)
      repeat' first | refine And.intro ?_ ?_ | intro
      all_goals refine leaf ?_
      exact doneR rfl
def failL (e : Entry) (token : Int) : Entry × Int := if ownI e token ≠ 0 then (Entry.zero, ownI e token) else (overE e 3, 0)
theorem fail_prog (e : Entry) (token : Int) (hl : smallE e) : CallsR Tryz.prog nlease_Fail [.agg e.enc, .int .i64 token] [] fun v => v = stV (failL e token) := by
  have h1 := owned_prog e token hl
  have h2 := over_prog e 3
  unfold stV failL
  by_cases hk : ownI e token ≠ 0
  · rw [if_pos hk]
    unfold Entry.enc at h1 ⊢
    refine slease_Fail fun H hh => ?_
    dsimp only [clease_Fail]
    refine walk (k := ?_)
    repeat' first | refine And.intro ?_ ?_ | intro
    all_goals refine leaf ?_
    refine callE (h1) ?_
    refine walk (k := ?_)
    repeat' first | refine And.intro ?_ ?_ | intro
    all_goals refine leaf ?_
    all_goals first
      | exact doneR rfl
      | (exfalso; omega)
  · rw [if_neg hk]
    have hk0 : ownI e token = 0 := by omega
    rw [hk0] at h1
    unfold overE at *
    unfold Entry.enc at h1 h2 ⊢
    refine slease_Fail fun H hh => ?_
    dsimp only [clease_Fail]
    refine walk1 (k := ?_)
    repeat' first | refine And.intro ?_ ?_ | intro
    all_goals refine leaf ?_
    refine callE (h1) ?_
    refine walk1 (k := ?_)
    repeat' first | refine And.intro ?_ ?_ | intro
    all_goals refine leaf ?_
    refine callE (h2) ?_
    refine walk1 (k := ?_)
    repeat' first | refine And.intro ?_ ?_ | intro
    all_goals refine leaf ?_
    exact doneR rfl
def relL (e : Entry) (token now : Int) : Entry × Int := if ownI e token ≠ 0 then (Entry.zero, ownI e token) else ({ e with lease := timI now }, 0)
theorem release_prog (e : Entry) (token now : Int) (hl : smallE e) : CallsR Tryz.prog nlease_Release [.agg e.enc, .int .i64 token, .int .i64 now] [] fun v => v = stV (relL e token now) := by
  have h1 := owned_prog e token hl
  have h2 := time_prog now
  unfold stV relL
  by_cases hk : ownI e token ≠ 0
  · rw [if_pos hk]
    unfold Entry.enc at h1 ⊢
    refine slease_Release fun H hh => ?_
    dsimp only [clease_Release]
    refine walk (k := ?_)
    repeat' first | refine And.intro ?_ ?_ | intro
    all_goals refine leaf ?_
    refine callE (h1) ?_
    refine walk (k := ?_)
    repeat' first | refine And.intro ?_ ?_ | intro
    all_goals refine leaf ?_
    all_goals first
      | exact doneR rfl
      | (exfalso; omega)
  · rw [if_neg hk]
    have hk0 : ownI e token = 0 := by omega
    rw [hk0] at h1
    generalize timI now = t1 at *
    unfold Entry.enc at h1 ⊢
    refine slease_Release fun H hh => ?_
    dsimp only [clease_Release]
    refine walk1 (k := ?_)
    repeat' first | refine And.intro ?_ ?_ | intro
    all_goals refine leaf ?_
    refine callE (h1) ?_
    refine walk1 (k := ?_)
    repeat' first | refine And.intro ?_ ?_ | intro
    all_goals refine leaf ?_
    refine callE (h2) ?_
    refine walk1 (k := ?_)
    repeat' first | refine And.intro ?_ ?_ | intro
    all_goals refine leaf ?_
    exact doneR rfl
end Go.Proofs.YtelgcaacaolgfaaGreatDoor
