/-
  Texts joined: May an entry be? The document's: any. Steps of an entry: the document's.
-/
import Derived.Test.YtelgcaacaolgfaaGreatDoorRefI
import Derived.Test.YtelgcaacaolgfaaGreatDoorRefJ
import Derived.Test.YtelgcaacaolgfaaGreatDoorRefK
import Derived.Test.YtelgcaacaolgfaaGreatDoorRefL
import Derived.Test.YtelgcaacaolgfaaGreatDoorRefG
import Derived.Test.YtelgcaacaolgfaaGreatDoorLeaE
namespace Go.Proofs.YtelgcaacaolgfaaGreatDoor
open Go Go.CM
set_option maxRecDepth 100000
set_option maxHeartbeats 4000000

theorem rmay_prog (e : Entry) (hk : e.key.length ≤ 1000000) : CallsR Tryz.prog nref14_May [.agg e.enc] [] fun v => v = .bool (decide (mayP e)) := by
  by_cases hH : mayH e
  · by_cases s1 : e.state = 1
    · rcases metV_of e.method with ⟨q1, q2, hv⟩ | ⟨q1, hv⟩
      · rcases pathV_of e.path with ⟨o, hp, hp2, hw⟩ | ⟨hp, hw⟩
        · exact rmayA_prog e hk hH s1 q1 q2 hv hp hw
        · refine rmayB_prog e hk hH s1 hv hw rfl ?_
          rintro (⟨_, _, a, b, c⟩ | h | h)
          · rw [pNorm, hp] at b; cases b
          · omega
          · omega
      · have hF : ¬ mayT e := by
          rintro (⟨_, _, a, b, c⟩ | h | h)
          · exact q1 a.1
          · omega
          · omega
        rcases pathV_of e.path with ⟨o, hp, hp2, hw⟩ | ⟨hp, hw⟩
        · exact rmayB_prog e hk hH s1 hv hw rfl hF
        · exact rmayB_prog e hk hH s1 hv hw rfl hF
    · exact rmayC_prog e hk hH s1
  · exact rmayD_prog e hk hH
end Go.Proofs.YtelgcaacaolgfaaGreatDoor

namespace Go.Proofs.YtelgcaacaolgfaaGreatDoor
open Go Go.CM
set_option maxRecDepth 100000
set_option maxHeartbeats 4000000

theorem rheld_prog (e : Entry) (now : Int) : CallsR Tryz.prog nref21_Held [.agg e.enc, .int .i64 now] [] fun v => v = .bool (decide (heldP e now)) := by
  unfold Entry.enc
  refine sref21_Held fun H hh => ?_
  dsimp only [cref21_Held]
  refine walk (k := ?_)
  repeat' first | refine And.intro ?_ ?_ | intro
  all_goals refine leaf ?_
  · skip
    refine callE ((rtime_prog now)) ?_
    refine walk (k := ?_)
    repeat' first | refine And.intro ?_ ?_ | intro
    all_goals refine leaf ?_
    refine doneR (congrArg V.bool ?_)
    rw [decide_eq_decide]; omega
  · exact doneR (congrArg V.bool (decide_eq_false (by omega)).symm)
theorem rconfig_prog (c : Conf) : CallsR Tryz.prog nref06_Config [.agg c.enc] [] fun v => v = .agg c.br.enc := by
  unfold Conf.enc Conf.br
  refine sref06_Config fun H hh => ?_
  dsimp only [cref06_Config]
  refine walk1 (k := ?_)
  repeat' first | refine And.intro ?_ ?_ | intro
  all_goals refine leaf ?_
  refine callE ((rbring_prog c.workers 1 4)) ?_
  refine walk1 (k := ?_)
  repeat' first | refine And.intro ?_ ?_ | intro
  all_goals refine leaf ?_
  refine callE ((rbring_prog c.lease 1 1073741824)) ?_
  refine walk1 (k := ?_)
  repeat' first | refine And.intro ?_ ?_ | intro
  all_goals refine leaf ?_
  refine callE ((rbring_prog c.ttl 1 1073741824)) ?_
  refine walk1 (k := ?_)
  repeat' first | refine And.intro ?_ ?_ | intro
  all_goals refine leaf ?_
  refine callE ((rbring_prog c.quota 1 200)) ?_
  refine walk1 (k := ?_)
  repeat' first | refine And.intro ?_ ?_ | intro
  all_goals refine leaf ?_
  refine callE ((rbring_prog c.segment 500 20000)) ?_
  refine walk1 (k := ?_)
  repeat' first | refine And.intro ?_ ?_ | intro
  all_goals refine leaf ?_
  refine callE ((rbring_prog c.disk 1000 60000)) ?_
  refine walk1 (k := ?_)
  repeat' first | refine And.intro ?_ ?_ | intro
  all_goals refine leaf ?_
  exact doneR rfl
theorem numI_br {n lo : Int} (h : 0 ≤ lo) (h2 : lo ≤ 1073741824) : numI (brI n lo 1073741824) = brI n lo 1073741824 := by
  have := brI_ge (n := n) (lo := lo) (hi := 1073741824) h2
  generalize brI n lo 1073741824 = x at *
  show (if x < 0 then 0 else if 1073741824 < x then 1073741824 else x) = x
  rw [if_neg (by omega), if_neg (by omega)]
theorem runtil_prog (now s : Int) (hs : numI s = s) (h0 : 0 ≤ s ∧ s ≤ 1073741824) : CallsR Tryz.prog nref21_until [.int .i64 now, .int .i64 s] [] fun v => v = .int .i64 (plusI now s) := by
  have h1 : 0 ≤ timI now ∧ timI now ≤ 1099511627776 := brI_ge (by decide)
  have hp : plusI now s = timI (timI now + s) := by rw [plusI, hs]
  rw [hp]
  refine sref21_until fun H hh => ?_
  dsimp only [cref21_until]
  refine walk1 (k := ?_)
  repeat' first | refine And.intro ?_ ?_ | intro
  all_goals refine leaf ?_
  refine callE ((rtime_prog now)) ?_
  refine walk1 (k := ?_)
  repeat' first | refine And.intro ?_ ?_ | intro
  all_goals refine leaf ?_
  refine callE ((rtime_prog (timI now + s))) ?_
  refine walk1 (k := ?_)
  repeat' first | refine And.intro ?_ ?_ | intro
  all_goals refine leaf ?_
  exact doneR rfl
theorem rlease_until (now : Int) (c : Conf) : CallsR Tryz.prog nref21_until [.int .i64 now, .int .i64 c.br.lease] [] fun v => v = .int .i64 (plusI now c.br.lease) :=
  runtil_prog now _ (numI_br (by decide) (by decide)) (by have := brI_ge (n := c.lease) (lo := 1) (hi := 1073741824) (by decide); exact ⟨by have := this.1; show 0 ≤ brI _ _ _; omega, this.2⟩)
theorem rttl_until (now : Int) (c : Conf) : CallsR Tryz.prog nref21_until [.int .i64 now, .int .i64 c.br.ttl] [] fun v => v = .int .i64 (plusI now c.br.ttl) :=
  runtil_prog now _ (numI_br (by decide) (by decide)) (by have := brI_ge (n := c.ttl) (lo := 1) (hi := 1073741824) (by decide); exact ⟨by have := this.1; show 0 ≤ brI _ _ _; omega, this.2⟩)
theorem rown_prog (e : Entry) (token : Int) (hk : e.key.length ≤ 1000000) : CallsR Tryz.prog nref21_may [.agg e.enc, .int .i64 token] [] fun v => v = .int .i64 (ownI e token) := by
  have h1 := rmay_prog e hk
  unfold Entry.enc at h1 ⊢
  unfold ownI
  by_cases hm : mayP e
  · rw [decide_eq_true hm] at h1
    by_cases s1 : e.state = 1
    · rw [if_neg (fun h => h ⟨s1, hm⟩)]
      refine sref21_may fun H hh => ?_
      dsimp only [cref21_may]
      refine walk (k := ?_)
      repeat' first | refine And.intro ?_ ?_ | intro
      all_goals refine leaf ?_
      all_goals try
        exfalso
        omega
      refine callE (h1) ?_
      refine walk (k := ?_)
      repeat' first | refine And.intro ?_ ?_ | intro
      all_goals refine leaf ?_
      · exact doneR (by rw [if_pos (by omega)])
      · exact doneR (by rw [if_neg (by omega)])
    · rw [if_pos (fun h => s1 h.1)]
      refine sref21_may fun H hh => ?_
      dsimp only [cref21_may]
      refine walk (k := ?_)
      repeat' first | refine And.intro ?_ ?_ | intro
      all_goals refine leaf ?_
      all_goals first
        | exact doneR rfl
        | (exfalso; omega)
  · rw [decide_eq_false hm] at h1
    rw [if_pos (fun h => hm h.2)]
    refine sref21_may fun H hh => ?_
    dsimp only [cref21_may]
    refine walk (k := ?_)
    repeat' first | refine And.intro ?_ ?_ | intro
    all_goals refine leaf ?_
    · exact doneR rfl
    · skip
      refine callE (h1) ?_
      refine walk1 (k := ?_)
      repeat' first | refine And.intro ?_ ?_ | intro
      all_goals refine leaf ?_
      exact doneR rfl
end Go.Proofs.YtelgcaacaolgfaaGreatDoor
