/-
  May an entry be? The document's: any.
-/
import Derived.Test.YtjgcgepfidcihaaGreatDoorRefH
import Derived.Test.YtjgcgepfidcihaaGreatDoorRefJ
import Derived.Test.YtjgcgepfidcihaaGreatDoorRefK
namespace Go.Proofs.YtjgcgepfidcihaaGreatDoor
open Go Go.CM
set_option maxRecDepth 100000
set_option maxHeartbeats 4000000

theorem rmay_prog (e : Entry) (hk : e.key.length ≤ 1000000) : CallsR Tryz.prog nref14_May [.agg e.enc] [] fun v => v = .bool (decide (mayP e)) := by
  by_cases hH : mayH e
  · by_cases s1 : e.state = 1
    · rcases metV_of e.method with ⟨q1, q2, hv⟩ | ⟨q1, hv⟩
      · rcases pathV_of e.path with ⟨o, hp, hp2, hw⟩ | ⟨hp, hw⟩
        · exact rmayA_prog e hk hH s1 q1 q2 hv hp hw
        · refine rmayB_prog e hk hH s1 hv hw rfl ?_
          rintro (⟨_, _, a, b, c⟩ | h | h)
          · rw [pNorm, hp] at b; cases b
          · omega
          · omega
      · have hF : ¬ mayT e := by
          rintro (⟨_, _, a, b, c⟩ | h | h)
          · exact q1 a.1
          · omega
          · omega
        rcases pathV_of e.path with ⟨o, hp, hp2, hw⟩ | ⟨hp, hw⟩
        · exact rmayB_prog e hk hH s1 hv hw rfl hF
        · exact rmayB_prog e hk hH s1 hv hw rfl hF
    · exact rmayC_prog e hk hH s1
  · exact rmayD_prog e hk hH
end Go.Proofs.YtjgcgepfidcihaaGreatDoor
