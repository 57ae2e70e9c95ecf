/-
  Texts joined: May an entry be? The document's: its name. May an entry be? The document's: one that runs, with its forms.
-/
import Derived.Test.YtjgcgepfidcihaaGreatDoorRefC
namespace Go.Proofs.YtjgcgepfidcihaaGreatDoor
open Go Go.CM
set_option maxRecDepth 100000
set_option maxHeartbeats 4000000

theorem rnamed_prog (e : Entry) (hk : e.key.length ≤ 1000000) : CallsR Tryz.prog nref14_named [.agg e.enc] [] fun v => v = .bool (decide (namP e)) := by
  unfold Entry.enc
  have hk := rkey_prog e.key hk
  refine sref14_named fun H hh => ?_
  dsimp only [cref14_named]
  refine walk (k := ?_)
  repeat' first | refine And.intro ?_ ?_ | intro
  all_goals refine leaf ?_
  · skip
    refine callE (hk) ?_
    refine walk1 (k := ?_)
    repeat' first | refine And.intro ?_ ?_ | intro
    all_goals refine leaf ?_
    refine doneR (congrArg V.bool ?_)
    rw [decide_eq_decide]
    exact ⟨fun h => ⟨by omega, by omega, h⟩, fun h => h.2.2⟩
  · exact doneR (congrArg V.bool (decide_eq_false (by rintro ⟨h1, h2, _⟩; omega)).symm)
  · exact doneR (congrArg V.bool (decide_eq_false (by rintro ⟨h1, h2, _⟩; omega)).symm)
end Go.Proofs.YtjgcgepfidcihaaGreatDoor

namespace Go.Proofs.YtjgcgepfidcihaaGreatDoor
open Go Go.CM
set_option maxRecDepth 100000
set_option maxHeartbeats 4000000

theorem rmayA_prog (e : Entry) (hk : e.key.length ≤ 1000000) (hH : mayH e) (s1 : e.state = 1) (q1 : metP e.method) (_ : e.method.map upB ≠ []) (hv : metV e.method = .tup [.str (e.method.map upB), .bool true]) {o : List UInt8} (hp : pathL e.path = some o) (hw : pathV e.path = .tup [.str o, .bool true]) : CallsR Tryz.prog nref14_May [.agg e.enc] [] fun v => v = .bool (decide (mayP e)) := by
  have h1 := rnamed_prog e hk
  have hme := rmethod_prog e.method
  have hpa := rpath_prog e.path
  unfold Entry.enc at h1 ⊢
  have hm : decide (mayP e) = decide (mayT e) := by
    rw [decide_eq_decide]
    exact ⟨fun h => h.2, fun h => ⟨hH, h⟩⟩
  rw [hm]
  clear hm
  obtain ⟨c1, c2, c3, c4, c5, c6, c7⟩ := hH
  rw [decide_eq_true c1] at h1
  rw [hv] at hme
  rw [hw] at hpa
  refine sref14_May fun H hh => ?_
  dsimp only [cref14_May]
  refine walk1 (k := ?_)
  repeat' first | refine And.intro ?_ ?_ | intro
  all_goals refine leaf ?_
  refine callE (h1) ?_
  refine walk (k := ?_)
  repeat' first | refine And.intro ?_ ?_ | intro
  all_goals refine leaf ?_
  all_goals try
    exfalso
    omega
  refine callE (hme) ?_
  refine walk1 (k := ?_)
  repeat' first | refine And.intro ?_ ?_ | intro
  all_goals refine leaf ?_
  refine callE (hpa) ?_
  refine walk (k := ?_)
  repeat' first | refine And.intro ?_ ?_ | intro
  all_goals refine leaf ?_
  all_goals refine doneR (congrArg V.bool ?_)
  all_goals first
    | (rw [Bool.eq_iff_iff, beq_iff_eq, decide_eq_true_iff]
       exact ⟨fun h => .inl ⟨s1, ⟨by omega, h⟩, ⟨q1, by assumption⟩, by rw [pNorm, hp, ‹o = e.path›], by omega⟩, fun h => h.elim (fun h => h.2.1.2) fun h => h.elim (fun h => by omega) fun h => by omega⟩)
    | (refine (decide_eq_false ?_).symm
       rintro (⟨_, ⟨a1, a2⟩, ⟨b1, b2⟩, c, d⟩ | h | h)
       · first
           | omega
           | exact absurd b2 (by assumption)
           | (rw [pNorm, hp] at c; exact absurd (Option.some.inj c) (by assumption))
       · omega
       · omega)
end Go.Proofs.YtjgcgepfidcihaaGreatDoor
