/-
  A deed: the document's.
-/
import Derived.Test.YtelgcaacaolgfaaGreatDoorDoA
import Derived.Test.YtelgcaacaolgfaaGreatDoorRefO
import Derived.Test.YtelgcaacaolgfaaGreatDoorRefP
namespace Go.Proofs.YtelgcaacaolgfaaGreatDoor
open Go Go.CM
set_option maxRecDepth 100000
set_option maxHeartbeats 4000000

theorem own_noa {e : Entry} {token : Int} (h : ownI e token = 0) : e.status = 0 ∧ e.text = [] := by
  obtain ⟨⟨s1, _, hT⟩, _⟩ := ownI_can h
  rcases hT with ⟨_, h, _⟩ | ⟨h, _⟩ | ⟨h, _⟩
  · exact h
  · omega
  · omega
theorem want_prog (e : Entry) (d : Deed) (c : Conf) (hd : 0 ≤ d.kind ∧ d.kind ≤ 255) (hk : e.key.length ≤ 1000000) (hq : d.req.key.length ≤ 1000000) : CallsR Tryz.prog nlaw21_want [.agg e.enc, .agg d.enc, .agg c.enc] [] fun v => v = stV (doL e d c) := by
  obtain ⟨kind, own, token, now, status, text, req⟩ := d
  unfold Entry.enc Deed.enc Conf.enc
  dsimp only at *
  cases own with
  | true =>
    refine slaw21_want fun H hh => ?_
    dsimp only [claw21_want]
    refine walk (k := ?_)
    repeat' first | refine And.intro ?_ ?_ | intro
    all_goals refine leaf ?_
    · have hD : doL e ⟨kind, true, token, now, status, text, req⟩ c = takeL e now c := by
        unfold doL
        dsimp only
        rw [if_pos (by omega)] <;> rfl
      rw [hD]
      have h := rtake_prog e now c hk
      generalize takeL e now c = X at h ⊢
      unfold stV Entry.enc at h
      try unfold Conf.enc at h
      try unfold Req.enc at h
      unfold stV Entry.enc
      refine callE (h) ?_
      refine walk1 (k := ?_)
      repeat' first | refine And.intro ?_ ?_ | intro
      all_goals refine leaf ?_
      exact doneR rfl
    · have hD : doL e ⟨kind, true, token, now, status, text, req⟩ c = passL e (e.token) now c := by
        unfold doL
        dsimp only
        rw [if_neg (by omega), if_pos (by omega)] <;> rfl
      rw [hD]
      have h := rpass_prog e (e.token) now c hk
      generalize passL e (e.token) now c = X at h ⊢
      unfold stV Entry.enc at h
      try unfold Conf.enc at h
      try unfold Req.enc at h
      unfold stV Entry.enc
      refine callE (h) ?_
      refine walk1 (k := ?_)
      repeat' first | refine And.intro ?_ ?_ | intro
      all_goals refine leaf ?_
      exact doneR rfl
    · have hD : doL e ⟨kind, true, token, now, status, text, req⟩ c = finL e (e.token) status text now c := by
        unfold doL
        dsimp only
        rw [if_neg (by omega), if_neg (by omega), if_pos (by omega)] <;> rfl
      rw [hD]
      have h := rfinish_prog e (e.token) status text now c hk
      generalize finL e (e.token) status text now c = X at h ⊢
      unfold stV Entry.enc at h
      try unfold Conf.enc at h
      try unfold Req.enc at h
      unfold stV Entry.enc
      refine callE (h) ?_
      refine walk1 (k := ?_)
      repeat' first | refine And.intro ?_ ?_ | intro
      all_goals refine leaf ?_
      exact doneR rfl
    · have hD : doL e ⟨kind, true, token, now, status, text, req⟩ c = failL e (e.token) := by
        unfold doL
        dsimp only
        rw [if_neg (by omega), if_neg (by omega), if_neg (by omega), if_pos (by omega)] <;> rfl
      rw [hD]
      have h := rfail_prog e (e.token) hk own_noa
      generalize failL e (e.token) = X at h ⊢
      unfold stV Entry.enc at h
      try unfold Conf.enc at h
      try unfold Req.enc at h
      unfold stV Entry.enc
      refine callE (h) ?_
      refine walk1 (k := ?_)
      repeat' first | refine And.intro ?_ ?_ | intro
      all_goals refine leaf ?_
      exact doneR rfl
    · have hD : doL e ⟨kind, true, token, now, status, text, req⟩ c = relL e (e.token) now := by
        unfold doL
        dsimp only
        rw [if_neg (by omega), if_neg (by omega), if_neg (by omega), if_neg (by omega), if_pos (by omega)] <;> rfl
      rw [hD]
      have h := rrelease_prog e (e.token) now hk
      generalize relL e (e.token) now = X at h ⊢
      unfold stV Entry.enc at h
      try unfold Conf.enc at h
      try unfold Req.enc at h
      unfold stV Entry.enc
      refine callE (h) ?_
      refine walk1 (k := ?_)
      repeat' first | refine And.intro ?_ ?_ | intro
      all_goals refine leaf ?_
      exact doneR rfl
    · have hD : doL e ⟨kind, true, token, now, status, text, req⟩ c = begL req token now c := by
        unfold doL
        dsimp only
        rw [if_neg (by omega), if_neg (by omega), if_neg (by omega), if_neg (by omega), if_neg (by omega)] <;> rfl
      rw [hD]
      have h := rbegin_prog req token now c hq
      generalize begL req token now c = X at h ⊢
      unfold stV Entry.enc at h
      try unfold Conf.enc at h
      try unfold Req.enc at h
      unfold stV Entry.enc
      refine callE (h) ?_
      refine walk1 (k := ?_)
      repeat' first | refine And.intro ?_ ?_ | intro
      all_goals refine leaf ?_
      exact doneR rfl
  | false =>
    refine slaw21_want fun H hh => ?_
    dsimp only [claw21_want]
    refine walk (k := ?_)
    repeat' first | refine And.intro ?_ ?_ | intro
    all_goals refine leaf ?_
    · have hD : doL e ⟨kind, false, token, now, status, text, req⟩ c = takeL e now c := by
        unfold doL
        dsimp only
        rw [if_pos (by omega)] <;> rfl
      rw [hD]
      have h := rtake_prog e now c hk
      generalize takeL e now c = X at h ⊢
      unfold stV Entry.enc at h
      try unfold Conf.enc at h
      try unfold Req.enc at h
      unfold stV Entry.enc
      refine callE (h) ?_
      refine walk1 (k := ?_)
      repeat' first | refine And.intro ?_ ?_ | intro
      all_goals refine leaf ?_
      exact doneR rfl
    · have hD : doL e ⟨kind, false, token, now, status, text, req⟩ c = passL e (token) now c := by
        unfold doL
        dsimp only
        rw [if_neg (by omega), if_pos (by omega)] <;> rfl
      rw [hD]
      have h := rpass_prog e (token) now c hk
      generalize passL e (token) now c = X at h ⊢
      unfold stV Entry.enc at h
      try unfold Conf.enc at h
      try unfold Req.enc at h
      unfold stV Entry.enc
      refine callE (h) ?_
      refine walk1 (k := ?_)
      repeat' first | refine And.intro ?_ ?_ | intro
      all_goals refine leaf ?_
      exact doneR rfl
    · have hD : doL e ⟨kind, false, token, now, status, text, req⟩ c = finL e (token) status text now c := by
        unfold doL
        dsimp only
        rw [if_neg (by omega), if_neg (by omega), if_pos (by omega)] <;> rfl
      rw [hD]
      have h := rfinish_prog e (token) status text now c hk
      generalize finL e (token) status text now c = X at h ⊢
      unfold stV Entry.enc at h
      try unfold Conf.enc at h
      try unfold Req.enc at h
      unfold stV Entry.enc
      refine callE (h) ?_
      refine walk1 (k := ?_)
      repeat' first | refine And.intro ?_ ?_ | intro
      all_goals refine leaf ?_
      exact doneR rfl
    · have hD : doL e ⟨kind, false, token, now, status, text, req⟩ c = failL e (token) := by
        unfold doL
        dsimp only
        rw [if_neg (by omega), if_neg (by omega), if_neg (by omega), if_pos (by omega)] <;> rfl
      rw [hD]
      have h := rfail_prog e (token) hk own_noa
      generalize failL e (token) = X at h ⊢
      unfold stV Entry.enc at h
      try unfold Conf.enc at h
      try unfold Req.enc at h
      unfold stV Entry.enc
      refine callE (h) ?_
      refine walk1 (k := ?_)
      repeat' first | refine And.intro ?_ ?_ | intro
      all_goals refine leaf ?_
      exact doneR rfl
    · have hD : doL e ⟨kind, false, token, now, status, text, req⟩ c = relL e (token) now := by
        unfold doL
        dsimp only
        rw [if_neg (by omega), if_neg (by omega), if_neg (by omega), if_neg (by omega), if_pos (by omega)] <;> rfl
      rw [hD]
      have h := rrelease_prog e (token) now hk
      generalize relL e (token) now = X at h ⊢
      unfold stV Entry.enc at h
      try unfold Conf.enc at h
      try unfold Req.enc at h
      unfold stV Entry.enc
      refine callE (h) ?_
      refine walk1 (k := ?_)
      repeat' first | refine And.intro ?_ ?_ | intro
      all_goals refine leaf ?_
      exact doneR rfl
    · have hD : doL e ⟨kind, false, token, now, status, text, req⟩ c = begL req token now c := by
        unfold doL
        dsimp only
        rw [if_neg (by omega), if_neg (by omega), if_neg (by omega), if_neg (by omega), if_neg (by omega)] <;> rfl
      rw [hD]
      have h := rbegin_prog req token now c hq
      generalize begL req token now c = X at h ⊢
      unfold stV Entry.enc at h
      try unfold Conf.enc at h
      try unfold Req.enc at h
      unfold stV Entry.enc
      refine callE (h) ?_
      refine walk1 (k := ?_)
      repeat' first | refine And.intro ?_ ?_ | intro
      all_goals refine leaf ?_
      exact doneR rfl
end Go.Proofs.YtelgcaacaolgfaaGreatDoor
