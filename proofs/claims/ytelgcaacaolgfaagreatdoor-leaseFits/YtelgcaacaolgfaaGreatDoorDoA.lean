/-
  A deed: the code's.
-/
import Derived.Test.YtelgcaacaolgfaaGreatDoorLawA
import Derived.Test.YtelgcaacaolgfaaGreatDoorLeaC
namespace Go.Proofs.YtelgcaacaolgfaaGreatDoor
open Go Go.CM
set_option maxRecDepth 100000
set_option maxHeartbeats 4000000

def tokD (e : Entry) (d : Deed) : Int := if d.own then e.token else d.token
def doL (e : Entry) (d : Deed) (c : Conf) : Entry × Int :=
  if d.kind % 6 = 0 then takeL e d.now c else if d.kind % 6 = 1 then passL e (if d.own then e.token else d.token) d.now c
  else if d.kind % 6 = 2 then finL e (if d.own then e.token else d.token) d.status d.text d.now c else if d.kind % 6 = 3 then failL e (if d.own then e.token else d.token)
  else if d.kind % 6 = 4 then relL e (if d.own then e.token else d.token) d.now else begL d.req d.token d.now c
theorem do_prog (e : Entry) (d : Deed) (c : Conf) (hd : 0 ≤ d.kind ∧ d.kind ≤ 255) (hs : smallE e) : CallsR Tryz.prog nlaw21_Do [.agg e.enc, .agg d.enc, .agg c.enc] [] fun v => v = stV (doL e d c) := by
  obtain ⟨kind, own, token, now, status, text, req⟩ := d
  unfold Entry.enc Deed.enc Conf.enc
  dsimp only at *
  cases own with
  | true =>
    refine slaw21_Do fun H hh => ?_
    dsimp only [claw21_Do]
    refine walk (k := ?_)
    repeat' first | refine And.intro ?_ ?_ | intro
    all_goals refine leaf ?_
    · have hD : doL e ⟨kind, true, token, now, status, text, req⟩ c = takeL e now c := by
        unfold doL
        dsimp only
        rw [if_pos (by omega)] <;> rfl
      rw [hD]
      have h := take_prog e now c hs
      generalize takeL e now c = X at h ⊢
      unfold stV Entry.enc at h
      try unfold Conf.enc at h
      try unfold Req.enc at h
      unfold stV Entry.enc
      refine callE (h) ?_
      refine walk1 (k := ?_)
      repeat' first | refine And.intro ?_ ?_ | intro
      all_goals refine leaf ?_
      exact doneR rfl
    · have hD : doL e ⟨kind, true, token, now, status, text, req⟩ c = passL e (e.token) now c := by
        unfold doL
        dsimp only
        rw [if_neg (by omega), if_pos (by omega)] <;> rfl
      rw [hD]
      have h := pass_prog e (e.token) now c hs
      generalize passL e (e.token) now c = X at h ⊢
      unfold stV Entry.enc at h
      try unfold Conf.enc at h
      try unfold Req.enc at h
      unfold stV Entry.enc
      refine callE (h) ?_
      refine walk1 (k := ?_)
      repeat' first | refine And.intro ?_ ?_ | intro
      all_goals refine leaf ?_
      exact doneR rfl
    · have hD : doL e ⟨kind, true, token, now, status, text, req⟩ c = finL e (e.token) status text now c := by
        unfold doL
        dsimp only
        rw [if_neg (by omega), if_neg (by omega), if_pos (by omega)] <;> rfl
      rw [hD]
      have h := finish_prog e (e.token) status text now c hs
      generalize finL e (e.token) status text now c = X at h ⊢
      unfold stV Entry.enc at h
      try unfold Conf.enc at h
      try unfold Req.enc at h
      unfold stV Entry.enc
      refine callE (h) ?_
      refine walk1 (k := ?_)
      repeat' first | refine And.intro ?_ ?_ | intro
      all_goals refine leaf ?_
      exact doneR rfl
    · have hD : doL e ⟨kind, true, token, now, status, text, req⟩ c = failL e (e.token) := by
        unfold doL
        dsimp only
        rw [if_neg (by omega), if_neg (by omega), if_neg (by omega), if_pos (by omega)] <;> rfl
      rw [hD]
      have h := fail_prog e (e.token) hs
      generalize failL e (e.token) = X at h ⊢
      unfold stV Entry.enc at h
      try unfold Conf.enc at h
      try unfold Req.enc at h
      unfold stV Entry.enc
      refine callE (h) ?_
      refine walk1 (k := ?_)
      repeat' first | refine And.intro ?_ ?_ | intro
      all_goals refine leaf ?_
      exact doneR rfl
    · have hD : doL e ⟨kind, true, token, now, status, text, req⟩ c = relL e (e.token) now := by
        unfold doL
        dsimp only
        rw [if_neg (by omega), if_neg (by omega), if_neg (by omega), if_neg (by omega), if_pos (by omega)] <;> rfl
      rw [hD]
      have h := release_prog e (e.token) now hs
      generalize relL e (e.token) now = X at h ⊢
      unfold stV Entry.enc at h
      try unfold Conf.enc at h
      try unfold Req.enc at h
      unfold stV Entry.enc
      refine callE (h) ?_
      refine walk1 (k := ?_)
      repeat' first | refine And.intro ?_ ?_ | intro
      all_goals refine leaf ?_
      exact doneR rfl
    · have hD : doL e ⟨kind, true, token, now, status, text, req⟩ c = begL req token now c := by
        unfold doL
        dsimp only
        rw [if_neg (by omega), if_neg (by omega), if_neg (by omega), if_neg (by omega), if_neg (by omega)] <;> rfl
      rw [hD]
      have h := begin_prog req token now c
      generalize begL req token now c = X at h ⊢
      unfold stV Entry.enc at h
      try unfold Conf.enc at h
      try unfold Req.enc at h
      unfold stV Entry.enc
      refine callE (h) ?_
      refine walk1 (k := ?_)
      repeat' first | refine And.intro ?_ ?_ | intro
      all_goals refine leaf ?_
      exact doneR rfl
  | false =>
    refine slaw21_Do fun H hh => ?_
    dsimp only [claw21_Do]
    refine walk (k := ?_)
    repeat' first | refine And.intro ?_ ?_ | intro
    all_goals refine leaf ?_
    · have hD : doL e ⟨kind, false, token, now, status, text, req⟩ c = takeL e now c := by
        unfold doL
        dsimp only
        rw [if_pos (by omega)] <;> rfl
      rw [hD]
      have h := take_prog e now c hs
      generalize takeL e now c = X at h ⊢
      unfold stV Entry.enc at h
      try unfold Conf.enc at h
      try unfold Req.enc at h
      unfold stV Entry.enc
      refine callE (h) ?_
      refine walk1 (k := ?_)
      repeat' first | refine And.intro ?_ ?_ | intro
      all_goals refine leaf ?_
      exact doneR rfl
    · have hD : doL e ⟨kind, false, token, now, status, text, req⟩ c = passL e (token) now c := by
        unfold doL
        dsimp only
        rw [if_neg (by omega), if_pos (by omega)] <;> rfl
      rw [hD]
      have h := pass_prog e (token) now c hs
      generalize passL e (token) now c = X at h ⊢
      unfold stV Entry.enc at h
      try unfold Conf.enc at h
      try unfold Req.enc at h
      unfold stV Entry.enc
      refine callE (h) ?_
      refine walk1 (k := ?_)
      repeat' first | refine And.intro ?_ ?_ | intro
      all_goals refine leaf ?_
      exact doneR rfl
    · have hD : doL e ⟨kind, false, token, now, status, text, req⟩ c = finL e (token) status text now c := by
        unfold doL
        dsimp only
        rw [if_neg (by omega), if_neg (by omega), if_pos (by omega)] <;> rfl
      rw [hD]
      have h := finish_prog e (token) status text now c hs
      generalize finL e (token) status text now c = X at h ⊢
      unfold stV Entry.enc at h
      try unfold Conf.enc at h
      try unfold Req.enc at h
      unfold stV Entry.enc
      refine callE (h) ?_
      refine walk1 (k := ?_)
      repeat' first | refine And.intro ?_ ?_ | intro
      all_goals refine leaf ?_
      exact doneR rfl
    · have hD : doL e ⟨kind, false, token, now, status, text, req⟩ c = failL e (token) := by
        unfold doL
        dsimp only
        rw [if_neg (by omega), if_neg (by omega), if_neg (by omega), if_pos (by omega)] <;> rfl
      rw [hD]
      have h := fail_prog e (token) hs
      generalize failL e (token) = X at h ⊢
      unfold stV Entry.enc at h
      try unfold Conf.enc at h
      try unfold Req.enc at h
      unfold stV Entry.enc
      refine callE (h) ?_
      refine walk1 (k := ?_)
      repeat' first | refine And.intro ?_ ?_ | intro
      all_goals refine leaf ?_
      exact doneR rfl
    · have hD : doL e ⟨kind, false, token, now, status, text, req⟩ c = relL e (token) now := by
        unfold doL
        dsimp only
        rw [if_neg (by omega), if_neg (by omega), if_neg (by omega), if_neg (by omega), if_pos (by omega)] <;> rfl
      rw [hD]
      have h := release_prog e (token) now hs
      generalize relL e (token) now = X at h ⊢
      unfold stV Entry.enc at h
      try unfold Conf.enc at h
      try unfold Req.enc at h
      unfold stV Entry.enc
      refine callE (h) ?_
      refine walk1 (k := ?_)
      repeat' first | refine And.intro ?_ ?_ | intro
      all_goals refine leaf ?_
      exact doneR rfl
    · have hD : doL e ⟨kind, false, token, now, status, text, req⟩ c = begL req token now c := by
        unfold doL
        dsimp only
        rw [if_neg (by omega), if_neg (by omega), if_neg (by omega), if_neg (by omega), if_neg (by omega)] <;> rfl
      rw [hD]
      have h := begin_prog req token now c
      generalize begL req token now c = X at h ⊢
      unfold stV Entry.enc at h
      try unfold Conf.enc at h
      try unfold Req.enc at h
      unfold stV Entry.enc
      refine callE (h) ?_
      refine walk1 (k := ?_)
      repeat' first | refine And.intro ?_ ?_ | intro
      all_goals refine leaf ?_
      exact doneR rfl
end Go.Proofs.YtelgcaacaolgfaaGreatDoor
