/-
  Fingerprints and requests: the document's.
-/
import Derived.Test.YtelgcaacaolgfaaGreatDoorRefF
import Derived.Test.YtelgcaacaolgfaaGreatDoorRefC
namespace Go.Proofs.YtelgcaacaolgfaaGreatDoor
open Go Go.CM
set_option maxRecDepth 100000
set_option maxHeartbeats 4000000

theorem rnum1_prog (n : Nat) (hn : n < 128) : CallsR Tryz.prog nref01_Num [.int .i64 (n : Nat)] [] fun v => v = .str [UInt8.ofNat n] := by
  have hb : V.int .u8 (((n : Nat) : Int) % 128) = .int .u8 ((UInt8.ofNat n).toNat : Nat) := by
    rw [UInt8.toNat_ofNat']
    exact congrArg (V.int .u8) (by omega)
  refine sref01_Num fun H hh => ?_
  dsimp only [cref01_Num]
  refine walk1 (k := ?_)
  repeat' first | refine And.intro ?_ ?_ | intro
  all_goals refine leaf ?_
  rename_i t _ hh
  rw [hb] at hh
  refine wps_b2s (l := [UInt8.ofNat n]) hh rfl .here ?_
  refine walk1 (k := ?_)
  repeat' first | refine And.intro ?_ ?_ | intro
  all_goals refine leaf ?_
  refine loopM [0, 3] (fun m vs L => m = 0 ∧ vs = [.int .i64 0, .str [UInt8.ofNat n]] ∧ L = []) (Nx.weak (i := 0) (N := []) (vs := [.int .i64 0, .str [UInt8.ofNat n]]) trivial (.cons (by
      have : V.int .i64 (((n : Nat) : Int) / 128) = .int .i64 0 := congrArg (V.int .i64) (by omega)
      rw [← this]
      exact Wk.refl _) (.cons (Wk.refl _) .nil)) ⟨rfl, rfl, rfl⟩) ?_
  clear hh
  rintro m _ _ env H ⟨rfl, rfl, rfl⟩ hh
  simp only [puts]
  refine walk1 (k := ?_)
  repeat' first | refine And.intro ?_ ?_ | intro
  all_goals refine leaf ?_
  exact doneR rfl
theorem rtext_prog (s : List UInt8) (hs : s.length < 128) : CallsR Tryz.prog nref01_Text [.str s] [] fun v => v = .str (txtL s) := by
  refine sref01_Text fun H hh => ?_
  dsimp only [cref01_Text]
  refine walk1 (k := ?_)
  repeat' first | refine And.intro ?_ ?_ | intro
  all_goals refine leaf ?_
  refine callE ((rnum1_prog s.length hs)) ?_
  refine walk1 (k := ?_)
  repeat' first | refine And.intro ?_ ?_ | intro
  all_goals refine leaf ?_
  refine wps_rd (v := .str (txtL s)) (catV (a := [UInt8.ofNat s.length]) (by show 1 + _ ≤ _; omega)) ?_
  refine walk1 (k := ?_)
  repeat' first | refine And.intro ?_ ?_ | intro
  all_goals refine leaf ?_
  exact doneR rfl
theorem rprint_prog (m p b : List UInt8) (hm : m.length < 128) (hp : p.length < 128) (hb : b.length < 128) : CallsR Tryz.prog nref05_Print [.str m, .str p, .str b] [] fun v => v = .str (prtL m p b) := by
  have l1 : (txtL m).length = m.length + 1 := rfl
  have l2 : (txtL p).length = p.length + 1 := rfl
  have l3 : (txtL b).length = b.length + 1 := rfl
  have hsum := rsum_prog (txtL m ++ txtL p ++ txtL b) (by rw [List.length_append, List.length_append]; omega)
  refine sref05_Print fun H hh => ?_
  dsimp only [cref05_Print]
  refine walk1 (k := ?_)
  repeat' first | refine And.intro ?_ ?_ | intro
  all_goals refine leaf ?_
  refine callE ((rtext_prog m hm)) ?_
  refine walk1 (k := ?_)
  repeat' first | refine And.intro ?_ ?_ | intro
  all_goals refine leaf ?_
  refine callE ((rtext_prog p hp)) ?_
  refine walk1 (k := ?_)
  repeat' first | refine And.intro ?_ ?_ | intro
  all_goals refine leaf ?_
  refine wps_rd (v := .str (txtL m ++ txtL p)) (catV (by omega)) ?_
  refine walk1 (k := ?_)
  repeat' first | refine And.intro ?_ ?_ | intro
  all_goals refine leaf ?_
  refine callE ((rtext_prog b hb)) ?_
  refine walk1 (k := ?_)
  repeat' first | refine And.intro ?_ ?_ | intro
  all_goals refine leaf ?_
  refine wps_rd (v := .str (txtL m ++ txtL p ++ txtL b)) (catV (by rw [List.length_append]; omega)) ?_
  refine callE (hsum) ?_
  refine walk1 (k := ?_)
  repeat' first | refine And.intro ?_ ?_ | intro
  all_goals refine leaf ?_
  exact doneR rfl
theorem rrequest_prog (r : Req) (hk : r.key.length ≤ 1000000) : CallsR Tryz.prog nref05_Request [.agg r.enc] [] fun v => v = reqV r := by
  have h1 := rmethod_prog r.method
  have h2 := rpath_prog r.path
  have h3 := rkey_prog r.key hk
  rcases metV_of r.method with ⟨hm, _, hv⟩ | ⟨hm, hv⟩
  · rcases pathV_of r.path with ⟨o, hp, _, hw⟩ | ⟨hp, hw⟩
    · rw [hv] at h1
      rw [hw] at h2
      by_cases hq : reqP r
      · rw [decide_eq_true hq.2.2.1] at h3
        have hqi := hq.2.1
        have hqb := hq.2.2.2
        rw [reqV_some (reqN_ok hp hq)]
        unfold Req.enc
        refine sref05_Request fun H hh => ?_
        dsimp only [cref05_Request]
        refine walk1 (k := ?_)
        repeat' first | refine And.intro ?_ ?_ | intro
        all_goals refine leaf ?_
        refine callE (h1) ?_
        refine walk1 (k := ?_)
        repeat' first | refine And.intro ?_ ?_ | intro
        all_goals refine leaf ?_
        refine callE (h2) ?_
        refine walk1 (k := ?_)
        repeat' first | refine And.intro ?_ ?_ | intro
        all_goals refine leaf ?_
        refine callE (h3) ?_
        refine walk (k := ?_)
        repeat' first | refine And.intro ?_ ?_ | intro
        all_goals refine leaf ?_
        all_goals first
          | (exfalso; omega)
          | exact doneR rfl
      · rw [reqV_none (reqN_bad hq)]
        unfold Req.enc Req.zero
        by_cases hk1 : keyOK r.key
        · rw [decide_eq_true hk1] at h3
          have hq2 : ¬ (reqI r ∧ r.body.length ≤ 80) := fun h => hq ⟨hm, h.1, hk1, h.2⟩
          refine sref05_Request fun H hh => ?_
          dsimp only [cref05_Request]
          refine walk1 (k := ?_)
          repeat' first | refine And.intro ?_ ?_ | intro
          all_goals refine leaf ?_
          refine callE (h1) ?_
          refine walk1 (k := ?_)
          repeat' first | refine And.intro ?_ ?_ | intro
          all_goals refine leaf ?_
          refine callE (h2) ?_
          refine walk1 (k := ?_)
          repeat' first | refine And.intro ?_ ?_ | intro
          all_goals refine leaf ?_
          refine callE (h3) ?_
          refine walk (k := ?_)
          repeat' first | refine And.intro ?_ ?_ | intro
          all_goals refine leaf ?_
          all_goals first
            | exact doneR rfl
            | (exfalso; omega)
        · rw [decide_eq_false hk1] at h3
          refine sref05_Request fun H hh => ?_
          dsimp only [cref05_Request]
          refine walk1 (k := ?_)
          repeat' first | refine And.intro ?_ ?_ | intro
          all_goals refine leaf ?_
          refine callE (h1) ?_
          refine walk1 (k := ?_)
          repeat' first | refine And.intro ?_ ?_ | intro
          all_goals refine leaf ?_
          refine callE (h2) ?_
          refine walk1 (k := ?_)
          repeat' first | refine And.intro ?_ ?_ | intro
          all_goals refine leaf ?_
          refine callE (h3) ?_
          refine walk1 (k := ?_)
          repeat' first | refine And.intro ?_ ?_ | intro
          all_goals refine leaf ?_
          exact doneR rfl
    · rw [hv] at h1
      rw [hw] at h2
      rw [reqV_none (reqN_path hp)]
      unfold Req.enc Req.zero
      refine sref05_Request fun H hh => ?_
      dsimp only [cref05_Request]
      refine walk1 (k := ?_)
      repeat' first | refine And.intro ?_ ?_ | intro
      all_goals refine leaf ?_
      refine callE (h1) ?_
      refine walk1 (k := ?_)
      repeat' first | refine And.intro ?_ ?_ | intro
      all_goals refine leaf ?_
      refine callE (h2) ?_
      refine walk1 (k := ?_)
      repeat' first | refine And.intro ?_ ?_ | intro
      all_goals refine leaf ?_
      exact doneR rfl
  · rw [hv] at h1
    rw [reqV_none (reqN_bad fun h => hm h.1)]
    rcases pathV_of r.path with ⟨o, hp, _, hw⟩ | ⟨hp, hw⟩
    all_goals
      rw [hw] at h2
      unfold Req.enc Req.zero
      refine sref05_Request fun H hh => ?_
      dsimp only [cref05_Request]
      refine walk1 (k := ?_)
      repeat' first | refine And.intro ?_ ?_ | intro
      all_goals refine leaf ?_
      refine callE (h1) ?_
      refine walk1 (k := ?_)
      repeat' first | refine And.intro ?_ ?_ | intro
      all_goals refine leaf ?_
      refine callE (h2) ?_
      refine walk1 (k := ?_)
      repeat' first | refine And.intro ?_ ?_ | intro
      all_goals refine leaf ?_
      exact doneR rfl
end Go.Proofs.YtelgcaacaolgfaaGreatDoor
