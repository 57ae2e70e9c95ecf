/-
  SeglogKeeps holds for every input: the law returns true, and its arguments read as before.
-/
import Derived.Test.YtkfhgpegnnokgaaGreatDoorKepW
import Derived.Test.YtkfhgpegnnokgaaGreatDoorCards
import Derived.Test.YtkfhgpegnnokgaaGreatDoorGlbW
import Derived.Test.YtkfhgpegnnokgaaGreatDoorTie
import Derived.LaidMore
import Derived.Lay
import Derived.SevenTiedAt
import Derived.Stop.Joined
namespace Go.Proofs.YtkfhgpegnnokgaaGreatDoor.seglogKeeps
open Go Go.CM Go.ChangeShapes Go.WideShapes Go.ChangeAt Go.RowKit
theorem own : ownKnob Tryz.prog.godebug = none := by kernel_rfl
theorem laidOut : laidOutB Tryz.prog = true := by kernel_rfl
theorem pks : pkTs Tryz.prog Tryz.f3.params.toList = some [.one (.i .i64), .rows [.i .u8, .s, .i .i64, .i .i64, .i .i64]] := by kernel_rfl

set_option maxRecDepth 100000 in
theorem lifted (os : Os) (started : os.Started) (H : Type) (enc : TypeId × Value → H) :
    ReturnsInHanded {} Tryz.checked os 3 .any (fun w args => (Rows.seglogKeepsSpec.pre enc Tryz.prog Tryz.f3 Rows.seglogKeepsRow.domain false w args ∧ laidMetH Tryz.prog Rows.seglogKeepsRow.laid w) ∧ sizedMet enc Tryz.prog Tryz.f3 (OpenSpec.ofChange Rows.seglogKeepsSpec) false w args) (Rows.seglogKeepsSpec.post enc Tryz.prog Tryz.f3 false true false false) := by
  refine returnsInHanded_shaped (C := Tryz.checked) (X := fun w _ => laidMetH Tryz.prog Rows.seglogKeepsRow.laid w) (fun _ _ _ hh h => h.of_heap hh) own started (by kernel_rfl) Tryz.func3
    (ChangeSpec.witness_shaped (enc := enc) (C := Tryz.checked) (os := os) (X := fun w _ => laidMetH Tryz.prog Rows.seglogKeepsRow.laid w) false (World.laidAll Tryz.prog os Rows.seglogKeepsRow.laid) #[.int .i64 0, .slice none 0 0] 8 (World.laidAll_os _ _ _)
      (World.shaped_of_ZipB (by kernel_rfl) (by kernel_rfl)) (by kernel_rfl) (by kernel_rfl) (by kernel_rfl)
      (by rw [MakeChecks.laidMetH_plain _ _ _ (by kernel_rfl)]; exact laidMet_laidAll _ (by kernel_rfl) (by kernel_rfl))) ?_
  intro W base args ds gs before hsh hval0 hW _ hL
  have hval : ∀ (j : Nat) t v, Tryz.f3.params[j]? = some t → args[j]? = some v → Value.okWide Tryz.prog W .any base t v := hval0
  have hW' := hW
  obtain ⟨p, q, hA0, hV, rfl, hfz, hnd⟩ := hW
  have hA : DataW.TrodAll enc Tryz.prog W 0 (fun _ => true) true Tryz.f3.params.toList args.toList ds p := hA0
  obtain ⟨rfl, rfl⟩ := trodVars_none hV
  have hL1 : laidMet Tryz.prog Rows.seglogKeepsRow.laid W := by
    have h1 := hL
    rw [MakeChecks.laidMetH_plain _ _ _ (by kernel_rfl)] at h1
    exact h1
  have hPow := Lib.tabIs_of_head (k := .u64) (zs := Lib.pow10Tab) (n := 20) gPowNamed gPowType gPowU gPowE gPowC1 gPowC2 (by rw [← gPowTab]; exact hL1.tail.tail)
  obtain ⟨aE, sE, vE, cE, _⟩ := laid_sentinel hL1.tail.tail.tail.tail.tail gErrNamed gErrType Tryz.underlying123 gErrRow gErrPU Tryz.underlying196 rfl rfl gStrU gErrSC gStrC
  obtain ⟨tE, fE, hE⟩ := cells_of_var gErrNamed vE
  have hP := cells_of_shaped hsh gPowNamed (by decide) gPowZero hPow
  have hc := law_callsG (f := 3) pks hA (fun j t v ht hv => ⟨base, hval j t v (by rw [← Array.getElem?_toList]; exact ht) hv⟩) (gE := gErr) (gP := gPow) (by decide) hE rfl (spot_of_cell cE) hP rfl fun vs H e hg _ hh => walkSeglogKeeps vs H e hg hh
  have hts : Tryz.f3.params.toList = [3, 22] := by rw [Tryz.params3]
  refine hc.mono fun e W' ⟨he, bel⟩ => ?_
  subst he
  have hB := trodAll_below laidOut bel (by kernel_rfl) hA
  rw [hts] at hA
  obtain ⟨v0, vs0, d0, ds0, p0, q0, _, rfl, _, _, r0⟩ := trodAll_cons hA
  obtain ⟨v1, vs1, d1, ds1, p1, q1, _, rfl, _, _, r1⟩ := trodAll_cons r0
  obtain ⟨_, rfl, _⟩ := trodAll_nil r1
  exact ⟨_, rfl, _, _, _, [], _, [], hW', trodAll_mk1 (shut_bool Tryz.underlying4 _), hB, rfl, bel.frame _, fun h => by cases h⟩
theorem over : Rows.seglogKeepsRow.holds Tryz.pinned (OpenSpec.ofChange Rows.seglogKeepsSpec) :=
  OpenClaim.holds_of_wide 3 Tryz.f3 rfl rfl rfl rfl rfl rfl rfl ⟨rfl, rfl, rfl, rfl, rfl⟩ rfl rfl rfl rfl rfl (by kernel_rfl) Tryz.func3 (by kernel_rfl)
    (of_decide_eq_true (by kernel_rfl)) (by unfold Func.isWrapper; first | (rw [if_pos (by decide +kernel)]; kernel_rfl) | (rw [if_neg (by decide +kernel)]; exact ⟨rfl, rfl⟩))
    (fun os started H enc _ => lifted os started H enc)
theorem proved : Rows.SeglogKeepsSaid := over
end Go.Proofs.YtkfhgpegnnokgaaGreatDoor.seglogKeeps
namespace Go.Proofs.YtkfhgpegnnokgaaGreatDoor
theorem seglogKeeps_holds : Rows.SeglogKeepsCardSaid :=
  Claim7.holds_tied_plain_at .later [] [.data, .data, .data, .data, .sentinel, .sentinel, .pinned] true (true, "d8bcc17691c115b904e618a379f251b76af20e6ad104cb97791671729f6a4b37") true
    seglogKeeps.proved (fun _ h => by cases h) (by kernel_rfl) (fun _ h => by cases h) seglogKeeps_row_tie rfl ⟨rfl, rfl⟩ (by kernel_rfl) rfl
    (fun f fn hf hfn => by
      obtain rfl : f = 3 := Option.some.inj ((show Tryz.prog.funcNamed "concierge/conciergelaw11.SeglogKeeps" = some 3 by kernel_rfl).symm.trans hf) |>.symm
      obtain rfl : fn = Tryz.f3 := (Option.some.inj (Tryz.func3.symm.trans hfn)).symm
      refine ⟨by kernel_rfl, fun j t ht => ?_⟩
      rw [Tryz.params3] at ht
      rcases j with _ | _ | j
      · have h3 : t = 3 := by simpa using ht.symm
        subst h3
        exact (show Tryz.prog.wantsStandIn 3 = false by kernel_rfl)
      · have h3 : t = 22 := by simpa using ht.symm
        subst h3
        exact (show Tryz.prog.wantsStandIn 22 = false by kernel_rfl)
      · simp at ht)
    (by kernel_rfl)
end Go.Proofs.YtkfhgpegnnokgaaGreatDoor
