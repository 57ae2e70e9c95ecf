/-
  LeaseFits holds for every input: what steps make, one behind the other, a store takes each time; by that tokens and points rise (the variables that the row lists: as the program's text lays them).
-/
import Derived.Test.YtelgcaacaolgfaaGreatDoorFitA
import Derived.Test.YtelgcaacaolgfaaGreatDoorCards
import Derived.Test.YtelgcaacaolgfaaGreatDoorTie
import Derived.LaidMore
import Derived.Lay
import Derived.SevenTiedAt
import Derived.Stop.Joined
namespace Go.Proofs.YtelgcaacaolgfaaGreatDoor.leaseFits
open Go Go.CM Go.ChangeShapes Go.WideShapes Go.ChangeAt Go.RowKit
theorem own : ownKnob Tryz.prog.godebug = none := by kernel_rfl
theorem laidOut : laidOutB Tryz.prog = true := by kernel_rfl
theorem pks : pkTs Tryz.prog Tryz.f5.params.toList = some [.agg [.i .i64, .i .i64, .i .i64, .s, .s, .s, .s], .rows [.i .u8, .b, .i .i64, .i .i64, .i .i64, .s, .i .i64, .i .i64, .i .i64, .s, .s, .s, .s], .agg [.i .i64, .i .i64, .i .i64, .i .i64, .i .i64, .i .i64]] := by kernel_rfl

set_option maxRecDepth 100000 in
theorem lifted (os : Os) (started : os.Started) (H : Type) (enc : TypeId × Value → H) :
    ReturnsInHanded {} Tryz.checked os 5 .any (fun w args => (Rows.leaseFitsSpec.pre enc Tryz.prog Tryz.f5 Rows.leaseFitsRow.domain false w args ∧ laidMetH Tryz.prog Rows.leaseFitsRow.laid w) ∧ sizedMet enc Tryz.prog Tryz.f5 (OpenSpec.ofChange Rows.leaseFitsSpec) false w args) (Rows.leaseFitsSpec.post enc Tryz.prog Tryz.f5 false true false false) := by
  refine returnsInHanded_of_change_and (C := Tryz.checked) (X := fun w _ => laidMetH Tryz.prog Rows.leaseFitsRow.laid w) (fun _ _ _ hh h => h.of_heap hh) own started (by kernel_rfl) Tryz.func5
    (ChangeSpec.witness_shaped (enc := enc) (C := Tryz.checked) (os := os) (X := fun w _ => laidMetH Tryz.prog Rows.leaseFitsRow.laid w) false (World.laidAll Tryz.prog os Rows.leaseFitsRow.laid) #[.agg #[.int .i64 0, .int .i64 0, .int .i64 0, .string ByteArray.empty, .string ByteArray.empty, .string ByteArray.empty, .string ByteArray.empty], .slice none 0 0, .agg #[.int .i64 0, .int .i64 0, .int .i64 0, .int .i64 0, .int .i64 0, .int .i64 0]] 8 (World.laidAll_os _ _ _)
      (World.shaped_of_ZipB (by kernel_rfl) (by kernel_rfl)) (by kernel_rfl) (by kernel_rfl) (by kernel_rfl)
      (by rw [MakeChecks.laidMetH_plain _ _ _ (by kernel_rfl)]; exact laidMet_laidAll _ (by kernel_rfl) (by kernel_rfl))) ?_
  intro W base args ds gs before hval0 hW hcnd hsz0 hL _
  have hval : ∀ (j : Nat) t v, Tryz.f5.params[j]? = some t → args[j]? = some v → Value.okWide Tryz.prog W .any base t v := hval0
  have hW' := hW
  obtain ⟨p, q, hA0, hV, rfl, hfz, hnd⟩ := hW
  have hA : DataW.TrodAll enc Tryz.prog W 0 (fun _ => true) true Tryz.f5.params.toList args.toList ds p := hA0
  obtain ⟨rfl, rfl⟩ := trodVars_none hV
  have hc := law_calls (f := 5) pks hA (fun j t v ht hv => ⟨base, hval j t v (by rw [← Array.getElem?_toList]; exact ht) hv⟩) fun vs H hg hr => walkLeaseFits vs H hg hr
  have hts : Tryz.f5.params.toList = [25, 39, 29] := by rw [Tryz.params5]
  refine hc.mono fun e W' ⟨he, bel⟩ => ?_
  subst he
  have hB := trodAll_below laidOut bel (by kernel_rfl) hA
  rw [hts] at hA
  obtain ⟨v0, vs0, d0, ds0, p0, q0, _, rfl, _, _, r0⟩ := trodAll_cons hA
  obtain ⟨v1, vs1, d1, ds1, p1, q1, _, rfl, _, _, r1⟩ := trodAll_cons r0
  obtain ⟨v2, vs2, d2, ds2, p2, q2, _, rfl, _, _, r2⟩ := trodAll_cons r1
  obtain ⟨_, rfl, _⟩ := trodAll_nil r2
  exact ⟨_, rfl, _, _, _, [], _, [], hW', trodAll_mk1 (shut_bool Tryz.underlying4 _), hB, rfl, bel.frame _, fun h => by cases h⟩
theorem over : Rows.leaseFitsRow.holds Tryz.pinned (OpenSpec.ofChange Rows.leaseFitsSpec) :=
  OpenClaim.holds_of_wide 5 Tryz.f5 rfl rfl rfl rfl rfl rfl rfl ⟨rfl, rfl, rfl, rfl, rfl⟩ rfl rfl rfl rfl rfl (by kernel_rfl) Tryz.func5 (by kernel_rfl)
    (of_decide_eq_true (by kernel_rfl)) (by unfold Func.isWrapper; first | (rw [if_pos (by decide +kernel)]; kernel_rfl) | (rw [if_neg (by decide +kernel)]; exact ⟨rfl, rfl⟩))
    (fun os started H enc _ => lifted os started H enc)
theorem proved : Rows.LeaseFitsSaid := over
end Go.Proofs.YtelgcaacaolgfaaGreatDoor.leaseFits
namespace Go.Proofs.YtelgcaacaolgfaaGreatDoor
theorem leaseFits_holds : Rows.LeaseFitsCardSaid :=
  Claim7.holds_tied_plain_at .later [] [.data, .pinned] true (true, "06c8daee1e9668fc94bbad3bd0dbd1c42dbdbe50cde404deb8c9e1965119bc86") true
    leaseFits.proved (fun _ h => by cases h) (by kernel_rfl) (fun _ h => by cases h) leaseFits_row_tie rfl ⟨rfl, rfl⟩ (by kernel_rfl) rfl
    (fun f fn hf hfn => by
      obtain rfl : f = 5 := Option.some.inj ((show Tryz.prog.funcNamed "concierge/conciergelaw21.LeaseFits" = some 5 by kernel_rfl).symm.trans hf) |>.symm
      obtain rfl : fn = Tryz.f5 := (Option.some.inj (Tryz.func5.symm.trans hfn)).symm
      refine ⟨by kernel_rfl, fun j t ht => ?_⟩
      rw [Tryz.params5] at ht
      rcases j with _ | _ | _ | j
      · have h3 : t = 25 := by simpa using ht.symm
        subst h3
        exact (show Tryz.prog.wantsStandIn 25 = false by kernel_rfl)
      · have h3 : t = 39 := by simpa using ht.symm
        subst h3
        exact (show Tryz.prog.wantsStandIn 39 = false by kernel_rfl)
      · have h3 : t = 29 := by simpa using ht.symm
        subst h3
        exact (show Tryz.prog.wantsStandIn 29 = false by kernel_rfl)
      · simp at ht)
    (by kernel_rfl)
end Go.Proofs.YtelgcaacaolgfaaGreatDoor
