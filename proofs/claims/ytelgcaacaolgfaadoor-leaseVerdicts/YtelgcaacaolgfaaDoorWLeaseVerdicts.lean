/-
  LeaseVerdicts holds for every input: the verdict on any entry, whether it is held, and whether it is expired, are the document's (the variables that the row lists: as the program's text lays them).
-/
import Derived.Test.YtelgcaacaolgfaaDoorVerA
import Derived.Test.YtelgcaacaolgfaaDoorCards
import Derived.Test.YtelgcaacaolgfaaDoorTie
import Derived.LaidMore
import Derived.Lay
import Derived.SevenTiedAt
import Derived.Stop.Joined
namespace Go.Proofs.YtelgcaacaolgfaaDoor.leaseVerdicts
open Go Go.CM Go.ChangeShapes Go.WideShapes Go.ChangeAt Go.RowKit
theorem own : ownKnob Tryd.prog.godebug = none := by kernel_rfl
theorem laidOut : laidOutB Tryd.prog = true := by kernel_rfl
theorem pks : pkTs Tryd.prog Tryd.f3.params.toList = some [.agg [.i .i64, .s, .i .i64, .i .i64, .i .i64, .i .i64, .s, .i .i64, .i .i64, .i .i64, .s, .s, .s, .s], .one .s, .one (.i .i64)] := by kernel_rfl

set_option maxRecDepth 100000 in
theorem lifted (os : Os) (started : os.Started) (H : Type) (enc : TypeId × Value → H) :
    ReturnsInHanded {} Tryd.checked os 3 .any (fun w args => (Rows.leaseVerdictsSpec.pre enc Tryd.prog Tryd.f3 Rows.leaseVerdictsRow.domain false w args ∧ laidMetH Tryd.prog Rows.leaseVerdictsRow.laid w) ∧ sizedMet enc Tryd.prog Tryd.f3 (OpenSpec.ofChange Rows.leaseVerdictsSpec) false w args) (Rows.leaseVerdictsSpec.post enc Tryd.prog Tryd.f3 false true false false) := by
  refine returnsInHanded_of_change_and (C := Tryd.checked) (X := fun w _ => laidMetH Tryd.prog Rows.leaseVerdictsRow.laid w) (fun _ _ _ hh h => h.of_heap hh) own started (by kernel_rfl) Tryd.func3
    (ChangeSpec.witness_shaped (enc := enc) (C := Tryd.checked) (os := os) (X := fun w _ => laidMetH Tryd.prog Rows.leaseVerdictsRow.laid w) false (World.laidAll Tryd.prog os Rows.leaseVerdictsRow.laid) #[.agg #[.int .i64 0, .string ByteArray.empty, .int .i64 0, .int .i64 0, .int .i64 0, .int .i64 0, .string ByteArray.empty, .int .i64 0, .int .i64 0, .int .i64 0, .string ByteArray.empty, .string ByteArray.empty, .string ByteArray.empty, .string ByteArray.empty], .string ByteArray.empty, .int .i64 0] 8 (World.laidAll_os _ _ _)
      (World.shaped_of_ZipB (by kernel_rfl) (by kernel_rfl)) (by kernel_rfl) (by kernel_rfl) (by kernel_rfl)
      (by rw [MakeChecks.laidMetH_plain _ _ _ (by kernel_rfl)]; exact laidMet_laidAll _ (by kernel_rfl) (by kernel_rfl))) ?_
  intro W base args ds gs before hval0 hW hcnd hsz0 hL _
  have hval : ∀ (j : Nat) t v, Tryd.f3.params[j]? = some t → args[j]? = some v → Value.okWide Tryd.prog W .any base t v := hval0
  have hW' := hW
  obtain ⟨p, q, hA0, hV, rfl, hfz, hnd⟩ := hW
  have hA : DataW.TrodAll enc Tryd.prog W 0 (fun _ => true) true Tryd.f3.params.toList args.toList ds p := hA0
  obtain ⟨rfl, rfl⟩ := trodVars_none hV
  have hc := law_calls (f := 3) pks hA (fun j t v ht hv => ⟨base, hval j t v (by rw [← Array.getElem?_toList]; exact ht) hv⟩) fun vs H hg hr => walkLeaseVerdicts vs H hg hr
  have hts : Tryd.f3.params.toList = [23, 9, 3] := by rw [Tryd.params3]
  refine hc.mono fun e W' ⟨he, bel⟩ => ?_
  subst he
  have hB := trodAll_below laidOut bel (by kernel_rfl) hA
  rw [hts] at hA
  obtain ⟨v0, vs0, d0, ds0, p0, q0, _, rfl, _, _, r0⟩ := trodAll_cons hA
  obtain ⟨v1, vs1, d1, ds1, p1, q1, _, rfl, _, _, r1⟩ := trodAll_cons r0
  obtain ⟨v2, vs2, d2, ds2, p2, q2, _, rfl, _, _, r2⟩ := trodAll_cons r1
  obtain ⟨_, rfl, _⟩ := trodAll_nil r2
  exact ⟨_, rfl, _, _, _, [], _, [], hW', trodAll_mk1 (shut_bool Tryd.underlying4 _), hB, rfl, bel.frame _, fun h => by cases h⟩
theorem over : Rows.leaseVerdictsRow.holds Tryd.pinned (OpenSpec.ofChange Rows.leaseVerdictsSpec) :=
  OpenClaim.holds_of_wide 3 Tryd.f3 rfl rfl rfl rfl rfl rfl rfl ⟨rfl, rfl, rfl, rfl, rfl⟩ rfl rfl rfl rfl rfl (by kernel_rfl) Tryd.func3 (by kernel_rfl)
    (of_decide_eq_true (by kernel_rfl)) (by unfold Func.isWrapper; first | (rw [if_pos (by decide +kernel)]; kernel_rfl) | (rw [if_neg (by decide +kernel)]; exact ⟨rfl, rfl⟩))
    (fun os started H enc _ => lifted os started H enc)
theorem proved : Rows.LeaseVerdictsSaid := over
end Go.Proofs.YtelgcaacaolgfaaDoor.leaseVerdicts
namespace Go.Proofs.YtelgcaacaolgfaaDoor
theorem leaseVerdicts_holds : Rows.LeaseVerdictsCardSaid :=
  Claim7.holds_tied_plain_at .later [] [.data, .pinned] true (true, "19ae5595a3bbab6561cc3c0e9d744e5eb0d7226d257d0b357f165e0d8a20b9e5") false
    leaseVerdicts.proved (fun _ h => by cases h) (by kernel_rfl) (fun _ h => by cases h) leaseVerdicts_row_tie rfl ⟨rfl, rfl⟩ (by kernel_rfl) rfl
    (fun f fn hf hfn => by
      obtain rfl : f = 3 := Option.some.inj ((show Tryd.prog.funcNamed "concierge/conciergelaw21.LeaseVerdicts" = some 3 by kernel_rfl).symm.trans hf) |>.symm
      obtain rfl : fn = Tryd.f3 := (Option.some.inj (Tryd.func3.symm.trans hfn)).symm
      refine ⟨by kernel_rfl, fun j t ht => ?_⟩
      rw [Tryd.params3] at ht
      rcases j with _ | _ | _ | j
      · have h3 : t = 23 := by simpa using ht.symm
        subst h3
        exact (show Tryd.prog.wantsStandIn 23 = false by kernel_rfl)
      · have h3 : t = 9 := by simpa using ht.symm
        subst h3
        exact (show Tryd.prog.wantsStandIn 9 = false by kernel_rfl)
      · have h3 : t = 3 := by simpa using ht.symm
        subst h3
        exact (show Tryd.prog.wantsStandIn 3 = false by kernel_rfl)
      · simp at ht)
    (by kernel_rfl)
end Go.Proofs.YtelgcaacaolgfaaDoor
