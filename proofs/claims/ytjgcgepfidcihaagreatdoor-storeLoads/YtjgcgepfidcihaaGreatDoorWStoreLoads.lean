/-
  StoreLoads holds for every input: entries are loaded, or refused, as the document says; what was loaded goes on (the variables that the row lists: as the program's text lays them).
-/
import Derived.Test.YtjgcgepfidcihaaGreatDoorLoaD
import Derived.Test.YtjgcgepfidcihaaGreatDoorCards
import Derived.Test.YtjgcgepfidcihaaGreatDoorTie
import Derived.LaidMore
import Derived.Lay
import Derived.SevenTiedAt
import Derived.Stop.Joined
namespace Go.Proofs.YtjgcgepfidcihaaGreatDoor.storeLoads
open Go Go.CM Go.ChangeShapes Go.WideShapes Go.ChangeAt Go.RowKit
theorem own : ownKnob Tryz.prog.godebug = none := by kernel_rfl
theorem laidOut : laidOutB Tryz.prog = true := by kernel_rfl
theorem pks : pkTs Tryz.prog Tryz.f6.params.toList = some [.one (.i .i64), .rows [.i .i64, .i .i64, .s, .i .i64, .i .i64, .i .i64, .i .i64, .s, .i .i64, .i .i64, .i .i64, .s, .s, .s, .s], .one (.i .i64)] := by kernel_rfl

set_option maxRecDepth 100000 in
theorem lifted (os : Os) (started : os.Started) (H : Type) (enc : TypeId × Value → H) :
    ReturnsInHanded {} Tryz.checked os 6 .any (fun w args => (Rows.storeLoadsSpec.pre enc Tryz.prog Tryz.f6 Rows.storeLoadsRow.domain false w args ∧ laidMetH Tryz.prog Rows.storeLoadsRow.laid w) ∧ sizedMet enc Tryz.prog Tryz.f6 (OpenSpec.ofChange Rows.storeLoadsSpec) false w args) (Rows.storeLoadsSpec.post enc Tryz.prog Tryz.f6 false true false false) := by
  refine returnsInHanded_of_change_and (C := Tryz.checked) (X := fun w _ => laidMetH Tryz.prog Rows.storeLoadsRow.laid w) (fun _ _ _ hh h => h.of_heap hh) own started (by kernel_rfl) Tryz.func6
    (ChangeSpec.witness_shaped (enc := enc) (C := Tryz.checked) (os := os) (X := fun w _ => laidMetH Tryz.prog Rows.storeLoadsRow.laid w) false (World.laidAll Tryz.prog os Rows.storeLoadsRow.laid) #[.int .i64 0, .slice none 0 0, .int .i64 0] 8 (World.laidAll_os _ _ _)
      (World.shaped_of_ZipB (by kernel_rfl) (by kernel_rfl)) (by kernel_rfl) (by kernel_rfl) (by kernel_rfl)
      (by rw [MakeChecks.laidMetH_plain _ _ _ (by kernel_rfl)]; exact laidMet_laidAll _ (by kernel_rfl) (by kernel_rfl))) ?_
  intro W base args ds gs before hval0 hW hcnd hsz0 hL _
  have hval : ∀ (j : Nat) t v, Tryz.f6.params[j]? = some t → args[j]? = some v → Value.okWide Tryz.prog W .any base t v := hval0
  have hW' := hW
  obtain ⟨p, q, hA0, hV, rfl, hfz, hnd⟩ := hW
  have hA : DataW.TrodAll enc Tryz.prog W 0 (fun _ => true) true Tryz.f6.params.toList args.toList ds p := hA0
  obtain ⟨rfl, rfl⟩ := trodVars_none hV
  have hc := law_calls (f := 6) pks hA (fun j t v ht hv => ⟨base, hval j t v (by rw [← Array.getElem?_toList]; exact ht) hv⟩) fun vs H hg hr => walkStoreLoads vs H hg hr
  have hts : Tryz.f6.params.toList = [3, 22, 3] := by rw [Tryz.params6]
  refine hc.mono fun e W' ⟨he, bel⟩ => ?_
  subst he
  have hB := trodAll_below laidOut bel (by kernel_rfl) hA
  rw [hts] at hA
  obtain ⟨v0, vs0, d0, ds0, p0, q0, _, rfl, _, _, r0⟩ := trodAll_cons hA
  obtain ⟨v1, vs1, d1, ds1, p1, q1, _, rfl, _, _, r1⟩ := trodAll_cons r0
  obtain ⟨v2, vs2, d2, ds2, p2, q2, _, rfl, _, _, r2⟩ := trodAll_cons r1
  obtain ⟨_, rfl, _⟩ := trodAll_nil r2
  exact ⟨_, rfl, _, _, _, [], _, [], hW', trodAll_mk1 (shut_bool Tryz.underlying4 _), hB, rfl, bel.frame _, fun h => by cases h⟩
theorem over : Rows.storeLoadsRow.holds Tryz.pinned (OpenSpec.ofChange Rows.storeLoadsSpec) :=
  OpenClaim.holds_of_wide 6 Tryz.f6 rfl rfl rfl rfl rfl rfl rfl ⟨rfl, rfl, rfl, rfl, rfl⟩ rfl rfl rfl rfl rfl (by kernel_rfl) Tryz.func6 (by kernel_rfl)
    (of_decide_eq_true (by kernel_rfl)) (by unfold Func.isWrapper; first | (rw [if_pos (by decide +kernel)]; kernel_rfl) | (rw [if_neg (by decide +kernel)]; exact ⟨rfl, rfl⟩))
    (fun os started H enc _ => lifted os started H enc)
theorem proved : Rows.StoreLoadsSaid := over
end Go.Proofs.YtjgcgepfidcihaaGreatDoor.storeLoads
namespace Go.Proofs.YtjgcgepfidcihaaGreatDoor
theorem storeLoads_holds : Rows.StoreLoadsCardSaid :=
  Claim7.holds_tied_plain_at .later [] [.data, .pinned] true (true, "10709ae1796592c90148b1ccdc949d333b0b196f600839a0433c2deffed3c85e") true
    storeLoads.proved (fun _ h => by cases h) (by kernel_rfl) (fun _ h => by cases h) storeLoads_row_tie rfl ⟨rfl, rfl⟩ (by kernel_rfl) rfl
    (fun f fn hf hfn => by
      obtain rfl : f = 6 := Option.some.inj ((show Tryz.prog.funcNamed "concierge/conciergelaw18.StoreLoads" = some 6 by kernel_rfl).symm.trans hf) |>.symm
      obtain rfl : fn = Tryz.f6 := (Option.some.inj (Tryz.func6.symm.trans hfn)).symm
      refine ⟨by kernel_rfl, fun j t ht => ?_⟩
      rw [Tryz.params6] at ht
      rcases j with _ | _ | _ | j
      · have h3 : t = 3 := by simpa using ht.symm
        subst h3
        exact (show Tryz.prog.wantsStandIn 3 = false by kernel_rfl)
      · have h3 : t = 22 := by simpa using ht.symm
        subst h3
        exact (show Tryz.prog.wantsStandIn 22 = false by kernel_rfl)
      · have h3 : t = 3 := by simpa using ht.symm
        subst h3
        exact (show Tryz.prog.wantsStandIn 3 = false by kernel_rfl)
      · simp at ht)
    (by kernel_rfl)
end Go.Proofs.YtjgcgepfidcihaaGreatDoor
