/-
  DiffNames holds for every input: the law returns true, and its arguments read as before.
-/
import Derived.Test.YtebhddpildfgcaaDiffO
namespace Go.Proofs.Ytebhddpildfgcaa.diffNames
open Go Go.CM Go.ChangeShapes Go.WideShapes Go.ChangeAt Go.RowKit
theorem own : ownKnob Try.prog.godebug = none := by kernel_rfl
theorem laidOut : laidOutB Try.prog = true := by kernel_rfl
theorem pks : pkTs Try.prog Try.f7.params.toList = some [.rows [.i .i64, .s, .i .i64, .i .i64, .i .i64, .i .i64, .s, .i .i64, .i .i64, .i .i64, .s, .s, .s, .s], .rows [.i .i64, .s, .i .i64, .i .i64, .i .i64, .i .i64, .s, .i .i64, .i .i64, .i .i64, .s, .s, .s, .s]] := by kernel_rfl

set_option maxRecDepth 100000 in
theorem lifted (os : Os) (started : os.Started) (H : Type) (enc : TypeId × Value → H) :
    ReturnsInHanded {} Try.checked os 7 .any (Rows.diffNamesSpec.pre6 enc Try.prog Try.f7 Rows.diffNamesRow.domain false) (Rows.diffNamesSpec.post enc Try.prog Try.f7 false true false false) := by
  refine returnsInHanded_of_change_sized (C := Try.checked) own started (by kernel_rfl) Try.func7
    (ChangeSpec.witness6 (enc := enc) (C := Try.checked) false ⟨#[], #[.slice none 0 0, .slice none 0 0], []⟩ 8 (by kernel_rfl) (by kernel_rfl) (by kernel_rfl) (by kernel_rfl)) ?_
  intro W base args ds gs before hval0 hW hcnd hsz0 _
  have hval : ∀ (j : Nat) t v, Try.f7.params[j]? = some t → args[j]? = some v → Value.okWide Try.prog W .any base t v := hval0
  have hW' := hW
  obtain ⟨p, q, hA0, hV, rfl, hfz, hnd⟩ := hW
  have hA : DataW.TrodAll enc Try.prog W 0 (fun _ => true) true Try.f7.params.toList args.toList ds p := hA0
  obtain ⟨rfl, rfl⟩ := trodVars_none hV
  have hc := law_calls (f := 7) pks hA (fun j t v ht hv => ⟨base, hval j t v (by rw [← Array.getElem?_toList]; exact ht) hv⟩) fun vs H hg hr => walkDiffNames vs H hg hr
  have hts : Try.f7.params.toList = [22, 22] := by rw [Try.params7]
  refine hc.mono fun e W' ⟨he, bel⟩ => ?_
  subst he
  have hB := trodAll_below laidOut bel (by kernel_rfl) hA
  rw [hts] at hA
  obtain ⟨v0, vs0, d0, ds0, p0, q0, _, rfl, _, _, r0⟩ := trodAll_cons hA
  obtain ⟨v1, vs1, d1, ds1, p1, q1, _, rfl, _, _, r1⟩ := trodAll_cons r0
  obtain ⟨_, rfl, _⟩ := trodAll_nil r1
  exact ⟨_, rfl, _, _, _, [], _, [], hW', trodAll_mk1 (shut_bool Try.underlying4 _), hB, rfl, bel.frame _, fun h => by cases h⟩
theorem over : Rows.diffNamesRow.holds Try.pinned (OpenSpec.ofChange Rows.diffNamesSpec) :=
  OpenClaim.holds_of_wide 7 Try.f7 rfl rfl rfl rfl rfl rfl rfl ⟨rfl, rfl, rfl, rfl, rfl⟩ rfl rfl rfl rfl rfl (by kernel_rfl) Try.func7 (by kernel_rfl)
    (of_decide_eq_true (by kernel_rfl)) (by unfold Func.isWrapper; first | (rw [if_pos (by decide +kernel)]; kernel_rfl) | (rw [if_neg (by decide +kernel)]; exact ⟨rfl, rfl⟩))
    (fun os started H enc _ => lifted os started H enc)
theorem proved : Rows.DiffNamesSaid := over
end Go.Proofs.Ytebhddpildfgcaa.diffNames
namespace Go.Proofs.Ytebhddpildfgcaa
theorem diffNames_holds : Rows.DiffNamesSaid := diffNames.proved
end Go.Proofs.Ytebhddpildfgcaa
