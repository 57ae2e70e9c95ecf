/-
  A program logic over the model's calls, part 29: slices.overlaps of two rows apart.
-/
import Derived.Test.YtebhddpildfgcaaCmCap
import Derived.Lib.Overlaps
namespace Go.CM

/-- The elements' type. -/
def elemOf (P : Program) (t : TypeId) : TypeId := match P.underlying t with
  | some (.slice e) => e
  | _ => 0
/-- Two rows that are two objects do not overlap. -/
theorem overlaps_run {P : Program} {H : Heap} {f : FuncId} {fn : Func} {tS tR e : TypeId} {sz : Nat} (hf : P.funcs[f]? = some fn) (hn : (fn.name == "runtime.NumGoroutine") = false) (hb : fn.body.isNone = true) (hx : Extern.findNext fn = none)
    (he : Extern.find fn = some (Extern.SlicesOverlaps.overlaps #[tS, tS] #[tR])) (ht : P.underlying tS = some (.slice e)) (hs : sizeT P e = some sz) {v v' : V} {id off len es id' off' len' es' : Nat} {cs cs' : List V}
    (hw : Wk v (.slice id off len es)) (hw' : Wk v' (.slice id' off' len' es')) (h1 : H id = some (.cells true cs)) (h2 : H id' = some (.cells true cs')) (hne : id ≠ id') (hl : 0 < len) (hl' : 0 < len') (hc' : cs' ≠ []) :
    ∀ (ι : Pl) (w : World) (us : List Value), Rel ι H w → VRs ι w [v, v'] us → ∃ u, (callFunc f ⟨us⟩).run P w = .ok (.value u) w ∧ VR ι w (.bool false) u := by
  intro ι w us hR hv
  cases hv with
  | cons _ u _ us hv hv2 =>
    cases hv2 with
    | cons _ u' _ us hv' hv3 =>
      cases hv3
      have hv := hw ι w u hv
      have hv' := hw' ι w u' hv'
      obtain ⟨b, o, hι, c, et, fr, hbl, _, hfr, _⟩ := hR.obj _ _ h1
      obtain ⟨b', o', hι', c', et', fr', hbl', hcs', _, hcl'⟩ := hR.obj _ _ h2
      have hbb : b ≠ b' := by
        rintro rfl
        exact hne (hR.inj id id' _ _ _ _ _ h1 h2 rfl hι hι')
      cases hv with
      | slice0 => omega
      | slice _ _ _ _ ad cap hle h =>
        cases hv' with
        | slice0 => omega
        | slice _ _ _ _ ad' cap' hle' h' =>
          obtain ⟨b1, o1, c1, e1, f1, g1, rfl, g3, _⟩ := h (by omega)
          obtain ⟨b2, o2, c2, e2, f2, q1, rfl, q3, _⟩ := h' (by omega)
          rw [hι] at g1; cases g1
          rw [hι'] at q1; cases q1
          rw [hbl] at g3; cases g3
          rw [hbl'] at q3; cases q3
          have hcz : c'.size ≠ 0 := by
            intro h0
            cases cs' with
            | nil => exact hc' rfl
            | cons x xs => simp at hcl'; omega
          have hfz : ∀ k, k ≤ c.size → w.frozen? ⟨b, k, none⟩ = false := fun k hk => by
            simp only [World.frozen?, hbl]
            have := hfr rfl k hk
            simpa using this
          have hoff : o + off ≤ c.size := by
            obtain ⟨b3, o3, c3, e3, f3, k1, k2, k3, k4⟩ := h (by omega)
            rw [hι] at k1; cases k1
            rw [hbl] at k3; cases k3
            omega
          refine ⟨.bool false, ?_, .bool false⟩
          rw [run_callFunc_extern hf hn hb hx he]
          rw [Lib.run_overlaps_apart w tS tR e ht sz (run_sizeOf hs) ⟨b, o + off, none⟩ ⟨b', o' + off', none⟩ len cap len' cap' hbb et et' c.size c'.size (by simp [World.shape?, hbl]) (by simp [World.shape?, hbl']) hcz (hfz _ hoff) (hfz _ (Nat.le_refl _))]
          rfl
theorem overlaps_at {P : Program} {H : Heap} {f : FuncId} {fn : Func} {sz : Nat} (hf : P.funcs[f]? = some fn) (hn : (fn.name == "runtime.NumGoroutine") = false) (hb : fn.body.isNone = true) (hx : Extern.findNext fn = none)
    (he : Extern.find fn = some (Extern.SlicesOverlaps.overlaps #[fn.params.getD 0 0, fn.params.getD 0 0] #[fn.resultTypes.getD 0 0])) (ht : P.underlying (fn.params.getD 0 0) = some (.slice (elemOf P (fn.params.getD 0 0)))) (hs : sizeT P (elemOf P (fn.params.getD 0 0)) = some sz) {v v' : V} {id off len es id' off' len' es' : Nat} {cs cs' : List V}
    (hw : Wk v (.slice id off len es)) (hw' : Wk v' (.slice id' off' len' es')) (h1 : H id = some (.cells true cs)) (h2 : H id' = some (.cells true cs')) (hne : id ≠ id') (hl : 0 < len) (hl' : 0 < len') (hc' : cs' ≠ []) :
    ∀ (ι : Pl) (w : World) (us : List Value), Rel ι H w → VRs ι w [v, v'] us → ∃ u, (callFunc f ⟨us⟩).run P w = .ok (.value u) w ∧ VR ι w (.bool false) u :=
  overlaps_run hf hn hb hx he ht hs hw hw' h1 h2 hne hl hl' hc'
theorem splice_mid (A B : List V) {n : Nat} (hn : A.length = n) (D : List V) : splice (A ++ B) n D = A ++ D ++ B.drop D.length := by
  subst hn
  simp [splice]
theorem rep_length' {z : List V} {k : Nat} (hz : z.length = k) : ∀ n, (rep z n).length = n * k
  | 0 => by simp [rep]
  | n + 1 => by simp [rep, rep_length' hz n, hz, Nat.succ_mul, Nat.add_comm]
theorem rep_drop {z : List V} (n : Nat) : (rep z (n + 1)).drop z.length = rep z n := by simp [rep]
theorem Has.two {H : Heap} {L : List Ob} {x y : Ob} {R : List Ob} (h : Has H L) (hp : L = x :: y :: R) (hx : x.1 ≠ 0) (hy : y.1 ≠ 0) : x.1 ≠ y.1 := by
  subst hp
  exact fun e => h.head_ne hx y (by simp) hy e.symm
end Go.CM
