/-
  A program logic over the model's calls, part 6: the operations that only read, the others.
-/
import Derived.Test.YtebhddpildfgcaaCmRd
namespace Go.CM

section
variable {P : Program} {n : Nat} {ι : Pl} {H : Heap} {w : World} {env : Env} {a : Act}

theorem foldl_set (vs : List Value) : ∀ (k off : Nat) (cs : Array Value), off + k + vs.length ≤ cs.size →
    ((vs.zipIdx k).foldl (fun (cs : Array Value) (p : Value × Nat) => cs.setIfInBounds (off + p.2) p.1) cs).toList = cs.toList.take (off + k) ++ vs ++ cs.toList.drop (off + k + vs.length) := by
  induction vs with
  | nil => intro k off cs _; simp
  | cons v vs ih =>
    intro k off cs h
    simp only [List.length_cons] at h
    rw [List.zipIdx_cons, List.foldl_cons, show k + 1 = k + 1 from rfl, ih (k + 1) off _ (by simp; omega)]
    simp only [Array.toList_setIfInBounds]
    have := list_seg_step cs.toList (off + k) v vs (by simpa using h)
    rw [show off + (k + 1) = off + k + 1 by omega]
    simpa using this

theorem VRs.splice {cs : List V} {us : List Value} (h : VRs ι w cs us) {vs : List V} {zs : List Value} (h' : VRs ι w vs zs) (off : Nat) :
    VRs ι w (splice cs off vs) (us.take off ++ zs ++ us.drop (off + zs.length)) := by
  unfold CM.splice
  rw [← h'.length]
  exact ((h.take off).append h').append (h.drop _)

theorem splice_length {cs vs : List V} {off : Nat} (h : off + vs.length ≤ cs.length) : (splice cs off vs).length = cs.length := by
  simp [splice]; omega

theorem VR.cells {v : V} {u : Value} (h : VR ι w v u) (ht : v.isTup = false) : VRs ι w v.cells u.cells.toList ∧ u.cells.toList.all one = true := by
  cases h <;> first
    | exact ⟨.cons _ _ _ _ (by constructor <;> assumption) .nil, rfl⟩
    | skip
  · exact ⟨by assumption, by assumption⟩
  · simp [V.isTup] at ht

theorem all_splice {us zs : List Value} (h : us.all one = true) (h' : zs.all one = true) (off k : Nat) : (us.take off ++ zs ++ us.drop k).all one = true := by
  rw [List.all_eq_true] at *
  intro x hx
  simp only [List.mem_append] at hx
  rcases hx with (hx | hx) | hx
  · exact h x (List.mem_of_mem_take hx)
  · exact h' x hx
  · exact h x (List.mem_of_mem_drop hx)

/-- The parts of a struct or an array, in the model. -/
theorem fill_runs (hE : EnvR n ι w env a) (place : Nat → Option (Nat × Nat)) : ∀ {ps : List (Nat × Operand)} {qs : List (Nat × Nat × X)} {cs rs : List V} {us : Array Value},
    (List.length ps = List.length qs) → (∀ (j i : Nat) (x : Operand), ps[j]? = some (i, x) → ∃ (off s : Nat) (y : X), qs[j]? = some (off, s, y) ∧ place i = some (off, s) ∧ compX n x = some y) →
    VRs ι w cs us.toList → us.toList.all one = true → fillV env cs qs = some rs →
    ∃ zs : Array Value, Instr.fill place us (ps.map fun p => (p.1, a.eval p.2)) = some zs ∧ VRs ι w rs zs.toList ∧ zs.toList.all one = true
  | [], [], cs, rs, us, _, _, h, ho, hf => by simp [fillV] at hf; subst hf; exact ⟨us, rfl, h, ho⟩
  | [], _ :: _, _, _, _, hl, _, _, _, _ => by simp at hl
  | _ :: _, [], _, _, _, hl, _, _, _, _ => by simp at hl
  | (i, x) :: ps, (off, s, y) :: qs, cs, rs, us, hl, hq, h, ho, hf => by
    obtain ⟨off', s', y', h1, h2, h3⟩ := hq 0 i x rfl
    simp at h1; obtain ⟨rfl, rfl, rfl⟩ := h1
    unfold fillV at hf
    cases hb : ((y.ev env).isTup || !(Nat.beq (y.ev env).cells.length s) || !(Nat.ble (off + s) cs.length)) with
    | true => simp [hb] at hf
    | false =>
      simp only [hb, cond_false] at hf
      simp only [Bool.or_eq_false_iff, Bool.not_eq_false'] at hb
      obtain ⟨⟨hb1, hb2⟩, hb3⟩ := hb
      have hb2 := Nat.eq_of_beq_eq_true hb2
      have hb3 := Nat.le_of_ble_eq_true hb3
      have hv := X.sound hE h3
      obtain ⟨hc, hone⟩ := hv.cells hb1
      have hlen := hc.length
      have hlen' := h.length
      have hsz : (a.eval x).cells.size = s := by rw [← hb2, hlen]; simp
      have hfit : ¬ (off + (a.eval x).cells.size > us.size) := by rw [hsz]; simp at hlen'; omega
      have hset := foldl_set (a.eval x).cells.toList 0 off us (by simp only [Array.length_toList, Nat.add_zero]; omega)
      simp only [List.map_cons, Instr.fill, h2]
      rw [if_neg (by simp [hsz]; rw [hsz] at hfit; omega)]
      have hfold : (a.eval x).cells.zipIdx.foldl (fun (cs : Array Value) (p : Value × Nat) => cs.setIfInBounds (off + p.2) p.1) us =
          ((a.eval x).cells.toList.zipIdx 0).foldl (fun (cs : Array Value) (p : Value × Nat) => cs.setIfInBounds (off + p.2) p.1) us := by
        rw [← Array.foldl_toList]; simp
      rw [show (fun (x : Array Value) (x_1 : Value × Nat) => match x_1 with | (c, j) => x.setIfInBounds (off + j) c) = (fun (cs : Array Value) (p : Value × Nat) => cs.setIfInBounds (off + p.2) p.1) from rfl, hfold]
      refine fill_runs hE place (by simpa using hl) (fun j i x hj => hq (j + 1) i x (by simpa using hj)) ?_ ?_ hf
      · rw [hset]; simp only [Nat.add_zero]; exact h.splice hc off
      · rw [hset]; exact all_splice ho hone _ _

theorem partsS_len {fs : Array Field} : ∀ {ps : List (Nat × Operand)} {qs : List (Nat × Nat × X)}, partsS P n fs ps = some qs → ps.length = qs.length ∧
    ∀ (j i : Nat) (x : Operand), ps[j]? = some (i, x) → ∃ off s y, qs[j]? = some (off, s, y) ∧ (∃ f, fs[i]? = some f ∧ f.offset = off ∧ sizeT P f.type = some s) ∧ compX n x = some y
  | [], qs, h => by simp [partsS] at h; subst h; simp
  | (i, x) :: ps, qs, h => by
    unfold partsS at h
    split at h
    · rename_i f hf
      split at h
      · rename_i s y qs' h1 h2 h3
        cases h
        obtain ⟨h4, h5⟩ := partsS_len h3
        refine ⟨by simp [h4], fun j i' x' hj => ?_⟩
        cases j with
        | zero => simp at hj; obtain ⟨rfl, rfl⟩ := hj; exact ⟨_, _, _, rfl, ⟨f, hf, rfl, h1⟩, h2⟩
        | succ j => simpa using h5 j i' x' (by simpa using hj)
      · cases h
    · cases h

theorem partsA_len {s : Nat} : ∀ {ps : List (Nat × Operand)} {qs : List (Nat × Nat × X)}, partsA n s ps = some qs → ps.length = qs.length ∧
    ∀ (j i : Nat) (x : Operand), ps[j]? = some (i, x) → ∃ off s' y, qs[j]? = some (off, s', y) ∧ (i * s = off ∧ s = s') ∧ compX n x = some y
  | [], qs, h => by simp [partsA] at h; subst h; simp
  | (i, x) :: ps, qs, h => by
    unfold partsA at h
    split at h
    · rename_i y qs' h2 h3
      cases h
      obtain ⟨h4, h5⟩ := partsA_len h3
      refine ⟨by simp [h4], fun j i' x' hj => ?_⟩
      cases j with
      | zero => simp at hj; obtain ⟨rfl, rfl⟩ := hj; exact ⟨_, _, _, rfl, ⟨rfl, rfl⟩, h2⟩
      | succ j => simpa using h5 j i' x' (by simpa using hj)
    · cases h

theorem run_zero {t : TypeId} {z : V} (h : zeroT P t = some z) : ∃ u, (∀ w, (zeroValue t).run P w = .ok u w) ∧ (∀ ι w, VR ι w z u) ∧ ∃ i, P.info? t = some i ∧ i.zero = some u := by
  unfold zeroT at h
  split at h
  · rename_i i hi
    split at h
    · rename_i z' hz
      exact ⟨z', fun w => by simp [zeroValue, typeInfo, hi, hz], fun ι w => VR.of_val _ _ _ h, i, hi, hz⟩
    · cases h
  · cases h

theorem mapM_places {fs : Array Field} (hs : ∀ f ∈ fs.toList, ∃ s, sizeT P f.type = some s) :
    ∃ places : Array (Nat × Nat), (fs.mapM (fun f => do pure (f.offset, ← sizeOf f.type) : Field → Sem (Nat × Nat))).run P w = .ok places w ∧
      ∀ (i : Nat) f s, fs[i]? = some f → sizeT P f.type = some s → places[i]? = some (f.offset, s) := by
  have key : ∀ (l : List Field), (∀ f ∈ l, ∃ s, sizeT P f.type = some s) → ∃ ps : List (Nat × Nat), (l.mapM (fun f => do pure (f.offset, ← sizeOf f.type) : Field → Sem (Nat × Nat))).run P w = .ok ps w ∧
      ∀ (i : Nat) f s, l[i]? = some f → sizeT P f.type = some s → ps[i]? = some (f.offset, s) := by
    intro l
    induction l with
    | nil => intro _; exact ⟨[], by simp, by simp⟩
    | cons f l ih =>
      intro hl
      obtain ⟨s, hs⟩ := hl f (by simp)
      obtain ⟨ps, h1, h2⟩ := ih fun g hg => hl g (by simp [hg])
      refine ⟨(f.offset, s) :: ps, by simp only [List.mapM_cons, Sem.run_bind, run_sizeOf hs, Result.andThen_ok, Sem.run_pure, h1], fun i g s' hi hs' => ?_⟩
      cases i with
      | zero => simp at hi; subst hi; rw [hs] at hs'; cases hs'; rfl
      | succ i => simpa using h2 i g s' (by simpa using hi) hs'
  obtain ⟨ps, h1, h2⟩ := key fs.toList hs
  refine ⟨ps.toArray, ?_, fun i f s hi hs' => by simpa using h2 i f s (by simpa using hi) hs'⟩
  rw [Array.mapM_eq_mapM_toList]
  simp only [Sem.run_map, h1, Result.andThen_ok]

end
end Go.CM
