/-
  A program logic over the model's calls, part 12: new objects, stores, calls.
-/
import Derived.Test.YtebhddpildfgcaaCmEff
namespace Go.CM

/-- The fence that lets in all; in a round of a loop over a function, or not. -/
abbrev FW (ro : Option Nat) : Fence := { Fence.wide with round := ro }

/-- What an operation must come to. -/
def OpOk (P : Program) (a : Act) (o : Oper) (K : V → Heap → Prop) (ι : Pl) (H : Heap) (w : World) : Prop :=
  ∀ (ro : Option Nat) (Kw : Act → World → Prop) (Qw : Exit → Act → World → Prop),
    (∀ v ι' H' u w', K v H' → VR ι' w' v u → Rel ι' H' w' → Ext ι H w ι' H' w' → Kw (a.put o.dst u) w') → o.wpIn (FW ro) 0 P a w Kw Qw

section
variable {P : Program} {n : Nat} {ι : Pl} {H : Heap} {w : World} {env : Env} {a : Act} {K : V → Heap → Prop}

/-- An operation that is no defer statement, in a round. -/
theorem semAt_run {o : Oper} {ρ : Operand → Value} {x : Next} {w' : World} (ro : Option Nat) (hr : (execOp ρ o).run P w = .ok x w') (hx : ∀ d, x ≠ .defer d) : (o.semAt ro ρ).run P w = .ok x w' := by
  rw [Oper.semAt_eq]
  · exact hr
  · intro c hc
    obtain ⟨dst, op, ty, pos, af, g⟩ := o
    simp only at hc
    subst hc
    simp only [execOp, Sem.run_bind] at hr
    generalize (resolve ρ c ty).run P w = r at hr
    cases r with
    | ok d w1 => simp at hr; exact hx _ hr.1.symm
    | halt h w1 => simp at hr

theorem OpOk.value {o : Oper} {u : Value} {w' : World} (hr : (execOp a.eval o).run P w = .ok (.value u) w') {v : V} {ι' : Pl} {H' : Heap} (hk : K v H') (hv : VR ι' w' v u) (hR : Rel ι' H' w') (hE : Ext ι H w ι' H' w') :
    OpOk P a o K ι H w := fun ro Kw Qw h => by
  refine ⟨fun _ _ => trivial, ?_⟩
  rw [semAt_run _ hr (fun _ h => by cases h)]
  exact h v ι' H' u w' hk hv hR hE

theorem OpOk.skip {o : Oper} {w' : World} (hr : (execOp a.eval o).run P w = .ok .skip w') {ι' : Pl} {H' : Heap} (hk : K V.undef H') (hR : Rel ι' H' w') (hE : Ext ι H w ι' H' w') :
    OpOk P a o K ι H w := fun ro Kw Qw h => by
  refine ⟨fun _ _ => trivial, ?_⟩
  rw [semAt_run _ hr (fun _ h => by cases h)]
  exact h V.undef ι' H' Go.undef w' hk (VR.undef _ _) hR hE

theorem zeroCells_run {t : TypeId} {z : List V} (h : zeroCells P t = some z) : ∃ u : Value, (∀ w, (zeroValue t).run P w = .ok u w) ∧ (∀ ι w, VRs ι w z u.cells.toList) ∧ u.cells.toList.all one = true ∧ ∃ i, P.info? t = some i ∧ i.zero = some u := by
  unfold zeroCells at h
  split at h
  · rename_i zv hz
    cases ht : zv.isTup with
    | true => rw [ht] at h; cases h
    | false =>
      rw [ht] at h; cases h
      obtain ⟨u, h1, h2, h3⟩ := run_zero hz
      exact ⟨u, h1, fun ι w => ((h2 ι w).cells ht).1, ((h2 (fun _ => none) default).cells ht).2, h3⟩
  · cases h

theorem ef_alloc (_hE : EnvR n ι w env a) (hR : Rel ι H w) {t : TypeId} {z : List V} (hz : zeroCells P t = some z) {dst : Option Tmp} {ty : TypeId} {pos : String} {af : Array Edge} {g : Option (Nat × Bool)}
    (hk : E.wp P env H K (.alloc z)) : OpOk P a ⟨dst, .alloc t, ty, pos, af, g⟩ K ι H w := by
  obtain ⟨u, h1, h2, h3, _⟩ := zeroCells_run hz
  obtain ⟨id, h00, hid, hι⟩ := hR.fresh
  obtain ⟨g1, g2⟩ := hR.push h00 hid hι (Push.mk' w (.cells u.cells t)) (h2 ι w) h3 (List.prefix_refl _)
  refine OpOk.value (u := .pointer (some ⟨w.heap.size, 0, none⟩)) (w' := { w with heap := w.heap.push (.cells u.cells t) }) ?_ (hk id h00 hid) ?_ g1 g2
  · simp [execOp, Instr.alloc, h1, newVar, newRow]
  · exact .ptr _ _ _ _ (Pl.add_same _ _ _)

theorem ef_box (hE : EnvR n ι w env a) (hR : Rel ι H w) {t : TypeId} {x : Operand} {x' : X} (hx : compX n x = some x') {dst : Option Tmp} {ty : TypeId} {pos : String} {af : Array Edge} {g : Option (Nat × Bool)}
    (hk : E.wp P env H K (.box x')) : OpOk P a ⟨dst, .box t x, ty, pos, af, g⟩ K ι H w := by
  obtain ⟨ht, hk⟩ := hk
  obtain ⟨h2, h3⟩ := (X.sound hE hx).cells ht
  obtain ⟨id, h00, hid, hι⟩ := hR.fresh
  obtain ⟨g1, g2⟩ := hR.push h00 hid hι (Push.mk' w (.cells (a.eval x).cells t)) h2 h3 (List.prefix_refl _)
  refine OpOk.value (u := .pointer (some ⟨w.heap.size, 0, none⟩)) (w' := { w with heap := w.heap.push (.cells (a.eval x).cells t) }) ?_ (hk id h00 hid) ?_ g1 g2
  · simp [execOp, Instr.box, newVar, newRow]
  · exact .ptr _ _ _ _ (Pl.add_same _ _ _)

theorem rep_length (z : List V) : ∀ k, (rep z k).length = k * z.length
  | 0 => by simp [rep]
  | k + 1 => by simp [rep, rep_length z k, Nat.add_mul]; omega

theorem rep_get (z : List V) (hz : 0 < z.length) : ∀ (k i : Nat), i < k * z.length → (rep z k)[i]? = z[i % z.length]?
  | 0, i, h => by omega
  | k + 1, i, h => by
    simp only [rep]
    by_cases hi : i < z.length
    · rw [List.getElem?_append_left hi, Nat.mod_eq_of_lt hi]
    · rw [List.getElem?_append_right (by omega), rep_get z hz k _ (by rw [Nat.add_mul] at h; omega)]
      congr 1
      rw [← Nat.mod_eq_sub_mod (by omega)]

theorem VRs.rep {z : List V} {u : Array Value} (h : VRs ι w z u.toList) (ho : u.toList.all one = true) (k : Nat) (hz : 0 < z.length) :
    VRs ι w (rep z k) (madeCells u (k * z.length)).toList ∧ (madeCells u (k * z.length)).toList.all one = true := by
  have hl : u.size = z.length := by have := h.length; simpa using this.symm
  constructor
  · refine VRs.of_get (by rw [rep_length]; simp [madeCells]) fun i v hi => ?_
    have hlt := (List.getElem?_eq_some_iff.1 hi).1
    rw [rep_length] at hlt
    rw [rep_get z hz k i hlt] at hi
    obtain ⟨x, h1, h2⟩ := h.get hi
    refine ⟨x, ?_, h2⟩
    rw [Array.getElem?_toList] at h1 ⊢
    have hm : i % z.length < u.size := by rw [hl]; exact Nat.mod_lt _ hz
    simp only [madeCells, Array.getElem?_map, Array.getElem?_range, hlt, if_true, Option.map_some, hl]
    rw [getElem!_pos u _ hm]
    rw [Array.getElem?_eq_getElem hm] at h1
    exact h1
  · rw [List.all_eq_true] at *
    intro x hx
    simp only [madeCells, Array.toList_map, List.mem_map] at hx
    obtain ⟨i, hi, rfl⟩ := hx
    have hm : i % u.size < u.size := Nat.mod_lt _ (by omega)
    rw [getElem!_pos u _ hm]
    exact ho _ (by simp)

theorem ef_lit (hE : EnvR n ι w env a) (hR : Rel ι H w) {t e : TypeId} (hun : P.underlying t = some (.slice e)) {s : Nat} (hs : sizeT P e = some s) {z : List V} (hz : zeroCells P e = some z) (hzl : z.length = s) (hs0 : 0 < s) {len : Nat} (hbig : len * s ≤ 16777216)
    {ps : Array (Nat × Operand)} {qs : List (Nat × Nat × X)} (hq : partsA n s ps.toList = some qs) {dst : Option Tmp} {ty : TypeId} {pos : String} {af : Array Edge} {g : Option (Nat × Bool)}
    (hk : E.wp P env H K (.lit s len (rep z len) qs)) : OpOk P a ⟨dst, .buildSlice t len ps, ty, pos, af, g⟩ K ι H w := by
  obtain ⟨cs, hf, hk⟩ := hk
  obtain ⟨u, h1, h2, h3, _⟩ := zeroCells_run hz
  obtain ⟨id, h00, hid, hι⟩ := hR.fresh
  obtain ⟨r1, r2⟩ := (h2 ι w).rep h3 len (by omega)
  rw [hzl] at r1 r2
  obtain ⟨hl, hq'⟩ := partsA_len hq
  have husz : u.cells.size = s := by have := (h2 ι w).length; simp at this; omega
  obtain ⟨zs, g1, g2, g3⟩ := fill_runs hE (fun i => some (i * s, s)) hl (us := madeCells u.cells (len * s)) (fun j i x hj => by
    obtain ⟨off, s', y, k1, ⟨k2, k3⟩, k5⟩ := hq' j i x hj
    subst k2; subst k3
    exact ⟨_, _, y, k1, rfl, k5⟩) r1 r2 hf
  have hps : (ps.map fun (i, x) => (i, a.eval x)).toList = ps.toList.map fun p => (p.1, a.eval p.2) := by simp
  rw [← hps] at g1
  obtain ⟨k1, k2⟩ := hR.push h00 hid hι (Push.mk' w (.cells zs e)) g2 g3 (List.prefix_refl _)
  have hzsz : zs.size = len * s := by
    have a1 := g2.length
    have a2 : ∀ {ps : List (Nat × Nat × X)} {cs rs : List V}, fillV env cs ps = some rs → rs.length = cs.length := by
      intro ps
      induction ps with
      | nil => intro cs rs h; simp only [fillV] at h; cases h; rfl
      | cons p ps ih =>
        intro cs rs h
        obtain ⟨off, s, y⟩ := p
        unfold fillV at h
        cases hb : ((y.ev env).isTup || !(Nat.beq (y.ev env).cells.length s) || !(Nat.ble (off + s) cs.length)) with
        | true => rw [hb] at h; cases h
        | false =>
          rw [hb] at h
          simp only [cond_false] at h
          simp only [Bool.or_eq_false_iff, Bool.not_eq_false'] at hb
          rw [ih h, splice_length]
          have := Nat.eq_of_beq_eq_true hb.1.2
          have := Nat.le_of_ble_eq_true hb.2
          omega
    have a3 := a2 hf
    rw [rep_length, hzl] at a3
    simp at a1
    omega
  refine OpOk.value (u := .slice (some ⟨w.heap.size, 0, none⟩) len len) (w' := { w with heap := w.heap.push (.cells zs e) }) ?_ (hk id h00 hid) ?_ k1 k2
  · have hbig' : ¬ (len * s > 2 ^ 24) := by omega
    by_cases h0 : len * s = 0
    · have hm : madeCells u.cells (len * s) = (Array.range (len * s)).map (fun i => (#[] : Array Value)[i % (#[] : Array Value).size]!) := by
        rw [h0]; apply Array.ext'; simp [madeCells]
      rw [hm] at g1
      simp [execOp, Instr.buildSlice, run_underlying hun, run_sizeOf hs, h0, newRow] at g1 ⊢
      simp [g1]
    · simp only [madeCells] at g1
      simp [execOp, Instr.buildSlice, run_underlying hun, run_sizeOf hs, hbig', h0, h1, newRow] at g1 ⊢
      simp [g1]
  · refine .slice _ _ _ _ _ _ (Nat.le_refl _) fun _ => ⟨w.heap.size, 0, zs, e, (0, 0), Pl.add_same _ _ _, by simp, by simp, by omega⟩

theorem ef_store (hE : EnvR n ι w env a) (hR : Rel ι H w) {t : TypeId} {s : Nat} (hs : sizeT P t = some s) {x y : Operand} {x' y' : X} (hx : compX n x = some x') (hy : compX n y = some y') {dst : Option Tmp} {ty : TypeId} {pos : String} {af : Array Edge} {g : Option (Nat × Bool)}
    (hk : E.wp P env H K (.store s x' y')) : OpOk P a ⟨dst, .store t x y, ty, pos, af, g⟩ K ι H w := by
  obtain ⟨id, off, cs, h1, hH, ht, hl, hfit, hk⟩ := hk
  have hv1 := X.sound hE hx
  obtain ⟨c1, c2⟩ := (X.sound hE hy).cells ht
  rw [h1] at hv1
  generalize hu : a.eval x = u at hv1
  cases hv1 with
  | ptr _ _ b o hι =>
    obtain ⟨b', o', hι', c, e, f, hb, hcs, hfr, hcl⟩ := hR.obj _ _ hH
    rw [hι] at hι'; cases hι'
    have hsz : (a.eval y).cells.toList.length = s := by rw [← c1.length]; exact hl
    obtain ⟨w', c', g1, g2, g3, g4, g5⟩ := storeCells_run (P := P) (o := o + off) (a.eval y).cells.toList 0 w c hb (hfr rfl) (by omega) c2
    obtain ⟨k1, k2⟩ := hR.wrote hH hι hb (hfr rfl) g2 g3 g4 (cs' := splice cs off (y'.ev env).cells) (by rw [splice_length (by omega)]; omega) (fun k v hk => by
      have := splice_rel (R := fun v u => VR ι w v u ∧ one u = true) (L := c.toList) (T := (a.eval y).cells.toList) (o := o) (fun k v hk => by rw [Array.getElem?_toList]; exact hcs k v hk)
        (fun k v hk => by obtain ⟨u, q1, q2⟩ := c1.get hk; exact ⟨u, q1, q2, List.all_eq_true.1 c2 u (List.mem_of_getElem? q1)⟩) c1.length (by omega) (by simpa using hcl) k v hk
      rw [← Array.getElem?_toList, g5]
      simpa using this)
    refine OpOk.skip (w' := w') ?_ hk k1 k2
    have hne : ¬ ((a.eval y).cells.size ≠ s) := by simp at hsz; omega
    simp only [execOp, Instr.storeAt, hu, Instr.sureAddr, storeVar, Sem.run_bind, Sem.run_pure, Result.andThen_ok, run_sizeOf hs, if_neg hne, g1, Sem.run_ite]

end
end Go.CM
