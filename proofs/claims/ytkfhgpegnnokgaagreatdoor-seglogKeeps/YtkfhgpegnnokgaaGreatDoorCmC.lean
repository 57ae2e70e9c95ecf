/-
  A program logic over the model's calls: its texts CmEff CmEff2 CmEff3 CmEff4, joined.
-/
import Derived.Test.YtkfhgpegnnokgaaGreatDoorCmB
import Derived.Lib.ConvBytes
namespace Go.CM

theorem Rel.fresh {ι : Pl} {H : Heap} {w : World} (h : Rel ι H w) : ∃ id, id ≠ 0 ∧ H id = none ∧ ι id = none := by
  obtain ⟨M, hM⟩ := h.fin
  obtain ⟨N, hN, hp⟩ : ∃ N, ι N = none ∧ N ≠ 0 := ⟨2 * M + 2, hM _ (by omega) (by omega), by omega⟩
  refine ⟨N, hp, ?_, hN⟩
  cases hH : H N with
  | none => rfl
  | some o =>
    obtain ⟨b, off, h1, _⟩ := h.obj N o hH
    rw [hN] at h1; cases h1

structure Push (w w' : World) (o : Obj) : Prop where
  heap : w'.heap = w.heap.push o
  os : w'.os = w.os
  tape : Tape w w'
  output : w'.output = w.output

theorem Push.old {w w' : World} {o : Obj} (h : Push w w' o) (k : Nat) (hk : k < w.heap.size) : w'.heap[k]? = w.heap[k]? := by
  rw [h.heap, Array.getElem?_push, if_neg (by omega)]
theorem Push.new {w w' : World} {o : Obj} (h : Push w w' o) : w'.heap[w.heap.size]? = some o := by
  rw [h.heap]; simp
theorem Push.size {w w' : World} {o : Obj} (h : Push w w' o) : w'.heap.size = w.heap.size + 1 := by rw [h.heap]; simp
theorem Push.shp {w w' : World} {o : Obj} (h : Push w w' o) : Shp w w' := fun b c e f hb =>
  ⟨c, f, by rw [h.old b (Array.getElem?_eq_some_iff.1 hb).1]; exact hb, keepF rfl⟩
theorem Push.drawn {w w' : World} {o : Obj} {d : Nat} (hd : w.drawn ≤ d) (h : Push { w with drawn := d } w' o) : Push w w' o := ⟨h.heap, h.os, ⟨h.tape.eq, Nat.le_trans hd h.tape.drawn⟩, h.output⟩
theorem Push.mk' (w : World) (o : Obj) : Push w { w with heap := w.heap.push o } o := ⟨rfl, rfl, ⟨rfl, Nat.le_refl _⟩, rfl⟩

theorem Rel.push {ι : Pl} {H : Heap} {w w' : World} (h : Rel ι H w) {id : Nat} (h0 : id ≠ 0) (hid : H id = none) (hι : ι id = none) {c : Array Value} {e : TypeId} (hp : Push w w' (.cells c e (0, 0)))
    {cs : List V} {us : List Value} (hv : VRs ι w cs us) (ho : us.all one = true) (hc : us <+: c.toList) :
    Rel (ι.add id (w.heap.size, 0)) (H.set id (.cells true cs)) w' ∧ Ext ι H w (ι.add id (w.heap.size, 0)) (H.set id (.cells true cs)) w' := by
  have hle := Pl.le_add (ι := ι) (id := id) (w.heap.size, 0) hι
  refine ⟨h.new h0 hid hι hp.shp hp.old ?_, Ext.new h hid hι hp.shp hp.old hp.os hp.tape hp.output (by rw [hp.size]; omega) rfl⟩
  refine ⟨c, e, (0, 0), hp.new, fun k v hk => ?_, fun _ k _ => by omega, by have := hc.length_le; have := hv.length; simp at *; omega⟩
  obtain ⟨u, h1, h2⟩ := hv.get hk
  have hlt := (List.getElem?_eq_some_iff.1 h1).1
  refine ⟨u, ?_, h2.mono hle hp.shp, List.all_eq_true.1 ho u (List.mem_of_getElem? h1)⟩
  rw [Nat.zero_add, ← Array.getElem?_toList]
  obtain ⟨r, hr⟩ := hc
  rw [← hr, List.getElem?_append_left hlt]
  exact h1

structure Wrote (w w' : World) (b : Nat) (o : Obj) : Prop where
  at_ : w'.heap[b]? = some o
  old : ∀ k, k ≠ b → w'.heap[k]? = w.heap[k]?
  size : w'.heap.size = w.heap.size
  os : w'.os = w.os
  tape : Tape w w'
  output : w'.output = w.output

theorem Wrote.trans {w w1 w2 : World} {b : Nat} {o o' : Obj} (h : Wrote w w1 b o) (k : Wrote w1 w2 b o') : Wrote w w2 b o' :=
  ⟨k.at_, fun i hi => (k.old i hi).trans (h.old i hi), k.size.trans h.size, k.os.trans h.os, h.tape.trans k.tape, k.output.trans h.output⟩

theorem store_run {P : Program} {w : World} {b o : Nat} {c : Array Value} {e : TypeId} {f : Nat × Nat} (hb : w.heap[b]? = some (.cells c e f)) (hf : Free c f) (ho : o < c.size) {v : Value} (hv : one v = true) :
    ∃ w', (store ⟨b, o, none⟩ v).run P w = .ok () w' ∧ Wrote w w' b (.cells (c.setIfInBounds o v) e f) := by
  have hcell : w.cell? ⟨b, o, none⟩ = some c[o] := by rw [cell_of hb]; simp [ho]
  have hfr : w.frozen? ⟨b, o, none⟩ = false := by
    simp only [World.frozen?, hb]
    have := hf o ho
    simp only [Bool.and_eq_false_iff, decide_eq_false_iff_not]
    omega
  have hv' : v.oneCell' = true := by cases v <;> simp_all [one, Value.oneCell']
  refine ⟨w.setCell ⟨b, o, none⟩ v, ?_, ?_, ?_, ?_, rfl, ⟨rfl, Nat.le_refl _⟩, rfl⟩
  · rw [run_store P w _ _ _ hv', hcell]; simp [hfr]
  · have hlt := (Array.getElem?_eq_some_iff.1 hb).1
    have hget := (Array.getElem?_eq_some_iff.1 hb).2
    simp only [World.setCell, Array.getElem?_modify, if_true, hb]
    simp
  · intro k hk
    simp only [World.setCell, Array.getElem?_modify]
    rw [if_neg (Ne.symm hk)]
  · simp [World.setCell]

theorem storeCells_run {P : Program} {b o : Nat} {e : TypeId} {f : Nat × Nat} : ∀ (vs : List Value) (i : Nat) (w : World) (c : Array Value), w.heap[b]? = some (.cells c e f) → Free c f → o + i + vs.length ≤ c.size → vs.all one = true →
    ∃ w' c', (storeCells ⟨b, o, none⟩ vs i).run P w = .ok () w' ∧ (w' = w ∨ Wrote w w' b (.cells c' e f)) ∧ w'.heap[b]? = some (.cells c' e f) ∧ c'.size = c.size ∧
      c'.toList = c.toList.take (o + i) ++ vs ++ c.toList.drop (o + i + vs.length)
  | [], i, w, c, hb, _, _, _ => ⟨w, c, by simp [storeCells], .inl rfl, hb, rfl, by simp⟩
  | v :: vs, i, w, c, hb, hf, hl, ho => by
    simp only [List.length_cons, List.all_cons, Bool.and_eq_true] at hl ho
    obtain ⟨w1, h1, h2⟩ := store_run (P := P) hb hf (o := o + i) (by omega) ho.1
    obtain ⟨w', c', h3, h4, h5, h6, h7⟩ := storeCells_run (P := P) (o := o) vs (i + 1) w1 _ h2.at_ (fun k hk => hf k (by simpa using hk)) (by simp; omega) ho.2
    refine ⟨w', c', ?_, ?_, h5, by simpa using h6, ?_⟩
    · simp only [storeCells, Sem.run_bind, Addr.add_lit, h1, Result.andThen_ok, h3]
    · rcases h4 with rfl | h4
      · have := h2.at_
        rw [h5] at this
        cases this
        exact .inr h2
      · exact .inr (h2.trans h4)
    · rw [h7]
      simp only [Array.toList_setIfInBounds]
      have := list_seg_step c.toList (o + i) v vs (by simpa using hl)
      rw [show o + (i + 1) = o + i + 1 by omega]
      simpa using this

theorem Rel.wrote {ι : Pl} {H : Heap} {w w' : World} (h : Rel ι H w) {id : Nat} {cs : List V} (hH : H id = some (.cells true cs)) {b o : Nat} (hι : ι id = some (b, o))
    {c c' : Array Value} {e : TypeId} {f : Nat × Nat} (hb : w.heap[b]? = some (.cells c e f)) (hf : Free c f) (hw : w' = w ∨ Wrote w w' b (.cells c' e f)) (hb' : w'.heap[b]? = some (.cells c' e f)) (hsz : c'.size = c.size)
    {cs' : List V} (hcl : o + cs'.length ≤ c.size) (hcs : ∀ (k : Nat) (v : V), cs'[k]? = some v → ∃ u, c'[o + k]? = some u ∧ VR ι w v u ∧ one u = true) :
    Rel ι (H.set id (.cells true cs')) w' ∧ Ext ι H w ι (H.set id (.cells true cs')) w' := by
  have hold : ∀ k, k ≠ b → w'.heap[k]? = w.heap[k]? := by
    rcases hw with rfl | hw
    · intro _ _; rfl
    · exact hw.old
  have hs : Shp w w' := by
    intro b2 c2 e2 f2 h2
    by_cases hbb : b2 = b
    · subst hbb; rw [hb] at h2; cases h2; exact ⟨c', _, hb', keepF hsz⟩
    · exact ⟨c2, f2, by rw [hold b2 hbb]; exact h2, keepF rfl⟩
  have hrest : w'.heap.size = w.heap.size ∧ w'.os = w.os ∧ Tape w w' ∧ w'.output = w.output := by
    rcases hw with rfl | hw
    · exact ⟨rfl, rfl, Tape.refl _, rfl⟩
    · exact ⟨hw.size, hw.os, hw.tape, hw.output⟩
  obtain ⟨g1, g2, g3, g4⟩ := hrest
  refine ⟨h.write hH rfl hι hs hold ?_, Ext.write hH rfl hι hs hold g2 g3 g4 g1 rfl⟩
  refine ⟨c', e, f, hb', fun k v hk => ?_, fun _ k hk => hf k (by omega), by omega⟩
  obtain ⟨u, h1, h2, h3⟩ := hcs k v hk
  exact ⟨u, h1, h2.mono (fun _ _ h => h) hs, h3⟩

theorem splice_relX {R : V → Value → Prop} {cs vs : List V} {L T : List Value} {o off : Nat} (h : ∀ (k : Nat) (v : V), cs[k]? = some v → ∃ u, L[o + k]? = some u ∧ R v u)
    (h' : ∀ (k : Nat) (v : V), vs[k]? = some v → ∃ u, T[k]? = some u ∧ R v u) (hT : vs.length = T.length) (h1 : off ≤ cs.length) (_h2 : o + cs.length ≤ L.length) (h3 : o + off + vs.length ≤ L.length) :
    ∀ (k : Nat) (v : V), (splice cs off vs)[k]? = some v → ∃ u, (L.take (o + off) ++ T ++ L.drop (o + off + T.length))[o + k]? = some u ∧ R v u := by
  intro k v hk
  simp only [splice] at hk
  have e1 : (List.take off cs).length = off := by simp; omega
  have e2 : (List.take (o + off) L).length = o + off := by simp; omega
  by_cases hk1 : k < off
  · rw [List.append_assoc, List.getElem?_append_left (by omega), List.getElem?_take_of_lt hk1] at hk
    obtain ⟨u, q1, q2⟩ := h k v hk
    refine ⟨u, ?_, q2⟩
    rw [List.append_assoc, List.getElem?_append_left (by omega), List.getElem?_take_of_lt (by omega)]
    exact q1
  · by_cases hk2 : k < off + vs.length
    · rw [List.append_assoc, List.getElem?_append_right (by omega), List.getElem?_append_left (by omega), e1] at hk
      obtain ⟨u, q1, q2⟩ := h' _ _ hk
      refine ⟨u, ?_, q2⟩
      rw [List.append_assoc, List.getElem?_append_right (by omega), List.getElem?_append_left (by omega), e2]
      rw [← q1]; congr 1; omega
    · rw [List.getElem?_append_right (by rw [List.length_append]; omega), List.getElem?_drop, List.length_append, e1] at hk
      obtain ⟨u, q1, q2⟩ := h _ v hk
      refine ⟨u, ?_, q2⟩
      rw [List.getElem?_append_right (by rw [List.length_append]; omega), List.getElem?_drop, List.length_append, e2, ← q1]
      congr 1; omega
theorem splice_lenX {cs vs : List V} {off : Nat} (h : off ≤ cs.length) : (splice cs off vs).length = max cs.length (off + vs.length) := by
  simp only [splice, List.length_append, List.length_take, List.length_drop]; omega
theorem Rel.writeAt {P : Program} {ι : Pl} {H : Heap} {w : World} (hR : Rel ι H w) {id : Nat} {cs : List V} (hH : H id = some (.cells true cs)) {b o off : Nat} (hι : ι id = some (b, o))
    {c : Array Value} {e : TypeId} {f : Nat × Nat} (hb : w.heap[b]? = some (.cells c e f)) {vs : List V} {us : List Value} (hv : VRs ι w vs us) (ho : us.all one = true) (h1 : off ≤ cs.length) (h2 : o + off + us.length ≤ c.size) :
    ∃ w', (storeCells ⟨b, o + off, none⟩ us).run P w = .ok () w' ∧ Rel ι (H.set id (.cells true (splice cs off vs))) w' ∧ Ext ι H w ι (H.set id (.cells true (splice cs off vs))) w' := by
  obtain ⟨b', o', hι', c', e', f', hb', hcs, hfr, hcl⟩ := hR.obj _ _ hH
  rw [hι] at hι'; cases hι'
  rw [hb] at hb'; cases hb'
  have hlen := hv.length
  obtain ⟨w', c', g1, g2, g3, g4, g5⟩ := storeCells_run (P := P) (o := o + off) us 0 w c hb (hfr rfl) (by omega) ho
  obtain ⟨k1, k2⟩ := hR.wrote hH hι hb (hfr rfl) g2 g3 g4 (cs' := splice cs off vs) (by rw [splice_lenX h1]; omega) (fun k v hk => by
    have := splice_relX (R := fun v u => VR ι w v u ∧ one u = true) (L := c.toList) (T := us) (o := o) (fun k v hk => by rw [Array.getElem?_toList]; exact hcs k v hk)
      (fun k v hk => by obtain ⟨u, q1, q2⟩ := hv.get hk; exact ⟨u, q1, q2, List.all_eq_true.1 ho u (List.mem_of_getElem? q1)⟩) hlen h1 (by simpa using hcl) (by simp; omega) k v hk
    rw [← Array.getElem?_toList, g5]
    simpa using this)
  exact ⟨w', g1, k1, k2⟩

theorem splice_rel {R : V → Value → Prop} {cs vs : List V} {L T : List Value} {o off : Nat} (h : ∀ (k : Nat) (v : V), cs[k]? = some v → ∃ u, L[o + k]? = some u ∧ R v u)
    (h' : ∀ (k : Nat) (v : V), vs[k]? = some v → ∃ u, T[k]? = some u ∧ R v u) (hT : vs.length = T.length) (h1 : off + vs.length ≤ cs.length) (h2 : o + cs.length ≤ L.length) :
    ∀ (k : Nat) (v : V), (splice cs off vs)[k]? = some v → ∃ u, (L.take (o + off) ++ T ++ L.drop (o + off + T.length))[o + k]? = some u ∧ R v u := by
  intro k v hk
  simp only [splice] at hk
  have e1 : (List.take off cs).length = off := by simp; omega
  have e2 : (List.take (o + off) L).length = o + off := by simp; omega
  by_cases hk1 : k < off
  · rw [List.append_assoc, List.getElem?_append_left (by omega), List.getElem?_take_of_lt hk1] at hk
    obtain ⟨u, q1, q2⟩ := h k v hk
    refine ⟨u, ?_, q2⟩
    rw [List.append_assoc, List.getElem?_append_left (by omega), List.getElem?_take_of_lt (by omega)]
    exact q1
  · by_cases hk2 : k < off + vs.length
    · rw [List.append_assoc, List.getElem?_append_right (by omega), List.getElem?_append_left (by omega), e1] at hk
      obtain ⟨u, q1, q2⟩ := h' _ _ hk
      refine ⟨u, ?_, q2⟩
      rw [List.append_assoc, List.getElem?_append_right (by omega), List.getElem?_append_left (by omega), e2]
      rw [← q1]; congr 1; omega
    · rw [List.getElem?_append_right (by rw [List.length_append]; omega), List.getElem?_drop, List.length_append, e1] at hk
      obtain ⟨u, q1, q2⟩ := h _ v hk
      refine ⟨u, ?_, q2⟩
      rw [List.getElem?_append_right (by rw [List.length_append]; omega), List.getElem?_drop, List.length_append, e2, ← q1]
      congr 1; omega

end Go.CM

namespace Go.CM

abbrev FW (ro : Option Nat) : Fence := { Fence.wide with round := ro }

def OpOk (P : Program) (a : Act) (o : Oper) (K : V → Heap → Prop) (ι : Pl) (H : Heap) (w : World) : Prop :=
  ∀ (ro : Option Nat) (Kw : Act → World → Prop) (Qw : Exit → Act → World → Prop),
    (∀ v ι' H' u w', K v H' → VR ι' w' v u → Rel ι' H' w' → Ext ι H w ι' H' w' → Kw (a.put o.dst u) w') → o.wpIn (FW ro) 0 P a w Kw Qw

section
variable {P : Program} {n : Nat} {ι : Pl} {H : Heap} {w : World} {env : Env} {a : Act} {K : V → Heap → Prop}

theorem semAt_run {o : Oper} {ρ : Operand → Value} {x : Next} {w' : World} (ro : Option Nat) (hr : (execOp ρ o).run P w = .ok x w') (hx : ∀ d, x ≠ .defer d) : (o.semAt ro ρ).run P w = .ok x w' := by
  rw [Oper.semAt_eq]
  · exact hr
  · intro c hc
    obtain ⟨dst, op, ty, pos, af, g⟩ := o
    simp only at hc
    subst hc
    simp only [execOp, Sem.run_bind] at hr
    generalize (resolve ρ c ty).run P w = r at hr
    cases r with
    | ok d w1 => simp at hr; exact hx _ hr.1.symm
    | halt h w1 => simp at hr

theorem OpOk.value {o : Oper} {u : Value} {w' : World} (hr : (execOp a.eval o).run P w = .ok (.value u) w') {v : V} {ι' : Pl} {H' : Heap} (hk : K v H') (hv : VR ι' w' v u) (hR : Rel ι' H' w') (hE : Ext ι H w ι' H' w') :
    OpOk P a o K ι H w := fun ro Kw Qw h => by
  refine ⟨fun _ _ => trivial, ?_⟩
  rw [semAt_run _ hr (fun _ h => by cases h)]
  exact h v ι' H' u w' hk hv hR hE

theorem OpOk.skip {o : Oper} {w' : World} (hr : (execOp a.eval o).run P w = .ok .skip w') {ι' : Pl} {H' : Heap} (hk : K V.undef H') (hR : Rel ι' H' w') (hE : Ext ι H w ι' H' w') :
    OpOk P a o K ι H w := fun ro Kw Qw h => by
  refine ⟨fun _ _ => trivial, ?_⟩
  rw [semAt_run _ hr (fun _ h => by cases h)]
  exact h V.undef ι' H' Go.undef w' hk (VR.undef _ _) hR hE

theorem zeroCells_run {t : TypeId} {z : List V} (h : zeroCells P t = some z) : ∃ u : Value, (∀ w, (zeroValue t).run P w = .ok u w) ∧ (∀ ι w, VRs ι w z u.cells.toList) ∧ u.cells.toList.all one = true ∧ ∃ i, P.info? t = some i ∧ i.zero = some u := by
  unfold zeroCells at h
  split at h
  · rename_i zv hz
    cases ht : zv.isTup with
    | true => rw [ht] at h; cases h
    | false =>
      rw [ht] at h; cases h
      obtain ⟨u, h1, h2, h3⟩ := run_zero hz
      exact ⟨u, h1, fun ι w => ((h2 ι w).cells ht).1, ((h2 (fun _ => none) default).cells ht).2, h3⟩
  · cases h

theorem ef_alloc (_hE : EnvR n ι w env a) (hR : Rel ι H w) {t : TypeId} {z : List V} (hz : zeroCells P t = some z) {dst : Option Tmp} {ty : TypeId} {pos : String} {af : Array Edge} {g : Option (Nat × Bool)}
    (hk : E.wp P env H K (.alloc z)) : OpOk P a ⟨dst, .alloc t, ty, pos, af, g⟩ K ι H w := by
  obtain ⟨u, h1, h2, h3, _⟩ := zeroCells_run hz
  obtain ⟨id, h00, hid, hι⟩ := hR.fresh
  obtain ⟨g1, g2⟩ := hR.push h00 hid hι (Push.mk' w (.cells u.cells t)) (h2 ι w) h3 (List.prefix_refl _)
  refine OpOk.value (u := .pointer (some ⟨w.heap.size, 0, none⟩)) (w' := { w with heap := w.heap.push (.cells u.cells t) }) ?_ (hk id h00 hid) ?_ g1 g2
  · simp [execOp, Instr.alloc, h1, newVar, newRow]
  · exact .ptr _ _ _ _ (Pl.add_same _ _ _)

theorem ef_box (hE : EnvR n ι w env a) (hR : Rel ι H w) {t : TypeId} {x : Operand} {x' : X} (hx : compX n x = some x') {dst : Option Tmp} {ty : TypeId} {pos : String} {af : Array Edge} {g : Option (Nat × Bool)}
    (hk : E.wp P env H K (.box x')) : OpOk P a ⟨dst, .box t x, ty, pos, af, g⟩ K ι H w := by
  obtain ⟨ht, hk⟩ := hk
  obtain ⟨h2, h3⟩ := (X.sound hE hx).cells ht
  obtain ⟨id, h00, hid, hι⟩ := hR.fresh
  obtain ⟨g1, g2⟩ := hR.push h00 hid hι (Push.mk' w (.cells (a.eval x).cells t)) h2 h3 (List.prefix_refl _)
  refine OpOk.value (u := .pointer (some ⟨w.heap.size, 0, none⟩)) (w' := { w with heap := w.heap.push (.cells (a.eval x).cells t) }) ?_ (hk id h00 hid) ?_ g1 g2
  · simp [execOp, Instr.box, newVar, newRow]
  · exact .ptr _ _ _ _ (Pl.add_same _ _ _)

theorem rep_length (z : List V) : ∀ k, (rep z k).length = k * z.length
  | 0 => by simp [rep]
  | k + 1 => by simp [rep, rep_length z k, Nat.add_mul]; omega

theorem rep_get (z : List V) (hz : 0 < z.length) : ∀ (k i : Nat), i < k * z.length → (rep z k)[i]? = z[i % z.length]?
  | 0, i, h => by omega
  | k + 1, i, h => by
    simp only [rep]
    by_cases hi : i < z.length
    · rw [List.getElem?_append_left hi, Nat.mod_eq_of_lt hi]
    · rw [List.getElem?_append_right (by omega), rep_get z hz k _ (by rw [Nat.add_mul] at h; omega)]
      congr 1
      rw [← Nat.mod_eq_sub_mod (by omega)]

theorem VRs.rep {z : List V} {u : Array Value} (h : VRs ι w z u.toList) (ho : u.toList.all one = true) (k : Nat) (hz : 0 < z.length) :
    VRs ι w (rep z k) (madeCells u (k * z.length)).toList ∧ (madeCells u (k * z.length)).toList.all one = true := by
  have hl : u.size = z.length := by have := h.length; simpa using this.symm
  constructor
  · refine VRs.of_get (by rw [rep_length]; simp [madeCells]) fun i v hi => ?_
    have hlt := (List.getElem?_eq_some_iff.1 hi).1
    rw [rep_length] at hlt
    rw [rep_get z hz k i hlt] at hi
    obtain ⟨x, h1, h2⟩ := h.get hi
    refine ⟨x, ?_, h2⟩
    rw [Array.getElem?_toList] at h1 ⊢
    have hm : i % z.length < u.size := by rw [hl]; exact Nat.mod_lt _ hz
    simp only [madeCells, Array.getElem?_map, Array.getElem?_range, hlt, if_true, Option.map_some, hl]
    rw [getElem!_pos u _ hm]
    rw [Array.getElem?_eq_getElem hm] at h1
    exact h1
  · rw [List.all_eq_true] at *
    intro x hx
    simp only [madeCells, Array.toList_map, List.mem_map] at hx
    obtain ⟨i, hi, rfl⟩ := hx
    have hm : i % u.size < u.size := Nat.mod_lt _ (by omega)
    rw [getElem!_pos u _ hm]
    exact ho _ (by simp)

theorem ef_lit (hE : EnvR n ι w env a) (hR : Rel ι H w) {t e : TypeId} (hun : P.underlying t = some (.slice e)) {s : Nat} (hs : sizeT P e = some s) {z : List V} (hz : zeroCells P e = some z) (hzl : z.length = s) (hs0 : 0 < s) {len : Nat} (hbig : len * s ≤ 16777216)
    {ps : Array (Nat × Operand)} {qs : List (Nat × Nat × X)} (hq : partsA n s ps.toList = some qs) {dst : Option Tmp} {ty : TypeId} {pos : String} {af : Array Edge} {g : Option (Nat × Bool)}
    (hk : E.wp P env H K (.lit s len (rep z len) qs)) : OpOk P a ⟨dst, .buildSlice t len ps, ty, pos, af, g⟩ K ι H w := by
  obtain ⟨cs, hf, hk⟩ := hk
  obtain ⟨u, h1, h2, h3, _⟩ := zeroCells_run hz
  obtain ⟨id, h00, hid, hι⟩ := hR.fresh
  obtain ⟨r1, r2⟩ := (h2 ι w).rep h3 len (by omega)
  rw [hzl] at r1 r2
  obtain ⟨hl, hq'⟩ := partsA_len hq
  have husz : u.cells.size = s := by have := (h2 ι w).length; simp at this; omega
  obtain ⟨zs, g1, g2, g3⟩ := fill_runs hE (fun i => some (i * s, s)) hl (us := madeCells u.cells (len * s)) (fun j i x hj => by
    obtain ⟨off, s', y, k1, ⟨k2, k3⟩, k5⟩ := hq' j i x hj
    subst k2; subst k3
    exact ⟨_, _, y, k1, rfl, k5⟩) r1 r2 hf
  have hps : (ps.map fun (i, x) => (i, a.eval x)).toList = ps.toList.map fun p => (p.1, a.eval p.2) := by simp
  rw [← hps] at g1
  obtain ⟨k1, k2⟩ := hR.push h00 hid hι (Push.mk' w (.cells zs e)) g2 g3 (List.prefix_refl _)
  have hzsz : zs.size = len * s := by
    have a1 := g2.length
    have a2 : ∀ {ps : List (Nat × Nat × X)} {cs rs : List V}, fillV env cs ps = some rs → rs.length = cs.length := by
      intro ps
      induction ps with
      | nil => intro cs rs h; simp only [fillV] at h; cases h; rfl
      | cons p ps ih =>
        intro cs rs h
        obtain ⟨off, s, y⟩ := p
        unfold fillV at h
        cases hb : ((y.ev env).isTup || !(Nat.beq (y.ev env).cells.length s) || !(Nat.ble (off + s) cs.length)) with
        | true => rw [hb] at h; cases h
        | false =>
          rw [hb] at h
          simp only [cond_false] at h
          simp only [Bool.or_eq_false_iff, Bool.not_eq_false'] at hb
          rw [ih h, splice_length]
          have := Nat.eq_of_beq_eq_true hb.1.2
          have := Nat.le_of_ble_eq_true hb.2
          omega
    have a3 := a2 hf
    rw [rep_length, hzl] at a3
    simp at a1
    omega
  have hrun : (execOp a.eval ⟨dst, .buildSlice t len ps, ty, pos, af, g⟩).run P w = .ok (.value (.slice (some ⟨w.heap.size, 0, none⟩) len len)) { w with heap := w.heap.push (.cells zs e) } := by
    have hbig' : ¬ (len * s > 2 ^ 24) := by omega
    by_cases h0 : len * s = 0
    · have hm : madeCells u.cells (len * s) = (Array.range (len * s)).map (fun i => (#[] : Array Value)[i % (#[] : Array Value).size]!) := by
        rw [h0]; apply Array.ext'; simp [madeCells]
      rw [hm] at g1
      simp [execOp, Instr.buildSlice, run_underlying hun, run_sizeOf hs, h0, newRow] at g1 ⊢
      simp [g1]
    · simp only [madeCells] at g1
      simp [execOp, Instr.buildSlice, run_underlying hun, run_sizeOf hs, hbig', h0, h1, newRow] at g1 ⊢
      simp [g1]
  have hvr : VR (ι.add id (w.heap.size, 0)) { w with heap := w.heap.push (.cells zs e) } (.slice id 0 len s) (.slice (some ⟨w.heap.size, 0, none⟩) len len) :=
    .slice _ _ _ _ _ _ (Nat.le_refl _) fun _ => ⟨w.heap.size, 0, zs, e, (0, 0), Pl.add_same _ _ _, by simp, by simp, by omega⟩
  rcases hk with hk | hk
  · exact OpOk.value hrun (hk id h00 hid) hvr k1 k2
  · exact OpOk.value hrun (hk id h00 hid e) (.ty _ _ _ _ _ _ _ _ (Pl.add_same _ _ _) (Push.mk' w (.cells zs e)).new (.inl rfl) (Nat.zero_le _) hvr rfl) k1 k2

theorem ef_store (hE : EnvR n ι w env a) (hR : Rel ι H w) {t : TypeId} {s : Nat} (hs : sizeT P t = some s) {x y : Operand} {x' y' : X} (hx : compX n x = some x') (hy : compX n y = some y') {dst : Option Tmp} {ty : TypeId} {pos : String} {af : Array Edge} {g : Option (Nat × Bool)}
    (hk : E.wp P env H K (.store s x' y')) : OpOk P a ⟨dst, .store t x y, ty, pos, af, g⟩ K ι H w := by
  obtain ⟨id, off, cs, h1, hH, ht, hl, hfit, hk⟩ := hk
  have hv1 := X.sound hE hx
  obtain ⟨c1, c2⟩ := (X.sound hE hy).cells ht
  rw [h1] at hv1
  generalize hu : a.eval x = u at hv1
  cases hv1 with
  | ptr _ _ b o hι =>
    obtain ⟨b', o', hι', c, e, f, hb, hcs, hfr, hcl⟩ := hR.obj _ _ hH
    rw [hι] at hι'; cases hι'
    have hsz : (a.eval y).cells.toList.length = s := by rw [← c1.length]; exact hl
    obtain ⟨w', c', g1, g2, g3, g4, g5⟩ := storeCells_run (P := P) (o := o + off) (a.eval y).cells.toList 0 w c hb (hfr rfl) (by omega) c2
    obtain ⟨k1, k2⟩ := hR.wrote hH hι hb (hfr rfl) g2 g3 g4 (cs' := splice cs off (y'.ev env).cells) (by rw [splice_length (by omega)]; omega) (fun k v hk => by
      have := splice_rel (R := fun v u => VR ι w v u ∧ one u = true) (L := c.toList) (T := (a.eval y).cells.toList) (o := o) (fun k v hk => by rw [Array.getElem?_toList]; exact hcs k v hk)
        (fun k v hk => by obtain ⟨u, q1, q2⟩ := c1.get hk; exact ⟨u, q1, q2, List.all_eq_true.1 c2 u (List.mem_of_getElem? q1)⟩) c1.length (by omega) (by simpa using hcl) k v hk
      rw [← Array.getElem?_toList, g5]
      simpa using this)
    refine OpOk.skip (w' := w') ?_ hk k1 k2
    have hne : ¬ ((a.eval y).cells.size ≠ s) := by simp at hsz; omega
    simp only [execOp, Instr.storeAt, hu, Instr.sureAddr, storeVar, Sem.run_bind, Sem.run_pure, Result.andThen_ok, run_sizeOf hs, if_neg hne, g1, Sem.run_ite]

end
end Go.CM

namespace Go.CM

section
variable {P : Program} {n : Nat} {ι : Pl} {H : Heap} {w : World} {env : Env} {a : Act} {K : V → Heap → Prop}

theorem src_run0 (hR : Rel ι H w) {esz : Nat} {v : V} {u : Value} (hns : ∀ a b c d e, v ≠ .sliceC a b c d e) (hv : VR ι w v u) {m : Nat} {vs : List V} (hs : srcCells H esz v = some (m, vs)) :
    ∃ us : List Value, us.length = m * esz ∧ VRs ι w vs us ∧ us.all one = true ∧ (∀ w, (Builtin.lenOf u).run P w = .ok m w) ∧
      (∀ w' : World, w'.heap = w.heap → (Builtin.firstCells esz m u).run P w' = .ok ⟨us⟩ w') := by
  unfold srcCells at hs
  split at hs
  · cases hs
    cases hv
    exact ⟨[], by simp, .nil, rfl, fun _ => rfl, fun _ _ => rfl⟩
  · rename_i id off len esz'
    cases hz0 : Nat.beq len 0 with
    | true =>
      rw [hz0] at hs
      have hz := Nat.eq_of_beq_eq_true hz0
      subst hz
      cases hs
      cases hv with
      | slice0 => exact ⟨[], by simp, .nil, rfl, fun _ => rfl, fun _ _ => rfl⟩
      | slice _ _ _ _ ad cap hl hc => exact ⟨[], by simp, .nil, rfl, fun _ => rfl, fun w' _ => by simp [Builtin.firstCells, loadCells, loadCellsFrom]⟩
    | false =>
    rw [hz0] at hs
    simp only [cond_false] at hs
    split at hs
    · rename_i rw' cs hH
      split at hs
      · rename_i he
        subst he
        split at hs
        · rename_i vs' hg
          cases hs
          cases hv with
          | slice0 => cases hz0
          | slice _ _ _ _ ad cap hl hc =>
            by_cases hcap : 0 < cap
            · obtain ⟨b, o, c, e, f, hι, rfl, _, _⟩ := hc hcap
              obtain ⟨us, h1, h2, h3, h4⟩ := hR.cells hH hι hg
              refine ⟨us, h1, h2, h3, fun _ => rfl, fun w' hw' => ?_⟩
              have h4' : ∀ (j : Nat) (u : Value), us[j]? = some u → w'.cell? ((⟨b, o + off, none⟩ : Addr).add j) = some u := fun j u hj => by
                rw [← h4 j u hj]; simp [World.cell?, hw']
              have := run_loadCells_list (P := P) w' ⟨b, o + off, none⟩ us h4'
              rw [h1] at this
              simpa [Builtin.firstCells] using this
            · have hz : m = 0 := by omega
              subst hz
              obtain ⟨h1, rfl⟩ := getCells_some hg
              refine ⟨[], by simp, by simpa using VRs.nil, rfl, fun _ => rfl, fun w' _ => by simp [Builtin.firstCells, loadCells, loadCellsFrom]⟩
        · cases hs
      · cases hs
    · cases hs
  · exact absurd rfl (hns _ _ _ _ _)
  · rename_i s
    split at hs
    · rename_i he
      subst he
      cases hs
      cases hv with
      | str s =>
        refine ⟨s.data.toList.map fun b => .int .u8 b.toNat, by simp, ?_, ?_, fun _ => by rw [str_size]; rfl, fun w' _ => ?_⟩
        · refine VRs.of_get (by simp) fun i v hi => ?_
          rw [List.getElem?_map] at hi
          cases hb : s.data.toList[i]? with
          | none => rw [hb] at hi; cases hi
          | some b => rw [hb] at hi; cases hi; exact ⟨_, by rw [List.getElem?_map, hb]; rfl, .int _ _⟩
        · rw [List.all_eq_true]
          intro x hx
          obtain ⟨b, _, rfl⟩ := List.mem_map.1 hx
          rfl
        · have e : s.extract 0 s.data.toList.length = s := by rw [str_size]; simp
          simp only [Builtin.firstCells, Sem.run_pure, e]
          congr 2
          apply Array.ext'; simp
    · cases hs
  · cases hs

theorem srcCells_slice {id off len esz : Nat} {rw' : Bool} {cs vs : List V} (hH : H id = some (.cells rw' cs)) (hg : getCells cs off (len * esz) = some vs) : srcCells H esz (.slice id off len esz) = some (len, vs) := by
  cases hz : Nat.beq len 0 with
  | true =>
    have := Nat.eq_of_beq_eq_true hz
    subst this
    have := (getCells_some hg).2
    simp [srcCells, this]
  | false => simp [srcCells, hz, hH, hg]

theorem append_grow {t t2 ty e : TypeId} {d2 : TypeDesc} (ht : P.underlying t = some (.slice e)) (ht2 : P.underlying t2 = some d2) (hd2 : ∀ k, d2 ≠ .int k) {i : TypeInfo} {z : Value} (hi : P.info? e = some i) (hz : i.zero = some z)
    (hzs : z.cells.size = i.size) (hby : 0 < i.bytes) {base : Option Addr} {sLen sCap m : Nat} {u : Value} {olds news : List Value}
    (hol : olds.length = sLen * i.size) (hold : ∀ w' : World, w'.heap = w.heap → (Builtin.firstCells i.size sLen (.slice base sLen sCap)).run P w' = .ok ⟨olds⟩ w')
    (hnl : news.length = m * i.size) (hlen : ∀ w, (Builtin.lenOf u).run P w = .ok m w) (hnew : ∀ w' : World, w'.heap = w.heap → (Builtin.firstCells i.size m u).run P w' = .ok ⟨news⟩ w')
    (hg : sCap < sLen + m) (hb : (sLen + m) * i.bytes ≤ 140737488355328) :
    ∃ (w' : World) (cap : Nat) (c : Array Value), (Builtin.append_ #[t, t2] ty #[.slice base sLen sCap, u]).run P w = .ok (.slice (some ⟨w.heap.size, 0, none⟩) (sLen + m) cap) w' ∧ Push w w' (.cells c e (0, 0)) ∧
      sLen + m ≤ cap ∧ c.size = cap * i.size ∧ (olds ++ news) <+: c.toList := by
  have hn : ¬ (sLen + m ≤ sCap) := by omega
  have hle : sLen + m ≤ 140737488355328 := Nat.le_trans (Nat.le_mul_of_pos_right _ hby) hb
  have h48 := growslice_fits hg hb
  have h48' : ¬ (Builtin.nextslicecap (sLen + m) sCap * i.bytes > 2 ^ 48) := by omega
  have hz0 : ¬ (i.bytes = 0) := by omega
  have hcap : sLen + m ≤ grownCap w (sLen + m) sCap e := grownCap_ge w _ _ _
  have ho := hold w.drew rfl
  have hn' := hnew w.drew rfl
  refine ⟨w.drew.alloc (.cells (⟨olds⟩ ++ ⟨news⟩ ++ Builtin.zeroCells z.cells (grownCap w (sLen + m) sCap e - (sLen + m))) e), grownCap w (sLen + m) sCap e, _, ?_, ⟨rfl, rfl, ⟨rfl, Nat.le_succ _⟩, rfl⟩, hcap, ?_, ?_⟩
  · simp [Builtin.append_, run_underlying ht, run_underlying ht2, sizeOf, typeInfo, zeroValue, hi, hz, hlen, hn, h48', hz0, Question.forced, grownCap, newRow]
    rw [ho]
    simp only [Result.andThen_ok]
    rw [hn']
    simp only [Result.andThen_ok]
    congr 3
    apply Array.ext'; simp
  · simp only [Array.size_append, List.size_toArray, size_zeroCells, hzs, hol, hnl, ← Nat.add_mul]
    congr 1; omega
  · exact ⟨_, by simp [Array.toList_append]; rfl⟩

theorem src_cut0 (hR : Rel ι H w) {esz k : Nat} {id off len e : Nat} {u : Value} (hv : VR ι w (.slice id off len e) u) {m : Nat} {vs : List V} (hs : srcTake H esz k (.slice id off len e) = some (m, vs)) :
    ∃ us : List Value, us.length = min m k * esz ∧ VRs ι w vs us ∧ us.all one = true ∧ (∀ w, (Builtin.lenOf u).run P w = .ok m w) ∧ (Builtin.firstCells esz (min m k) u).run P w = .ok ⟨us⟩ w := by
  have triv : min m k = 0 → vs = [] → (∀ w, (Builtin.lenOf u).run P w = .ok m w) → (Builtin.firstCells esz 0 u).run P w = .ok ⟨[]⟩ w → ∃ us : List Value, us.length = min m k * esz ∧ VRs ι w vs us ∧ us.all one = true ∧ (∀ w, (Builtin.lenOf u).run P w = .ok m w) ∧ (Builtin.firstCells esz (min m k) u).run P w = .ok ⟨us⟩ w := by
    rintro h0 rfl hl h1
    rw [h0]
    exact ⟨[], by simp, .nil, rfl, hl, h1⟩
  cases hz0 : Nat.beq (min len k) 0 with
  | true =>
    simp only [srcTake, hz0, cond_true] at hs
    have hz := Nat.eq_of_beq_eq_true hz0
    cases hs
    cases hv with
    | slice0 => exact triv hz rfl (fun _ => rfl) rfl
    | slice _ _ _ _ ad cap hl hc => exact triv hz rfl (fun _ => rfl) (by simp [Builtin.firstCells, loadCells, loadCellsFrom])
  | false =>
    have hne : min len k ≠ 0 := fun h => by rw [h] at hz0; cases hz0
    simp only [srcTake, hz0, cond_false] at hs
    split at hs
    · rename_i rw' cs hH
      split at hs
      · rename_i he
        subst he
        split at hs
        · rename_i vs' hg
          obtain ⟨rfl, rfl⟩ : len = m ∧ vs' = vs := by cases hs; exact ⟨rfl, rfl⟩
          cases hv with
          | slice0 => omega
          | slice _ _ _ _ ad cap hl hc =>
            obtain ⟨b, o, c, e', f, hι, rfl, _, _⟩ := hc (by omega)
            obtain ⟨us, h1, h2, h3, h4⟩ := hR.cells hH hι hg
            refine ⟨us, h1, h2, h3, fun _ => rfl, ?_⟩
            have := run_loadCells_list (P := P) w ⟨b, o + off, none⟩ us h4
            rw [h1] at this
            simpa [Builtin.firstCells] using this
        · cases hs
      · cases hs
    · cases hs
theorem src_cut (hR : Rel ι H w) {esz k : Nat} {v : V} {u : Value} (hv : VR ι w v u) {m : Nat} {vs : List V} (hs : srcTake H esz k v = some (m, vs)) :
    ∃ us : List Value, us.length = min m k * esz ∧ VRs ι w vs us ∧ us.all one = true ∧ (∀ w, (Builtin.lenOf u).run P w = .ok m w) ∧ (Builtin.firstCells esz (min m k) u).run P w = .ok ⟨us⟩ w := by
  cases v with
  | nils =>
    cases hs
    cases hv
    exact ⟨[], by simp, .nil, rfl, fun _ => rfl, by simp [Builtin.firstCells]⟩
  | slice id off len e => exact src_cut0 hR hv hs
  | sliceC id off len cap e => exact src_cut0 hR (Wk.sliceC _ _ _ _ _ ι w _ hv) hs
  | str s =>
    simp only [srcTake] at hs
    split at hs
    · rename_i he
      subst he
      cases hs
      cases hv with
      | str s =>
        refine ⟨(s.data.toList.take k).map fun b => .int .u8 b.toNat, by simp [Nat.min_comm], ?_, ?_, fun _ => by rw [str_size]; rfl, ?_⟩
        · refine VRs.of_get (by simp) fun i v hi => ?_
          rw [List.getElem?_map] at hi
          cases hb : (s.data.toList.take k)[i]? with
          | none => rw [hb] at hi; cases hi
          | some b => rw [hb] at hi; cases hi; exact ⟨_, by rw [List.getElem?_map, hb]; rfl, .int _ _⟩
        · rw [List.all_eq_true]
          intro x hx
          obtain ⟨b, _, rfl⟩ := List.mem_map.1 hx
          rfl
        · simp only [Builtin.firstCells, Sem.run_pure]
          congr 2
          apply Array.ext'
          simp only [ByteArray.data_extract, Array.toList_map, Array.toList_extract, List.extract_eq_take_drop, List.drop_zero, Nat.sub_zero]
          congr 1
          rw [Nat.min_comm, ← List.take_eq_take_min]
    · cases hs
  | _ => cases hs
theorem src_run (hR : Rel ι H w) {esz : Nat} {v : V} {u : Value} (hv : VR ι w v u) {m : Nat} {vs : List V} (hs : srcCells H esz v = some (m, vs)) :
    ∃ us : List Value, us.length = m * esz ∧ VRs ι w vs us ∧ us.all one = true ∧ (∀ w, (Builtin.lenOf u).run P w = .ok m w) ∧
      (∀ w' : World, w'.heap = w.heap → (Builtin.firstCells esz m u).run P w' = .ok ⟨us⟩ w') := by
  by_cases h : ∃ a b c d e, v = .sliceC a b c d e
  · obtain ⟨id, off, len, cap, e, rfl⟩ := h
    exact src_run0 (P := P) hR (by intro _ _ _ _ _ h; cases h) (Wk.sliceC _ _ _ _ _ ι w u hv) (v := .slice id off len e) hs
  · exact src_run0 (P := P) hR (fun a b c d e he => h ⟨a, b, c, d, e, he⟩) hv hs

theorem Rel.takeover {w' : World} (h : Rel ι H w) {id id' : Nat} {o o' : HObj} (h0' : id' ≠ 0) (hH : H id = some o) (hrw : o.rw = true) {b off off' : Nat} (hι : ι id = some (b, off)) (hid : H id' = none) (hι' : ι id' = none)
    (hs : Shp w w') (hf : ∀ k, k ≠ b → w'.heap[k]? = w.heap[k]?) (hos : w'.os = w.os) (ht : Tape w w') (hout : w'.output = w.output) (hsz : w'.heap.size = w.heap.size)
    (hnew : ObjR (ι.add id' (b, off')) w' b off' o') (hrw' : o'.rw = true) :
    Rel (ι.add id' (b, off')) ((H.del id).set id' o') w' ∧ Ext ι H w (ι.add id' (b, off')) ((H.del id).set id' o') w' := by
  have hle := Pl.le_add (ι := ι) (id := id') (b, off') hι'
  have hne : id ≠ id' := by rintro rfl; rw [hH] at hid; cases hid
  have old : ∀ i x, i ≠ id' → ((H.del id).set id' o') i = some x → i ≠ id ∧ H i = some x := by
    intro i x hi hx
    rw [Heap.set_ne _ _ hi] at hx
    by_cases hii : i = id
    · subst hii; rw [Heap.del_same] at hx; cases hx
    · rw [Heap.del_ne _ hii] at hx; exact ⟨hii, hx⟩
  have blk : ∀ i x b' o2, i ≠ id → H i = some x → ι i = some (b', o2) → b' ≠ b := by
    rintro i x b' o2 hi hx hb rfl
    exact hi (h.inj id i o x b' off o2 hH hx hrw hι hb).symm
  refine ⟨⟨?_, ?_, ?_, by rw [Pl.add_ne _ _ (Ne.symm h0')]; exact h.zero, fun g => hle _ _ (h.glob g)⟩, ⟨hle, hos, ht, hout, by omega, hs, ?_, ?_, ?_, ?_⟩⟩
  · intro i x hx
    by_cases hi : i = id'
    · subst hi
      rw [Heap.set_same] at hx; cases hx
      exact ⟨_, _, Pl.add_same _ _ _, hnew⟩
    · obtain ⟨h1, h2⟩ := old i x hi hx
      obtain ⟨b', off2, h3, h4⟩ := h.obj i x h2
      exact ⟨b', off2, hle _ _ h3, h4.keep hle hs (hf b' (blk i x b' off2 h1 h2 h3))⟩
  · intro i i' x x' b1 o1 o1' h1 h2 hr h3 h4
    by_cases hi : i = id'
    · subst hi
      by_cases hi' : i' = i
      · exact hi'.symm
      · obtain ⟨h5, h6⟩ := old i' x' hi' h2
        rw [Pl.add_same] at h3; cases h3
        rw [Pl.add_ne _ _ hi'] at h4
        exact absurd rfl (blk i' x' _ _ h5 h6 h4)
    · obtain ⟨h5, h6⟩ := old i x hi h1
      rw [Pl.add_ne _ _ hi] at h3
      by_cases hi' : i' = id'
      · subst hi'
        rw [Pl.add_same] at h4; cases h4
        exact absurd rfl (blk i x _ _ h5 h6 h3)
      · obtain ⟨h7, h8⟩ := old i' x' hi' h2
        rw [Pl.add_ne _ _ hi'] at h4
        exact h.inj i i' x x' b1 o1 o1' h6 h8 hr h3 h4
  · obtain ⟨N, hN⟩ := h.fin
    refine ⟨max N (id' + 1), fun i hi he => ?_⟩
    rw [Pl.add_ne _ _ (by omega)]
    exact hN i (by omega) he
  · intro k _ hn
    refine hf k ?_
    rintro rfl
    exact hn ⟨id, o, off, hH, hrw, hι⟩
  · rintro k ⟨i, x, o2, h1, h2, h3⟩
    by_cases hi : i = id'
    · subst hi
      rw [Pl.add_same] at h3; cases h3
      exact .inl ⟨id, o, off, hH, hrw, hι⟩
    · obtain ⟨h5, h6⟩ := old i x hi h1
      rw [Pl.add_ne _ _ hi] at h3
      exact .inl ⟨i, x, o2, h6, h2, h3⟩
  · intro i x h1 h2
    by_cases hi : i = id'
    · subst hi; exact hι'
    · obtain ⟨h5, h6⟩ := old i x hi h1
      rw [h6] at h2; cases h2
  · intro i x h1 h2
    by_cases hi : i = id'
    · subst hi; rw [Heap.set_same] at h1; cases h1; rw [hrw'] at h2; cases h2
    · exact (old i x hi h1).2

theorem Heap.del_le (H : Heap) (i : Nat) : (H.del i).le H := fun j o h => by
  by_cases hj : j = i
  · subst hj; rw [Heap.del_same] at h; cases h
  · rwa [Heap.del_ne _ hj] at h

theorem ef_app (hE : EnvR n ι w env a) (hR : Rel ι H w) {t t2 e : TypeId} (hun : P.underlying t = some (.slice e)) {d2 : TypeDesc} (hun2 : P.underlying t2 = some d2) (hd2 : ∀ k, d2 ≠ .int k) {s by_ : Nat} (hs : sizeT P e = some s) (hby : bytesT P e = some by_)
    {z : V} (hz : zeroT P e = some z) (hzl : z.cells.length = s) (hzt : z.isTup = false) (hby0 : 0 < by_) {x y : Operand} {x' y' : X} (hx : compX n x = some x') (hy : compX n y = some y') {dst : Option Tmp} {ty : TypeId} {pos : String} {af : Array Edge} {g : Option (Nat × Bool)}
    (hk : E.wp P env H K (.app s by_ x' y')) : OpOk P a ⟨dst, .call ⟨.builtin .append, #[x, y], #[t, t2]⟩, ty, pos, af, g⟩ K ι H w := by
  obtain ⟨m, vs, hsrc, hk⟩ := hk
  have hvx := X.sound hE hx
  have hvy := X.sound hE hy
  obtain ⟨us, u1, u2, u3, u4, u5⟩ := src_run (P := P) hR hvy hsrc
  obtain ⟨zu, hz1, hz2, i, hi, hiz⟩ := run_zero hz
  have hzs : zu.cells.size = i.size := by
    have h1 := ((hz2 ι w).cells hzt).1.length
    have h2 : i.size = s := by obtain ⟨i', h3, h4⟩ := sizeT_info hs; rw [hi] at h3; cases h3; exact h4
    simp at h1; omega
  have his : i.size = s := by obtain ⟨i', h3, h4⟩ := sizeT_info hs; rw [hi] at h3; cases h3; exact h4
  have hib : i.bytes = by_ := by simp only [bytesT, hi, Option.map_some, Option.some.injEq] at hby; exact hby
  obtain ⟨id', h00, hid', hι'⟩ := hR.fresh
  have hexec : ∀ (u : Value) (w' : World), (Builtin.append_ #[t, t2] ty #[a.eval x, a.eval y]).run P w = .ok u w' → (execOp a.eval ⟨dst, .call ⟨.builtin .append, #[x, y], #[t, t2]⟩, ty, pos, af, g⟩).run P w = .ok (.value u) w' := by
    intro u w' h
    simp only [execOp, resolve, Sem.run_bind, Sem.run_pure, Result.andThen_ok, invoke, builtin, List.map_toArray, List.map_cons, List.map_nil, h]
  rcases hk with ⟨hd, hb, hk⟩ | ⟨off, e9, hd, hb, hk⟩ | ⟨id, off, len, cs, hd, hH, hfit, hb, hk⟩ | ⟨id, off, len, capv, cs, hd, hH, hfit, hroom, hk⟩ | ⟨id, off, len, capv, cs, hd, hH, hfit, hroom, hb, hk⟩
  · rw [hd] at hvx
    generalize hu : a.eval x = u at *
    cases hvx
    cases hm : Nat.beq m 0 with
    | true =>
      rw [hm] at hk
      simp only [cond_true] at hk
      have h0 := Nat.eq_of_beq_eq_true hm
      subst h0
      have hus : us = [] := List.eq_nil_of_length_eq_zero (by omega)
      subst hus
      refine OpOk.value (u := .slice none 0 0) (w' := w) (hexec _ _ ?_) hk .nils hR (Ext.refl _ _ _)
      have hd : ∀ {α : Type} (A B : α), (if (match d2 with | .int _ => true | _ => false) = true then A else B) = B := by intro α A B; cases d2 <;> first | rfl | exact absurd rfl (hd2 _)
      have := u5 w rfl
      have u4' := u4 w
      simp [Builtin.append_, run_underlying hun, run_underlying hun2, sizeOf, typeInfo, hi, his, u4', this]
    | false =>
      rw [hm] at hk
      simp only [cond_false] at hk
      have h0 : m ≠ 0 := fun h => by subst h; simp at hm
      obtain ⟨w', cap, c, g1, g2, g3, g4, g5⟩ := append_grow (P := P) (w := w) (ty := ty) hun hun2 hd2 hi hiz hzs (by omega) (base := none) (sLen := 0) (sCap := 0) (m := m) (u := a.eval y) (olds := []) (news := us) (by simp) (fun _ _ => rfl)
        (by rw [his]; exact u1) u4 (by rw [his]; exact u5) (by omega) (by rw [Nat.zero_add, hib]; exact hb)
      simp only [Nat.zero_add, List.nil_append] at g1 g3 g5
      obtain ⟨k1, k2⟩ := hR.push h00 hid' hι' g2 u2 u3 g5
      refine OpOk.value (u := .slice (some ⟨w.heap.size, 0, none⟩) m cap) (w' := w') (hexec _ _ g1) (hk id' h00 hid') ?_ k1 k2
      exact .slice _ _ _ _ _ _ g3 fun _ => ⟨w.heap.size, 0, c, e, (0, 0), Pl.add_same _ _ _, by simp, g2.new, by rw [g4, his]; omega⟩
  · rw [hd] at hvx
    generalize hu : a.eval x = u at *
    cases hvx with
    | slice0 =>
      cases hm : Nat.beq m 0 with
      | true =>
        rw [hm] at hk
        simp only [cond_true] at hk
        have h0 := Nat.eq_of_beq_eq_true hm
        subst h0
        have hus : us = [] := List.eq_nil_of_length_eq_zero (by omega)
        subst hus
        refine OpOk.value (u := .slice none 0 0) (w' := w) (hexec _ _ ?_) hk (.slice0 _ _) hR (Ext.refl _ _ _)
        have hd : ∀ {α : Type} (A B : α), (if (match d2 with | .int _ => true | _ => false) = true then A else B) = B := by intro α A B; cases d2 <;> first | rfl | exact absurd rfl (hd2 _)
        have := u5 w rfl
        have u4' := u4 w
        simp [Builtin.append_, run_underlying hun, run_underlying hun2, sizeOf, typeInfo, hi, his, u4', this]
      | false =>
        rw [hm] at hk
        simp only [cond_false] at hk
        have h0 : m ≠ 0 := fun h => by subst h; simp at hm
        obtain ⟨w', cap, c, g1, g2, g3, g4, g5⟩ := append_grow (P := P) (w := w) (ty := ty) hun hun2 hd2 hi hiz hzs (by omega) (base := none) (sLen := 0) (sCap := 0) (m := m) (u := a.eval y) (olds := []) (news := us) (by simp) (fun _ _ => rfl)
          (by rw [his]; exact u1) u4 (by rw [his]; exact u5) (by omega) (by rw [Nat.zero_add, hib]; exact hb)
        simp only [Nat.zero_add, List.nil_append] at g1 g3 g5
        obtain ⟨k1, k2⟩ := hR.push h00 hid' hι' g2 u2 u3 g5
        refine OpOk.value (u := .slice (some ⟨w.heap.size, 0, none⟩) m cap) (w' := w') (hexec _ _ g1) (hk id' h00 hid') ?_ k1 k2
        exact .slice _ _ _ _ _ _ g3 fun _ => ⟨w.heap.size, 0, c, e, (0, 0), Pl.add_same _ _ _, by simp, g2.new, by rw [g4, his]; omega⟩
    | slice _ _ _ _ ad cap hl hc =>
      have hcap0 : cap = 0 := by
        cases Nat.eq_zero_or_pos cap with
        | inl h => exact h
        | inr h => obtain ⟨b, o, _, _, _, h1, _⟩ := hc h; rw [hR.zero] at h1; cases h1
      cases hm : Nat.beq m 0 with
      | true =>
        rw [hm] at hk
        simp only [cond_true] at hk
        have h0 := Nat.eq_of_beq_eq_true hm
        subst h0
        have hus : us = [] := List.eq_nil_of_length_eq_zero (by omega)
        subst hus
        refine OpOk.value (u := .slice (some ad) 0 cap) (w' := w) (hexec _ _ ?_) hk (.slice _ _ _ _ _ _ (Nat.zero_le _) fun h => by omega) hR (Ext.refl _ _ _)
        have hd : ∀ {α : Type} (A B : α), (if (match d2 with | .int _ => true | _ => false) = true then A else B) = B := by intro α A B; cases d2 <;> first | rfl | exact absurd rfl (hd2 _)
        have := u5 w rfl
        have u4' := u4 w
        simp [Builtin.append_, run_underlying hun, run_underlying hun2, sizeOf, typeInfo, hi, his, u4', this, storeCells]
      | false =>
        rw [hm] at hk
        simp only [cond_false] at hk
        have h0 : m ≠ 0 := fun h => by subst h; simp at hm
        obtain ⟨w', cap, c, g1, g2, g3, g4, g5⟩ := append_grow (P := P) (w := w) (ty := ty) hun hun2 hd2 hi hiz hzs (by omega) (base := some ad) (sLen := 0) (sCap := cap) (m := m) (u := a.eval y) (olds := []) (news := us) (by simp) (fun _ _ => by simp [Builtin.firstCells, loadCells, loadCellsFrom])
          (by rw [his]; exact u1) u4 (by rw [his]; exact u5) (by omega) (by rw [Nat.zero_add, hib]; exact hb)
        simp only [Nat.zero_add, List.nil_append] at g1 g3 g5
        obtain ⟨k1, k2⟩ := hR.push h00 hid' hι' g2 u2 u3 g5
        refine OpOk.value (u := .slice (some ⟨w.heap.size, 0, none⟩) m cap) (w' := w') (hexec _ _ g1) (hk id' h00 hid') ?_ k1 k2
        exact .slice _ _ _ _ _ _ g3 fun _ => ⟨w.heap.size, 0, c, e, (0, 0), Pl.add_same _ _ _, by simp, g2.new, by rw [g4, his]; omega⟩
  · rw [hd] at hvx
    generalize hu : a.eval x = u at *
    cases hvx with
    | slice0 => obtain ⟨b, o, hι, _⟩ := hR.obj _ _ hH; rw [hR.zero] at hι; cases hι
    | slice _ _ _ _ ad cap hl hc =>
      obtain ⟨b, o, hι, c, e', f, hbl, hcs, hfr, hcl⟩ := hR.obj _ _ hH
      have hgc : getCells cs off (len * s) = some ((cs.drop off).take (len * s)) := by
        unfold getCells; rw [Nat.ble_eq_true_of_le hfit]; rfl
      -- the cells that there are
      have hold : ∃ olds : List Value, olds.length = len * s ∧ VRs ι w ((cs.drop off).take (len * s)) olds ∧ olds.all one = true ∧ (∀ w' : World, w'.heap = w.heap → (Builtin.firstCells s len (.slice (some ad) len cap)).run P w' = .ok ⟨olds⟩ w') := by
        obtain ⟨us, h1, h2, h3, h4, h5⟩ := src_run (P := P) hR (.slice id off len s ad cap hl hc) (m := len) (vs := (cs.drop off).take (len * s)) (esz := s) (srcCells_slice hH hgc)
        exact ⟨us, h1, h2, h3, h5⟩
      obtain ⟨olds, o1, o2, o3, o4⟩ := hold
      by_cases hroom : len + m ≤ cap
      · by_cases hcap : 0 < cap
        · obtain ⟨b', o', c', e2, f', hι2, rfl, hb', hfit'⟩ := hc hcap
          rw [hι] at hι2; cases hι2
          rw [hbl] at hb'; cases hb'
          have hms : len * s + m * s ≤ cap * s := by rw [← Nat.add_mul]; exact Nat.mul_le_mul_right _ hroom
          obtain ⟨w', c', g1, g2, g3, g4, g5⟩ := storeCells_run (P := P) (o := o + off + len * s) us 0 w c hbl (hfr rfl) (by omega) u3
          have hrest : w'.heap.size = w.heap.size ∧ w'.os = w.os ∧ Tape w w' ∧ w'.output = w.output ∧ ∀ k, k ≠ b → w'.heap[k]? = w.heap[k]? := by
            rcases g2 with rfl | g2
            · exact ⟨rfl, rfl, Tape.refl _, rfl, fun _ _ => rfl⟩
            · exact ⟨g2.size, g2.os, g2.tape, g2.output, g2.old⟩
          obtain ⟨r1, r2, r3, r4, r5⟩ := hrest
          have hshp : Shp w w' := by
            intro b2 c2 e3 f2 h2
            by_cases hbb : b2 = b
            · subst hbb; rw [hbl] at h2; cases h2; exact ⟨c', _, g3, keepF g4⟩
            · exact ⟨c2, f2, by rw [r5 b2 hbb]; exact h2, keepF rfl⟩
          have hle := Pl.le_add (ι := ι) (id := id') (b, o + off) hι'
          have hobj : ObjR (ι.add id' (b, o + off)) w' b (o + off) (.cells true ((cs.drop off).take (len * s) ++ vs)) := by
            have lo := o2.length
            have lv := u2.length
            refine ⟨c', e', f, g3, fun k v hk => ?_, fun _ k hk => hfr rfl k (by omega), by rw [List.length_append, g4]; omega⟩
            rw [← Array.getElem?_toList, g5]
            have e1 : (c.toList.take (o + off + len * s + 0)).length = o + off + len * s := by simp; omega
            by_cases hk1 : k < len * s
            · rw [List.getElem?_append_left (by omega)] at hk
              rw [List.getElem?_take_of_lt hk1, List.getElem?_drop] at hk
              obtain ⟨u, q1, q2, q3⟩ := hcs _ v hk
              refine ⟨u, ?_, q2.mono hle hshp, q3⟩
              rw [List.append_assoc, List.getElem?_append_left (by omega), List.getElem?_take_of_lt (by omega), Array.getElem?_toList, ← q1]
              congr 1; omega
            · rw [List.getElem?_append_right (by omega)] at hk
              obtain ⟨u, q1, q2⟩ := u2.get hk
              refine ⟨u, ?_, q2.mono hle hshp, List.all_eq_true.1 u3 u (List.mem_of_getElem? q1)⟩
              have hklt := (List.getElem?_eq_some_iff.1 q1).1
              rw [List.append_assoc, List.getElem?_append_right (by omega), List.getElem?_append_left (by omega), e1, ← q1]
              congr 1; omega
          obtain ⟨k1, k2⟩ := hR.takeover h00 hH rfl hι hid' hι' hshp r5 r2 r3 r4 r1 hobj rfl
          have hdel : (H.del id) id' = none := by
            by_cases h : id' = id
            · subst h; exact Heap.del_same _ _
            · rw [Heap.del_ne _ h]; exact hid'
          refine OpOk.value (u := .slice (some ⟨b, o + off, none⟩) (len + m) cap) (w' := w') (hexec _ _ ?_) (hk id' h00 hdel) ?_ k1 k2
          · have u4' := u4 w
            have u5' := u5 w rfl
            simp [Builtin.append_, run_underlying hun, run_underlying hun2, sizeOf, typeInfo, hi, his, u4', u5', hroom, Addr.add_lit, g1]
          · refine .slice _ _ _ _ _ _ hroom fun _ => ⟨b, o + off, c', e', f, Pl.add_same _ _ _, by simp, g3, by omega⟩
        · -- nothing there, nothing to come
          have hm0 : m = 0 := by omega
          have hl0 : len = 0 := by omega
          subst hm0; subst hl0
          have hus : us = [] := List.eq_nil_of_length_eq_zero (by omega)
          subst hus
          have hvs : vs = [] := List.eq_nil_of_length_eq_zero (by have := u2.length; simpa using this)
          subst hvs
          have hle := Pl.le_add (ι := ι) (id := id') (b, o) hι'
          obtain ⟨k1, k2⟩ := hR.takeover (o' := .cells true ((cs.drop off).take (0 * s) ++ [])) (off' := o) h00 hH rfl hι hid' hι' (Shp.refl w) (fun _ _ => rfl) rfl (Tape.refl _) rfl rfl ⟨c, e', f, hbl, by simp, fun _ => hfr rfl, by simp; omega⟩ rfl
          have hdel : (H.del id) id' = none := by
            by_cases h : id' = id
            · subst h; exact Heap.del_same _ _
            · rw [Heap.del_ne _ h]; exact hid'
          refine OpOk.value (u := .slice (some ad) 0 cap) (w' := w) (hexec _ _ ?_) (hk id' h00 hdel) (.slice _ _ _ _ _ _ (by omega) fun h => by omega) k1 k2
          have u4' := u4 w
          have u5' := u5 w rfl
          simp [Builtin.append_, run_underlying hun, run_underlying hun2, sizeOf, typeInfo, hi, his, u4', u5', storeCells]
      · obtain ⟨w', cap', c', g1, g2, g3, g4, g5⟩ := append_grow (P := P) (w := w) (ty := ty) hun hun2 hd2 hi hiz hzs (by omega) (base := some ad) (sLen := len) (sCap := cap) (m := m) (u := a.eval y) (olds := olds) (news := us) (by rw [his]; exact o1)
          (by rw [his]; exact o4) (by rw [his]; exact u1) u4 (by rw [his]; exact u5) (by omega) (by rw [hib]; exact hb)
        have hdel : (H.del id) id' = none := by
          by_cases h : id' = id
          · subst h; exact Heap.del_same _ _
          · rw [Heap.del_ne _ h]; exact hid'
        have hR' := hR.weaken (Heap.del_le H id)
        obtain ⟨k1, k2⟩ := hR'.push h00 hdel hι' g2 (o2.append u2) (by rw [List.all_append, o3, u3]; rfl) g5
        have hE' : Ext ι H w ι (H.del id) w := (Ext.refl ι H w).forget (Heap.del_le H id)
        refine OpOk.value (u := .slice (some ⟨w.heap.size, 0, none⟩) (len + m) cap') (w' := w') (hexec _ _ g1) (hk id' h00 hdel) ?_ k1 (hE'.trans k2)
        exact .slice _ _ _ _ _ _ g3 fun _ => ⟨w.heap.size, 0, c', e, (0, 0), Pl.add_same _ _ _, by simp, g2.new, by rw [g4, his]; omega⟩

  · rw [hd] at hvx
    generalize hu : a.eval x = u at *
    have u4' := u4 w
    have u5' := u5 w rfl
    cases hvx with
    | sliceC0 => obtain ⟨b, o, hι, _⟩ := hR.obj _ _ hH; rw [hR.zero] at hι; cases hι
    | sliceC _ _ _ _ ad cap hl hc =>
      obtain ⟨b, o, hι, c, e', f, hbl, hcs, hfr, hcl⟩ := hR.obj _ _ hH
      by_cases hcap : 0 < capv
      · obtain ⟨b', o', c', e2, f', hι2, rfl, hb', hfit'⟩ := hc hcap
        rw [hι] at hι2; cases hι2
        rw [hbl] at hb'; cases hb'
        have hms : len * s + m * s ≤ capv * s := by rw [← Nat.add_mul]; exact Nat.mul_le_mul_right _ hroom
        obtain ⟨w', g1, g2, g3⟩ := hR.writeAt (P := P) hH hι hbl u2 u3 (off := off + len * s) hfit (by omega)
        refine OpOk.value (u := .slice (some ⟨b, o + off, none⟩) (len + m) capv) (w' := w') (hexec _ _ ?_) hk ?_ g2 g3
        · simp [Builtin.append_, run_underlying hun, run_underlying hun2, sizeOf, typeInfo, hi, his, u4', u5', hroom, Addr.add_lit, Nat.add_assoc, g1]
        · refine .sliceC _ _ _ _ _ _ hroom fun _ => ?_
          obtain ⟨c', f', q1, q2, _⟩ := g3.shp b c e' f hbl
          exact ⟨b, o, c', e', f', g3.pl _ _ hι, rfl, q1, by omega⟩
      · have hm0 : m = 0 := by omega
        have hl0 : len = 0 := by omega
        subst hm0; subst hl0
        have hus : us = [] := List.eq_nil_of_length_eq_zero (by omega)
        subst hus
        have hvs : vs = [] := List.eq_nil_of_length_eq_zero (by have := u2.length; simpa using this)
        subst hvs
        have hsame : H.set id (.cells true (splice cs (off + 0 * s) [])) = H := by
          funext i
          by_cases hi : i = id
          · subst hi; rw [Heap.set_same, hH]; simp [splice]
          · rw [Heap.set_ne _ _ hi]
        rw [hsame] at hk
        refine OpOk.value (u := .slice (some ad) 0 capv) (w' := w) (hexec _ _ ?_) hk (.sliceC _ _ _ _ _ _ (by omega) fun h => by omega) hR (Ext.refl _ _ _)
        simp [Builtin.append_, run_underlying hun, run_underlying hun2, sizeOf, typeInfo, hi, his, u4', u5', storeCells]
  · rw [hd] at hvx
    generalize hu : a.eval x = u at *
    cases hvx with
    | sliceC0 => obtain ⟨b, o, hι, _⟩ := hR.obj _ _ hH; rw [hR.zero] at hι; cases hι
    | sliceC _ _ _ _ ad cap hl hc =>
      have hgc : getCells cs off (len * s) = some ((cs.drop off).take (len * s)) := by
        unfold getCells; rw [Nat.ble_eq_true_of_le hfit]; rfl
      obtain ⟨olds, o1, o2, o3, _, o4⟩ := src_run (P := P) hR (.slice id off len s ad capv hl hc) (m := len) (vs := (cs.drop off).take (len * s)) (esz := s) (srcCells_slice hH hgc)
      obtain ⟨w', cap', c', g1, g2, g3, g4, g5⟩ := append_grow (P := P) (w := w) (ty := ty) hun hun2 hd2 hi hiz hzs (by omega) (base := some ad) (sLen := len) (sCap := capv) (m := m) (u := a.eval y) (olds := olds) (news := us) (by rw [his]; exact o1)
        (by rw [his]; exact o4) (by rw [his]; exact u1) u4 (by rw [his]; exact u5) (by omega) (by rw [hib]; exact hb)
      obtain ⟨k1, k2⟩ := hR.push h00 hid' hι' g2 (o2.append u2) (by rw [List.all_append, o3, u3]; rfl) g5
      refine OpOk.value (u := .slice (some ⟨w.heap.size, 0, none⟩) (len + m) cap') (w' := w') (hexec _ _ g1) (hk id' h00 hid') ?_ k1 k2
      exact .slice _ _ _ _ _ _ g3 fun _ => ⟨w.heap.size, 0, c', e, (0, 0), Pl.add_same _ _ _, by simp, g2.new, by rw [g4, his]; omega⟩

end
end Go.CM

namespace Go.CM

section
variable {P : Program} {n : Nat} {ι : Pl} {H : Heap} {w : World} {env : Env} {a : Act} {K : V → Heap → Prop}

theorem ef_mkSl (hE : EnvR n ι w env a) (hR : Rel ι H w) {t e : TypeId} (hun : P.underlying t = some (.slice e)) {s by_ : Nat} (hs : sizeT P e = some s) (hby : bytesT P e = some by_) {z : List V} (hz : zeroCells P e = some z) (hzl : z.length = s) (hs0 : 0 < s)
    {l c : Operand} {l' c' : X} (hl : compX n l = some l') (hc : compX n c = some c') {dst : Option Tmp} {ty : TypeId} {pos : String} {af : Array Edge} {g : Option (Nat × Bool)}
    (hk : E.wp P env H K (.mkSl s by_ z l' c')) : OpOk P a ⟨dst, .makeSlice t l c, ty, pos, af, g⟩ K ι H w := by
  obtain ⟨kl, nl, kc, nc, e1, e2, h0, h1, h2, h3, hk⟩ := hk
  obtain ⟨u, z1, z2, z3, i, hi, hiz⟩ := zeroCells_run hz
  have hvl := X.sound hE hl
  have hvc := X.sound hE hc
  rw [e1] at hvl
  rw [e2] at hvc
  generalize hul : a.eval l = ul at *
  generalize huc : a.eval c = uc at *
  cases hvl
  cases hvc
  obtain ⟨id, h00, hid, hι⟩ := hR.fresh
  have his : i.size = s := by obtain ⟨i', h3, h4⟩ := sizeT_info hs; rw [hi] at h3; cases h3; exact h4
  have hib : i.bytes = by_ := by simp only [bytesT, hi, Option.map_some, Option.some.injEq] at hby; exact hby
  have hm := run_make (P := P) w t e i u hun hi hiz kl kc nl nc h0 h1 (by rw [hib]; rw [Int.mul_comm]; omega) (by omega)
  obtain ⟨r1, r2⟩ := (z2 ι w).rep z3 nc.toNat (by omega)
  rw [hzl] at r1 r2
  rw [his] at hm
  obtain ⟨k1, k2⟩ := hR.push h00 hid hι (Push.mk' w (.cells (madeCells u.cells (nc.toNat * s)) e)) r1 r2 (List.prefix_refl _)
  refine OpOk.value (u := .slice (some ⟨w.heap.size, 0, none⟩) nl.toNat nc.toNat) (w' := { w with heap := w.heap.push (.cells (madeCells u.cells (nc.toNat * s)) e) }) ?_ (hk id h00 hid) ?_ k1 k2
  · simp only [execOp, hul, huc, Sem.run_bind, hm, Result.andThen_ok, Sem.run_pure]; rfl
  · exact .slice _ _ _ _ _ _ (by omega) fun _ => ⟨w.heap.size, 0, madeCells u.cells (nc.toNat * s), e, (0, 0), Pl.add_same _ _ _, by simp, by simp, by rw [size_madeCells]; omega⟩

theorem ef_mkSlT (hE : EnvR n ι w env a) (hR : Rel ι H w) {t e : TypeId} (hun : P.underlying t = some (.slice e)) {s by_ : Nat} (hs : sizeT P e = some s) (hby : bytesT P e = some by_) {z : List V} (hz : zeroCells P e = some z) (hzl : z.length = s) (hs0 : 0 < s)
    {l c : Operand} {l' c' : X} (hl : compX n l = some l') (hc : compX n c = some c') {dst : Option Tmp} {ty : TypeId} {pos : String} {af : Array Edge} {g : Option (Nat × Bool)}
    (hk : E.wp P env H K (.mkSlT e s by_ z l' c')) : OpOk P a ⟨dst, .makeSlice t l c, ty, pos, af, g⟩ K ι H w := by
  obtain ⟨kl, nl, kc, nc, e1, e2, h0, h1, h2, h3, hk | hk⟩ := hk
  case inr => exact ef_mkSl hE hR hun hs hby hz hzl hs0 hl hc ⟨kl, nl, kc, nc, e1, e2, h0, h1, h2, h3, hk⟩
  obtain ⟨u, z1, z2, z3, i, hi, hiz⟩ := zeroCells_run hz
  have hvl := X.sound hE hl
  have hvc := X.sound hE hc
  rw [e1] at hvl
  rw [e2] at hvc
  generalize hul : a.eval l = ul at *
  generalize huc : a.eval c = uc at *
  cases hvl
  cases hvc
  obtain ⟨id, h00, hid, hι⟩ := hR.fresh
  have his : i.size = s := by obtain ⟨i', h3, h4⟩ := sizeT_info hs; rw [hi] at h3; cases h3; exact h4
  have hib : i.bytes = by_ := by simp only [bytesT, hi, Option.map_some, Option.some.injEq] at hby; exact hby
  have hm := run_make (P := P) w t e i u hun hi hiz kl kc nl nc h0 h1 (by rw [hib]; rw [Int.mul_comm]; omega) (by omega)
  obtain ⟨r1, r2⟩ := (z2 ι w).rep z3 nc.toNat (by omega)
  rw [hzl] at r1 r2
  rw [his] at hm
  obtain ⟨k1, k2⟩ := hR.push h00 hid hι (Push.mk' w (.cells (madeCells u.cells (nc.toNat * s)) e)) r1 r2 (List.prefix_refl _)
  refine OpOk.value (u := .slice (some ⟨w.heap.size, 0, none⟩) nl.toNat nc.toNat) (w' := { w with heap := w.heap.push (.cells (madeCells u.cells (nc.toNat * s)) e) }) ?_ (hk id h00 hid) ?_ k1 k2
  · simp only [execOp, hul, huc, Sem.run_bind, hm, Result.andThen_ok, Sem.run_pure]; rfl
  · refine .ty _ _ _ _ _ _ _ _ (Pl.add_same _ _ _) (Push.mk' w (.cells (madeCells u.cells (nc.toNat * s)) e)).new (.inl rfl) (Nat.zero_le _) ?_ rfl
    exact .slice _ _ _ _ _ _ (by omega) fun _ => ⟨w.heap.size, 0, madeCells u.cells (nc.toNat * s), e, (0, 0), Pl.add_same _ _ _, by simp, by simp, by rw [size_madeCells]; omega⟩

theorem ef_mkE (hE : EnvR n ι w env a) (hR : Rel ι H w) {t e : TypeId} (hun : P.underlying t = some (.slice e)) {s by_ : Nat} (hs : sizeT P e = some s) (hby : bytesT P e = some by_) {z : List V} (hz : zeroCells P e = some z) (hzl : z.length = s) (hs0 : 0 < s)
    {l c : Operand} {l' c' : X} (hl : compX n l = some l') (hc : compX n c = some c') {dst : Option Tmp} {ty : TypeId} {pos : String} {af : Array Edge} {g : Option (Nat × Bool)}
    (hk : E.wp P env H K (mkE P e s by_ z l' c')) : OpOk P a ⟨dst, .makeSlice t l c, ty, pos, af, g⟩ K ι H w := by
  unfold mkE at hk
  split at hk
  · exact ef_mkSlT hE hR hun hs hby hz hzl hs0 hl hc hk
  · exact ef_mkSl hE hR hun hs hby hz hzl hs0 hl hc hk

theorem ef_mkMap (hR : Rel ι H w) {t : TypeId} {dst : Option Tmp} {ty : TypeId} {pos : String} {af : Array Edge} {g : Option (Nat × Bool)}
    (hk : E.wp P env H K .mkMap) : OpOk P a ⟨dst, .makeMap t none, ty, pos, af, g⟩ K ι H w := by
  obtain ⟨id, h00, hid, hι⟩ := hR.fresh
  have hp := Push.mk' w (.map #[] 0)
  have k1 : Rel (ι.add id (w.heap.size, 0)) (H.set id (.map [])) { w with heap := w.heap.push (.map #[] 0) } :=
    hR.new h00 hid hι hp.shp hp.old ⟨#[], 0, hp.new, ⟨.nil, .nil⟩, by simp, by simp⟩
  have k2 := Ext.new (o := .map []) hR hid hι hp.shp hp.old hp.os hp.tape hp.output (by rw [hp.size]; omega) rfl
  refine OpOk.value (u := .map (some w.heap.size)) (w' := { w with heap := w.heap.push (.map #[] 0) }) ?_ (hk id h00 hid) (.map _ _ _ (Pl.add_same _ _ _)) k1 k2
  simp [execOp, Instr.makeMap]

theorem setObj_run {b : Nat} {o o' : Obj} (h : w.heap[b]? = some o) (hc : ∀ c e f, o ≠ .cells c e f) : (setObj b o').run P w = .ok () { w with heap := w.heap.setIfInBounds b o' } := by
  simp only [setObj, Sem.run, h]

theorem Rel.wroteMap (h : Rel ι H w) {id : Nat} {es es' : List (V × V)} (hH : H id = some (.map es)) {b off : Nat} (hι : ι id = some (b, off)) {ms ms' : Array MapEntry} {clock clock' : Nat}
    (hb : w.heap[b]? = some (.map ms clock)) (he : EntR ι w es' ms'.toList) (h1 : ∀ (i : Nat) (e : MapEntry), ms'[i]? = some e → e.born < clock')
    (h2 : ∀ (i j : Nat) (e e' : MapEntry), ms'[i]? = some e → ms'[j]? = some e' → e.born = e'.born → i = j) {d : Nat} (hd : w.drawn ≤ d := by exact Nat.le_refl _) :
    Rel ι (H.set id (.map es')) { w with heap := w.heap.setIfInBounds b (.map ms' clock'), drawn := d } ∧ Ext ι H w ι (H.set id (.map es')) { w with heap := w.heap.setIfInBounds b (.map ms' clock'), drawn := d } := by
  have hlt := (Array.getElem?_eq_some_iff.1 hb).1
  have hold : ∀ k, k ≠ b → (w.heap.setIfInBounds b (.map ms' clock'))[k]? = w.heap[k]? := fun k hk => by rw [Array.getElem?_setIfInBounds_ne (Ne.symm hk)]
  have hs : Shp w { w with heap := w.heap.setIfInBounds b (.map ms' clock'), drawn := d } := by
    intro b2 c2 e2 f2 g2
    by_cases hbb : b2 = b
    · subst hbb; rw [hb] at g2; cases g2
    · exact ⟨c2, f2, by show (w.heap.setIfInBounds b _)[b2]? = _; rw [hold b2 hbb]; exact g2, keepF rfl⟩
  have hnew : ObjR ι { w with heap := w.heap.setIfInBounds b (.map ms' clock'), drawn := d } b off (.map es') :=
    ⟨ms', clock', by show (w.heap.setIfInBounds b _)[b]? = _; simp [hlt], he.mono (fun _ _ h => h) hs, h1, h2⟩
  exact ⟨h.write hH rfl hι hs hold hnew, Ext.write hH rfl hι hs hold rfl ⟨rfl, hd⟩ rfl (by simp) rfl⟩

theorem sameBits_ok {k : SK} {x y : V} {u z : Value} (h1 : VR ι w x u) (h2 : VR ι w y z) (h : seq k x y = some true) (d : Nat) : Instr.sameBits d z u = true := by
  rcases seq_runs h1 h2 h with ⟨_, p, q, rfl, rfl, h⟩ | ⟨_, k, p, q, rfl, rfl, h⟩ | ⟨_, p, q, rfl, rfl, h⟩
  · simp at h; cases d <;> simp [Instr.sameBits, h]
  · simp at h; cases d <;> simp [Instr.sameBits, h]
  · have e : (q == p) = true := by rw [beq_toListBytes, list_toList, list_toList]; simpa using (by simpa using h : p.data.toList = q.data.toList).symm
    cases d <;> simp [Instr.sameBits, e]

theorem sameBits_all {d : Nat} : ∀ {ks : List SK} {as bs : List V} {us zs : List Value}, VRs ι w as us → VRs ι w bs zs → seqs ks as bs = some true →
    zs.length = us.length ∧ ((zs.zip us).all fun (x, y) => Instr.sameBits d x y) = true
  | ks, [], bs, us, zs, h1, h2, h => by
    cases h1
    cases ks with
    | nil => cases bs with
      | nil => cases h2; simp
      | cons _ _ => simp [seqs] at h
    | cons _ _ => simp [seqs] at h
  | ks, a :: as, bs, us, zs, h1, h2, h => by
    cases ks with
    | nil => simp [seqs] at h
    | cons k ks =>
      cases bs with
      | nil => simp [seqs] at h
      | cons b bs =>
        cases h1 with
        | cons _ u _ us hu h1 =>
          cases h2 with
          | cons _ z _ zs hz h2 =>
            simp only [seqs] at h
            split at h
            · rename_i x y hx hy
              have hxy : x = true ∧ y = true := by simpa using h
              obtain ⟨rfl, rfl⟩ := hxy
              obtain ⟨g1, g2⟩ := sameBits_all (d := d) h1 h2 hy
              refine ⟨by simp [g1], ?_⟩
              rw [List.zip_cons_cons, List.all_cons, g2]
              simp [sameBits_ok hu hz hx d]
            · cases h

theorem sameKey {kt : KT} {k e : V} {u z : Value} (h1 : VR ι w k u) (h2 : VR ι w e z) (h : eqKey kt k e = some true) : Instr.sameBits 10000 z u = true := by
  unfold eqKey at h
  split at h
  · cases h1 with
    | agg _ us hu ho =>
      cases h2 with
      | agg _ zs hz ho' =>
        obtain ⟨g1, g2⟩ := sameBits_all (d := 9999) hu hz h
        simp only [Instr.sameBits]
        simp [g1, g2]
  · rename_i k' e' _ _ _ _
    obtain ⟨k1, h3⟩ : ∃ k1, seq k1 k' e' = some true := by
      cases hk : kt.2 with
      | nil => rw [hk] at h; simp [seqs] at h
      | cons k1 ks =>
        rw [hk] at h
        simp only [seqs] at h
        split at h
        · rename_i x y hx hy
          have : x = true ∧ y = true := by simpa using h
          exact ⟨k1, by rw [hx, this.1]⟩
        · cases h
    exact sameBits_ok h1 h2 h3 _
  · cases h

theorem VRs.set {vs : List V} {us : List Value} (h : VRs ι w vs us) {v : V} {u : Value} (hv : VR ι w v u) (i : Nat) : VRs ι w (vs.set i v) (us.set i u) := by
  induction vs generalizing us i with
  | nil => cases h; simpa using VRs.nil
  | cons x vs ih =>
    cases h with
    | cons _ y _ us hx t =>
      cases i with
      | zero => exact .cons _ _ _ _ hv t
      | succ i => exact .cons _ _ _ _ hx (ih t i)

theorem VRs.eraseIdx {vs : List V} {us : List Value} (h : VRs ι w vs us) (i : Nat) : VRs ι w (vs.eraseIdx i) (us.eraseIdx i) := by
  induction vs generalizing us i with
  | nil => cases h; simpa using VRs.nil
  | cons x vs ih =>
    cases h with
    | cons _ y _ us hx t =>
      cases i with
      | zero => exact t
      | succ i => exact .cons _ _ _ _ hx (ih t i)

theorem map_erase {α β : Type} (f : α → β) : ∀ (l : List α) (i : Nat), (l.eraseIdx i).map f = (l.map f).eraseIdx i
  | [], _ => rfl
  | _ :: _, 0 => rfl
  | x :: l, i + 1 => by simp [map_erase f l i]

theorem Rel.wroteEntry (h : Rel ι H w) {id : Nat} {o : HObj} (hrw : o.rw = true) {es' : List (V × V)} {i : Nat} {n : Int} (hH : H id = some o) {b off : Nat} (hι : ι id = some (b, off)) {ms ms' : Array MapEntry} {clock clock' : Nat}
    (hb : w.heap[b]? = some (.map ms clock)) (he : EntR ι w es' ms'.toList) (h1 : ∀ (i : Nat) (e : MapEntry), ms'[i]? = some e → e.born < clock')
    (h2 : ∀ (i j : Nat) (e e' : MapEntry), ms'[i]? = some e → ms'[j]? = some e' → e.born = e'.born → i = j) (h3 : ∃ e : MapEntry, ms'[i]? = some e ∧ (e.born : Int) = n) :
    Rel ι (H.set id (.mapE es' i n)) { w with heap := w.heap.setIfInBounds b (.map ms' clock') } ∧ Ext ι H w ι (H.set id (.mapE es' i n)) { w with heap := w.heap.setIfInBounds b (.map ms' clock') } := by
  have hlt := (Array.getElem?_eq_some_iff.1 hb).1
  have hold : ∀ k, k ≠ b → (w.heap.setIfInBounds b (.map ms' clock'))[k]? = w.heap[k]? := fun k hk => by rw [Array.getElem?_setIfInBounds_ne (Ne.symm hk)]
  have hs : Shp w { w with heap := w.heap.setIfInBounds b (.map ms' clock') } := by
    intro b2 c2 e2 f2 g2
    by_cases hbb : b2 = b
    · subst hbb; rw [hb] at g2; cases g2
    · exact ⟨c2, f2, by show (w.heap.setIfInBounds b _)[b2]? = _; rw [hold b2 hbb]; exact g2, keepF rfl⟩
  have hnew : ObjR ι { w with heap := w.heap.setIfInBounds b (.map ms' clock') } b off (.mapE es' i n) :=
    ⟨ms', clock', by show (w.heap.setIfInBounds b _)[b]? = _; simp [hlt], he.mono (fun _ _ h => h) hs, h1, h2, h3⟩
  exact ⟨h.write hH hrw hι hs hold hnew, Ext.write hH hrw hι hs hold rfl ⟨rfl, Nat.le_refl _⟩ rfl (by simp) rfl⟩

theorem Rel.wroteMapO (h : Rel ι H w) {id : Nat} {o : HObj} (hrw : o.rw = true) {es' : List (V × V)} (hH : H id = some o) {b off : Nat} (hι : ι id = some (b, off)) {ms ms' : Array MapEntry} {clock clock' : Nat}
    (hb : w.heap[b]? = some (.map ms clock)) (he : EntR ι w es' ms'.toList) (h1 : ∀ (i : Nat) (e : MapEntry), ms'[i]? = some e → e.born < clock')
    (h2 : ∀ (i j : Nat) (e e' : MapEntry), ms'[i]? = some e → ms'[j]? = some e' → e.born = e'.born → i = j) :
    Rel ι (H.set id (.map es')) { w with heap := w.heap.setIfInBounds b (.map ms' clock') } ∧ Ext ι H w ι (H.set id (.map es')) { w with heap := w.heap.setIfInBounds b (.map ms' clock') } := by
  have hlt := (Array.getElem?_eq_some_iff.1 hb).1
  have hold : ∀ k, k ≠ b → (w.heap.setIfInBounds b (.map ms' clock'))[k]? = w.heap[k]? := fun k hk => by rw [Array.getElem?_setIfInBounds_ne (Ne.symm hk)]
  have hs : Shp w { w with heap := w.heap.setIfInBounds b (.map ms' clock') } := by
    intro b2 c2 e2 f2 g2
    by_cases hbb : b2 = b
    · subst hbb; rw [hb] at g2; cases g2
    · exact ⟨c2, f2, by show (w.heap.setIfInBounds b _)[b2]? = _; rw [hold b2 hbb]; exact g2, keepF rfl⟩
  have hnew : ObjR ι { w with heap := w.heap.setIfInBounds b (.map ms' clock') } b off (.map es') :=
    ⟨ms', clock', by show (w.heap.setIfInBounds b _)[b]? = _; simp [hlt], he.mono (fun _ _ h => h) hs, h1, h2⟩
  exact ⟨h.write hH hrw hι hs hold hnew, Ext.write hH hrw hι hs hold rfl ⟨rfl, Nat.le_refl _⟩ rfl (by simp) rfl⟩

theorem ef_ment (hE : EnvR n ι w env a) (hR : Rel ι H w) {t kt e : TypeId} (hun : P.underlying t = some (.map kt e)) {KK : KT} (hkt : keyT P kt = some KK) {z : V} (hz : zeroT P e = some z) {m k : Operand} {m' k' : X} (hm : compX n m = some m') (hk' : compX n k = some k')
    {dst : Option Tmp} {ty : TypeId} {pos : String} {af : Array Edge} {g : Option (Nat × Bool)}
    (hk : E.wp P env H K (.ment KK z m' k')) : OpOk P a ⟨dst, .mapEntry t m k, ty, pos, af, g⟩ K ι H w := by
  obtain ⟨id, es, r, h1, hH, hzt, hf, hk⟩ := hk
  obtain ⟨zu, hz1, hz2, _⟩ := run_zero (P := P) hz
  have hvm := X.sound hE hm
  have hvk := X.sound hE hk'
  rw [h1] at hvm
  generalize hum : a.eval m = um at *
  generalize huk : a.eval k = uk at *
  generalize k'.ev env = kk at *
  cases hvm with
  | map _ b o hι =>
    obtain ⟨b', off, hι', ms, clock, hb, hent, hborn, huniq⟩ := hR.obj _ _ hH
    rw [hι] at hι'; cases hι'
    have hget := run_getObj (P := P) hb (by intro c e f h; cases h)
    have hck := checkKey_run (P := P) (w := w) hkt hvk (findI_fits hf) false
    have hfk := findKey_ok hkt hvk hent hf
    have hlen : es.length = ms.size := by
      have := hent.keys.length
      simpa using this
    cases r with
    | none =>
      obtain ⟨k1, k2⟩ := hR.wroteEntry rfl hH hι hb (es' := es ++ [(kk, z)]) (i := es.length) (n := (clock : Int)) (ms' := ms.push { key := uk, val := zu, born := clock }) (clock' := clock + 1)
        (by
          refine ⟨?_, ?_⟩
          · simp only [List.map_append, List.map_cons, List.map_nil, Array.toList_push]; exact hent.keys.append (.cons _ _ _ _ hvk .nil)
          · simp only [List.map_append, List.map_cons, List.map_nil, Array.toList_push]; exact hent.vals.append (.cons _ _ _ _ (hz2 ι w) .nil))
        (fun i e he => by
          rw [Array.getElem?_push] at he
          split at he
          · cases he; exact Nat.lt_succ_self _
          · have := hborn i e he; omega)
        (fun i j e e' he he' hbo => by
          rw [Array.getElem?_push] at he he'
          split at he <;> split at he'
          · omega
          · cases he; have := hborn j e' he'; simp at hbo; omega
          · cases he'; have := hborn i e he; simp at hbo; omega
          · exact huniq i j e e' he he' hbo)
        ⟨_, by rw [Array.getElem?_push, if_pos hlen], rfl⟩
      refine OpOk.value (u := .tuple #[zu, .int .i64 clock]) (w' := { w with heap := w.heap.setIfInBounds b (.map (ms.push { key := uk, val := zu, born := clock }) (clock + 1)) }) ?_ (hk clock) (.tup _ _ (.cons _ _ _ _ (hz2 _ _) (.cons _ _ _ _ (.int _ _) .nil))) k1 k2
      simp only [execOp, hum, huk, Instr.mapEntry, Sem.run_bind, run_underlying hun, Result.andThen_ok, hget, hck, hfk, Option.map_none, hz1, setObj_run (P := P) hb (by intro c e f h; cases h), Sem.run_pure, goInt]
    | some i =>
      obtain ⟨en, hen, heq⟩ := findI_key hf
      obtain ⟨ku, q1, q2⟩ := hent.keys.get (i := i) (v := en.1) (by simp [hen])
      obtain ⟨vu, q3, q4⟩ := hent.vals.get (i := i) (v := en.2) (by simp [hen])
      rw [List.getElem?_map, Array.getElem?_toList] at q1 q3
      cases hmi : ms[i]? with
      | none => rw [hmi] at q1; cases q1
      | some me =>
        rw [hmi] at q1 q3
        simp only [Option.map_some, Option.some.injEq] at q1 q3
        subst q1 q3
        have hsame := sameKey hvk q2 heq
        have hmod : (ms.modify i fun e => { e with key := uk }).toList = ms.toList.set i { me with key := uk } := by
          have hlt := (Array.getElem?_eq_some_iff.1 hmi)
          obtain ⟨hlt, hv⟩ := hlt
          apply List.ext_getElem?
          intro j
          rw [Array.getElem?_toList, Array.getElem?_modify, List.getElem?_set]
          by_cases hj : i = j
          · subst hj; simp [hlt, hv]
          · simp [hj]
        obtain ⟨k1, k2⟩ := hR.wroteEntry rfl hH hι hb (es' := es.set i (kk, en.2)) (i := i) (n := (me.born : Int)) (ms' := ms.modify i fun e => { e with key := uk }) (clock' := clock)
          (by
            rw [hmod]
            refine ⟨?_, ?_⟩
            · rw [List.map_set, List.map_set]; exact hent.keys.set hvk i
            · rw [List.map_set, List.map_set]; exact hent.vals.set q4 i)
          (fun j e he => by
            rw [Array.getElem?_modify] at he
            cases hj : ms[j]? with
            | none => rw [hj] at he; split at he <;> cases he
            | some e0 => have hb0 := hborn j e0 hj; rw [hj] at he; split at he <;> cases he <;> exact hb0)
          (fun j l e e' he he' hbo => by
            rw [Array.getElem?_modify] at he he'
            cases hj : ms[j]? with
            | none => rw [hj] at he; split at he <;> cases he
            | some e0 =>
              cases hl : ms[l]? with
              | none => rw [hl] at he'; split at he' <;> cases he'
              | some e1 =>
                have hh := huniq j l e0 e1 hj hl
                rw [hj] at he
                rw [hl] at he'
                split at he <;> cases he <;> split at he' <;> cases he' <;> exact hh hbo)
          ⟨{ me with key := uk }, by rw [Array.getElem?_modify, if_pos rfl, hmi]; rfl, rfl⟩
        refine OpOk.value (u := .tuple #[me.val, .int .i64 me.born]) (w' := { w with heap := w.heap.setIfInBounds b (.map (ms.modify i fun e => { e with key := uk }) clock) }) ?_ (hk me.born en hen) (.tup _ _ (.cons _ _ _ _ (q4.mono (fun _ _ h => h) k2.shp) (.cons _ _ _ _ (.int _ _) .nil))) k1 k2
        simp only [execOp, hum, huk, Instr.mapEntry, Sem.run_bind, run_underlying hun, Result.andThen_ok, hget, hck, hfk, Option.map_some, hmi, Option.getD_some, Instr.keyThatStays, hsame, if_true, Sem.run_pure,
          setObj_run (P := P) hb (by intro c e f h; cases h), goInt, entAt, Array.getElem?_toList]
theorem ef_mset (hE : EnvR n ι w env a) (hR : Rel ι H w) {t : TypeId} {m s v : Operand} {m' s' v' : X} (hm : compX n m = some m') (hs : compX n s = some s') (hv : compX n v = some v')
    {dst : Option Tmp} {ty : TypeId} {pos : String} {af : Array Edge} {g : Option (Nat × Bool)}
    (hk : E.wp P env H K (.mset m' s' v')) : OpOk P a ⟨dst, .entryStore t m s v, ty, pos, af, g⟩ K ι H w := by
  obtain ⟨id, es, i, n', e, h1, hH, h2, hen, hvt, hk⟩ := hk
  have hvm := X.sound hE hm
  have hvs := X.sound hE hs
  have hvv := X.sound hE hv
  rw [h1] at hvm
  rw [h2] at hvs
  generalize hum : a.eval m = um at *
  generalize hus : a.eval s = us at *
  generalize huv : a.eval v = uv at *
  generalize v'.ev env = vv at *
  cases hvs
  cases hvm with
  | map _ b o hι =>
    obtain ⟨b', off, hι', ms, clock, hb, hent, hborn, huniq, me, hmi, hbn⟩ := hR.obj _ _ hH
    rw [hι] at hι'; cases hι'
    have hget := run_getObj (P := P) hb (by intro c e f h; cases h)
    obtain ⟨hlt, hv0⟩ := Array.getElem?_eq_some_iff.1 hmi
    have hfind : ms.findIdx? (fun e => (e.born : Int) == n') = some i := by
      rw [Array.findIdx?_eq_some_iff_getElem]
      refine ⟨hlt, by rw [hv0]; simpa using hbn, fun j hj => ?_⟩
      have hjl : j < ms.size := by omega
      intro hc
      have hc' : ((ms[j].born : Nat) : Int) = n' := by simpa using hc
      have := huniq j i ms[j] me (Array.getElem?_eq_getElem hjl) hmi (by omega)
      omega
    have hmod : (ms.modify i fun e => { e with val := uv }).toList = ms.toList.set i { me with val := uv } := by
      apply List.ext_getElem?
      intro j
      rw [Array.getElem?_toList, Array.getElem?_modify, List.getElem?_set]
      by_cases hj : i = j
      · subst hj; simp [hlt, hv0]
      · simp [hj]
    have hkey : VR ι w e.1 me.key := by
      obtain ⟨ku, q1, q2⟩ := hent.keys.get (i := i) (v := e.1) (by simp [hen])
      rw [List.getElem?_map, Array.getElem?_toList, hmi] at q1
      cases q1
      exact q2
    obtain ⟨k1, k2⟩ := hR.wroteMapO rfl hH hι hb (es' := es.set i (e.1, vv)) (ms' := ms.modify i fun e => { e with val := uv }) (clock' := clock)
      (by
        rw [hmod]
        refine ⟨?_, ?_⟩
        · rw [List.map_set, List.map_set]; exact hent.keys.set hkey i
        · rw [List.map_set, List.map_set]; exact hent.vals.set hvv i)
      (fun j e he => by
        rw [Array.getElem?_modify] at he
        cases hj : ms[j]? with
        | none => rw [hj] at he; split at he <;> cases he
        | some e0 => have hb0 := hborn j e0 hj; rw [hj] at he; split at he <;> cases he <;> exact hb0)
      (fun j l e e' he he' hbo => by
        rw [Array.getElem?_modify] at he he'
        cases hj : ms[j]? with
        | none => rw [hj] at he; split at he <;> cases he
        | some e0 =>
          cases hl : ms[l]? with
          | none => rw [hl] at he'; split at he' <;> cases he'
          | some e1 =>
            have hh := huniq j l e0 e1 hj hl
            rw [hj] at he
            rw [hl] at he'
            split at he <;> cases he <;> split at he' <;> cases he' <;> exact hh hbo)
    refine OpOk.skip (w' := { w with heap := w.heap.setIfInBounds b (.map (ms.modify i fun e => { e with val := uv }) clock) }) ?_ hk k1 k2
    simp only [execOp, hum, hus, huv, Instr.entryStore, Sem.run_bind, Result.andThen_ok, hget, asInt, asIntOf, Sem.run_pure, hfind, setObj_run (P := P) hb (by intro c e f h; cases h)]
theorem ef_clr (hE : EnvR n ι w env a) (hR : Rel ι H w) {t e : TypeId} (hun : P.underlying t = some (.slice e)) {sz : Nat} (_hs : sizeT P e = some sz) {z : V} (hz : zeroT P e = some z) (hl : z.cells.length = sz) (hs0 : 0 < sz) (ht : z.isTup = false) {x : Operand} {x' : X} (hx : compX n x = some x')
    {dst : Option Tmp} {ty : TypeId} {pos : String} {af : Array Edge} {g : Option (Nat × Bool)}
    (hk : E.wp P env H K (.clr sz z.cells x')) : OpOk P a ⟨dst, .call ⟨.builtin .clear, #[x], #[t]⟩, ty, pos, af, g⟩ K ι H w := by
  obtain ⟨zu, hz1, hz2, _⟩ := run_zero (P := P) hz
  obtain ⟨c1, c2⟩ := (hz2 ι w).cells ht
  have hv := X.sound hE hx
  generalize hu : a.eval x = u at hv
  have hexec : ∀ (w' : World), (Builtin.clear_ #[t] ty #[u]).run P w = .ok (.tuple #[]) w' → (execOp a.eval ⟨dst, .call ⟨.builtin .clear, #[x], #[t]⟩, ty, pos, af, g⟩).run P w = .ok (.value (.tuple #[])) w' := by
    intro w' h
    simp only [execOp, resolve, Sem.run_bind, Sem.run_pure, Result.andThen_ok, invoke, builtin, List.map_toArray, List.map_cons, List.map_nil, hu, h]
  have hk : (x'.ev env = .nils ∧ K V.undef H) ∨ (∃ id off e, x'.ev env = .slice id off 0 e ∧ K V.undef H) ∨
      (∃ id off len cs, (x'.ev env = .slice id off len sz ∨ ∃ cap, x'.ev env = .sliceC id off len cap sz) ∧ H id = some (.cells true cs) ∧ off + len * sz ≤ cs.length ∧ K V.undef (H.set id (.cells true (splice cs off (rep z.cells len))))) := by
    rcases hk with h | h | ⟨id, off, len, cs, h1, h2⟩ | ⟨id, off, len, cap, cs, h1, h2⟩
    · exact .inl h
    · exact .inr (.inl h)
    · exact .inr (.inr ⟨id, off, len, cs, .inl h1, h2⟩)
    · exact .inr (.inr ⟨id, off, len, cs, .inr ⟨cap, h1⟩, h2⟩)
  rcases hk with ⟨h1, hk⟩ | ⟨id, off, e', h1, hk⟩ | ⟨id, off, len, cs, h1, hH, hfit, hk⟩
  · rw [h1] at hv
    cases hv
    refine OpOk.value (u := .tuple #[]) (hexec w ?_) hk (VR.undef _ _) hR (Ext.refl _ _ _)
    simp [Builtin.clear_, run_underlying hun]
  · rw [h1] at hv
    refine OpOk.value (u := .tuple #[]) (hexec w ?_) hk (VR.undef _ _) hR (Ext.refl _ _ _)
    cases hv <;> simp [Builtin.clear_, run_underlying hun]
  · have hv : VR ι w (.slice id off len sz) u := by
      rcases h1 with h1 | ⟨capv, h1⟩
      · rwa [h1] at hv
      · rw [h1] at hv; exact Wk.sliceC _ _ _ _ _ ι w u hv
    obtain ⟨b, o, hι, c, et, f, hb, hcs, hfr, hcl⟩ := hR.obj _ _ hH
    cases hv with
    | slice0 => rw [hR.zero] at hι; cases hι
    | slice _ _ _ _ ad cap hle h =>
      obtain ⟨r1, r2⟩ := c1.rep c2 len (by omega)
      rw [hl] at r1 r2
      have hzs : zu.cells.size = sz := by have := c1.length; simpa [hl] using this.symm
      have hTl : (madeCells zu.cells (len * sz)).toList.length = len * sz := by rw [← r1.length, rep_length, hl]
      have main : ∃ w' c', (Builtin.clear_ #[t] ty #[.slice (some ad) len cap]).run P w = .ok (.tuple #[]) w' ∧ (w' = w ∨ Wrote w w' b (.cells c' et f)) ∧ w'.heap[b]? = some (.cells c' et f) ∧ c'.size = c.size ∧
          c'.toList = c.toList.take (o + off + 0) ++ (madeCells zu.cells (len * sz)).toList ++ c.toList.drop (o + off + 0 + (madeCells zu.cells (len * sz)).toList.length) := by
        by_cases hl0 : len = 0
        · subst hl0
          refine ⟨w, c, by simp [Builtin.clear_, run_underlying hun], .inl rfl, hb, rfl, ?_⟩
          rw [Nat.zero_mul] at hTl ⊢
          rw [List.eq_nil_of_length_eq_zero hTl]; simp
        · obtain ⟨b', o', c', e2, f', hι2, rfl, hb', hfit'⟩ := h (by omega)
          rw [hι] at hι2; cases hι2
          obtain ⟨w', c'', g1, g2, g3, g4, g5⟩ := storeCells_run (P := P) (o := o + off) (madeCells zu.cells (len * sz)).toList 0 w c hb (hfr rfl) (by rw [hTl]; omega) r2
          refine ⟨w', c'', ?_, g2, g3, g4, g5⟩
          have hzc : (Builtin.zeroCells zu.cells len) = madeCells zu.cells (len * sz) := by rw [← hzs]; rfl
          cases len with
          | zero => exact absurd rfl hl0
          | succ len =>
            simp only [Builtin.clear_, Sem.run_bind, run_underlying hun, Result.andThen_ok, hz1, hzc, g1, Sem.run_pure, List.getElem?_toArray, List.getElem?_cons_zero]
      obtain ⟨w', c', g1, g2, g3, g4, g5⟩ := main
      obtain ⟨k1, k2⟩ := hR.wrote hH hι hb (hfr rfl) g2 g3 g4 (cs' := splice cs off (rep z.cells len)) (by rw [splice_length (by rw [rep_length, hl]; omega)]; omega) (fun k v hk => by
        have := splice_rel (R := fun v u => VR ι w v u ∧ one u = true) (L := c.toList) (T := (madeCells zu.cells (len * sz)).toList) (o := o) (fun k v hk => by rw [Array.getElem?_toList]; exact hcs k v hk)
          (fun k v hk => by obtain ⟨u, q1, q2⟩ := r1.get hk; exact ⟨u, q1, q2, List.all_eq_true.1 r2 u (List.mem_of_getElem? q1)⟩) r1.length (by rw [rep_length, hl]; omega) (by simpa using hcl) k v hk
        rw [← Array.getElem?_toList, g5]
        simpa using this)
      exact OpOk.value (u := .tuple #[]) (hexec w' g1) hk (VR.undef _ _) k1 k2

theorem ef_copy (hE : EnvR n ι w env a) (hR : Rel ι H w) {t t2 e : TypeId} (hun : P.underlying t = some (.slice e)) {sz : Nat} (hs : sizeT P e = some sz) {x y : Operand} {x' y' : X} (hx : compX n x = some x') (hy : compX n y = some y')
    {dst : Option Tmp} {ty : TypeId} {pos : String} {af : Array Edge} {g : Option (Nat × Bool)}
    (hk : E.wp P env H K (.copy sz x' y')) : OpOk P a ⟨dst, .call ⟨.builtin .copy, #[x, y], #[t, t2]⟩, ty, pos, af, g⟩ K ι H w := by
  have hvx := X.sound hE hx
  have hvy := X.sound hE hy
  have hexec : ∀ (u : Value) (w' : World), (Builtin.copy_ #[t, t2] ty #[a.eval x, a.eval y]).run P w = .ok u w' → (execOp a.eval ⟨dst, .call ⟨.builtin .copy, #[x, y], #[t, t2]⟩, ty, pos, af, g⟩).run P w = .ok (.value u) w' := by
    intro u w' h
    simp only [execOp, resolve, Sem.run_bind, Sem.run_pure, Result.andThen_ok, invoke, builtin, List.map_toArray, List.map_cons, List.map_nil, h]
  have hsz : ∀ w : World, (sizeOf e).run P w = .ok sz w := run_sizeOf hs
  have hmin : ∀ a b, Nat.min a b = min a b := fun _ _ => rfl
  rcases hk with ⟨m, vs, h1, hsrc, hk⟩ | ⟨id, off, len, cs, m, vs, h1, hsrc, hH, hfit, hk⟩
  · obtain ⟨us, u1, u2, u3, u4, u5⟩ := src_cut (P := P) hR hvy hsrc
    have hu4 := u4 w
    rw [Nat.min_zero, Nat.zero_mul] at u1
    have hus : us = [] := List.eq_nil_of_length_eq_zero u1
    subst hus
    rw [Nat.min_zero] at u5
    have hx0 : a.eval x = .slice none 0 0 ∨ ∃ ad cap, a.eval x = .slice (some ad) 0 cap := by
      rcases h1 with h1 | ⟨id, off, e', h1⟩
      · rw [h1] at hvx
        generalize a.eval x = u at *
        cases hvx; exact .inl rfl
      · rw [h1] at hvx
        generalize a.eval x = u at *
        cases hvx with
        | slice0 => exact .inl rfl
        | slice _ _ _ _ ad cap _ _ => exact .inr ⟨ad, cap, rfl⟩
    refine OpOk.value (u := goInt 0) (w' := w) (hexec _ _ ?_) hk (.int _ _) hR (Ext.refl _ _ _)
    rcases hx0 with hx0 | ⟨ad, cap, hx0⟩
    · simp [Builtin.copy_, run_underlying hun, hu4, hsz, u5, hx0]
    · simp [Builtin.copy_, run_underlying hun, hu4, hsz, u5, hx0, storeCells]
  · obtain ⟨us, u1, u2, u3, u4, u5⟩ := src_cut (P := P) hR hvy hsrc
    have hu4 := u4 w
    have hv : VR ι w (.slice id off len sz) (a.eval x) := by
      rcases h1 with h1 | ⟨capv, h1⟩
      · have := hvx.unty; rwa [h1] at this
      · rw [h1] at hvx; exact Wk.sliceC _ _ _ _ _ ι w _ hvx
    clear hvx h1
    generalize hu : a.eval x = u at *
    obtain ⟨b, o, hι, c, et, f, hb, hcs, hfr, hcl⟩ := hR.obj _ _ hH
    cases hv with
    | slice0 => rw [hR.zero] at hι; cases hι
    | slice _ _ _ _ ad cap hle h =>
      by_cases hcap : 0 < cap
      · obtain ⟨b', o', c', e2, f', hι2, rfl, hb', hfit'⟩ := h hcap
        rw [hι] at hι2; cases hι2
        rw [hb] at hb'; cases hb'
        have hmc : min m len * sz ≤ cap * sz := Nat.mul_le_mul_right _ (by omega)
        obtain ⟨w', g1, g2, g3⟩ := hR.writeAt (P := P) hH hι hb u2 u3 (off := off) hfit (by rw [u1]; omega)
        refine OpOk.value (u := goInt ((min m len : Nat))) (w' := w') (hexec _ _ ?_) hk (.int _ _) g2 g3
        simp [Builtin.copy_, run_underlying hun, hu4, hsz, hmin, u5, g1]
      · have hl0 : len = 0 := by omega
        subst hl0
        rw [Nat.min_zero, Nat.zero_mul] at u1
        have hus : us = [] := List.eq_nil_of_length_eq_zero u1
        subst hus
        rw [Nat.min_zero] at u5
        have hvs : vs = [] := List.eq_nil_of_length_eq_zero (by have := u2.length; simpa using this)
        subst hvs
        have hsame : H.set id (.cells true (splice cs off [])) = H := by
          funext i
          by_cases hi : i = id
          · subst hi; rw [Heap.set_same, hH]; simp [splice]
          · rw [Heap.set_ne _ _ hi]
        rw [hsame] at hk
        refine OpOk.value (u := goInt ((min m 0 : Nat))) (w' := w) (hexec _ _ ?_) hk (.int _ _) hR (Ext.refl _ _ _)
        simp [Builtin.copy_, run_underlying hun, hu4, hsz, u5, storeCells]
theorem ef_appz (hE : EnvR n ι w env a) (hR : Rel ι H w) {t t2 e : TypeId} (hun : P.underlying t = some (.slice e)) {ki : IntKind} (hun2 : P.underlying t2 = some (.int ki)) {s by_ : Nat} (hs : sizeT P e = some s) (hby : bytesT P e = some by_)
    {z : V} (hz : zeroT P e = some z) (hzl : z.cells.length = s) (hzt : z.isTup = false) (hby0 : 0 < by_) (hs0 : 0 < s) {x y : Operand} {x' y' : X} (hx : compX n x = some x') (hy : compX n y = some y') {dst : Option Tmp} {ty : TypeId} {pos : String} {af : Array Edge} {g : Option (Nat × Bool)}
    (hk : E.wp P env H K (.appz s by_ z.cells x' y')) : OpOk P a ⟨dst, .call ⟨.builtin .append, #[x, y], #[t, t2]⟩, ty, pos, af, g⟩ K ι H w := by
  obtain ⟨kx, m, id, off, len, capv, cs, hy1, hm0, hd, hH, hfit, hroom, hb, hk⟩ := hk
  have hvx := X.sound hE hx
  have hvy := X.sound hE hy
  rw [hd] at hvx
  rw [hy1] at hvy
  obtain ⟨zu, hz1, hz2, i, hi, hiz⟩ := run_zero hz
  obtain ⟨c1, c2⟩ := (hz2 ι w).cells hzt
  have his : i.size = s := by obtain ⟨i', h3, h4⟩ := sizeT_info hs; rw [hi] at h3; cases h3; exact h4
  have hib : i.bytes = by_ := by simp only [bytesT, hi, Option.map_some, Option.some.injEq] at hby; exact hby
  have hzs : zu.cells.size = s := by have := c1.length; simpa [hzl] using this.symm
  obtain ⟨id', h00, hid', hι'⟩ := hR.fresh
  have hexec : ∀ (u : Value) (w' : World), (Builtin.append_ #[t, t2] ty #[a.eval x, a.eval y]).run P w = .ok u w' → (execOp a.eval ⟨dst, .call ⟨.builtin .append, #[x, y], #[t, t2]⟩, ty, pos, af, g⟩).run P w = .ok (.value u) w' := by
    intro u w' h
    simp only [execOp, resolve, Sem.run_bind, Sem.run_pure, Result.andThen_ok, invoke, builtin, List.map_toArray, List.map_cons, List.map_nil, h]
  obtain ⟨M, hM⟩ : ∃ M : Nat, m = M := ⟨m.toNat, by omega⟩
  subst hM
  simp only [Int.toNat_natCast] at hroom hb hk
  generalize hu : a.eval x = u at *
  generalize hu2 : a.eval y = u2 at *
  cases hvy
  cases hvx with
  | sliceC0 => obtain ⟨b, o, hι, _⟩ := hR.obj _ _ hH; rw [hR.zero] at hι; cases hι
  | sliceC _ _ _ _ ad cap hl hc =>
    have hgc : getCells cs off (len * s) = some ((cs.drop off).take (len * s)) := by
      unfold getCells; rw [Nat.ble_eq_true_of_le hfit]; rfl
    obtain ⟨olds, o1, o2, o3, _, o4⟩ := src_run (P := P) hR (.slice id off len s ad capv hl hc) (m := len) (vs := (cs.drop off).take (len * s)) (esz := s) (srcCells_slice hH hgc)
    obtain ⟨r1, r2⟩ := c1.rep c2 M (by omega)
    rw [hzl] at r1 r2
    have hn : ¬ (len + M ≤ capv) := by omega
    have hby1 : 0 < i.bytes := by omega
    have hle : len + M ≤ 140737488355328 := Nat.le_trans (Nat.le_mul_of_pos_right _ hby0) hb
    have h48 := growslice_fits (bytes := by_) hroom hb
    have h48' : ¬ (Builtin.nextslicecap (len + M) capv * i.bytes > 2 ^ 48) := by rw [hib]; omega
    have hz0 : ¬ (i.bytes = 0) := by omega
    have hcap : len + M ≤ grownCap w (len + M) capv e := grownCap_ge w _ _ _
    have ho := o4 w.drew rfl
    have hMpos : 0 < M := by omega
    have hMs : ¬ (M * s = 0) := by
      intro h; rcases Nat.mul_eq_zero.1 h with h | h <;> omega
    have hzc : (Builtin.zeroCells zu.cells M) = madeCells zu.cells (M * s) := by rw [← hzs]; rfl
    have hw1 : IntKind.i64.wrap ((M : Nat) : Int) = (M : Int) := by rw [IntKind.wrap_i64]; omega
    have hMb : ¬ ((M : Int) * (i.bytes : Int) > 2 ^ 48) := by
      have : M * by_ ≤ 140737488355328 := Nat.le_trans (Nat.mul_le_mul_right _ (by omega)) hb
      rw [hib]
      have : ((M * by_ : Nat) : Int) ≤ 140737488355328 := by omega
      rw [Int.natCast_mul] at this
      omega
    have hrun : ∃ (w' : World) (cap' : Nat) (c : Array Value), (Builtin.append_ #[t, t2] ty #[.slice (some ad) len capv, .int kx (M : Int)]).run P w = .ok (.slice (some ⟨w.heap.size, 0, none⟩) (len + M) cap') w' ∧ Push w w' (.cells c e (0, 0)) ∧
        len + M ≤ cap' ∧ c.size = cap' * s ∧ (olds ++ (madeCells zu.cells (M * s)).toList) <+: c.toList := by
      refine ⟨w.drew.alloc (.cells (⟨olds⟩ ++ madeCells zu.cells (M * s) ++ Builtin.zeroCells zu.cells (grownCap w (len + M) capv e - (len + M))) e), grownCap w (len + M) capv e, _, ?_, ⟨rfl, rfl, ⟨rfl, Nat.le_succ _⟩, rfl⟩, hcap, ?_, ?_⟩
      · have hneg : ¬ ((M : Int) < 0) := by omega
        simp [Builtin.append_, run_underlying hun, run_underlying hun2, sizeOf, typeInfo, zeroValue, hi, hiz, hn, h48', hz0, Question.forced, grownCap, newRow, asInt, asIntOf, hw1, hneg, his, hMs]
        rw [if_neg (by omega), if_neg (by omega), ho]
        simp only [Result.andThen_ok]
        congr 3
        rw [hzc]
      · have hms : (madeCells zu.cells (M * s)).size = M * s := by rw [← hzc, size_zeroCells, hzs]
        simp only [Array.size_append, List.size_toArray, size_zeroCells, hzs, o1, hms, ← Nat.add_mul]
        congr 1; omega
      · exact ⟨_, by simp [Array.toList_append]; rfl⟩
    obtain ⟨w', cap', c, g1, g2, g3, g4, g5⟩ := hrun
    obtain ⟨k1, k2⟩ := hR.push h00 hid' hι' g2 (o2.append r1) (by rw [List.all_append, o3, r2]; rfl) g5
    refine OpOk.value (u := .slice (some ⟨w.heap.size, 0, none⟩) (len + M) cap') (w' := w') (hexec _ _ g1) (hk id' h00 hid') ?_ k1 k2
    exact .slice _ _ _ _ _ _ g3 fun _ => ⟨w.heap.size, 0, c, e, (0, 0), Pl.add_same _ _ _, by simp, g2.new, by rw [g4]; omega⟩

theorem ef_put (hE : EnvR n ι w env a) (hR : Rel ι H w) {t kt e : TypeId} (hun : P.underlying t = some (.map kt e)) {KK : KT} (hkt : keyT P kt = some KK) {m k v : Operand} {m' k' v' : X} (hm : compX n m = some m') (hk' : compX n k = some k') (hv : compX n v = some v')
    {dst : Option Tmp} {ty : TypeId} {pos : String} {af : Array Edge} {g : Option (Nat × Bool)}
    (hk : E.wp P env H K (.put KK m' k' v')) : OpOk P a ⟨dst, .mapUpdate t m k v, ty, pos, af, g⟩ K ι H w := by
  obtain ⟨id, es, r, h1, hH, _, hf, hk⟩ := hk
  have hvm := X.sound hE hm
  have hvk := X.sound hE hk'
  have hvv := X.sound hE hv
  rw [h1] at hvm
  generalize hum : a.eval m = um at *
  generalize huk : a.eval k = uk at *
  generalize huv : a.eval v = uv at *
  generalize k'.ev env = kk at *
  generalize v'.ev env = vv at *
  cases hvm with
  | map _ b o hι =>
    obtain ⟨b', off, hι', ms, clock, hb, hent, hborn, huniq⟩ := hR.obj _ _ hH
    rw [hι] at hι'; cases hι'
    have hget := run_getObj (P := P) hb (by intro c e f h; cases h)
    have hck := checkKey_run (P := P) (w := w) hkt hvk (findI_fits hf) false
    have hfk := findKey_ok hkt hvk hent hf
    cases r with
    | none =>
      obtain ⟨k1, k2⟩ := hR.wroteMap hH hι hb (es' := es ++ [(kk, vv)]) (ms' := ms.push { key := uk, val := uv, born := clock }) (clock' := clock + 1) (d := w.drawn)
        (by
          refine ⟨?_, ?_⟩
          · simp only [List.map_append, List.map_cons, List.map_nil, Array.toList_push]; exact hent.keys.append (.cons _ _ _ _ hvk .nil)
          · simp only [List.map_append, List.map_cons, List.map_nil, Array.toList_push]; exact hent.vals.append (.cons _ _ _ _ hvv .nil))
        (fun i e he => by
          rw [Array.getElem?_push] at he
          split at he
          · cases he; exact Nat.lt_succ_self _
          · have := hborn i e he; omega)
        (fun i j e e' he he' hbo => by
          rw [Array.getElem?_push] at he he'
          split at he <;> split at he'
          · omega
          · cases he; have := hborn j e' he'; simp at hbo; omega
          · cases he'; have := hborn i e he; simp at hbo; omega
          · exact huniq i j e e' he he' hbo)
      refine OpOk.skip (w' := { w with heap := w.heap.setIfInBounds b (.map (ms.push { key := uk, val := uv, born := clock }) (clock + 1)) }) ?_ hk k1 k2
      simp only [execOp, hum, huk, huv, Instr.mapUpdate, Sem.run_bind, run_underlying hun, Result.andThen_ok, hget, hck, hfk, Option.map_none, setObj_run (P := P) hb (by intro c e f h; cases h), Sem.run_pure]
    | some i =>
      obtain ⟨en, hen, heq⟩ := findI_key hf
      obtain ⟨ku, q1, q2⟩ := hent.keys.get (i := i) (v := en.1) (by simp [hen])
      rw [List.getElem?_map, Array.getElem?_toList] at q1
      cases hmi : ms[i]? with
      | none => rw [hmi] at q1; cases q1
      | some me =>
        rw [hmi] at q1
        simp only [Option.map_some, Option.some.injEq] at q1
        subst q1
        have hsame := sameKey hvk q2 heq
        have hmod : (ms.modify i fun e => { e with key := uk, val := uv }).toList = ms.toList.set i { me with key := uk, val := uv } := by
          have hlt := (Array.getElem?_eq_some_iff.1 hmi)
          obtain ⟨hlt, hv⟩ := hlt
          apply List.ext_getElem?
          intro j
          rw [Array.getElem?_toList, Array.getElem?_modify, List.getElem?_set]
          by_cases hj : i = j
          · subst hj; simp [hlt, hv]
          · simp [hj]
        obtain ⟨k1, k2⟩ := hR.wroteMap hH hι hb (es' := es.set i (kk, vv)) (ms' := ms.modify i fun e => { e with key := uk, val := uv }) (clock' := clock) (d := w.drawn)
          (by
            rw [hmod]
            refine ⟨?_, ?_⟩
            · rw [List.map_set, List.map_set]; exact hent.keys.set hvk i
            · rw [List.map_set, List.map_set]; exact hent.vals.set hvv i)
          (fun j e he => by
            rw [Array.getElem?_modify] at he
            cases hj : ms[j]? with
            | none => rw [hj] at he; split at he <;> cases he
            | some e0 => have hb0 := hborn j e0 hj; rw [hj] at he; split at he <;> cases he <;> exact hb0)
          (fun j l e e' he he' hbo => by
            rw [Array.getElem?_modify] at he he'
            cases hj : ms[j]? with
            | none => rw [hj] at he; split at he <;> cases he
            | some e0 =>
              cases hl : ms[l]? with
              | none => rw [hl] at he'; split at he' <;> cases he'
              | some e1 =>
                have hh := huniq j l e0 e1 hj hl
                rw [hj] at he
                rw [hl] at he'
                split at he <;> cases he <;> split at he' <;> cases he' <;> exact hh hbo)
        refine OpOk.skip (w' := { w with heap := w.heap.setIfInBounds b (.map (ms.modify i fun e => { e with key := uk, val := uv }) clock) }) ?_ hk k1 k2
        simp only [execOp, hum, huk, huv, Instr.mapUpdate, Sem.run_bind, run_underlying hun, Result.andThen_ok, hget, hck, hfk, Option.map_some, hmi, Option.getD_some, Instr.keyThatStays, hsame, if_true, Sem.run_pure,
          setObj_run (P := P) hb (by intro c e f h; cases h)]

theorem ef_del (hE : EnvR n ι w env a) (hR : Rel ι H w) {t kt e : TypeId} (hun : P.underlying t = some (.map kt e)) {KK : KT} (hkt : keyT P kt = some KK) {m k : Operand} {m' k' : X} (hm : compX n m = some m') (hk' : compX n k = some k')
    {dst : Option Tmp} {ty : TypeId} {pos : String} {af : Array Edge} {g : Option (Nat × Bool)} {ats : Array TypeId} (hats : ats[0]? = some t)
    (hk : E.wp P env H K (.del KK m' k')) : OpOk P a ⟨dst, .call ⟨.builtin .delete, #[m, k], ats⟩, ty, pos, af, g⟩ K ι H w := by
  have hvm := X.sound hE hm
  have hvk := X.sound hE hk'
  have hexec : ∀ (w' : World), (Builtin.delete_ ats ty #[a.eval m, a.eval k]).run P w = .ok (.tuple #[]) w' → (execOp a.eval ⟨dst, .call ⟨.builtin .delete, #[m, k], ats⟩, ty, pos, af, g⟩).run P w = .ok (.value (.tuple #[])) w' := by
    intro w' h
    simp only [execOp, resolve, Sem.run_bind, Sem.run_pure, Result.andThen_ok, invoke, builtin, List.map_toArray, List.map_cons, List.map_nil, h]
  rcases hk with ⟨h1, hfit, hk⟩ | ⟨id, es, r, h1, hH, hf, hk⟩
  · rw [h1] at hvm
    generalize hum : a.eval m = um at *
    cases hvm
    refine OpOk.value (u := .tuple #[]) (w' := w) (hexec w ?_) hk (VR.undef _ _) hR (Ext.refl _ _ _)
    simp [Builtin.delete_, hats, run_underlying hun, checkKey_run (P := P) (w := w) hkt hvk hfit true]
  · rw [h1] at hvm
    generalize hum : a.eval m = um at *
    generalize huk : a.eval k = uk at *
    generalize k'.ev env = kk at *
    cases hvm with
    | map _ b o hι =>
      obtain ⟨b', off, hι', ms, clock, hb, hent, hborn, huniq⟩ := hR.obj _ _ hH
      rw [hι] at hι'; cases hι'
      have hget := run_getObj (P := P) hb (by intro c e f h; cases h)
      have hck := checkKey_run (P := P) (w := w) hkt hvk (findI_fits hf) ms.isEmpty
      have hfk := findKey_ok hkt hvk hent hf
      cases r with
      | none =>
        obtain ⟨k1, k2⟩ := hR.wroteMap hH hι hb (es' := es) (ms' := ms) (clock' := clock) (d := w.drawn) hent hborn huniq
        refine OpOk.value (u := .tuple #[]) (w' := { w with heap := w.heap.setIfInBounds b (.map ms clock) }) (hexec _ ?_) hk (VR.undef _ _) k1 k2
        simp only [Builtin.delete_, hats, Sem.run_bind, run_underlying hun, Result.andThen_ok, hget, hck, hfk, Option.map_none, setObj_run (P := P) hb (by intro c e f h; cases h), Sem.run_pure, List.getElem?_toArray, List.getElem?_cons_zero, List.getElem?_cons_succ]
      | some i =>
        have her : (ms.eraseIdxIfInBounds i).toList = ms.toList.eraseIdx i := by simp
        obtain ⟨k1, k2⟩ := hR.wroteMap hH hι hb (es' := es.eraseIdx i) (ms' := ms.eraseIdxIfInBounds i) (clock' := clock) (d := w.drawn)
          (by
            rw [her]
            refine ⟨?_, ?_⟩
            · rw [map_erase, map_erase]; exact hent.keys.eraseIdx i
            · rw [map_erase, map_erase]; exact hent.vals.eraseIdx i)
          (fun j e he => by
            rw [← Array.getElem?_toList, her, List.getElem?_eraseIdx, Array.getElem?_toList, Array.getElem?_toList] at he
            split at he
            · exact hborn _ e he
            · exact hborn _ e he)
          (fun j l e e' he he' hbo => by
            rw [← Array.getElem?_toList, her, List.getElem?_eraseIdx, Array.getElem?_toList, Array.getElem?_toList] at he he'
            split at he <;> split at he'
            · exact huniq _ _ e e' he he' hbo
            · have := huniq _ _ e e' he he' hbo; omega
            · have := huniq _ _ e e' he he' hbo; omega
            · have := huniq _ _ e e' he he' hbo; omega)
        refine OpOk.value (u := .tuple #[]) (w' := { w with heap := w.heap.setIfInBounds b (.map (ms.eraseIdxIfInBounds i) clock) }) (hexec _ ?_) hk (VR.undef _ _) k1 k2
        simp only [Builtin.delete_, hats, Sem.run_bind, run_underlying hun, Result.andThen_ok, hget, hck, hfk, Option.map_some, setObj_run (P := P) hb (by intro c e f h; cases h), Sem.run_pure, List.getElem?_toArray, List.getElem?_cons_zero, List.getElem?_cons_succ]

theorem enters_run {f : FuncId} (h : Enters P f) (args : Array Value) : (callFunc f args).run P w = .ok (.enter f args) w := by
  obtain ⟨fn, h1, h2, h3⟩ := h
  simp only [callFunc, Sem.run_bind, run_program, Result.andThen_ok, h1, h2, h3, Bool.false_eq_true, if_false, Sem.run_pure]

theorem OpOk.enter {o : Oper} {f : FuncId} {us : List Value} (hr : (execOp a.eval o).run P w = .ok (.enter f ⟨us⟩) w) {vs : List V} (hv : VRs ι w vs us) (hR : Rel ι H w) (hk : CallsC P f vs H K) : OpOk P a o K ι H w := fun ro Kw Qw h => by
  refine ⟨fun _ _ => trivial, ?_⟩
  rw [semAt_run _ hr (fun _ h => by cases h)]
  rw [Oper.uponIn_enter]
  refine ⟨fun h => (by cases h), ?_⟩
  show CallsIn Fence.wide 0 P f ⟨us⟩ w _
  refine callsIn_wide.2 ((hk.2 ι w us hR hv).mono ?_)
  rintro e w' ⟨ι', H', v, u, rfl, g1, g2, g3, g4⟩
  exact h v ι' H' u w' g4 g1 g2 g3

theorem OpOk.round {o : Oper} {b : Nat} {f : FuncId} {tmps : Array Value} {as bd : Code} (hr : (execOp a.eval o).run P w = .ok (.round b f tmps as bd) w)
    (hk : RoundIn Fence.wide 0 P b f tmps as bd w fun e w' => ∃ (ι' : Pl) (H' : Heap) (v : V) (u : Value), e = .returned u ∧ VR ι' w' v u ∧ Rel ι' H' w' ∧ Ext ι H w ι' H' w' ∧ K v H') : OpOk P a o K ι H w := fun ro Kw Qw h => by
  refine ⟨fun _ _ => trivial, ?_⟩
  rw [semAt_run _ hr (fun _ h => by cases h)]
  rw [Oper.uponIn_round]
  refine ⟨fun h => (by cases h), ?_⟩
  show RoundIn Fence.wide 0 P b f tmps as bd w _
  refine hk.mono ?_
  rintro e w' ⟨ι', H', v, u, rfl, g1, g2, g3, g4⟩
  exact h v ι' H' u w' g4 g1 g2 g3

theorem ef_rangeM (hE : EnvR n ι w env a) (hR : Rel ι H w) {t kt et : TypeId} {m : Operand} {m' : X} (hun : P.underlying t = some (.map kt et)) (hm : compX n m = some m')
    {dst : Option Tmp} {ty : TypeId} {pos : String} {af : Array Edge} {g : Option (Nat × Bool)} (hk : E.wp P env H K (.rangeM m')) : OpOk P a ⟨dst, .range t m, ty, pos, af, g⟩ K ι H w := by
  obtain ⟨id, es, h1, hH, hk⟩ := hk
  have hvm := X.sound hE hm
  rw [h1] at hvm
  generalize hum : a.eval m = um at *
  cases hvm with
  | map _ b o hι =>
    obtain ⟨b', off, hι', ms, clock, hb, hent, hborn, huniq⟩ := hR.obj _ _ hH
    rw [hι] at hι'; cases hι'
    have hget := run_getObj (P := P) hb (by intro c e f h; cases h)
    have hS : ObjR ι w b o (.mapS es (ms.toList.map (·.born)) clock) := ⟨ms, hb, hent, hborn, huniq, rfl⟩
    have hR1 : Rel ι (H.set id (.mapS es (ms.toList.map (·.born)) clock)) w := hR.write hH rfl hι (Shp.refl w) (fun _ _ => rfl) hS
    have hX1 : Ext ι H w ι (H.set id (.mapS es (ms.toList.map (·.born)) clock)) w := Ext.write hH rfl hι (Shp.refl w) (fun _ _ => rfl) rfl (Tape.refl w) rfl rfl rfl
    obtain ⟨it, h00, hid, hι2⟩ := hR1.fresh
    have hp := Push.mk' w (.mapIter (some b) clock #[] clock)
    have k1 := hR1.new (o := .miter id clock [] clock) h00 hid hι2 hp.shp hp.old ⟨rfl, b, o, Pl.le_add _ hι2 _ _ hι, hp.new⟩
    have k2 := Ext.new (o := .miter id clock [] clock) hR1 hid hι2 hp.shp hp.old hp.os hp.tape hp.output (by rw [hp.size]; omega) rfl
    refine OpOk.value (u := .pointer (some ⟨w.heap.size, 0, none⟩)) (w' := { w with heap := w.heap.push (.mapIter (some b) clock #[] clock) }) ?_ (hk _ _ ?_ ?_ ?_ it h00 hid) (.ptr _ _ _ _ (Pl.add_same _ _ _)) k1 (hX1.trans k2)
    · simp [execOp, Instr.range, Sem.run_bind, run_underlying hun, hum, hget]
    · have := hent.keys.length
      simpa using this.symm
    · rw [List.nodup_iff_pairwise_ne, List.pairwise_iff_getElem]
      intro i j hi hj hij hne
      rw [List.getElem_map, List.getElem_map] at hne
      have := huniq i j _ _ (by rw [← Array.getElem?_toList]; exact List.getElem?_eq_getElem (by simpa using hi)) (by rw [← Array.getElem?_toList]; exact List.getElem?_eq_getElem (by simpa using hj)) hne
      omega
    · intro x hx
      obtain ⟨e, he, rfl⟩ := List.mem_map.1 hx
      obtain ⟨i, hi⟩ := List.getElem?_of_mem he
      exact hborn i e (by rw [← Array.getElem?_toList]; exact hi)

theorem next_run {r mb clk : Nat} {seen : List Nat} {ms : Array MapEntry} {ty : TypeId} (hr : w.heap[r]? = some (.mapIter (some mb) clk ⟨seen⟩ clk)) (hm : w.heap[mb]? = some (.map ms clk)) (hb : ∀ (i : Nat) (e : MapEntry), ms[i]? = some e → e.born < clk) :
    ((∀ e ∈ ms, e.born ∈ seen) ∧ (Instr.next (.pointer (some ⟨r, 0, none⟩)) false ty).run P w = .ok (.tuple #[.bool false]) w) ∨
    ∃ (i : Nat) (e : MapEntry) (d : Nat), ms[i]? = some e ∧ e.born ∉ seen ∧ w.drawn ≤ d ∧
      (Instr.next (.pointer (some ⟨r, 0, none⟩)) false ty).run P w = .ok (.tuple #[.bool true, e.key, e.val]) { w with drawn := d, heap := w.heap.setIfInBounds r (.mapIter (some mb) clk ⟨seen ++ [e.born]⟩ clk) } := by
  have hget1 := run_getObj (P := P) hr (by intro c e f h; cases h)
  have hget2 := run_getObj (P := P) hm (by intro c e f h; cases h)
  have hset : ∀ (d : Nat) (o' : Obj), (setObj r o').run P { w with drawn := d } = .ok () { w with drawn := d, heap := w.heap.setIfInBounds r o' } := fun d o' => by
    rw [setObj_run (P := P) (w := { w with drawn := d }) (o := .mapIter (some mb) clk ⟨seen⟩ clk) hr (by intro c e f h; cases h)]
  have hun : ((!(⟨seen⟩ : Array Nat).isEmpty && !ms.isEmpty && ms.all (fun e => decide (e.born ≥ clk))) = true) → False := by
    intro h
    simp only [Bool.and_eq_true, Bool.not_eq_true', Array.all_eq_true, decide_eq_true_eq] at h
    obtain ⟨⟨_, h2⟩, h3⟩ := h
    have hpos : 0 < ms.size := by
      rcases Nat.eq_zero_or_pos ms.size with h0 | h0
      · rw [Array.eq_empty_of_size_eq_zero h0] at h2; simp at h2
      · exact h0
    have g1 := h3 0 hpos
    have g2 := hb 0 ms[0] (Array.getElem?_eq_getElem hpos)
    omega
  have hold : (ms.filter fun e => !(⟨seen⟩ : Array Nat).contains e.born).filter (fun e => decide (e.born < clk)) = ms.filter fun e => !(⟨seen⟩ : Array Nat).contains e.born := by
    rw [Array.filter_eq_self]
    intro e he
    obtain ⟨i, hi, rfl⟩ := Array.mem_iff_getElem.1 (Array.mem_filter.1 he).1
    simpa using hb i ms[i] (Array.getElem?_eq_getElem hi)
  have hnew : (ms.filter fun e => !(⟨seen⟩ : Array Nat).contains e.born).filter (fun e => decide (e.born ≥ clk)) = #[] := by
    rw [Array.filter_eq_empty_iff]
    intro e he
    obtain ⟨i, hi, rfl⟩ := Array.mem_iff_getElem.1 (Array.mem_filter.1 he).1
    have := hb i ms[i] (Array.getElem?_eq_getElem hi)
    simp; omega
  generalize hL : (ms.filter fun e => !(⟨seen⟩ : Array Nat).contains e.born) = L at hold hnew
  by_cases h0 : L.size = 0
  · left
    have hLe : L = #[] := Array.eq_empty_of_size_eq_zero h0
    refine ⟨fun e he => ?_, ?_⟩
    · rw [hLe, Array.filter_eq_empty_iff] at hL
      have := hL e he
      simpa using this
    · subst hLe
      simp only [Instr.next, Sem.run_bind, hget1, hget2, Result.andThen_ok, if_neg hun, hL, hold, hnew]
      simp [choose, Sem.run, Question.forced]
  · right
    have hch : ∃ (j d : Nat), j < L.size ∧ w.drawn ≤ d ∧ (choose (Question.mapNext L.size)).run P w = .ok j { w with drawn := d } := by
      by_cases hf : L.size ≤ 1
      · exact ⟨0, w.drawn, by omega, Nat.le_refl _, by simp [choose, Sem.run, Question.forced, hf]⟩
      · exact ⟨_, w.drawn + 1, Nat.mod_lt _ (by omega), Nat.le_succ _, by
          simp only [choose, Sem.run, Question.forced, decide_eq_true_eq, hf, if_false, Question.cut]
          rfl⟩
    obtain ⟨j, d, hj, hd, hrun⟩ := hch
    subst hL
    have hmem := Array.getElem_mem hj
    obtain ⟨hm1, hm2⟩ := Array.mem_filter.1 hmem
    obtain ⟨i, hi, hie⟩ := Array.mem_iff_getElem.1 hm1
    refine ⟨i, _, d, by rw [Array.getElem?_eq_getElem hi, hie], by simpa using hm2, hd, ?_⟩
    have hne : (ms.filter fun e => !(⟨seen⟩ : Array Nat).contains e.born).isEmpty = false := decide_eq_false h0
    simp only [Instr.next, Sem.run_bind, hget1, hget2, Result.andThen_ok, if_neg hun, hold, hnew, hne, Bool.false_eq_true, if_false, Array.empty_append, Array.append_empty, Array.size_map, hrun]
    simp only [Array.getElem?_map, Array.getElem?_eq_getElem hj, Option.map_some, Sem.run_bind, hset, Result.andThen_ok, Sem.run_pure]
    simp
theorem ef_nextM (hE : EnvR n ι w env a) (hR : Rel ι H w) {x : Operand} {x' : X} (hx : compX n x = some x')
    {dst : Option Tmp} {ty : TypeId} {pos : String} {af : Array Edge} {g : Option (Nat × Bool)} (hk : E.wp P env H K (.nextM x')) : OpOk P a ⟨dst, .next x false, ty, pos, af, g⟩ K ι H w := by
  obtain ⟨it, mid, es, bs, clk, seen, h1, hI, hM, hK0, hK1⟩ := hk
  have hvx := X.sound hE hx
  rw [h1] at hvx
  generalize hux : a.eval x = ux at *
  cases hvx with
  | ptr _ _ r o hι =>
    obtain ⟨r', o', hι', rfl, mb, mo, hmι, hit⟩ := hR.obj _ _ hI
    rw [hι] at hι'; cases hι'
    obtain ⟨mb', mo', hmι', ms, hm, hent, hborn, huniq, hbs⟩ := hR.obj _ _ hM
    rw [hmι] at hmι'; cases hmι'
    rcases next_run (P := P) (ty := ty) hit hm hborn with ⟨hall, hrun⟩ | ⟨i, e, d, hi, hns, hd, hrun⟩
    · refine OpOk.value (u := .tuple #[.bool false]) (w' := w) ?_ (hK0 ?_) (.tup _ _ (.cons _ _ _ _ (.bool _) .nil)) hR (Ext.refl _ _ _)
      · simp only [execOp, hux, Nat.add_zero, Sem.run_bind, hrun, Result.andThen_ok, Sem.run_pure]
      · intro b hb
        rw [← hbs] at hb
        obtain ⟨e, he, rfl⟩ := List.mem_map.1 hb
        exact hall e (by simpa using he)
    · have hi' : ms.toList[i]? = some e := by rw [Array.getElem?_toList]; exact hi
      have hbi : bs[i]? = some e.born := by rw [← hbs, List.getElem?_map, hi']; rfl
      obtain ⟨ea, hea⟩ : ∃ ea, es[i]? = some ea := by
        have hl := hent.keys.length
        simp only [List.length_map] at hl
        have := (List.getElem?_eq_some_iff.1 hi').1
        exact ⟨es[i], List.getElem?_eq_getElem (by omega)⟩
      have hkv : VR ι w ea.1 e.key := by
        obtain ⟨u, q1, q2⟩ := hent.keys.get (i := i) (v := ea.1) (by simp [hea])
        rw [List.getElem?_map, hi'] at q1; cases q1; exact q2
      have hvv : VR ι w ea.2 e.val := by
        obtain ⟨u, q1, q2⟩ := hent.vals.get (i := i) (v := ea.2) (by simp [hea])
        rw [List.getElem?_map, hi'] at q1; cases q1; exact q2
      have hlt := (Array.getElem?_eq_some_iff.1 hit).1
      have hold : ∀ k, k ≠ r → (w.heap.setIfInBounds r (.mapIter (some mb) clk ⟨seen ++ [e.born]⟩ clk))[k]? = w.heap[k]? := fun k hk => by rw [Array.getElem?_setIfInBounds_ne (Ne.symm hk)]
      have hs : Shp w { w with drawn := d, heap := w.heap.setIfInBounds r (.mapIter (some mb) clk ⟨seen ++ [e.born]⟩ clk) } := by
        intro b2 c2 e2 f2 g2
        by_cases hbb : b2 = r
        · subst hbb; rw [hit] at g2; cases g2
        · exact ⟨c2, f2, by show (w.heap.setIfInBounds r _)[b2]? = _; rw [hold b2 hbb]; exact g2, keepF rfl⟩
      have hn : ObjR ι { w with drawn := d, heap := w.heap.setIfInBounds r (.mapIter (some mb) clk ⟨seen ++ [e.born]⟩ clk) } r 0 (.miter mid clk (seen ++ [e.born]) clk) :=
        ⟨rfl, mb, mo, hmι, by show (w.heap.setIfInBounds r _)[r]? = _; simp [hlt]⟩
      refine OpOk.value (u := .tuple #[.bool true, e.key, e.val]) (w' := { w with drawn := d, heap := w.heap.setIfInBounds r (.mapIter (some mb) clk ⟨seen ++ [e.born]⟩ clk) }) ?_ (hK1 i ea e.born hea hbi hns)
        (.tup _ _ (.cons _ _ _ _ (.bool _) (.cons _ _ _ _ (hkv.mono (fun _ _ h => h) hs) (.cons _ _ _ _ (hvv.mono (fun _ _ h => h) hs) .nil)))) (hR.write hI rfl hι hs hold hn) (Ext.write hI rfl hι hs hold rfl ⟨rfl, hd⟩ rfl (by simp) rfl)
      simp only [execOp, hux, Nat.add_zero, Sem.run_bind, hrun, Result.andThen_ok, Sem.run_pure]
theorem ef_entryM (hE : EnvR n ι w env a) (hR : Rel ι H w) {x : Operand} {x' : X} (hx : compX n x = some x')
    {dst : Option Tmp} {ty : TypeId} {pos : String} {af : Array Edge} {g : Option (Nat × Bool)} (hk : E.wp P env H K (.entryM x')) : OpOk P a ⟨dst, .entry x, ty, pos, af, g⟩ K ι H w := by
  obtain ⟨it, mid, es, bs, clk, seen, i, ea, b, h1, hI, hM, hea, hbi, hk⟩ := hk
  have hvx := X.sound hE hx
  rw [h1] at hvx
  generalize hux : a.eval x = ux at *
  cases hvx with
  | ptr _ _ r o hι =>
    obtain ⟨r', o', hι', rfl, mb, mo, hmι, hit⟩ := hR.obj _ _ hI
    rw [hι] at hι'; cases hι'
    obtain ⟨mb', mo', hmι', ms, hm, hent, hborn, huniq, hbs⟩ := hR.obj _ _ hM
    rw [hmι] at hmι'; cases hmι'
    have hget1 := run_getObj (P := P) hit (by intro c e f h; cases h)
    have hget2 := run_getObj (P := P) hm (by intro c e f h; cases h)
    rw [← hbs, List.getElem?_map] at hbi
    obtain ⟨e, hi', rfl⟩ := Option.map_eq_some_iff.1 hbi
    have hi : ms[i]? = some e := by rw [← Array.getElem?_toList]; exact hi'
    obtain ⟨hlt, hei⟩ := Array.getElem?_eq_some_iff.1 hi
    have hkv : VR ι w ea.1 e.key := by
      obtain ⟨u, q1, q2⟩ := hent.keys.get (i := i) (v := ea.1) (by simp [hea])
      rw [List.getElem?_map, hi'] at q1; cases q1; exact q2
    have hvv : VR ι w ea.2 e.val := by
      obtain ⟨u, q1, q2⟩ := hent.vals.get (i := i) (v := ea.2) (by simp [hea])
      rw [List.getElem?_map, hi'] at q1; cases q1; exact q2
    have hfind : ms.find? (fun x => x.born == e.born) = some e := by
      rw [Array.find?_eq_some_iff_getElem]
      refine ⟨by simp, i, hlt, hei, fun j hj => ?_⟩
      simp only [Bool.not_eq_true', beq_eq_false_iff_ne]
      intro hc
      have := huniq j i ms[j] e (Array.getElem?_eq_getElem (by omega)) hi hc
      omega
    have hback : (⟨seen ++ [e.born]⟩ : Array Nat).back? = some e.born := by simp [Array.back?]
    refine OpOk.value (u := .tuple #[e.key, e.val]) (w' := w) ?_ hk (.tup _ _ (.cons _ _ _ _ hkv (.cons _ _ _ _ hvv .nil))) hR (Ext.refl _ _ _)
    simp only [execOp, hux, Nat.add_zero, Instr.entry, Sem.run_bind, hget1, hget2, Result.andThen_ok, hback, hfind, bne_self_eq_false, Bool.false_eq_true, if_false, Sem.run_pure]
theorem ef_allocT (_hE : EnvR n ι w env a) (hR : Rel ι H w) {t : TypeId} {z : List V} (hz : zeroCells P t = some z) {dst : Option Tmp} {ty : TypeId} {pos : String} {af : Array Edge} {g : Option (Nat × Bool)}
    (hk : E.wp P env H K (.allocT t z)) : OpOk P a ⟨dst, .alloc t, ty, pos, af, g⟩ K ι H w := by
  obtain ⟨u, h1, h2, h3, _⟩ := zeroCells_run hz
  obtain ⟨id, h00, hid, hι⟩ := hR.fresh
  have hp := Push.mk' w (.cells u.cells t)
  obtain ⟨g1, g2⟩ := hR.push h00 hid hι hp (h2 ι w) h3 (List.prefix_refl _)
  refine OpOk.value (u := .pointer (some ⟨w.heap.size, 0, none⟩)) (w' := { w with heap := w.heap.push (.cells u.cells t) }) ?_ (hk id h00 hid) ?_ g1 g2
  · simp [execOp, Instr.alloc, h1, newVar, newRow]
  · exact .ty _ _ _ _ _ _ _ _ (Pl.add_same _ _ _) hp.new (.inr (by have := (h2 ι w).length; simpa using this.symm)) (Nat.zero_le _) (.ptr _ _ _ _ (Pl.add_same _ _ _)) rfl
theorem ef_allocE (hE : EnvR n ι w env a) (hR : Rel ι H w) {t : TypeId} {z : List V} (hz : zeroCells P t = some z) {dst : Option Tmp} {ty : TypeId} {pos : String} {af : Array Edge} {g : Option (Nat × Bool)}
    (hk : E.wp P env H K (allocE t z)) : OpOk P a ⟨dst, .alloc t, ty, pos, af, g⟩ K ι H w := by
  unfold allocE at hk
  split at hk
  · exact ef_allocT hE hR hz hk
  · exact ef_alloc hE hR hz hk
theorem ef_appT (hE : EnvR n ι w env a) (hR : Rel ι H w) {t t2 e : TypeId} (hun : P.underlying t = some (.slice e)) {d2 : TypeDesc} (hun2 : P.underlying t2 = some d2) (hd2 : ∀ k, d2 ≠ .int k) {s by_ : Nat} (hs : sizeT P e = some s) (hby : bytesT P e = some by_)
    {z : V} (hz : zeroT P e = some z) (hzl : z.cells.length = s) (hzt : z.isTup = false) (hby0 : 0 < by_) {x y : Operand} {x' y' : X} (hx : compX n x = some x') (hy : compX n y = some y') {dst : Option Tmp} {ty : TypeId} {pos : String} {af : Array Edge} {g : Option (Nat × Bool)}
    (hk : E.wp P env H K (.appT e s by_ x' y')) : OpOk P a ⟨dst, .call ⟨.builtin .append, #[x, y], #[t, t2]⟩, ty, pos, af, g⟩ K ι H w := by
  rcases hk with hk | ⟨m, vs, hsrc, hm0, hk⟩
  · exact ef_app hE hR hun hun2 hd2 hs hby hz hzl hzt hby0 hx hy hk
  have hvx := X.sound hE hx
  have hvy := X.sound hE hy
  obtain ⟨us, u1, u2, u3, u4, u5⟩ := src_run (P := P) hR hvy hsrc
  obtain ⟨zu, hz1, hz2, i, hi, hiz⟩ := run_zero hz
  have hzs : zu.cells.size = i.size := by
    have h1 := ((hz2 ι w).cells hzt).1.length
    have h2 : i.size = s := by obtain ⟨i', h3, h4⟩ := sizeT_info hs; rw [hi] at h3; cases h3; exact h4
    simp at h1; omega
  have his : i.size = s := by obtain ⟨i', h3, h4⟩ := sizeT_info hs; rw [hi] at h3; cases h3; exact h4
  have hib : i.bytes = by_ := by simp only [bytesT, hi, Option.map_some, Option.some.injEq] at hby; exact hby
  obtain ⟨id', h00, hid', hι'⟩ := hR.fresh
  have hexec : ∀ (u : Value) (w' : World), (Builtin.append_ #[t, t2] ty #[a.eval x, a.eval y]).run P w = .ok u w' → (execOp a.eval ⟨dst, .call ⟨.builtin .append, #[x, y], #[t, t2]⟩, ty, pos, af, g⟩).run P w = .ok (.value u) w' := by
    intro u w' h
    simp only [execOp, resolve, Sem.run_bind, Sem.run_pure, Result.andThen_ok, invoke, builtin, List.map_toArray, List.map_cons, List.map_nil, h]
  rcases hk with ⟨hd, hb, hk⟩ | ⟨kk, id, len, cs, hd, hH, hfit, hb, hk⟩
  · rw [hd] at hvx
    generalize hu : a.eval x = u at *
    cases hvx
    obtain ⟨w', cap, c, g1, g2, g3, g4, g5⟩ := append_grow (P := P) (w := w) (ty := ty) hun hun2 hd2 hi hiz hzs (by omega) (base := none) (sLen := 0) (sCap := 0) (m := m) (u := a.eval y) (olds := []) (news := us) (by simp) (fun _ _ => rfl)
      (by rw [his]; exact u1) u4 (by rw [his]; exact u5) (by omega) (by rw [Nat.zero_add, hib]; exact hb)
    simp only [Nat.zero_add, List.nil_append] at g1 g3 g5
    obtain ⟨k1, k2⟩ := hR.push h00 hid' hι' g2 u2 u3 g5
    refine OpOk.value (u := .slice (some ⟨w.heap.size, 0, none⟩) m cap) (w' := w') (hexec _ _ g1) (hk id' h00 hid') ?_ k1 k2
    exact .ty _ _ _ _ _ _ _ _ (Pl.add_same _ _ _) g2.new (.inl rfl) (Nat.zero_le _) (.slice _ _ _ _ _ _ g3 fun _ => ⟨w.heap.size, 0, c, e, (0, 0), Pl.add_same _ _ _, by simp, g2.new, by rw [g4, his]; omega⟩) rfl
  · rw [hd] at hvx
    generalize hu : a.eval x = u at *
    cases hvx with
    | ty _ _ _ bt _ _ ct ft hιt hbt hkt hft hvt hot =>
    cases hvt with
    | slice0 => obtain ⟨b, o, hι, _⟩ := hR.obj _ _ hH; rw [hR.zero] at hι; cases hι
    | slice _ _ _ _ ad cap hl hc =>
      obtain ⟨b, o, hι, c, e', f, hbl, hcs, hfr, hcl⟩ := hR.obj _ _ hH
      rw [hιt] at hι; cases hι
      rw [hbt] at hbl; cases hbl
      have hfit0 : 0 + len * s ≤ cs.length := by omega
      have hgc : getCells cs 0 (len * s) = some ((cs.drop 0).take (len * s)) := by
        unfold getCells; rw [Nat.ble_eq_true_of_le hfit0]; rfl
      have hold : ∃ olds : List Value, olds.length = len * s ∧ VRs ι w (cs.take (len * s)) olds ∧ olds.all one = true ∧ (∀ w' : World, w'.heap = w.heap → (Builtin.firstCells s len (.slice (some ad) len cap)).run P w' = .ok ⟨olds⟩ w') := by
        obtain ⟨us, h1, h2, h3, h4, h5⟩ := src_run (P := P) hR (.slice id 0 len s ad cap hl hc) (m := len) (vs := (cs.drop 0).take (len * s)) (esz := s) (srcCells_slice hH hgc)
        exact ⟨us, h1, h2, h3, h5⟩
      obtain ⟨olds, o1, o2, o3, o4⟩ := hold
      by_cases hroom : len + m ≤ cap
      · obtain ⟨b', o', c', e2, f', hι2, rfl, hb', hfit'⟩ := hc (by omega)
        rw [hιt] at hι2; cases hι2
        rw [hbt] at hb'; cases hb'
        have hms : len * s + m * s ≤ cap * s := by rw [← Nat.add_mul]; exact Nat.mul_le_mul_right _ hroom
        obtain ⟨w', c', g1, g2, g3, g4, g5⟩ := storeCells_run (P := P) (o := 0 + 0 + len * s) us 0 w ct hbt (hfr rfl) (by omega) u3
        have hrest : w'.heap.size = w.heap.size ∧ w'.os = w.os ∧ Tape w w' ∧ w'.output = w.output ∧ ∀ k, k ≠ bt → w'.heap[k]? = w.heap[k]? := by
          rcases g2 with rfl | g2
          · exact ⟨rfl, rfl, Tape.refl _, rfl, fun _ _ => rfl⟩
          · exact ⟨g2.size, g2.os, g2.tape, g2.output, g2.old⟩
        obtain ⟨r1, r2, r3, r4, r5⟩ := hrest
        have hshp : Shp w w' := by
          intro b2 c2 e3 f2 h2
          by_cases hbb : b2 = bt
          · subst hbb; rw [hbt] at h2; cases h2; exact ⟨c', _, g3, keepF g4⟩
          · exact ⟨c2, f2, by rw [r5 b2 hbb]; exact h2, keepF rfl⟩
        have hle := Pl.le_add (ι := ι) (id := id') (bt, 0) hι'
        have hobj : ObjR (ι.add id' (bt, 0)) w' bt 0 (.cells true (cs.take (len * s) ++ vs)) := by
          have lo := o2.length
          have lv := u2.length
          refine ⟨c', e, ft, g3, fun k v hk => ?_, fun _ k hk => hfr rfl k (by omega), by rw [List.length_append, g4]; omega⟩
          rw [← Array.getElem?_toList, g5]
          have e1 : (ct.toList.take (0 + 0 + len * s + 0)).length = len * s := by simp; omega
          by_cases hk1 : k < len * s
          · rw [List.getElem?_append_left (by omega)] at hk
            rw [List.getElem?_take_of_lt hk1] at hk
            obtain ⟨u, q1, q2, q3⟩ := hcs _ v hk
            refine ⟨u, ?_, q2.mono hle hshp, q3⟩
            rw [List.append_assoc, List.getElem?_append_left (by omega), List.getElem?_take_of_lt (by omega), Array.getElem?_toList, ← q1]
          · rw [List.getElem?_append_right (by omega)] at hk
            obtain ⟨u, q1, q2⟩ := u2.get hk
            refine ⟨u, ?_, q2.mono hle hshp, List.all_eq_true.1 u3 u (List.mem_of_getElem? q1)⟩
            have hklt := (List.getElem?_eq_some_iff.1 q1).1
            rw [List.append_assoc, List.getElem?_append_right (by omega), List.getElem?_append_left (by omega), e1, ← q1]
            congr 1; omega
        obtain ⟨k1, k2⟩ := hR.takeover h00 hH rfl hιt hid' hι' hshp r5 r2 r3 r4 r1 hobj rfl
        have hdel : (H.del id) id' = none := by
          by_cases h : id' = id
          · subst h; exact Heap.del_same _ _
          · rw [Heap.del_ne _ h]; exact hid'
        refine OpOk.value (u := .slice (some ⟨bt, 0 + 0, none⟩) (len + m) cap) (w' := w') (hexec _ _ ?_) (hk id' h00 hdel) ?_ k1 k2
        · have u4' := u4 w
          have u5' := u5 w rfl
          simp only [Nat.zero_add] at g1
          simp [Builtin.append_, run_underlying hun, run_underlying hun2, sizeOf, typeInfo, hi, his, u4', u5', hroom, Addr.add_lit, g1]
        · exact .ty _ _ _ _ _ _ _ _ (Pl.add_same _ _ _) g3 (.inl rfl) (by rw [g4]; exact hft) (.slice _ _ _ _ _ _ hroom fun _ => ⟨bt, 0, c', e, ft, Pl.add_same _ _ _, by simp, g3, by omega⟩) rfl
      · obtain ⟨w', cap', c', g1, g2, g3, g4, g5⟩ := append_grow (P := P) (w := w) (ty := ty) hun hun2 hd2 hi hiz hzs (by omega) (base := some ad) (sLen := len) (sCap := cap) (m := m) (u := a.eval y) (olds := olds) (news := us) (by rw [his]; exact o1)
          (by rw [his]; exact o4) (by rw [his]; exact u1) u4 (by rw [his]; exact u5) (by omega) (by rw [hib]; exact hb)
        have hdel : (H.del id) id' = none := by
          by_cases h : id' = id
          · subst h; exact Heap.del_same _ _
          · rw [Heap.del_ne _ h]; exact hid'
        have hR' := hR.weaken (Heap.del_le H id)
        obtain ⟨k1, k2⟩ := hR'.push h00 hdel hι' g2 (o2.append u2) (by rw [List.all_append, o3, u3]; rfl) g5
        have hE' : Ext ι H w ι (H.del id) w := (Ext.refl ι H w).forget (Heap.del_le H id)
        refine OpOk.value (u := .slice (some ⟨w.heap.size, 0, none⟩) (len + m) cap') (w' := w') (hexec _ _ g1) (hk id' h00 hdel) ?_ k1 (hE'.trans k2)
        exact .ty _ _ _ _ _ _ _ _ (Pl.add_same _ _ _) g2.new (.inl rfl) (Nat.zero_le _) (.slice _ _ _ _ _ _ g3 fun _ => ⟨w.heap.size, 0, c', e, (0, 0), Pl.add_same _ _ _, by simp, g2.new, by rw [g4, his]; omega⟩) rfl
theorem ef_appE (hE : EnvR n ι w env a) (hR : Rel ι H w) {t t2 e : TypeId} (hun : P.underlying t = some (.slice e)) {d2 : TypeDesc} (hun2 : P.underlying t2 = some d2) (hd2 : ∀ k, d2 ≠ .int k) {s by_ : Nat} (hs : sizeT P e = some s) (hby : bytesT P e = some by_)
    {z : V} (hz : zeroT P e = some z) (hzl : z.cells.length = s) (hzt : z.isTup = false) (hby0 : 0 < by_) {x y : Operand} {x' y' : X} (hx : compX n x = some x') (hy : compX n y = some y') {dst : Option Tmp} {ty : TypeId} {pos : String} {af : Array Edge} {g : Option (Nat × Bool)}
    (hk : E.wp P env H K (appE P e s by_ x' y')) : OpOk P a ⟨dst, .call ⟨.builtin .append, #[x, y], #[t, t2]⟩, ty, pos, af, g⟩ K ι H w := by
  unfold appE at hk
  split at hk
  · exact ef_appT hE hR hun hun2 hd2 hs hby hz hzl hzt hby0 hx hy hk
  · exact ef_app hE hR hun hun2 hd2 hs hby hz hzl hzt hby0 hx hy hk

theorem Rel.drop {w' : World} (h : Rel ι H w) {id : Nat} {o : HObj} (hH : H id = some o) (hrw : o.rw = true) {b off : Nat} (hι : ι id = some (b, off)) (hs : Shp w w') (hf : ∀ k, k ≠ b → w'.heap[k]? = w.heap[k]?)
    (hos : w'.os = w.os) (ht : Tape w w') (hout : w'.output = w.output) (hsz : w'.heap.size = w.heap.size) : Rel ι (H.del id) w' ∧ Ext ι H w ι (H.del id) w' := by
  have old : ∀ i x, (H.del id) i = some x → i ≠ id ∧ H i = some x := by
    intro i x hx
    by_cases hii : i = id
    · subst hii; rw [Heap.del_same] at hx; cases hx
    · rw [Heap.del_ne _ hii] at hx; exact ⟨hii, hx⟩
  refine ⟨⟨?_, ?_, h.fin, h.zero, h.glob⟩, ⟨fun _ _ h => h, hos, ht, hout, by omega, hs, ?_, ?_, ?_, ?_⟩⟩
  · intro i x hx
    obtain ⟨h1, h2⟩ := old i x hx
    obtain ⟨b', off2, h3, h4⟩ := h.obj i x h2
    refine ⟨b', off2, h3, h4.keep (fun _ _ h => h) hs (hf b' ?_)⟩
    rintro rfl
    exact h1 (h.inj id i o x _ off off2 hH h2 hrw hι h3).symm
  · intro i i' x x' b1 o1 o1' h1 h2 hr h3 h4
    exact h.inj i i' x x' b1 o1 o1' (old i x h1).2 (old i' x' h2).2 hr h3 h4
  · intro k _ hn
    refine hf k ?_
    rintro rfl
    exact hn ⟨id, o, off, hH, hrw, hι⟩
  · rintro k ⟨i, x, o2, h1, h2, h3⟩
    exact .inl ⟨i, x, o2, (old i x h1).2, h2, h3⟩
  · intro i x h1 h2
    rw [(old i x h1).2] at h2; cases h2
  · intro i x h1 _
    exact (old i x h1).2
theorem ef_ustr (hE : EnvR n ι w env a) (hR : Rel ι H w) {pt it e : TypeId} (hun : P.underlying pt = some (.pointer e)) (hc : P.cellsOf e = 1) {x y : Operand} {x' y' : X} (hx : compX n x = some x') (hy : compX n y = some y') {dst : Option Tmp} {ty : TypeId} {pos : String} {af : Array Edge} {g : Option (Nat × Bool)}
    (hk : E.wp P env H K (.ustr e x' y')) : OpOk P a ⟨dst, .call ⟨.builtin .unsafeString, #[x, y], #[pt, it]⟩, ty, pos, af, g⟩ K ι H w := by
  have hvx := X.sound hE hx
  have hvy := X.sound hE hy
  have hexec : ∀ (u : Value) (w' : World), (Builtin.unsafeString_ #[pt, it] ty #[a.eval x, a.eval y]).run P w = .ok u w' → (execOp a.eval ⟨dst, .call ⟨.builtin .unsafeString, #[x, y], #[pt, it]⟩, ty, pos, af, g⟩).run P w = .ok (.value u) w' := by
    intro u w' h
    simp only [execOp, resolve, Sem.run_bind, Sem.run_pure, Result.andThen_ok, invoke, builtin, List.map_toArray, List.map_cons, List.map_nil, h]
  rcases hk with ⟨h1, h2, hk⟩ | ⟨kk, id, rest, l, h1, h2, h0, hlen, hH, hk⟩
  · rw [h1] at hvx
    rw [h2] at hvy
    generalize a.eval x = u at *
    generalize a.eval y = z at *
    cases hvx
    cases hvy
    exact OpOk.value (hexec _ _ (Go.Lib.run_unsafeString_none (P := P) w pt it ty none)) hk (by have := VR.str (ι := ι) (w := w) ByteArray.empty; simpa using this) hR (Ext.refl _ _ _)
  · rw [h1] at hvx
    rw [h2] at hvy
    generalize a.eval x = u at *
    generalize a.eval y = z at *
    cases hvy
    cases hvx with
    | ty _ _ _ bt _ _ ct ft hιt hbt hkt hft hvt hot =>
    cases hvt with
    | ptr _ _ b o hι =>
      rw [hιt] at hι; cases hι
      obtain ⟨b, o, hι, c, e', f, hbl, hcs, hfr, hcl⟩ := hR.obj _ _ hH
      rw [hιt] at hι; cases hι
      rw [hbt] at hbl; cases hbl
      have hll : (bytesV l).length = l.length := by rw [bytesV_eq]; simp
      have hcell : ∀ (j : Nat) (x : UInt8), l[j]? = some x → w.cell? ((⟨bt, 0, none⟩ : Addr).add j) = some (.int .u8 x.toNat) := by
        intro j x hj
        have hjl := (List.getElem?_eq_some_iff.1 hj).1
        obtain ⟨u, q1, q2, _⟩ := hcs j (.int .u8 x.toNat) (by rw [List.getElem?_append_left (by omega), bytesV_eq, List.getElem?_map, hj]; rfl)
        cases q2
        rw [Addr.add_lit, cell_of hbt]
        exact q1
      have hrun := Go.Lib.run_unsafeString_row (P := P) w pt it ty e hun hc bt ct.size (by simp [World.shape?, hbt]) l h0 (by rw [List.length_append] at hcl; omega) hlen hcell
      have hlt := (Array.getElem?_eq_some_iff.1 hbt).1
      have hl0 : l.length ≠ 0 := by simpa using h0
      have hfz : ∀ k, k ≠ bt → (w.freeze ⟨bt, 0, none⟩ l.length).heap[k]? = w.heap[k]? := by
        intro k hk
        simp only [World.freeze, if_neg hl0, Array.getElem?_modify]
        rw [if_neg (Ne.symm hk)]
      obtain ⟨k1, k2⟩ := hR.drop (w' := w.freeze ⟨bt, 0, none⟩ l.length) hH rfl hιt (by
        intro b2 c2 e3 f2 h2
        by_cases hbb : b2 = bt
        · subst hbb
          rw [hbt] at h2; cases h2
          simp only [World.freeze, if_neg hl0, Array.getElem?_modify, if_true, hbt]
          refine ⟨ct, _, rfl, rfl, fun hle => ?_⟩
          have hl2 : l.length ≤ ct.size := by rw [List.length_append] at hcl; omega
          split
          · simp only; omega
          · simp only; omega
        · exact ⟨c2, f2, by rw [hfz b2 hbb]; exact h2, keepF rfl⟩) hfz (by simp [World.freeze, hl0]) ⟨by simp [World.freeze, hl0], by simp [World.freeze, hl0]⟩ (by simp [World.freeze, hl0]) (by simp [World.freeze, hl0])
      refine OpOk.value (u := .string ⟨l.toArray⟩) (hexec _ _ hrun) hk ?_ k1 k2
      have := VR.str (ι := ι) (w := w.freeze ⟨bt, 0, none⟩ l.length) ⟨l.toArray⟩
      simpa using this
theorem ef_rangeS (hE : EnvR n ι w env a) (hR : Rel ι H w) {t : TypeId} {m : Operand} {m' : X} (hun : P.underlying t = some .string) (hm : compX n m = some m')
    {dst : Option Tmp} {ty : TypeId} {pos : String} {af : Array Edge} {g : Option (Nat × Bool)} (hk : E.wp P env H K (.rangeS m')) : OpOk P a ⟨dst, .range t m, ty, pos, af, g⟩ K ι H w := by
  obtain ⟨s, h1, hk⟩ := hk
  have hvm := X.sound hE hm
  rw [h1] at hvm
  generalize hum : a.eval m = um at *
  cases hvm with
  | str bs =>
    obtain ⟨it, h00, hid, hι2⟩ := hR.fresh
    have hp := Push.mk' w (.stringIter bs 0)
    have k1 := hR.new (o := .siter bs.data.toList 0) h00 hid hι2 hp.shp hp.old ⟨rfl, bs, hp.new, rfl⟩
    have k2 := Ext.new (o := .siter bs.data.toList 0) hR hid hι2 hp.shp hp.old hp.os hp.tape hp.output (by rw [hp.size]; omega) rfl
    refine OpOk.value (u := .pointer (some ⟨w.heap.size, 0, none⟩)) (w' := { w with heap := w.heap.push (.stringIter bs 0) }) ?_ (hk it h00 hid) (.ptr _ _ _ _ (Pl.add_same _ _ _)) k1 k2
    simp [execOp, Instr.range, Sem.run_bind, run_underlying hun, hum]
theorem ef_nextS (hE : EnvR n ι w env a) (hR : Rel ι H w) {x : Operand} {x' : X} (hx : compX n x = some x')
    {dst : Option Tmp} {ty : TypeId} {pos : String} {af : Array Edge} {g : Option (Nat × Bool)} (hk : E.wp P env H K (.nextS x')) : OpOk P a ⟨dst, .next x true, ty, pos, af, g⟩ K ι H w := by
  obtain ⟨it, s, ps, h1, hI, hk⟩ := hk
  have hvx := X.sound hE hx
  rw [h1] at hvx
  generalize hux : a.eval x = ux at *
  obtain ⟨r, o, hι, ho, bs, hb, hs⟩ := hR.obj _ _ hI
  subst ho; subst hs
  have hlen : bs.data.toList.length = bs.size := by simp
  cases hvx with
  | ptr _ _ r' o' hι' =>
    rw [hι] at hι'; cases hι'
    have hget := run_getObj (P := P) hb (by intro c e f h; cases h)
    cases hlt : Nat.blt ps bs.data.toList.length with
    | false =>
      rw [hlt] at hk
      have hn : ¬ ps < bs.size := by
        intro h
        have : Nat.blt ps bs.data.toList.length = true := by rw [hlen]; simpa [Nat.blt, Nat.lt_iff_add_one_le] using h
        rw [hlt] at this; cases this
      refine OpOk.value (u := .tuple #[.bool false]) (w' := w) ?_ hk (.tup _ _ (.cons _ _ _ _ (.bool _) .nil)) hR (Ext.refl _ _ _)
      simp [execOp, Instr.next, Sem.run_bind, hux, hget, hn]
    | true =>
      rw [hlt] at hk
      have hn : ps < bs.size := by
        have := hlt
        rw [hlen] at this
        simpa [Nat.blt, Nat.lt_iff_add_one_le] using this
      have hd : decS bs.data.toList ps = Utf8.decode bs ps := by
        unfold decS
        congr 1
      have hset := setObj_run (P := P) (w := w) (b := r) (o := .stringIter bs ps) (o' := .stringIter bs (ps + (Utf8.decode bs ps).2)) hb (by intro c e f h; cases h)
      have hrl := (Array.getElem?_eq_some_iff.1 hb).1
      have hold : ∀ k, k ≠ r → ({ w with heap := w.heap.setIfInBounds r (.stringIter bs (ps + (Utf8.decode bs ps).2)) } : World).heap[k]? = w.heap[k]? := by
        intro k hk
        simp only [Array.getElem?_setIfInBounds]
        rw [if_neg (Ne.symm hk)]
      have hshp : Shp w { w with heap := w.heap.setIfInBounds r (.stringIter bs (ps + (Utf8.decode bs ps).2)) } := by
        intro b2 c2 e2 f2 h2
        refine ⟨c2, f2, ?_, keepF rfl⟩
        by_cases hbb : b2 = r
        · subst hbb; rw [hb] at h2; cases h2
        · rw [hold b2 hbb]; exact h2
      have hobj : ObjR ι { w with heap := w.heap.setIfInBounds r (.stringIter bs (ps + (Utf8.decode bs ps).2)) } r 0 (.siter bs.data.toList (ps + (decS bs.data.toList ps).2)) :=
        ⟨rfl, bs, by simp [hrl, hd], rfl⟩
      refine OpOk.value (u := .tuple #[.bool true, goInt ps, .int .i32 (Utf8.decode bs ps).1]) (w' := { w with heap := w.heap.setIfInBounds r (.stringIter bs (ps + (Utf8.decode bs ps).2)) }) ?_ hk ?_ (hR.write hI rfl hι hshp hold hobj) (Ext.write hI rfl hι hshp hold rfl ⟨rfl, Nat.le_refl _⟩ rfl (by simp) rfl)
      · simp [execOp, Instr.next, Sem.run_bind, hux, hget, hn, hset]
      · rw [hd]
        exact .tup _ _ (.cons _ _ _ _ (.bool _) (.cons _ _ _ _ (.int _ _) (.cons _ _ _ _ (.int _ _) .nil)))
theorem ef_s2b (hE : EnvR n ι w env a) (hR : Rel ι H w) {src dst' e : TypeId} (hs : P.underlying src = some .string) (hd : P.underlying dst' = some (.slice e)) (he : P.underlying e = some (.int .u8)) {x : Operand} {x' : X} (hx : compX n x = some x')
    {dst : Option Tmp} {ty : TypeId} {pos : String} {af : Array Edge} {g : Option (Nat × Bool)} (hk : E.wp P env H K (.s2b x')) : OpOk P a ⟨dst, .convert src dst' x, ty, pos, af, g⟩ K ι H w := by
  obtain ⟨s, h1, hk⟩ := hk
  have hvx := X.sound hE hx
  rw [h1] at hvx
  generalize hux : a.eval x = ux at *
  cases hvx with
  | str bs =>
    obtain ⟨id, h00, hid, hι⟩ := hR.fresh
    have hold := Go.Lib.bytesWorld_at_old w e bs
    have hshp : Shp w (Go.Lib.bytesWorld w e bs) := fun b c e' f hb => ⟨c, f, by rw [hold b (Array.getElem?_eq_some_iff.1 hb).1]; exact hb, keepF rfl⟩
    have hgc : bs.size ≤ grownCap w bs.size 0 e := grownCap_ge w _ _ _
    have hsz : (Go.Lib.bytesCells w e bs).size = grownCap w bs.size 0 e := by
      simp only [Go.Lib.bytesCells, Array.size_append, Array.size_map, Array.size_replicate]
      have : bs.data.size = bs.size := rfl
      omega
    have hle := Pl.le_add (ι := ι) (id := id) (w.heap.size, 0) hι
    have hlen : bs.data.toList.length = bs.size := by simp
    have k1 := hR.new (o := .cells true (bytesV bs.data.toList)) h00 hid hι hshp hold ⟨_, e, _, Go.Lib.bytesWorld_at_new w e bs, fun k v hk => by
      rw [bytesV_eq, List.getElem?_map] at hk
      obtain ⟨x, hx, rfl⟩ := Option.map_eq_some_iff.1 hk
      have hkl := (List.getElem?_eq_some_iff.1 hx).1
      refine ⟨.int .u8 x.toNat, ?_, .int _ _, rfl⟩
      rw [Nat.zero_add, Go.Lib.bytesCells, Array.getElem?_append_left (by simp; omega), Array.getElem?_map, ← Array.getElem?_toList, hx]; rfl, fun _ k hk => by simp only; omega, by rw [hsz, bytesV_eq, List.length_map, hlen]; omega⟩
    have k2 := Ext.new (o := .cells true (bytesV bs.data.toList)) hR hid hι hshp hold (by simp [Go.Lib.bytesWorld, World.freeze, World.drew, World.alloc, -World.alloc_eq, -World.drew_eq]) ⟨by simp [Go.Lib.bytesWorld, World.freeze, World.drew, World.alloc, -World.alloc_eq, -World.drew_eq], by simp [Go.Lib.bytesWorld, World.freeze, World.drew, World.alloc, -World.alloc_eq, -World.drew_eq]⟩ (by simp [Go.Lib.bytesWorld, World.freeze, World.drew, World.alloc, -World.alloc_eq, -World.drew_eq]) (by rw [Go.Lib.bytesWorld_size]; omega) rfl
    refine OpOk.value (u := .slice (some ⟨w.heap.size, 0, none⟩) bs.size (grownCap w bs.size 0 e)) (w' := Go.Lib.bytesWorld w e bs) ?_ (hk id h00 hid) ?_ k1 k2
    · simp only [execOp, hux, Sem.run_bind, Go.Lib.run_convert_string_bytes (P := P) w src dst' e bs hs hd he, Result.andThen_ok, Sem.run_pure]
    · rw [hlen]
      exact .slice _ _ _ _ _ _ hgc fun _ => ⟨w.heap.size, 0, _, e, _, Pl.add_same _ _ _, by simp, Go.Lib.bytesWorld_at_new w e bs, by rw [hsz]; omega⟩

theorem O.sound (hE : EnvR n ι w env a) (hR : Rel ι H w) {o : Oper} {oo : O} (hc : compOp P n o.op o.type = some oo) (hk : oo.wp P env H K) : OpOk P a o K ι H w := by
  cases oo with
  | rd r =>
    obtain ⟨v, hv, hk⟩ := hk
    obtain ⟨u, h1, h2⟩ := R.sound hE hR hc hv
    exact OpOk.value h1 hk h2 hR (Ext.refl _ _ _)
  | ef e =>
    obtain ⟨dst, op, ty, pos, af, g⟩ := o
    simp only at hc
    simp only [O.wp] at hk
    cases op <;> simp only [compOp] at hc <;> first | (cases hc; done) | skip
    case move x => simp only [Option.map_eq_some_iff] at hc; obtain ⟨_, _, h⟩ := hc; cases h
    case assign x => simp only [Option.map_eq_some_iff] at hc; obtain ⟨_, _, h⟩ := hc; cases h
    case pick c x y => split at hc <;> cases hc
    case alloc t => split at hc <;> cases hc; rename_i hz; exact ef_allocE hE hR hz hk
    case box t x => simp only [Option.map_eq_some_iff] at hc; obtain ⟨_, hx, h⟩ := hc; cases h; exact ef_box hE hR hx hk
    case build t ps =>
      split at hc
      · simp only [Option.map_eq_some_iff] at hc; obtain ⟨_, _, h⟩ := hc; cases h
      · split at hc
        · simp only [Option.map_eq_some_iff] at hc; obtain ⟨_, _, h⟩ := hc; cases h
        · cases hc
      · cases hc
    case buildSlice t l ps =>
      split at hc
      · rename_i el hun
        split at hc
        · rename_i s z hs hz
          cases hb : (Nat.beq z.length s && Nat.blt 0 s && Nat.ble (l * s) 16777216) with
          | false => rw [hb] at hc; cases hc
          | true =>
            rw [hb] at hc
            simp only [cond_true, Option.map_eq_some_iff] at hc
            obtain ⟨qs, hq, h⟩ := hc
            cases h
            simp only [Bool.and_eq_true] at hb
            have e1 := Nat.eq_of_beq_eq_true hb.1.1
            have e2 : 0 < s := by simpa [Nat.blt, Nat.lt_iff_add_one_le] using hb.1.2
            exact ef_lit hE hR hun hs hz e1 e2 (Nat.le_of_ble_eq_true hb.2) hq hk
        · cases hc
      · cases hc
    case load t x => split at hc <;> cases hc
    case store t x y => split at hc <;> cases hc; rename_i hs hx hy; exact ef_store hE hR hs hx hy hk
    case nilCheck x => simp only [Option.map_eq_some_iff] at hc; obtain ⟨_, _, h⟩ := hc; cases h
    case binOp op t x y yt =>
      split at hc
      · split at hc
        · cases hc
        · cases hc
        · split at hc <;> cases hc
        · split at hc <;> cases hc
      · cases hc
    case unOp op t x => simp only [Option.map_eq_some_iff] at hc; obtain ⟨_, _, h⟩ := hc; cases h
    case convert s d x =>
      split at hc
      · cases hc
      · cases hc
      · split at hc <;> cases hc
      · rename_i el x' hs hd hx
        split at hc
        · rename_i he
          cases hc
          exact ef_s2b hE hR hs hd he hx hk
        · cases hc
      · split at hc <;> cases hc
      · rename_i u' x' _ _ _
        split at hc
        · rename_i k _
          cases hb : liesAt P P.depth u' ((k + 1) / P.cellsOf u') 0 u' 1 with
          | false => rw [hb] at hc; cases hc
          | true => rw [hb] at hc; cases hc
        · cases hc
      · cases hc
    case fieldAddr s x i =>
      split at hc
      · split at hc
        · split at hc <;> cases hc
        · cases hc
      · cases hc
    case field t x i =>
      split at hc
      · split at hc
        · split at hc <;> cases hc
        · cases hc
      · cases hc
    case indexAddr t x i =>
      split at hc
      · simp only [Option.map_eq_some_iff] at hc; obtain ⟨_, _, h⟩ := hc; cases h
      · simp only [Option.map_eq_some_iff] at hc; obtain ⟨_, _, h⟩ := hc; cases h
      · cases hc
    case index t x i =>
      split at hc
      · cases hc
      · split at hc <;> cases hc
      · cases hc
    case slice t x lo hi mx =>
      cases mx with
      | some m =>
        cases hi with
        | none => simp only at hc; cases hc
        | some hi =>
          simp only at hc
          split at hc
          · simp only [Option.map_eq_some_iff] at hc; obtain ⟨_, _, h⟩ := hc; cases h
          · cases hc
      | none =>
        simp only at hc
        split at hc
        · cases hc
        · simp only [Option.map_eq_some_iff] at hc; obtain ⟨_, _, h⟩ := hc; cases h
        · cases hc
    case extract x i => simp only [Option.map_eq_some_iff] at hc; obtain ⟨_, _, h⟩ := hc; cases h
    case makeInterface t x => split at hc <;> cases hc
    case typeAssert x xt t ok =>
      cases ok with
      | true => simp only at hc; cases hc
      | false => simp only at hc; split at hc <;> cases hc
    case makeFunc fn first cap =>
      cases fn <;> simp only at hc <;> first | (cases hc; done) | skip
      split at hc <;> cases hc
    case makeMap t r => cases r <;> simp only at hc <;> cases hc; exact ef_mkMap hR hk
    case makeSlice t l c =>
      split at hc
      · rename_i el hun
        split at hc
        · rename_i s by_ z l' c' hs hby hz hl hc'
          cases hb : (Nat.beq z.length s && Nat.blt 0 s) with
          | false => rw [hb] at hc; cases hc
          | true =>
            rw [hb] at hc
            simp only [cond_true] at hc
            cases hc
            simp only [Bool.and_eq_true] at hb
            exact ef_mkE hE hR hun hs hby hz (Nat.eq_of_beq_eq_true hb.1) (by simpa [Nat.blt, Nat.lt_iff_add_one_le] using hb.2) hl hc' hk
        · cases hc
      · cases hc
    case lookup t m k ok =>
      split at hc
      · split at hc <;> cases hc
      · cases hc
    case panic x => cases hc; exact hk.elim
    case mapEntry t m k =>
      split at hc
      · rename_i kt el hun
        split at hc <;> cases hc
        rename_i h1 h2 h3 h4
        exact ef_ment hE hR hun h1 h2 h3 h4 hk
      · cases hc
    case range t m =>
      split at hc <;> cases hc
      · rename_i h1 h2
        exact ef_rangeM hE hR h1 h2 hk
      · rename_i h1 h2
        exact ef_rangeS hE hR h1 h2 hk
    case next it b =>
      cases b with
      | true =>
        simp only [Option.map_eq_some_iff] at hc
        obtain ⟨x', hx, h⟩ := hc
        cases h
        exact ef_nextS hE hR hx hk
      | false =>
        simp only [Option.map_eq_some_iff] at hc
        obtain ⟨x', hx, h⟩ := hc
        cases h
        exact ef_nextM hE hR hx hk
    case entry it =>
      simp only [Option.map_eq_some_iff] at hc
      obtain ⟨x', hx, h⟩ := hc
      cases h
      exact ef_entryM hE hR hx hk
    case entryStore t m s v =>
      split at hc <;> cases hc
      rename_i h1 h2 h3
      exact ef_mset hE hR h1 h2 h3 hk
    case mapUpdate t m k v =>
      split at hc
      · rename_i kt el hun
        split at hc <;> cases hc
        rename_i h1 h2 h3 h4
        exact ef_put hE hR hun h1 h2 h3 h4 hk
      · cases hc
    case call c =>
      obtain ⟨callee, args, ats⟩ := c
      cases callee with
      | builtin b =>
        simp only at hc
        unfold compBuiltin at hc
        split at hc
        · split at hc <;> cases hc
        · split at hc <;> cases hc
        · split at hc <;> cases hc
        · rename_i t u d s hats hargs
          have eats : ats = #[t, u] := by apply Array.ext'; simpa using hats
          have eargs : args = #[d, s] := by apply Array.ext'; simpa using hargs
          subst eats; subst eargs
          split at hc
          · rename_i el u' hun hun2
            split at hc
            · rename_i sz by_ z d' s' hs hby hz hd hs'
              cases hb : (Nat.beq z.cells.length sz && Nat.blt 0 by_ && !z.isTup) with
              | false => rw [hb] at hc; cases hc
              | true =>
                rw [hb] at hc
                simp only [cond_true] at hc
                cases hc
                simp only [Bool.and_eq_true, Bool.not_eq_true'] at hb
                exact ef_appE hE hR hun hun2 (by intro k h; cases h) hs hby hz (Nat.eq_of_beq_eq_true hb.1.1) hb.2 (by simpa [Nat.blt, Nat.lt_iff_add_one_le] using hb.1.2) hd hs' hk
            · cases hc
          · rename_i el hun hun2
            split at hc
            · rename_i sz by_ z d' s' hs hby hz hd hs'
              cases hb : (Nat.beq z.cells.length sz && Nat.blt 0 by_ && !z.isTup) with
              | false => rw [hb] at hc; cases hc
              | true =>
                rw [hb] at hc
                simp only [cond_true] at hc
                cases hc
                simp only [Bool.and_eq_true, Bool.not_eq_true'] at hb
                exact ef_appE hE hR hun hun2 (by intro k h; cases h) hs hby hz (Nat.eq_of_beq_eq_true hb.1.1) hb.2 (by simpa [Nat.blt, Nat.lt_iff_add_one_le] using hb.1.2) hd hs' hk
            · cases hc
          · rename_i el ki hun hun2
            split at hc
            · rename_i sz by_ z d' s' hs hby hz hd hs'
              cases hb : (Nat.beq z.cells.length sz && Nat.blt 0 by_ && !z.isTup && Nat.blt 0 sz) with
              | false => rw [hb] at hc; cases hc
              | true =>
                rw [hb] at hc
                simp only [cond_true] at hc
                cases hc
                simp only [Bool.and_eq_true, Bool.not_eq_true'] at hb
                exact ef_appz hE hR hun hun2 hs hby hz (Nat.eq_of_beq_eq_true hb.1.1.1) hb.1.2 (by simpa [Nat.blt, Nat.lt_iff_add_one_le] using hb.1.1.2) (by simpa [Nat.blt, Nat.lt_iff_add_one_le] using hb.2) hd hs' hk
            · cases hc
          · cases hc
        · split at hc <;> cases hc
        · rename_i t u d s hats hargs
          have eats : ats = #[t, u] := by apply Array.ext'; simpa using hats
          have eargs : args = #[d, s] := by apply Array.ext'; simpa using hargs
          subst eats; subst eargs
          split at hc
          · rename_i el u' hun hun2
            split at hc
            · rename_i sz d' s' hs hd hs'
              cases hb : Nat.blt 0 sz with
              | false => rw [hb] at hc; cases hc
              | true =>
                rw [hb] at hc
                simp only [cond_true] at hc
                cases hc
                exact ef_copy hE hR hun hs hd hs' hk
            · cases hc
          · rename_i el hun hun2
            split at hc
            · rename_i sz d' s' hs hd hs'
              cases hb : Nat.blt 0 sz with
              | false => rw [hb] at hc; cases hc
              | true =>
                rw [hb] at hc
                simp only [cond_true] at hc
                cases hc
                exact ef_copy hE hR hun hs hd hs' hk
            · cases hc
          · cases hc
        · rename_i t x hats hargs
          have eats : ats = #[t] := by apply Array.ext'; simpa using hats
          have eargs : args = #[x] := by apply Array.ext'; simpa using hargs
          subst eats; subst eargs
          split at hc
          · rename_i el hun
            split at hc
            · rename_i sz z x' hs hz hx
              cases hb : (Nat.beq z.cells.length sz && Nat.blt 0 sz && !z.isTup) with
              | false => rw [hb] at hc; cases hc
              | true =>
                rw [hb] at hc
                simp only [cond_true] at hc
                cases hc
                simp only [Bool.and_eq_true, Bool.not_eq_true'] at hb
                exact ef_clr hE hR hun hs hz (Nat.eq_of_beq_eq_true hb.1.1) (by simpa [Nat.blt, Nat.lt_iff_add_one_le] using hb.1.2) hb.2 hx hk
            · cases hc
          · cases hc
        · split at hc <;> cases hc
        · rename_i pt it p l hats hargs
          have eats : ats = #[pt, it] := by apply Array.ext'; simpa using hats
          have eargs : args = #[p, l] := by apply Array.ext'; simpa using hargs
          subst eats; subst eargs
          split at hc
          · rename_i el p' l' hun hp hl
            cases hb : Nat.beq (P.cellsOf el) 1 with
            | false => rw [hb] at hc; cases hc
            | true =>
              rw [hb] at hc
              cases hc
              exact ef_ustr hE hR hun (Nat.eq_of_beq_eq_true hb) hp hl hk
          · cases hc
        · rename_i t ts m k hats hargs
          have eargs : args = #[m, k] := by apply Array.ext'; simpa using hargs
          subst eargs
          split at hc
          · rename_i kt el hun
            split at hc <;> cases hc
            rename_i h1 h2 h3
            exact ef_del hE hR hun h1 h2 h3 (by rw [← Array.getElem?_toList, hats]; rfl) hk
          · cases hc
        · cases hc
      | value x =>
        cases x
        case func f =>
          simp only at hc
          split at hc <;> cases hc
          rename_i xs hxs
          have hv := Xs.sound hE hxs
          rcases hk with hk | ⟨v, hx, hq⟩
          · refine OpOk.enter (f := f) (us := args.toList.map a.eval) ?_ hv hR hk
            have e : args.map a.eval = ⟨args.toList.map a.eval⟩ := by apply Array.ext'; simp
            simp only [execOp, resolve, Act.eval, Deferred.ofValue, Sem.run_bind, Sem.run_pure, Result.andThen_ok, invoke]
            rw [show (#[] : Array Value) ++ args.map a.eval ++ #[] = ⟨args.toList.map a.eval⟩ by apply Array.ext'; simp]
            exact enters_run hk.1 _
          · obtain ⟨u, g1, g2⟩ := hx ι w _ hR hv
            refine OpOk.value (u := u) (w' := w) ?_ hq g2 hR (Ext.refl _ _ _)
            simp only [execOp, resolve, Act.eval, Deferred.ofValue, Sem.run_bind, Sem.run_pure, Result.andThen_ok, invoke]
            rw [show (#[] : Array Value) ++ args.map a.eval ++ #[] = ⟨args.toList.map a.eval⟩ by apply Array.ext'; simp]
            exact g1
        all_goals
          simp only at hc
          split at hc <;> cases hc
          rename_i x' xs hx hxs
          have hvx := X.sound hE hx
          have hv := Xs.sound hE hxs
          rcases hk with ⟨f, cap, hf, hk⟩ | ⟨l, hf, hk⟩
          rotate_left
          · rw [hf] at hvx
            generalize hu : a.eval _ = u at hvx
            cases hvx with
            | yield _ b o hι =>
              obtain ⟨f, tmps, as, bd, g1, g2⟩ := hk ι w _ b o hR hv hι
              refine OpOk.round (b := b) (f := f) (tmps := tmps) (as := as) (bd := bd) ?_ g2
              simp only [execOp, resolve, hu, Deferred.ofValue, Sem.run_bind, Sem.run_pure, Result.andThen_ok, invoke]
              rw [show (#[] : Array Value) ++ args.map a.eval = ⟨args.toList.map a.eval⟩ by apply Array.ext'; simp]
              exact g1
          rw [hf] at hvx
          generalize hu : a.eval _ = u at hvx
          cases hvx with
          | func _ _ cs hcap =>
            refine OpOk.enter (f := f) (us := args.toList.map a.eval ++ cs) ?_ (hv.append hcap) hR hk
            simp only [execOp, resolve, hu, Deferred.ofValue, Sem.run_bind, Sem.run_pure, Result.andThen_ok, invoke]
            rw [show (#[] : Array Value) ++ args.map a.eval ++ ⟨cs⟩ = ⟨args.toList.map a.eval ++ cs⟩ by apply Array.ext'; simp]
            exact enters_run hk.1 _
      | invoke x m =>
        simp only at hc
        split at hc <;> cases hc
        rename_i x' xs hx hxs
        obtain ⟨t, v, f, r, hf, hmeth, hk⟩ := hk
        have hvx := X.sound hE hx
        have hv := Xs.sound hE hxs
        rw [hf] at hvx
        generalize hu : a.eval x = u at hvx
        cases hvx with
        | iface _ _ z hz =>
          obtain ⟨rz, hr1, hr2⟩ := hmeth ι w z hR hz
          refine OpOk.enter (f := f) (us := rz :: args.toList.map a.eval) ?_ (.cons _ _ _ _ hr2 hv) hR hk
          simp only [execOp, resolve, hu, Sem.run_bind, Sem.run_pure, Result.andThen_ok, invoke]
          have e0 : (#[(.iface t z : Value)] ++ args.map a.eval)[0]? = some (.iface t z) := by rw [← Array.getElem?_toList, Array.toList_append]; rfl
          have e1 : (#[(.iface t z : Value)] ++ args.map a.eval).extract 1 (#[(.iface t z : Value)] ++ args.map a.eval).size = args.map a.eval := by
            apply Array.ext'; simp; exact List.take_of_length_le (by simp)
          simp only [e0, e1, callMethod, Sem.run_bind, run_program, Result.andThen_ok, hr1]
          rw [show #[rz] ++ args.map a.eval = ⟨rz :: args.toList.map a.eval⟩ by apply Array.ext'; simp]
          exact enters_run hk.1 _

end
end Go.CM
