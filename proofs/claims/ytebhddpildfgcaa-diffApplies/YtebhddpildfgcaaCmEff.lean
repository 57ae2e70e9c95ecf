/-
  A program logic over the model's calls, part 11: what writes, makes, or calls.
-/
import Derived.Test.YtebhddpildfgcaaCmRd6
namespace Go.CM

/-- An id that nobody has. -/
theorem Rel.fresh {ι : Pl} {H : Heap} {w : World} (h : Rel ι H w) : ∃ id, id ≠ 0 ∧ H id = none ∧ ι id = none := by
  obtain ⟨M, hM⟩ := h.fin
  obtain ⟨N, hN, hp⟩ : ∃ N, (∀ id, N ≤ id → ι id = none) ∧ N ≠ 0 := ⟨M + 1, fun id hi => hM id (by omega), by omega⟩
  refine ⟨N, hp, ?_, hN N (Nat.le_refl _)⟩
  cases hH : H N with
  | none => rfl
  | some o =>
    obtain ⟨b, off, h1, _⟩ := h.obj N o hH
    rw [hN N (Nat.le_refl _)] at h1; cases h1

/-- A world with one block more (and perhaps draws). -/
structure Push (w w' : World) (o : Obj) : Prop where
  heap : w'.heap = w.heap.push o
  os : w'.os = w.os
  tape : Tape w w'
  output : w'.output = w.output

theorem Push.old {w w' : World} {o : Obj} (h : Push w w' o) (k : Nat) (hk : k < w.heap.size) : w'.heap[k]? = w.heap[k]? := by
  rw [h.heap, Array.getElem?_push, if_neg (by omega)]
theorem Push.new {w w' : World} {o : Obj} (h : Push w w' o) : w'.heap[w.heap.size]? = some o := by
  rw [h.heap]; simp
theorem Push.size {w w' : World} {o : Obj} (h : Push w w' o) : w'.heap.size = w.heap.size + 1 := by rw [h.heap]; simp
theorem Push.shp {w w' : World} {o : Obj} (h : Push w w' o) : Shp w w' := fun b c e f hb =>
  ⟨c, f, by rw [h.old b (Array.getElem?_eq_some_iff.1 hb).1]; exact hb, rfl⟩
theorem Push.drawn {w w' : World} {o : Obj} {d : Nat} (hd : w.drawn ≤ d) (h : Push { w with drawn := d } w' o) : Push w w' o := ⟨h.heap, h.os, ⟨h.tape.eq, Nat.le_trans hd h.tape.drawn⟩, h.output⟩
theorem Push.mk' (w : World) (o : Obj) : Push w { w with heap := w.heap.push o } o := ⟨rfl, rfl, ⟨rfl, Nat.le_refl _⟩, rfl⟩

/-- A new row of cells. -/
theorem Rel.push {ι : Pl} {H : Heap} {w w' : World} (h : Rel ι H w) {id : Nat} (h0 : id ≠ 0) (hid : H id = none) (hι : ι id = none) {c : Array Value} {e : TypeId} (hp : Push w w' (.cells c e (0, 0)))
    {cs : List V} {us : List Value} (hv : VRs ι w cs us) (ho : us.all one = true) (hc : us <+: c.toList) :
    Rel (ι.add id (w.heap.size, 0)) (H.set id (.cells true cs)) w' ∧ Ext ι H w (ι.add id (w.heap.size, 0)) (H.set id (.cells true cs)) w' := by
  have hle := Pl.le_add (ι := ι) (id := id) (w.heap.size, 0) hι
  refine ⟨h.new h0 hid hι hp.shp hp.old ?_, Ext.new h hid hι hp.shp hp.old hp.os hp.tape hp.output (by rw [hp.size]; omega) rfl⟩
  refine ⟨c, e, (0, 0), hp.new, fun k v hk => ?_, fun _ k _ => by omega, by have := hc.length_le; have := hv.length; simp at *; omega⟩
  obtain ⟨u, h1, h2⟩ := hv.get hk
  have hlt := (List.getElem?_eq_some_iff.1 h1).1
  refine ⟨u, ?_, h2.mono hle hp.shp, List.all_eq_true.1 ho u (List.mem_of_getElem? h1)⟩
  rw [Nat.zero_add, ← Array.getElem?_toList]
  obtain ⟨r, hr⟩ := hc
  rw [← hr, List.getElem?_append_left hlt]
  exact h1

theorem run_newRow {P : Program} {w : World} (e : TypeId) (c : Array Value) : (newRow e c).run P w = .ok ⟨w.heap.size, 0, none⟩ { w with heap := w.heap.push (.cells c e) } := by
  simp [newRow]

/-- What a store of cells leaves. -/
structure Wrote (w w' : World) (b : Nat) (o : Obj) : Prop where
  at_ : w'.heap[b]? = some o
  old : ∀ k, k ≠ b → w'.heap[k]? = w.heap[k]?
  size : w'.heap.size = w.heap.size
  os : w'.os = w.os
  tape : Tape w w'
  output : w'.output = w.output

theorem Wrote.trans {w w1 w2 : World} {b : Nat} {o o' : Obj} (h : Wrote w w1 b o) (k : Wrote w1 w2 b o') : Wrote w w2 b o' :=
  ⟨k.at_, fun i hi => (k.old i hi).trans (h.old i hi), k.size.trans h.size, k.os.trans h.os, h.tape.trans k.tape, k.output.trans h.output⟩

theorem store_run {P : Program} {w : World} {b o : Nat} {c : Array Value} {e : TypeId} {f : Nat × Nat} (hb : w.heap[b]? = some (.cells c e f)) (hf : Free c f) (ho : o < c.size) {v : Value} (hv : one v = true) :
    ∃ w', (store ⟨b, o, none⟩ v).run P w = .ok () w' ∧ Wrote w w' b (.cells (c.setIfInBounds o v) e f) := by
  have hcell : w.cell? ⟨b, o, none⟩ = some c[o] := by rw [cell_of hb]; simp [ho]
  have hfr : w.frozen? ⟨b, o, none⟩ = false := by
    simp only [World.frozen?, hb]
    have := hf o (Nat.le_of_lt ho)
    simp only [Bool.and_eq_false_iff, decide_eq_false_iff_not]
    omega
  have hv' : v.oneCell' = true := by cases v <;> simp_all [one, Value.oneCell']
  refine ⟨w.setCell ⟨b, o, none⟩ v, ?_, ?_, ?_, ?_, rfl, ⟨rfl, Nat.le_refl _⟩, rfl⟩
  · rw [run_store P w _ _ _ hv', hcell]; simp [hfr]
  · have hlt := (Array.getElem?_eq_some_iff.1 hb).1
    have hget := (Array.getElem?_eq_some_iff.1 hb).2
    simp only [World.setCell, Array.getElem?_modify, if_true, hb]
    simp
  · intro k hk
    simp only [World.setCell, Array.getElem?_modify]
    rw [if_neg (Ne.symm hk)]
  · simp [World.setCell]

theorem storeCells_run {P : Program} {b o : Nat} {e : TypeId} {f : Nat × Nat} : ∀ (vs : List Value) (i : Nat) (w : World) (c : Array Value), w.heap[b]? = some (.cells c e f) → Free c f → o + i + vs.length ≤ c.size → vs.all one = true →
    ∃ w' c', (storeCells ⟨b, o, none⟩ vs i).run P w = .ok () w' ∧ (w' = w ∨ Wrote w w' b (.cells c' e f)) ∧ w'.heap[b]? = some (.cells c' e f) ∧ c'.size = c.size ∧
      c'.toList = c.toList.take (o + i) ++ vs ++ c.toList.drop (o + i + vs.length)
  | [], i, w, c, hb, _, _, _ => ⟨w, c, by simp [storeCells], .inl rfl, hb, rfl, by simp⟩
  | v :: vs, i, w, c, hb, hf, hl, ho => by
    simp only [List.length_cons, List.all_cons, Bool.and_eq_true] at hl ho
    obtain ⟨w1, h1, h2⟩ := store_run (P := P) hb hf (o := o + i) (by omega) ho.1
    obtain ⟨w', c', h3, h4, h5, h6, h7⟩ := storeCells_run (P := P) (o := o) vs (i + 1) w1 _ h2.at_ (fun k hk => hf k (by simpa using hk)) (by simp; omega) ho.2
    refine ⟨w', c', ?_, ?_, h5, by simpa using h6, ?_⟩
    · simp only [storeCells, Sem.run_bind, Addr.add_lit, h1, Result.andThen_ok, h3]
    · rcases h4 with rfl | h4
      · have := h2.at_
        rw [h5] at this
        cases this
        exact .inr h2
      · exact .inr (h2.trans h4)
    · rw [h7]
      simp only [Array.toList_setIfInBounds]
      have := list_seg_step c.toList (o + i) v vs (by simpa using hl)
      rw [show o + (i + 1) = o + i + 1 by omega]
      simpa using this

/-- An object's cells written. -/
theorem Rel.wrote {ι : Pl} {H : Heap} {w w' : World} (h : Rel ι H w) {id : Nat} {cs : List V} (hH : H id = some (.cells true cs)) {b o : Nat} (hι : ι id = some (b, o))
    {c c' : Array Value} {e : TypeId} {f : Nat × Nat} (hb : w.heap[b]? = some (.cells c e f)) (hf : Free c f) (hw : w' = w ∨ Wrote w w' b (.cells c' e f)) (hb' : w'.heap[b]? = some (.cells c' e f)) (hsz : c'.size = c.size)
    {cs' : List V} (hcl : o + cs'.length ≤ c.size) (hcs : ∀ (k : Nat) (v : V), cs'[k]? = some v → ∃ u, c'[o + k]? = some u ∧ VR ι w v u ∧ one u = true) :
    Rel ι (H.set id (.cells true cs')) w' ∧ Ext ι H w ι (H.set id (.cells true cs')) w' := by
  have hold : ∀ k, k ≠ b → w'.heap[k]? = w.heap[k]? := by
    rcases hw with rfl | hw
    · intro _ _; rfl
    · exact hw.old
  have hs : Shp w w' := by
    intro b2 c2 e2 f2 h2
    by_cases hbb : b2 = b
    · subst hbb; rw [hb] at h2; cases h2; exact ⟨c', _, hb', hsz⟩
    · exact ⟨c2, f2, by rw [hold b2 hbb]; exact h2, rfl⟩
  have hrest : w'.heap.size = w.heap.size ∧ w'.os = w.os ∧ Tape w w' ∧ w'.output = w.output := by
    rcases hw with rfl | hw
    · exact ⟨rfl, rfl, Tape.refl _, rfl⟩
    · exact ⟨hw.size, hw.os, hw.tape, hw.output⟩
  obtain ⟨g1, g2, g3, g4⟩ := hrest
  refine ⟨h.write hH rfl hι hs hold ?_, Ext.write hH rfl hι hs hold g2 g3 g4 g1 rfl⟩
  refine ⟨c', e, f, hb', fun k v hk => ?_, fun _ k hk => hf k (by omega), by omega⟩
  obtain ⟨u, h1, h2, h3⟩ := hcs k v hk
  exact ⟨u, h1, h2.mono (fun _ _ h => h) hs, h3⟩

/-- .. where what is written may go beyond the cells that are known. -/
theorem splice_relX {R : V → Value → Prop} {cs vs : List V} {L T : List Value} {o off : Nat} (h : ∀ (k : Nat) (v : V), cs[k]? = some v → ∃ u, L[o + k]? = some u ∧ R v u)
    (h' : ∀ (k : Nat) (v : V), vs[k]? = some v → ∃ u, T[k]? = some u ∧ R v u) (hT : vs.length = T.length) (h1 : off ≤ cs.length) (_h2 : o + cs.length ≤ L.length) (h3 : o + off + vs.length ≤ L.length) :
    ∀ (k : Nat) (v : V), (splice cs off vs)[k]? = some v → ∃ u, (L.take (o + off) ++ T ++ L.drop (o + off + T.length))[o + k]? = some u ∧ R v u := by
  intro k v hk
  simp only [splice] at hk
  have e1 : (List.take off cs).length = off := by simp; omega
  have e2 : (List.take (o + off) L).length = o + off := by simp; omega
  by_cases hk1 : k < off
  · rw [List.append_assoc, List.getElem?_append_left (by omega), List.getElem?_take_of_lt hk1] at hk
    obtain ⟨u, q1, q2⟩ := h k v hk
    refine ⟨u, ?_, q2⟩
    rw [List.append_assoc, List.getElem?_append_left (by omega), List.getElem?_take_of_lt (by omega)]
    exact q1
  · by_cases hk2 : k < off + vs.length
    · rw [List.append_assoc, List.getElem?_append_right (by omega), List.getElem?_append_left (by omega), e1] at hk
      obtain ⟨u, q1, q2⟩ := h' _ _ hk
      refine ⟨u, ?_, q2⟩
      rw [List.append_assoc, List.getElem?_append_right (by omega), List.getElem?_append_left (by omega), e2]
      rw [← q1]; congr 1; omega
    · rw [List.getElem?_append_right (by rw [List.length_append]; omega), List.getElem?_drop, List.length_append, e1] at hk
      obtain ⟨u, q1, q2⟩ := h _ v hk
      refine ⟨u, ?_, q2⟩
      rw [List.getElem?_append_right (by rw [List.length_append]; omega), List.getElem?_drop, List.length_append, e2, ← q1]
      congr 1; omega
theorem splice_lenX {cs vs : List V} {off : Nat} (h : off ≤ cs.length) : (splice cs off vs).length = max cs.length (off + vs.length) := by
  simp only [splice, List.length_append, List.length_take, List.length_drop]; omega
/-- Cells written from a place of an object's row on, perhaps beyond the cells that are known. -/
theorem Rel.writeAt {P : Program} {ι : Pl} {H : Heap} {w : World} (hR : Rel ι H w) {id : Nat} {cs : List V} (hH : H id = some (.cells true cs)) {b o off : Nat} (hι : ι id = some (b, o))
    {c : Array Value} {e : TypeId} {f : Nat × Nat} (hb : w.heap[b]? = some (.cells c e f)) {vs : List V} {us : List Value} (hv : VRs ι w vs us) (ho : us.all one = true) (h1 : off ≤ cs.length) (h2 : o + off + us.length ≤ c.size) :
    ∃ w', (storeCells ⟨b, o + off, none⟩ us).run P w = .ok () w' ∧ Rel ι (H.set id (.cells true (splice cs off vs))) w' ∧ Ext ι H w ι (H.set id (.cells true (splice cs off vs))) w' := by
  obtain ⟨b', o', hι', c', e', f', hb', hcs, hfr, hcl⟩ := hR.obj _ _ hH
  rw [hι] at hι'; cases hι'
  rw [hb] at hb'; cases hb'
  have hlen := hv.length
  obtain ⟨w', c', g1, g2, g3, g4, g5⟩ := storeCells_run (P := P) (o := o + off) us 0 w c hb (hfr rfl) (by omega) ho
  obtain ⟨k1, k2⟩ := hR.wrote hH hι hb (hfr rfl) g2 g3 g4 (cs' := splice cs off vs) (by rw [splice_lenX h1]; omega) (fun k v hk => by
    have := splice_relX (R := fun v u => VR ι w v u ∧ one u = true) (L := c.toList) (T := us) (o := o) (fun k v hk => by rw [Array.getElem?_toList]; exact hcs k v hk)
      (fun k v hk => by obtain ⟨u, q1, q2⟩ := hv.get hk; exact ⟨u, q1, q2, List.all_eq_true.1 ho u (List.mem_of_getElem? q1)⟩) hlen h1 (by simpa using hcl) (by simp; omega) k v hk
    rw [← Array.getElem?_toList, g5]
    simpa using this)
  exact ⟨w', g1, k1, k2⟩

/-- A row of cells with some of them written over, abstractly and in the model. -/
theorem splice_rel {R : V → Value → Prop} {cs vs : List V} {L T : List Value} {o off : Nat} (h : ∀ (k : Nat) (v : V), cs[k]? = some v → ∃ u, L[o + k]? = some u ∧ R v u)
    (h' : ∀ (k : Nat) (v : V), vs[k]? = some v → ∃ u, T[k]? = some u ∧ R v u) (hT : vs.length = T.length) (h1 : off + vs.length ≤ cs.length) (h2 : o + cs.length ≤ L.length) :
    ∀ (k : Nat) (v : V), (splice cs off vs)[k]? = some v → ∃ u, (L.take (o + off) ++ T ++ L.drop (o + off + T.length))[o + k]? = some u ∧ R v u := by
  intro k v hk
  simp only [splice] at hk
  have e1 : (List.take off cs).length = off := by simp; omega
  have e2 : (List.take (o + off) L).length = o + off := by simp; omega
  by_cases hk1 : k < off
  · rw [List.append_assoc, List.getElem?_append_left (by omega), List.getElem?_take_of_lt hk1] at hk
    obtain ⟨u, q1, q2⟩ := h k v hk
    refine ⟨u, ?_, q2⟩
    rw [List.append_assoc, List.getElem?_append_left (by omega), List.getElem?_take_of_lt (by omega)]
    exact q1
  · by_cases hk2 : k < off + vs.length
    · rw [List.append_assoc, List.getElem?_append_right (by omega), List.getElem?_append_left (by omega), e1] at hk
      obtain ⟨u, q1, q2⟩ := h' _ _ hk
      refine ⟨u, ?_, q2⟩
      rw [List.append_assoc, List.getElem?_append_right (by omega), List.getElem?_append_left (by omega), e2]
      rw [← q1]; congr 1; omega
    · rw [List.getElem?_append_right (by rw [List.length_append]; omega), List.getElem?_drop, List.length_append, e1] at hk
      obtain ⟨u, q1, q2⟩ := h _ v hk
      refine ⟨u, ?_, q2⟩
      rw [List.getElem?_append_right (by rw [List.length_append]; omega), List.getElem?_drop, List.length_append, e2, ← q1]
      congr 1; omega

end Go.CM
