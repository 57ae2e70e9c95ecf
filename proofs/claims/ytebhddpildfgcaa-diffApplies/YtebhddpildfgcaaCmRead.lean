/-
  A program logic over the model's calls, part 4: what only reads, in the model.
-/
import Derived.Test.YtebhddpildfgcaaCmComp
namespace Go.CM

structure EnvR (n : Nat) (ι : Pl) (w : World) (env : Env) (a : Act) : Prop where
  size : a.tmps.size = n
  defers : a.defers = []
  vals : ∀ t, t < n → VR ι w (env t) (a.tmps.getD t Go.undef)

theorem EnvR.mono {n : Nat} {ι ι' : Pl} {w w' : World} {env : Env} {a : Act} (hi : Pl.le ι ι') (hw : Shp w w') (h : EnvR n ι w env a) : EnvR n ι' w' env a :=
  ⟨h.size, h.defers, fun t ht => (h.vals t ht).mono hi hw⟩

theorem VR.undef (ι : Pl) (w : World) : VR ι w V.undef Go.undef := .tup [] [] .nil

theorem EnvR.put {n : Nat} {ι : Pl} {w : World} {env : Env} {a : Act} (h : EnvR n ι w env a) {d : Option Nat} (hd : dstOk n d = true) {v : V} {u : Value} (hv : VR ι w v u) :
    EnvR n ι w (env.put d v) (a.put d u) := by
  cases d with
  | none => exact h
  | some d =>
    have hlt : d < n := by simpa [dstOk, Nat.blt, Nat.lt_iff_add_one_le] using hd
    refine ⟨by simp [Act.put, h.size], h.defers, fun t ht => ?_⟩
    by_cases htd : t = d
    · subst htd
      have : t < a.tmps.size := by rw [h.size]; exact ht
      simp [Env.put, Act.put, this]
      exact hv
    · have hb : Nat.beq t d = false := Bool.eq_false_iff.2 fun e => htd (Nat.eq_of_beq_eq_true e)
      have h1 := h.vals t ht
      simp only [Env.put, hb, cond_false, Act.put]
      have : (a.tmps.setIfInBounds d u).getD t Go.undef = a.tmps.getD t Go.undef := by
        simp [Array.getElem?_setIfInBounds_ne (Ne.symm htd)]
      rw [this]; exact h1

theorem VRs.of_mapM {ι : Pl} {w : World} {d : Nat} (ih : ∀ u v, ofVal d u = some v → VR ι w v u) :
    ∀ {us : List Value} {vs : List V}, us.mapM (ofVal d) = some vs → VRs ι w vs us
  | [], vs, h => by simp at h; subst h; exact .nil
  | u :: us, vs, h => by
    rw [List.mapM_cons] at h
    cases h1 : ofVal d u with
    | none => simp [h1] at h
    | some v =>
      cases h2 : us.mapM (ofVal d) with
      | none => simp [h1, h2] at h
      | some vs' =>
        simp [h1, h2] at h
        subst h
        exact .cons _ _ _ _ (ih _ _ h1) (VRs.of_mapM ih h2)

theorem VR.of_val {ι : Pl} {w : World} : ∀ (d : Nat) (u : Value) (v : V), ofVal d u = some v → VR ι w v u := by
  intro d
  induction d with
  | zero =>
    intro u v h
    unfold ofVal at h
    split at h <;> first | (cases h; done) | (cases h; constructor; done) | (rename_i heq; cases heq; done) | (simp at h)
  | succ d ih =>
    intro u v h
    unfold ofVal at h
    split at h
    all_goals first
      | (cases h; done)
      | (cases h; constructor; done)
      | skip
    · rename_i dd cs hd
      split at h
      · rename_i vs hvs
        cases ho : cs.toList.all one with
        | false => simp [ho] at h
        | true =>
          simp [ho] at h
          subst h
          have : dd = d := by omega
          subst this
          exact .agg vs cs.toList (VRs.of_mapM (ih) hvs) ho
      · cases h

theorem X.sound {n : Nat} {ι : Pl} {w : World} {env : Env} {a : Act} (h : EnvR n ι w env a) {x : Operand} {y : X} (hx : compX n x = some y) : VR ι w (y.ev env) (a.eval x) := by
  cases x with
  | tmp t =>
    cases hb : Nat.blt t n with
    | false => simp [compX, hb] at hx
    | true =>
      simp [compX, hb] at hx
      subst hx
      exact h.vals t (by simpa [Nat.blt, Nat.lt_iff_add_one_le] using hb)
  | const v =>
    simp only [compX, Option.map_eq_some_iff] at hx
    obtain ⟨v', hv, rfl⟩ := hx
    exact VR.of_val _ _ _ hv
  | func f =>
    simp only [compX] at hx
    cases hx
    exact .func f [] [] .nil
  | global g => simp [compX] at hx


theorem sizeT_info {P : Program} {t : TypeId} {s : Nat} (h : sizeT P t = some s) : ∃ i, P.info? t = some i ∧ i.size = s := by
  simpa [sizeT] using h

theorem run_sizeOf {P : Program} {t : TypeId} {s : Nat} (h : sizeT P t = some s) (w : World) : (sizeOf t).run P w = .ok s w := by
  obtain ⟨i, h1, h2⟩ := sizeT_info h
  simp [sizeOf, typeInfo, h1, h2]

theorem run_isAgg {P : Program} {t : TypeId} {b : Bool} (h : isAggT P t = some b) (w : World) : (isAgg t).run P w = .ok b w := by
  unfold isAggT at h
  split at h
  · rename_i hu; cases h; simp [isAgg, run_underlying hu]
  · rename_i hu; cases h; simp [isAgg, run_underlying hu]
  · rename_i d h1 h2 hu
    cases h
    simp only [isAgg, Sem.run_bind, run_underlying hu, Result.andThen_ok]
    cases d <;> first | rfl | exact absurd rfl (h1 _) | exact absurd rfl (h2 _ _)
  · cases h

theorem isAggT_under {P : Program} {t : TypeId} {b : Bool} (h : isAggT P t = some b) : ∃ d, P.underlying t = some d := by
  unfold isAggT at h
  split at h
  · exact ⟨_, by assumption⟩
  · exact ⟨_, by assumption⟩
  · exact ⟨_, by assumption⟩
  · cases h

theorem cell_of {w : World} {b o : Nat} {c : Array Value} {e : TypeId} {f : Nat × Nat} (h : w.heap[b]? = some (.cells c e f)) : w.cell? ⟨b, o, none⟩ = c[o]? := by
  simp [World.cell?, h]

/-- A cell of an object. -/
theorem Rel.cell {ι : Pl} {H : Heap} {w : World} (h : Rel ι H w) {id : Nat} {rw : Bool} {cs : List V} (ho : H id = some (.cells rw cs)) {b o : Nat} (hι : ι id = some (b, o))
    {k : Nat} {v : V} (hk : cs[k]? = some v) : ∃ u, w.cell? ⟨b, o + k, none⟩ = some u ∧ VR ι w v u ∧ one u = true := by
  obtain ⟨b', o', h1, c, e, f, h2, h3, _, _⟩ := h.obj _ _ ho
  rw [hι] at h1; cases h1
  obtain ⟨u, h4, h5, h6⟩ := h3 k v hk
  exact ⟨u, by rw [cell_of h2]; exact h4, h5, h6⟩

/-- A row of cells of an object. -/
theorem Rel.cells {ι : Pl} {H : Heap} {w : World} (h : Rel ι H w) {id : Nat} {rw : Bool} {cs : List V} (ho : H id = some (.cells rw cs)) {b o : Nat} (hι : ι id = some (b, o))
    {off n : Nat} {vs : List V} (hg : getCells cs off n = some vs) :
    ∃ us : List Value, us.length = n ∧ VRs ι w vs us ∧ us.all one = true ∧ ∀ j u, us[j]? = some u → w.cell? ((⟨b, o + off, none⟩ : Addr).add j) = some u := by
  obtain ⟨b', o', h1, c, e, f, h2, h3, _, _⟩ := h.obj _ _ ho
  rw [hι] at h1; cases h1
  unfold getCells at hg
  cases hb : Nat.ble (off + n) cs.length with
  | false => simp [hb] at hg
  | true =>
    simp [hb] at hg
    subst hg
    have hle : off + n ≤ cs.length := Nat.le_of_ble_eq_true hb
    have key : ∀ j, j < n → ∃ u, c[o + off + j]? = some u ∧ VR ι w (cs.getD (off + j) V.undef) u ∧ one u = true := by
      intro j hj
      have hlt : off + j < cs.length := by omega
      obtain ⟨u, h4, h5, h6⟩ := h3 (off + j) (cs.getD (off + j) V.undef) (by simp [hlt])
      exact ⟨u, by rw [Nat.add_assoc]; exact h4, h5, h6⟩
    refine ⟨(List.range n).map fun j => c.getD (o + off + j) Go.undef, by simp, ?_, ?_, ?_⟩
    · refine VRs.of_get (by simp; omega) fun i v hi => ?_
      have hin : i < n := by
        have := (List.getElem?_eq_some_iff.1 hi).1
        simp at this; omega
      obtain ⟨u, h4, h5, _⟩ := key i hin
      refine ⟨u, by simp [hin, h4], ?_⟩
      have : v = cs.getD (off + i) V.undef := by
        rw [List.getElem?_take_of_lt hin, List.getElem?_drop] at hi
        simp [hi]
      rw [this]; exact h5
    · rw [List.all_eq_true]
      intro u hu
      obtain ⟨j, hj, rfl⟩ := List.mem_map.1 hu
      obtain ⟨u, h4, _, h6⟩ := key j (by simpa using hj)
      simp [h4, h6]
    · intro j u hu
      have hjn : j < n := by
        have := (List.getElem?_eq_some_iff.1 hu).1
        simpa using this
      obtain ⟨u', h4, _, _⟩ := key j hjn
      simp [hjn, h4] at hu
      subst hu
      rw [Addr.add_lit, cell_of h2]
      exact h4

theorem run_load_cell {P : Program} {w : World} {a : Addr} {u : Value} (h : w.cell? a = some u) (m : Mode := .plain) : (load a m).run P w = .ok u w := by
  simp [h]

theorem run_loadAt1 {P : Program} {t : TypeId} (ht : isAggT P t = some false) {w : World} {a : Addr} {u : Value} (h : w.cell? a = some u) : (Instr.loadAt t (.pointer (some a))).run P w = .ok u w := by
  simp [Instr.loadAt, Instr.sureAddr, loadVar, run_isAgg ht, h]

theorem run_loadAtn {P : Program} {t : TypeId} (ht : isAggT P t = some true) {n : Nat} (hs : sizeT P t = some n) {w : World} {a : Addr} {us : List Value} (hl : us.length = n)
    (h : ∀ j u, us[j]? = some u → w.cell? (a.add j) = some u) : (Instr.loadAt t (.pointer (some a))).run P w = .ok (.agg ⟨us⟩) w := by
  subst hl
  simp [Instr.loadAt, Instr.sureAddr, loadVar, run_isAgg ht, run_sizeOf hs, run_loadCells_list (P := P) w a us h]

end Go.CM
