/-
  A program logic over the model's calls, part 13: append, make, maps, calls.
-/
import Derived.Test.YtebhddpildfgcaaCmEff2
namespace Go.CM

section
variable {P : Program} {n : Nat} {ι : Pl} {H : Heap} {w : World} {env : Env} {a : Act} {K : V → Heap → Prop}

/-- The source of an append, in the model. -/
theorem src_run0 (hR : Rel ι H w) {esz : Nat} {v : V} {u : Value} (hns : ∀ a b c d e, v ≠ .sliceC a b c d e) (hv : VR ι w v u) {m : Nat} {vs : List V} (hs : srcCells H esz v = some (m, vs)) :
    ∃ us : List Value, us.length = m * esz ∧ VRs ι w vs us ∧ us.all one = true ∧ (∀ w, (Builtin.lenOf u).run P w = .ok m w) ∧
      (∀ w' : World, w'.heap = w.heap → (Builtin.firstCells esz m u).run P w' = .ok ⟨us⟩ w') := by
  unfold srcCells at hs
  split at hs
  · cases hs
    cases hv
    exact ⟨[], by simp, .nil, rfl, fun _ => rfl, fun _ _ => rfl⟩
  · rename_i id off len esz'
    cases hz0 : Nat.beq len 0 with
    | true =>
      rw [hz0] at hs
      have hz := Nat.eq_of_beq_eq_true hz0
      subst hz
      cases hs
      cases hv with
      | slice0 => exact ⟨[], by simp, .nil, rfl, fun _ => rfl, fun _ _ => rfl⟩
      | slice _ _ _ _ ad cap hl hc => exact ⟨[], by simp, .nil, rfl, fun _ => rfl, fun w' _ => by simp [Builtin.firstCells, loadCells, loadCellsFrom]⟩
    | false =>
    rw [hz0] at hs
    simp only [cond_false] at hs
    split at hs
    · rename_i rw' cs hH
      split at hs
      · rename_i he
        subst he
        split at hs
        · rename_i vs' hg
          cases hs
          cases hv with
          | slice0 => cases hz0
          | slice _ _ _ _ ad cap hl hc =>
            by_cases hcap : 0 < cap
            · obtain ⟨b, o, c, e, f, hι, rfl, _, _⟩ := hc hcap
              obtain ⟨us, h1, h2, h3, h4⟩ := hR.cells hH hι hg
              refine ⟨us, h1, h2, h3, fun _ => rfl, fun w' hw' => ?_⟩
              have h4' : ∀ (j : Nat) (u : Value), us[j]? = some u → w'.cell? ((⟨b, o + off, none⟩ : Addr).add j) = some u := fun j u hj => by
                rw [← h4 j u hj]; simp [World.cell?, hw']
              have := run_loadCells_list (P := P) w' ⟨b, o + off, none⟩ us h4'
              rw [h1] at this
              simpa [Builtin.firstCells] using this
            · have hz : m = 0 := by omega
              subst hz
              obtain ⟨h1, rfl⟩ := getCells_some hg
              refine ⟨[], by simp, by simpa using VRs.nil, rfl, fun _ => rfl, fun w' _ => by simp [Builtin.firstCells, loadCells, loadCellsFrom]⟩
        · cases hs
      · cases hs
    · cases hs
  · exact absurd rfl (hns _ _ _ _ _)
  · rename_i s
    split at hs
    · rename_i he
      subst he
      cases hs
      cases hv with
      | str s =>
        refine ⟨s.data.toList.map fun b => .int .u8 b.toNat, by simp, ?_, ?_, fun _ => by rw [str_size]; rfl, fun w' _ => ?_⟩
        · refine VRs.of_get (by simp) fun i v hi => ?_
          rw [List.getElem?_map] at hi
          cases hb : s.data.toList[i]? with
          | none => rw [hb] at hi; cases hi
          | some b => rw [hb] at hi; cases hi; exact ⟨_, by rw [List.getElem?_map, hb]; rfl, .int _ _⟩
        · rw [List.all_eq_true]
          intro x hx
          obtain ⟨b, _, rfl⟩ := List.mem_map.1 hx
          rfl
        · have e : s.extract 0 s.data.toList.length = s := by rw [str_size]; simp
          simp only [Builtin.firstCells, Sem.run_pure, e]
          congr 2
          apply Array.ext'; simp
    · cases hs
  · cases hs

theorem srcCells_slice {id off len esz : Nat} {rw' : Bool} {cs vs : List V} (hH : H id = some (.cells rw' cs)) (hg : getCells cs off (len * esz) = some vs) : srcCells H esz (.slice id off len esz) = some (len, vs) := by
  cases hz : Nat.beq len 0 with
  | true =>
    have := Nat.eq_of_beq_eq_true hz
    subst this
    have := (getCells_some hg).2
    simp [srcCells, this]
  | false => simp [srcCells, hz, hH, hg]

/-- An append that grows, in the model. -/
theorem append_grow {t t2 ty e : TypeId} {d2 : TypeDesc} (ht : P.underlying t = some (.slice e)) (ht2 : P.underlying t2 = some d2) (hd2 : ∀ k, d2 ≠ .int k) {i : TypeInfo} {z : Value} (hi : P.info? e = some i) (hz : i.zero = some z)
    (hzs : z.cells.size = i.size) (hby : 0 < i.bytes) {base : Option Addr} {sLen sCap m : Nat} {u : Value} {olds news : List Value}
    (hol : olds.length = sLen * i.size) (hold : ∀ w' : World, w'.heap = w.heap → (Builtin.firstCells i.size sLen (.slice base sLen sCap)).run P w' = .ok ⟨olds⟩ w')
    (hnl : news.length = m * i.size) (hlen : ∀ w, (Builtin.lenOf u).run P w = .ok m w) (hnew : ∀ w' : World, w'.heap = w.heap → (Builtin.firstCells i.size m u).run P w' = .ok ⟨news⟩ w')
    (hg : sCap < sLen + m) (hb : (sLen + m) * i.bytes ≤ 140737488355328) :
    ∃ (w' : World) (cap : Nat) (c : Array Value), (Builtin.append_ #[t, t2] ty #[.slice base sLen sCap, u]).run P w = .ok (.slice (some ⟨w.heap.size, 0, none⟩) (sLen + m) cap) w' ∧ Push w w' (.cells c e (0, 0)) ∧
      sLen + m ≤ cap ∧ c.size = cap * i.size ∧ (olds ++ news) <+: c.toList := by
  have hn : ¬ (sLen + m ≤ sCap) := by omega
  have hle : sLen + m ≤ 140737488355328 := Nat.le_trans (Nat.le_mul_of_pos_right _ hby) hb
  have h48 := growslice_fits hg hb
  have h48' : ¬ (Builtin.nextslicecap (sLen + m) sCap * i.bytes > 2 ^ 48) := by omega
  have hz0 : ¬ (i.bytes = 0) := by omega
  have hcap : sLen + m ≤ grownCap w (sLen + m) sCap e := grownCap_ge w _ _ _
  have ho := hold w.drew rfl
  have hn' := hnew w.drew rfl
  refine ⟨w.drew.alloc (.cells (⟨olds⟩ ++ ⟨news⟩ ++ Builtin.zeroCells z.cells (grownCap w (sLen + m) sCap e - (sLen + m))) e), grownCap w (sLen + m) sCap e, _, ?_, ⟨rfl, rfl, ⟨rfl, Nat.le_succ _⟩, rfl⟩, hcap, ?_, ?_⟩
  · simp [Builtin.append_, run_underlying ht, run_underlying ht2, sizeOf, typeInfo, zeroValue, hi, hz, hlen, hn, h48', hz0, Question.forced, grownCap, newRow]
    rw [ho]
    simp only [Result.andThen_ok]
    rw [hn']
    simp only [Result.andThen_ok]
    congr 3
    apply Array.ext'; simp
  · simp only [Array.size_append, List.size_toArray, size_zeroCells, hzs, hol, hnl, ← Nat.add_mul]
    congr 1; omega
  · exact ⟨_, by simp [Array.toList_append]; rfl⟩

/-- .. and so many elements of it. -/
theorem src_cut0 (hR : Rel ι H w) {esz k : Nat} {id off len e : Nat} {u : Value} (hv : VR ι w (.slice id off len e) u) {m : Nat} {vs : List V} (hs : srcTake H esz k (.slice id off len e) = some (m, vs)) :
    ∃ us : List Value, us.length = min m k * esz ∧ VRs ι w vs us ∧ us.all one = true ∧ (∀ w, (Builtin.lenOf u).run P w = .ok m w) ∧ (Builtin.firstCells esz (min m k) u).run P w = .ok ⟨us⟩ w := by
  have triv : min m k = 0 → vs = [] → (∀ w, (Builtin.lenOf u).run P w = .ok m w) → (Builtin.firstCells esz 0 u).run P w = .ok ⟨[]⟩ w → ∃ us : List Value, us.length = min m k * esz ∧ VRs ι w vs us ∧ us.all one = true ∧ (∀ w, (Builtin.lenOf u).run P w = .ok m w) ∧ (Builtin.firstCells esz (min m k) u).run P w = .ok ⟨us⟩ w := by
    rintro h0 rfl hl h1
    rw [h0]
    exact ⟨[], by simp, .nil, rfl, hl, h1⟩
  cases hz0 : Nat.beq (min len k) 0 with
  | true =>
    simp only [srcTake, hz0, cond_true] at hs
    have hz := Nat.eq_of_beq_eq_true hz0
    cases hs
    cases hv with
    | slice0 => exact triv hz rfl (fun _ => rfl) rfl
    | slice _ _ _ _ ad cap hl hc => exact triv hz rfl (fun _ => rfl) (by simp [Builtin.firstCells, loadCells, loadCellsFrom])
  | false =>
    have hne : min len k ≠ 0 := fun h => by rw [h] at hz0; cases hz0
    simp only [srcTake, hz0, cond_false] at hs
    split at hs
    · rename_i rw' cs hH
      split at hs
      · rename_i he
        subst he
        split at hs
        · rename_i vs' hg
          obtain ⟨rfl, rfl⟩ : len = m ∧ vs' = vs := by cases hs; exact ⟨rfl, rfl⟩
          cases hv with
          | slice0 => omega
          | slice _ _ _ _ ad cap hl hc =>
            obtain ⟨b, o, c, e', f, hι, rfl, _, _⟩ := hc (by omega)
            obtain ⟨us, h1, h2, h3, h4⟩ := hR.cells hH hι hg
            refine ⟨us, h1, h2, h3, fun _ => rfl, ?_⟩
            have := run_loadCells_list (P := P) w ⟨b, o + off, none⟩ us h4
            rw [h1] at this
            simpa [Builtin.firstCells] using this
        · cases hs
      · cases hs
    · cases hs
theorem src_cut (hR : Rel ι H w) {esz k : Nat} {v : V} {u : Value} (hv : VR ι w v u) {m : Nat} {vs : List V} (hs : srcTake H esz k v = some (m, vs)) :
    ∃ us : List Value, us.length = min m k * esz ∧ VRs ι w vs us ∧ us.all one = true ∧ (∀ w, (Builtin.lenOf u).run P w = .ok m w) ∧ (Builtin.firstCells esz (min m k) u).run P w = .ok ⟨us⟩ w := by
  cases v with
  | nils =>
    cases hs
    cases hv
    exact ⟨[], by simp, .nil, rfl, fun _ => rfl, by simp [Builtin.firstCells]⟩
  | slice id off len e => exact src_cut0 hR hv hs
  | sliceC id off len cap e => exact src_cut0 hR (Wk.sliceC _ _ _ _ _ ι w _ hv) hs
  | str s =>
    simp only [srcTake] at hs
    split at hs
    · rename_i he
      subst he
      cases hs
      cases hv with
      | str s =>
        refine ⟨(s.data.toList.take k).map fun b => .int .u8 b.toNat, by simp [Nat.min_comm], ?_, ?_, fun _ => by rw [str_size]; rfl, ?_⟩
        · refine VRs.of_get (by simp) fun i v hi => ?_
          rw [List.getElem?_map] at hi
          cases hb : (s.data.toList.take k)[i]? with
          | none => rw [hb] at hi; cases hi
          | some b => rw [hb] at hi; cases hi; exact ⟨_, by rw [List.getElem?_map, hb]; rfl, .int _ _⟩
        · rw [List.all_eq_true]
          intro x hx
          obtain ⟨b, _, rfl⟩ := List.mem_map.1 hx
          rfl
        · simp only [Builtin.firstCells, Sem.run_pure]
          congr 2
          apply Array.ext'
          simp only [ByteArray.data_extract, Array.toList_map, Array.toList_extract, List.extract_eq_take_drop, List.drop_zero, Nat.sub_zero]
          congr 1
          rw [Nat.min_comm, ← List.take_eq_take_min]
    · cases hs
  | _ => cases hs
theorem src_run (hR : Rel ι H w) {esz : Nat} {v : V} {u : Value} (hv : VR ι w v u) {m : Nat} {vs : List V} (hs : srcCells H esz v = some (m, vs)) :
    ∃ us : List Value, us.length = m * esz ∧ VRs ι w vs us ∧ us.all one = true ∧ (∀ w, (Builtin.lenOf u).run P w = .ok m w) ∧
      (∀ w' : World, w'.heap = w.heap → (Builtin.firstCells esz m u).run P w' = .ok ⟨us⟩ w') := by
  by_cases h : ∃ a b c d e, v = .sliceC a b c d e
  · obtain ⟨id, off, len, cap, e, rfl⟩ := h
    exact src_run0 (P := P) hR (by intro _ _ _ _ _ h; cases h) (Wk.sliceC _ _ _ _ _ ι w u hv) (v := .slice id off len e) hs
  · exact src_run0 (P := P) hR (fun a b c d e he => h ⟨a, b, c, d, e, he⟩) hv hs

/-- An object whose cells go on under another id. -/
theorem Rel.takeover {w' : World} (h : Rel ι H w) {id id' : Nat} {o o' : HObj} (h0' : id' ≠ 0) (hH : H id = some o) (hrw : o.rw = true) {b off off' : Nat} (hι : ι id = some (b, off)) (hid : H id' = none) (hι' : ι id' = none)
    (hs : Shp w w') (hf : ∀ k, k ≠ b → w'.heap[k]? = w.heap[k]?) (hos : w'.os = w.os) (ht : Tape w w') (hout : w'.output = w.output) (hsz : w'.heap.size = w.heap.size)
    (hnew : ObjR (ι.add id' (b, off')) w' b off' o') (hrw' : o'.rw = true) :
    Rel (ι.add id' (b, off')) ((H.del id).set id' o') w' ∧ Ext ι H w (ι.add id' (b, off')) ((H.del id).set id' o') w' := by
  have hle := Pl.le_add (ι := ι) (id := id') (b, off') hι'
  have hne : id ≠ id' := by rintro rfl; rw [hH] at hid; cases hid
  have old : ∀ i x, i ≠ id' → ((H.del id).set id' o') i = some x → i ≠ id ∧ H i = some x := by
    intro i x hi hx
    rw [Heap.set_ne _ _ hi] at hx
    by_cases hii : i = id
    · subst hii; rw [Heap.del_same] at hx; cases hx
    · rw [Heap.del_ne _ hii] at hx; exact ⟨hii, hx⟩
  have blk : ∀ i x b' o2, i ≠ id → H i = some x → ι i = some (b', o2) → b' ≠ b := by
    rintro i x b' o2 hi hx hb rfl
    exact hi (h.inj id i o x b' off o2 hH hx hrw hι hb).symm
  refine ⟨⟨?_, ?_, ?_, by rw [Pl.add_ne _ _ (Ne.symm h0')]; exact h.zero⟩, ⟨hle, hos, ht, hout, by omega, hs, ?_, ?_, ?_, ?_⟩⟩
  · intro i x hx
    by_cases hi : i = id'
    · subst hi
      rw [Heap.set_same] at hx; cases hx
      exact ⟨_, _, Pl.add_same _ _ _, hnew⟩
    · obtain ⟨h1, h2⟩ := old i x hi hx
      obtain ⟨b', off2, h3, h4⟩ := h.obj i x h2
      exact ⟨b', off2, hle _ _ h3, h4.keep hle hs (hf b' (blk i x b' off2 h1 h2 h3))⟩
  · intro i i' x x' b1 o1 o1' h1 h2 hr h3 h4
    by_cases hi : i = id'
    · subst hi
      by_cases hi' : i' = i
      · exact hi'.symm
      · obtain ⟨h5, h6⟩ := old i' x' hi' h2
        rw [Pl.add_same] at h3; cases h3
        rw [Pl.add_ne _ _ hi'] at h4
        exact absurd rfl (blk i' x' _ _ h5 h6 h4)
    · obtain ⟨h5, h6⟩ := old i x hi h1
      rw [Pl.add_ne _ _ hi] at h3
      by_cases hi' : i' = id'
      · subst hi'
        rw [Pl.add_same] at h4; cases h4
        exact absurd rfl (blk i x _ _ h5 h6 h3)
      · obtain ⟨h7, h8⟩ := old i' x' hi' h2
        rw [Pl.add_ne _ _ hi'] at h4
        exact h.inj i i' x x' b1 o1 o1' h6 h8 hr h3 h4
  · obtain ⟨N, hN⟩ := h.fin
    refine ⟨max N (id' + 1), fun i hi => ?_⟩
    rw [Pl.add_ne _ _ (by omega)]
    exact hN i (by omega)
  · intro k _ hn
    refine hf k ?_
    rintro rfl
    exact hn ⟨id, o, off, hH, hrw, hι⟩
  · rintro k ⟨i, x, o2, h1, h2, h3⟩
    by_cases hi : i = id'
    · subst hi
      rw [Pl.add_same] at h3; cases h3
      exact .inl ⟨id, o, off, hH, hrw, hι⟩
    · obtain ⟨h5, h6⟩ := old i x hi h1
      rw [Pl.add_ne _ _ hi] at h3
      exact .inl ⟨i, x, o2, h6, h2, h3⟩
  · intro i x h1 h2
    by_cases hi : i = id'
    · subst hi; exact hι'
    · obtain ⟨h5, h6⟩ := old i x hi h1
      rw [h6] at h2; cases h2
  · intro i x h1 h2
    by_cases hi : i = id'
    · subst hi; rw [Heap.set_same] at h1; cases h1; rw [hrw'] at h2; cases h2
    · exact (old i x hi h1).2

theorem Heap.del_le (H : Heap) (i : Nat) : (H.del i).le H := fun j o h => by
  by_cases hj : j = i
  · subst hj; rw [Heap.del_same] at h; cases h
  · rwa [Heap.del_ne _ hj] at h

theorem ef_app (hE : EnvR n ι w env a) (hR : Rel ι H w) {t t2 e : TypeId} (hun : P.underlying t = some (.slice e)) {d2 : TypeDesc} (hun2 : P.underlying t2 = some d2) (hd2 : ∀ k, d2 ≠ .int k) {s by_ : Nat} (hs : sizeT P e = some s) (hby : bytesT P e = some by_)
    {z : V} (hz : zeroT P e = some z) (hzl : z.cells.length = s) (hzt : z.isTup = false) (hby0 : 0 < by_) {x y : Operand} {x' y' : X} (hx : compX n x = some x') (hy : compX n y = some y') {dst : Option Tmp} {ty : TypeId} {pos : String} {af : Array Edge} {g : Option (Nat × Bool)}
    (hk : E.wp P env H K (.app s by_ x' y')) : OpOk P a ⟨dst, .call ⟨.builtin .append, #[x, y], #[t, t2]⟩, ty, pos, af, g⟩ K ι H w := by
  obtain ⟨m, vs, hsrc, hk⟩ := hk
  have hvx := X.sound hE hx
  have hvy := X.sound hE hy
  obtain ⟨us, u1, u2, u3, u4, u5⟩ := src_run (P := P) hR hvy hsrc
  obtain ⟨zu, hz1, hz2, i, hi, hiz⟩ := run_zero hz
  have hzs : zu.cells.size = i.size := by
    have h1 := ((hz2 ι w).cells hzt).1.length
    have h2 : i.size = s := by obtain ⟨i', h3, h4⟩ := sizeT_info hs; rw [hi] at h3; cases h3; exact h4
    simp at h1; omega
  have his : i.size = s := by obtain ⟨i', h3, h4⟩ := sizeT_info hs; rw [hi] at h3; cases h3; exact h4
  have hib : i.bytes = by_ := by simp only [bytesT, hi, Option.map_some, Option.some.injEq] at hby; exact hby
  obtain ⟨id', h00, hid', hι'⟩ := hR.fresh
  have hexec : ∀ (u : Value) (w' : World), (Builtin.append_ #[t, t2] ty #[a.eval x, a.eval y]).run P w = .ok u w' → (execOp a.eval ⟨dst, .call ⟨.builtin .append, #[x, y], #[t, t2]⟩, ty, pos, af, g⟩).run P w = .ok (.value u) w' := by
    intro u w' h
    simp only [execOp, resolve, Sem.run_bind, Sem.run_pure, Result.andThen_ok, invoke, builtin, List.map_toArray, List.map_cons, List.map_nil, h]
  rcases hk with ⟨hd, hb, hk⟩ | ⟨off, e9, hd, hb, hk⟩ | ⟨id, off, len, cs, hd, hH, hfit, hb, hk⟩ | ⟨id, off, len, capv, cs, hd, hH, hfit, hroom, hk⟩ | ⟨id, off, len, capv, cs, hd, hH, hfit, hroom, hb, hk⟩
  · rw [hd] at hvx
    generalize hu : a.eval x = u at *
    cases hvx
    cases hm : Nat.beq m 0 with
    | true =>
      rw [hm] at hk
      simp only [cond_true] at hk
      have h0 := Nat.eq_of_beq_eq_true hm
      subst h0
      have hus : us = [] := List.eq_nil_of_length_eq_zero (by omega)
      subst hus
      refine OpOk.value (u := .slice none 0 0) (w' := w) (hexec _ _ ?_) hk .nils hR (Ext.refl _ _ _)
      have hd : ∀ {α : Type} (A B : α), (if (match d2 with | .int _ => true | _ => false) = true then A else B) = B := by intro α A B; cases d2 <;> first | rfl | exact absurd rfl (hd2 _)
      have := u5 w rfl
      have u4' := u4 w
      simp [Builtin.append_, run_underlying hun, run_underlying hun2, sizeOf, typeInfo, hi, his, u4', this]
    | false =>
      rw [hm] at hk
      simp only [cond_false] at hk
      have h0 : m ≠ 0 := fun h => by subst h; simp at hm
      obtain ⟨w', cap, c, g1, g2, g3, g4, g5⟩ := append_grow (P := P) (w := w) (ty := ty) hun hun2 hd2 hi hiz hzs (by omega) (base := none) (sLen := 0) (sCap := 0) (m := m) (u := a.eval y) (olds := []) (news := us) (by simp) (fun _ _ => rfl)
        (by rw [his]; exact u1) u4 (by rw [his]; exact u5) (by omega) (by rw [Nat.zero_add, hib]; exact hb)
      simp only [Nat.zero_add, List.nil_append] at g1 g3 g5
      obtain ⟨k1, k2⟩ := hR.push h00 hid' hι' g2 u2 u3 g5
      refine OpOk.value (u := .slice (some ⟨w.heap.size, 0, none⟩) m cap) (w' := w') (hexec _ _ g1) (hk id' h00 hid') ?_ k1 k2
      exact .slice _ _ _ _ _ _ g3 fun _ => ⟨w.heap.size, 0, c, e, (0, 0), Pl.add_same _ _ _, by simp, g2.new, by rw [g4, his]; omega⟩
  · rw [hd] at hvx
    generalize hu : a.eval x = u at *
    cases hvx with
    | slice0 =>
      cases hm : Nat.beq m 0 with
      | true =>
        rw [hm] at hk
        simp only [cond_true] at hk
        have h0 := Nat.eq_of_beq_eq_true hm
        subst h0
        have hus : us = [] := List.eq_nil_of_length_eq_zero (by omega)
        subst hus
        refine OpOk.value (u := .slice none 0 0) (w' := w) (hexec _ _ ?_) hk (.slice0 _ _) hR (Ext.refl _ _ _)
        have hd : ∀ {α : Type} (A B : α), (if (match d2 with | .int _ => true | _ => false) = true then A else B) = B := by intro α A B; cases d2 <;> first | rfl | exact absurd rfl (hd2 _)
        have := u5 w rfl
        have u4' := u4 w
        simp [Builtin.append_, run_underlying hun, run_underlying hun2, sizeOf, typeInfo, hi, his, u4', this]
      | false =>
        rw [hm] at hk
        simp only [cond_false] at hk
        have h0 : m ≠ 0 := fun h => by subst h; simp at hm
        obtain ⟨w', cap, c, g1, g2, g3, g4, g5⟩ := append_grow (P := P) (w := w) (ty := ty) hun hun2 hd2 hi hiz hzs (by omega) (base := none) (sLen := 0) (sCap := 0) (m := m) (u := a.eval y) (olds := []) (news := us) (by simp) (fun _ _ => rfl)
          (by rw [his]; exact u1) u4 (by rw [his]; exact u5) (by omega) (by rw [Nat.zero_add, hib]; exact hb)
        simp only [Nat.zero_add, List.nil_append] at g1 g3 g5
        obtain ⟨k1, k2⟩ := hR.push h00 hid' hι' g2 u2 u3 g5
        refine OpOk.value (u := .slice (some ⟨w.heap.size, 0, none⟩) m cap) (w' := w') (hexec _ _ g1) (hk id' h00 hid') ?_ k1 k2
        exact .slice _ _ _ _ _ _ g3 fun _ => ⟨w.heap.size, 0, c, e, (0, 0), Pl.add_same _ _ _, by simp, g2.new, by rw [g4, his]; omega⟩
    | slice _ _ _ _ ad cap hl hc =>
      have hcap0 : cap = 0 := by
        cases Nat.eq_zero_or_pos cap with
        | inl h => exact h
        | inr h => obtain ⟨b, o, _, _, _, h1, _⟩ := hc h; rw [hR.zero] at h1; cases h1
      cases hm : Nat.beq m 0 with
      | true =>
        rw [hm] at hk
        simp only [cond_true] at hk
        have h0 := Nat.eq_of_beq_eq_true hm
        subst h0
        have hus : us = [] := List.eq_nil_of_length_eq_zero (by omega)
        subst hus
        refine OpOk.value (u := .slice (some ad) 0 cap) (w' := w) (hexec _ _ ?_) hk (.slice _ _ _ _ _ _ (Nat.zero_le _) fun h => by omega) hR (Ext.refl _ _ _)
        have hd : ∀ {α : Type} (A B : α), (if (match d2 with | .int _ => true | _ => false) = true then A else B) = B := by intro α A B; cases d2 <;> first | rfl | exact absurd rfl (hd2 _)
        have := u5 w rfl
        have u4' := u4 w
        simp [Builtin.append_, run_underlying hun, run_underlying hun2, sizeOf, typeInfo, hi, his, u4', this, storeCells]
      | false =>
        rw [hm] at hk
        simp only [cond_false] at hk
        have h0 : m ≠ 0 := fun h => by subst h; simp at hm
        obtain ⟨w', cap, c, g1, g2, g3, g4, g5⟩ := append_grow (P := P) (w := w) (ty := ty) hun hun2 hd2 hi hiz hzs (by omega) (base := some ad) (sLen := 0) (sCap := cap) (m := m) (u := a.eval y) (olds := []) (news := us) (by simp) (fun _ _ => by simp [Builtin.firstCells, loadCells, loadCellsFrom])
          (by rw [his]; exact u1) u4 (by rw [his]; exact u5) (by omega) (by rw [Nat.zero_add, hib]; exact hb)
        simp only [Nat.zero_add, List.nil_append] at g1 g3 g5
        obtain ⟨k1, k2⟩ := hR.push h00 hid' hι' g2 u2 u3 g5
        refine OpOk.value (u := .slice (some ⟨w.heap.size, 0, none⟩) m cap) (w' := w') (hexec _ _ g1) (hk id' h00 hid') ?_ k1 k2
        exact .slice _ _ _ _ _ _ g3 fun _ => ⟨w.heap.size, 0, c, e, (0, 0), Pl.add_same _ _ _, by simp, g2.new, by rw [g4, his]; omega⟩
  · rw [hd] at hvx
    generalize hu : a.eval x = u at *
    cases hvx with
    | slice0 => obtain ⟨b, o, hι, _⟩ := hR.obj _ _ hH; rw [hR.zero] at hι; cases hι
    | slice _ _ _ _ ad cap hl hc =>
      obtain ⟨b, o, hι, c, e', f, hbl, hcs, hfr, hcl⟩ := hR.obj _ _ hH
      have hgc : getCells cs off (len * s) = some ((cs.drop off).take (len * s)) := by
        unfold getCells; rw [Nat.ble_eq_true_of_le hfit]; rfl
      -- the cells that there are
      have hold : ∃ olds : List Value, olds.length = len * s ∧ VRs ι w ((cs.drop off).take (len * s)) olds ∧ olds.all one = true ∧ (∀ w' : World, w'.heap = w.heap → (Builtin.firstCells s len (.slice (some ad) len cap)).run P w' = .ok ⟨olds⟩ w') := by
        obtain ⟨us, h1, h2, h3, h4, h5⟩ := src_run (P := P) hR (.slice id off len s ad cap hl hc) (m := len) (vs := (cs.drop off).take (len * s)) (esz := s) (srcCells_slice hH hgc)
        exact ⟨us, h1, h2, h3, h5⟩
      obtain ⟨olds, o1, o2, o3, o4⟩ := hold
      by_cases hroom : len + m ≤ cap
      · by_cases hcap : 0 < cap
        · obtain ⟨b', o', c', e2, f', hι2, rfl, hb', hfit'⟩ := hc hcap
          rw [hι] at hι2; cases hι2
          rw [hbl] at hb'; cases hb'
          have hms : len * s + m * s ≤ cap * s := by rw [← Nat.add_mul]; exact Nat.mul_le_mul_right _ hroom
          obtain ⟨w', c', g1, g2, g3, g4, g5⟩ := storeCells_run (P := P) (o := o + off + len * s) us 0 w c hbl (hfr rfl) (by omega) u3
          have hrest : w'.heap.size = w.heap.size ∧ w'.os = w.os ∧ Tape w w' ∧ w'.output = w.output ∧ ∀ k, k ≠ b → w'.heap[k]? = w.heap[k]? := by
            rcases g2 with rfl | g2
            · exact ⟨rfl, rfl, Tape.refl _, rfl, fun _ _ => rfl⟩
            · exact ⟨g2.size, g2.os, g2.tape, g2.output, g2.old⟩
          obtain ⟨r1, r2, r3, r4, r5⟩ := hrest
          have hshp : Shp w w' := by
            intro b2 c2 e3 f2 h2
            by_cases hbb : b2 = b
            · subst hbb; rw [hbl] at h2; cases h2; exact ⟨c', _, g3, g4⟩
            · exact ⟨c2, f2, by rw [r5 b2 hbb]; exact h2, rfl⟩
          have hle := Pl.le_add (ι := ι) (id := id') (b, o + off) hι'
          have hobj : ObjR (ι.add id' (b, o + off)) w' b (o + off) (.cells true ((cs.drop off).take (len * s) ++ vs)) := by
            have lo := o2.length
            have lv := u2.length
            refine ⟨c', e', f, g3, fun k v hk => ?_, fun _ k hk => hfr rfl k (by omega), by rw [List.length_append, g4]; omega⟩
            rw [← Array.getElem?_toList, g5]
            have e1 : (c.toList.take (o + off + len * s + 0)).length = o + off + len * s := by simp; omega
            by_cases hk1 : k < len * s
            · rw [List.getElem?_append_left (by omega)] at hk
              rw [List.getElem?_take_of_lt hk1, List.getElem?_drop] at hk
              obtain ⟨u, q1, q2, q3⟩ := hcs _ v hk
              refine ⟨u, ?_, q2.mono hle hshp, q3⟩
              rw [List.append_assoc, List.getElem?_append_left (by omega), List.getElem?_take_of_lt (by omega), Array.getElem?_toList, ← q1]
              congr 1; omega
            · rw [List.getElem?_append_right (by omega)] at hk
              obtain ⟨u, q1, q2⟩ := u2.get hk
              refine ⟨u, ?_, q2.mono hle hshp, List.all_eq_true.1 u3 u (List.mem_of_getElem? q1)⟩
              have hklt := (List.getElem?_eq_some_iff.1 q1).1
              rw [List.append_assoc, List.getElem?_append_right (by omega), List.getElem?_append_left (by omega), e1, ← q1]
              congr 1; omega
          obtain ⟨k1, k2⟩ := hR.takeover h00 hH rfl hι hid' hι' hshp r5 r2 r3 r4 r1 hobj rfl
          have hdel : (H.del id) id' = none := by
            by_cases h : id' = id
            · subst h; exact Heap.del_same _ _
            · rw [Heap.del_ne _ h]; exact hid'
          refine OpOk.value (u := .slice (some ⟨b, o + off, none⟩) (len + m) cap) (w' := w') (hexec _ _ ?_) (hk id' h00 hdel) ?_ k1 k2
          · have u4' := u4 w
            have u5' := u5 w rfl
            simp [Builtin.append_, run_underlying hun, run_underlying hun2, sizeOf, typeInfo, hi, his, u4', u5', hroom, Addr.add_lit, g1]
          · refine .slice _ _ _ _ _ _ hroom fun _ => ⟨b, o + off, c', e', f, Pl.add_same _ _ _, by simp, g3, by omega⟩
        · -- nothing there, nothing to come
          have hm0 : m = 0 := by omega
          have hl0 : len = 0 := by omega
          subst hm0; subst hl0
          have hus : us = [] := List.eq_nil_of_length_eq_zero (by omega)
          subst hus
          have hvs : vs = [] := List.eq_nil_of_length_eq_zero (by have := u2.length; simpa using this)
          subst hvs
          have hle := Pl.le_add (ι := ι) (id := id') (b, o) hι'
          obtain ⟨k1, k2⟩ := hR.takeover (o' := .cells true ((cs.drop off).take (0 * s) ++ [])) (off' := o) h00 hH rfl hι hid' hι' (Shp.refl w) (fun _ _ => rfl) rfl (Tape.refl _) rfl rfl ⟨c, e', f, hbl, by simp, fun _ => hfr rfl, by simp; omega⟩ rfl
          have hdel : (H.del id) id' = none := by
            by_cases h : id' = id
            · subst h; exact Heap.del_same _ _
            · rw [Heap.del_ne _ h]; exact hid'
          refine OpOk.value (u := .slice (some ad) 0 cap) (w' := w) (hexec _ _ ?_) (hk id' h00 hdel) (.slice _ _ _ _ _ _ (by omega) fun h => by omega) k1 k2
          have u4' := u4 w
          have u5' := u5 w rfl
          simp [Builtin.append_, run_underlying hun, run_underlying hun2, sizeOf, typeInfo, hi, his, u4', u5', storeCells]
      · obtain ⟨w', cap', c', g1, g2, g3, g4, g5⟩ := append_grow (P := P) (w := w) (ty := ty) hun hun2 hd2 hi hiz hzs (by omega) (base := some ad) (sLen := len) (sCap := cap) (m := m) (u := a.eval y) (olds := olds) (news := us) (by rw [his]; exact o1)
          (by rw [his]; exact o4) (by rw [his]; exact u1) u4 (by rw [his]; exact u5) (by omega) (by rw [hib]; exact hb)
        have hdel : (H.del id) id' = none := by
          by_cases h : id' = id
          · subst h; exact Heap.del_same _ _
          · rw [Heap.del_ne _ h]; exact hid'
        have hR' := hR.weaken (Heap.del_le H id)
        obtain ⟨k1, k2⟩ := hR'.push h00 hdel hι' g2 (o2.append u2) (by rw [List.all_append, o3, u3]; rfl) g5
        have hE' : Ext ι H w ι (H.del id) w := (Ext.refl ι H w).forget (Heap.del_le H id)
        refine OpOk.value (u := .slice (some ⟨w.heap.size, 0, none⟩) (len + m) cap') (w' := w') (hexec _ _ g1) (hk id' h00 hdel) ?_ k1 (hE'.trans k2)
        exact .slice _ _ _ _ _ _ g3 fun _ => ⟨w.heap.size, 0, c', e, (0, 0), Pl.add_same _ _ _, by simp, g2.new, by rw [g4, his]; omega⟩

  · rw [hd] at hvx
    generalize hu : a.eval x = u at *
    have u4' := u4 w
    have u5' := u5 w rfl
    cases hvx with
    | sliceC0 => obtain ⟨b, o, hι, _⟩ := hR.obj _ _ hH; rw [hR.zero] at hι; cases hι
    | sliceC _ _ _ _ ad cap hl hc =>
      obtain ⟨b, o, hι, c, e', f, hbl, hcs, hfr, hcl⟩ := hR.obj _ _ hH
      by_cases hcap : 0 < capv
      · obtain ⟨b', o', c', e2, f', hι2, rfl, hb', hfit'⟩ := hc hcap
        rw [hι] at hι2; cases hι2
        rw [hbl] at hb'; cases hb'
        have hms : len * s + m * s ≤ capv * s := by rw [← Nat.add_mul]; exact Nat.mul_le_mul_right _ hroom
        obtain ⟨w', g1, g2, g3⟩ := hR.writeAt (P := P) hH hι hbl u2 u3 (off := off + len * s) hfit (by omega)
        refine OpOk.value (u := .slice (some ⟨b, o + off, none⟩) (len + m) capv) (w' := w') (hexec _ _ ?_) hk ?_ g2 g3
        · simp [Builtin.append_, run_underlying hun, run_underlying hun2, sizeOf, typeInfo, hi, his, u4', u5', hroom, Addr.add_lit, Nat.add_assoc, g1]
        · refine .sliceC _ _ _ _ _ _ hroom fun _ => ?_
          obtain ⟨c', f', q1, q2⟩ := g3.shp b c e' f hbl
          exact ⟨b, o, c', e', f', g3.pl _ _ hι, rfl, q1, by omega⟩
      · have hm0 : m = 0 := by omega
        have hl0 : len = 0 := by omega
        subst hm0; subst hl0
        have hus : us = [] := List.eq_nil_of_length_eq_zero (by omega)
        subst hus
        have hvs : vs = [] := List.eq_nil_of_length_eq_zero (by have := u2.length; simpa using this)
        subst hvs
        have hsame : H.set id (.cells true (splice cs (off + 0 * s) [])) = H := by
          funext i
          by_cases hi : i = id
          · subst hi; rw [Heap.set_same, hH]; simp [splice]
          · rw [Heap.set_ne _ _ hi]
        rw [hsame] at hk
        refine OpOk.value (u := .slice (some ad) 0 capv) (w' := w) (hexec _ _ ?_) hk (.sliceC _ _ _ _ _ _ (by omega) fun h => by omega) hR (Ext.refl _ _ _)
        simp [Builtin.append_, run_underlying hun, run_underlying hun2, sizeOf, typeInfo, hi, his, u4', u5', storeCells]
  · rw [hd] at hvx
    generalize hu : a.eval x = u at *
    cases hvx with
    | sliceC0 => obtain ⟨b, o, hι, _⟩ := hR.obj _ _ hH; rw [hR.zero] at hι; cases hι
    | sliceC _ _ _ _ ad cap hl hc =>
      have hgc : getCells cs off (len * s) = some ((cs.drop off).take (len * s)) := by
        unfold getCells; rw [Nat.ble_eq_true_of_le hfit]; rfl
      obtain ⟨olds, o1, o2, o3, _, o4⟩ := src_run (P := P) hR (.slice id off len s ad capv hl hc) (m := len) (vs := (cs.drop off).take (len * s)) (esz := s) (srcCells_slice hH hgc)
      obtain ⟨w', cap', c', g1, g2, g3, g4, g5⟩ := append_grow (P := P) (w := w) (ty := ty) hun hun2 hd2 hi hiz hzs (by omega) (base := some ad) (sLen := len) (sCap := capv) (m := m) (u := a.eval y) (olds := olds) (news := us) (by rw [his]; exact o1)
        (by rw [his]; exact o4) (by rw [his]; exact u1) u4 (by rw [his]; exact u5) (by omega) (by rw [hib]; exact hb)
      obtain ⟨k1, k2⟩ := hR.push h00 hid' hι' g2 (o2.append u2) (by rw [List.all_append, o3, u3]; rfl) g5
      refine OpOk.value (u := .slice (some ⟨w.heap.size, 0, none⟩) (len + m) cap') (w' := w') (hexec _ _ g1) (hk id' h00 hid') ?_ k1 k2
      exact .slice _ _ _ _ _ _ g3 fun _ => ⟨w.heap.size, 0, c', e, (0, 0), Pl.add_same _ _ _, by simp, g2.new, by rw [g4, his]; omega⟩

end
end Go.CM
