/-
  diff: Make.
-/
import Derived.Test.YtebhddpildfgcaaDiffB
import Derived.Test.YtebhddpildfgcaaRecB
namespace Go.Proofs.Ytebhddpildfgcaa
open Go Go.CM
set_option maxRecDepth 100000
set_option maxHeartbeats 4000000

/-- What is told of a name. -/
def recOf (X Y : List Entry) (n : Nm) : List Rec :=
  match getL X n, getL Y n with
  | _, none => [dropR n]
  | none, some e => [putR e]
  | some o, some e => if e = o then [] else [putR e]
theorem srtN_head {ns : List Nm} {n0 : Nm} (h : SrtN ns) (h0 : n0 ∈ ns) (hm : ∀ m ∈ ns, m = n0 ∨ ahd n0 m = true) : ∃ ns', ns = n0 :: ns' ∧ SrtN ns' ∧ ∀ m, m ∈ ns' ↔ m ∈ ns ∧ m ≠ n0 := by
  cases ns with
  | nil => cases h0
  | cons a ns =>
    have h' := List.pairwise_cons.1 h
    have ha : a = n0 := by
      rcases hm a (by simp) with e | e
      · exact e
      · rcases List.mem_cons.1 h0 with e2 | e2
        · exact e2.symm
        · have := h'.1 n0 e2
          rw [ahd_asymm e] at this; cases this
    subst ha
    refine ⟨ns, rfl, h'.2, fun m => ⟨fun hm => ⟨List.mem_cons_of_mem _ hm, (ahd_ne (h'.1 m hm)).symm⟩, fun ⟨hm, hne⟩ => ?_⟩⟩
    rcases List.mem_cons.1 hm with e | e
    · exact absurd e hne
    · exact e
theorem flatMap_cong {α β : Type} {l : List α} {f g : α → List β} (h : ∀ a ∈ l, f a = g a) : l.flatMap f = l.flatMap g := by
  induction l with
  | nil => rfl
  | cons a l ih => rw [List.flatMap_cons, List.flatMap_cons, h a (by simp), ih fun b hb => h b (List.mem_cons_of_mem _ hb)]
theorem makeN_merge : ∀ (X Y : List Entry) (ns : List Nm), Srt X → Srt Y → SrtN ns → (∀ n, n ∈ ns ↔ n ∈ X.map enm ∨ n ∈ Y.map enm) → ns.flatMap (recOf X Y) = mergeR X Y
  | [], [], ns, _, _, _, hm => by
    have : ns = [] := List.eq_nil_iff_forall_not_mem.2 fun n hn => by simpa using (hm n).1 hn
    subst this
    rw [mergeR]; rfl
  | x :: xs, [], ns, hX, hY, hs, hm => by
    have hx := Srt.cons.1 hX
    obtain ⟨ns', rfl, hs', hm'⟩ := srtN_head (n0 := enm x) hs ((hm _).2 (by simp)) (fun m h => by
      rcases (hm m).1 h with h | h
      · rw [List.map_cons, List.mem_cons] at h
        rcases h with h | h
        · exact .inl h
        · obtain ⟨e, he, rfl⟩ := List.mem_map.1 h
          exact .inr (hx.1 e he)
      · simp at h)
    have ih := makeN_merge xs [] ns' hx.2 hY hs' (fun n => by
      rw [hm', hm]
      constructor
      · rintro ⟨h | h, hne⟩
        · rw [List.map_cons, List.mem_cons] at h
          exact .inl (h.resolve_left hne)
        · exact .inr h
      · rintro (h | h)
        · obtain ⟨e, he, rfl⟩ := List.mem_map.1 h
          exact ⟨.inl (List.mem_cons_of_mem _ h), (ahd_ne (hx.1 e he)).symm⟩
        · simp at h)
    rw [mergeR, ← ih, List.flatMap_cons]
    have e1 : recOf (x :: xs) [] (enm x) = [dropR (enm x)] := by rw [recOf, getL_cons, if_pos rfl]; rfl
    rw [e1]
    show dropR (enm x) :: _ = _
    congr 1
  | [], y :: ys, ns, hX, hY, hs, hm => by
    have hy := Srt.cons.1 hY
    obtain ⟨ns', rfl, hs', hm'⟩ := srtN_head (n0 := enm y) hs ((hm _).2 (by simp)) (fun m h => by
      rcases (hm m).1 h with h | h
      · simp at h
      · rw [List.map_cons, List.mem_cons] at h
        rcases h with h | h
        · exact .inl h
        · obtain ⟨e, he, rfl⟩ := List.mem_map.1 h
          exact .inr (hy.1 e he))
    have ih := makeN_merge [] ys ns' hX hy.2 hs' (fun n => by
      rw [hm', hm]
      constructor
      · rintro ⟨h | h, hne⟩
        · exact .inl h
        · rw [List.map_cons, List.mem_cons] at h
          exact .inr (h.resolve_left hne)
      · rintro (h | h)
        · simp at h
        · obtain ⟨e, he, rfl⟩ := List.mem_map.1 h
          exact ⟨.inr (List.mem_cons_of_mem _ h), (ahd_ne (hy.1 e he)).symm⟩)
    rw [mergeR, ← ih, List.flatMap_cons]
    have e1 : recOf [] (y :: ys) (enm y) = [putR y] := by rw [recOf, getL_cons, if_pos rfl]; rfl
    rw [e1]
    show putR y :: _ = _
    congr 1
    refine flatMap_cong fun n hn => ?_
    have hne := ((hm' n).1 hn).2
    rw [recOf, recOf, getL_cons, if_neg (Ne.symm hne)]
  | x :: xs, y :: ys, ns, hX, hY, hs, hm => by
    have hx := Srt.cons.1 hX
    have hy := Srt.cons.1 hY
    rw [mergeR]
    have inX : ∀ m, m ∈ (x :: xs).map enm → m = enm x ∨ ahd (enm x) m = true := fun m h => by
      rw [List.map_cons, List.mem_cons] at h
      rcases h with h | h
      · exact .inl h
      · obtain ⟨e, he, rfl⟩ := List.mem_map.1 h
        exact .inr (hx.1 e he)
    have inY : ∀ m, m ∈ (y :: ys).map enm → m = enm y ∨ ahd (enm y) m = true := fun m h => by
      rw [List.map_cons, List.mem_cons] at h
      rcases h with h | h
      · exact .inl h
      · obtain ⟨e, he, rfl⟩ := List.mem_map.1 h
        exact .inr (hy.1 e he)
    have outX : ∀ m, m ∈ xs.map enm → ahd (enm x) m = true := fun m h => by
      obtain ⟨e, he, rfl⟩ := List.mem_map.1 h
      exact hx.1 e he
    have outY : ∀ m, m ∈ ys.map enm → ahd (enm y) m = true := fun m h => by
      obtain ⟨e, he, rfl⟩ := List.mem_map.1 h
      exact hy.1 e he
    cases hxy : ahd (enm x) (enm y) with
    | true =>
      rw [if_pos rfl]
      have farY : ∀ m, m ∈ (y :: ys).map enm → ahd (enm x) m = true := fun m h => by
        rcases inY m h with rfl | h
        · exact hxy
        · exact ahd_trans hxy h
      obtain ⟨ns', rfl, hs', hm'⟩ := srtN_head (n0 := enm x) hs ((hm _).2 (by simp)) (fun m h => by
        rcases (hm m).1 h with h | h
        · exact inX m h
        · exact .inr (farY m h))
      have ih := makeN_merge xs (y :: ys) ns' hx.2 hY hs' (fun n => by
        rw [hm', hm]
        constructor
        · rintro ⟨h | h, hne⟩
          · rw [List.map_cons, List.mem_cons] at h
            exact .inl (h.resolve_left hne)
          · exact .inr h
        · rintro (h | h)
          · exact ⟨.inl (List.mem_cons_of_mem _ h), (ahd_ne (outX n h)).symm⟩
          · exact ⟨.inr h, (ahd_ne (farY n h)).symm⟩)
      rw [← ih, List.flatMap_cons]
      have e1 : recOf (x :: xs) (y :: ys) (enm x) = [dropR (enm x)] := by
        have : getL (y :: ys) (enm x) = none := getL_none.2 fun e he => (ahd_ne (farY _ (List.mem_map_of_mem he))).symm
        rw [recOf, this]
      rw [e1]
      show dropR (enm x) :: _ = _
      congr 1
      refine flatMap_cong fun n hn => ?_
      have hne := ((hm' n).1 hn).2
      rw [recOf, recOf, getL_cons x, if_neg (Ne.symm hne)]
    | false =>
      rw [if_neg (by simp)]
      cases hyx : ahd (enm y) (enm x) with
      | true =>
        rw [if_pos rfl]
        have farX : ∀ m, m ∈ (x :: xs).map enm → ahd (enm y) m = true := fun m h => by
          rcases inX m h with rfl | h
          · exact hyx
          · exact ahd_trans hyx h
        obtain ⟨ns', rfl, hs', hm'⟩ := srtN_head (n0 := enm y) hs ((hm _).2 (by simp)) (fun m h => by
          rcases (hm m).1 h with h | h
          · exact .inr (farX m h)
          · exact inY m h)
        have ih := makeN_merge (x :: xs) ys ns' hX hy.2 hs' (fun n => by
          rw [hm', hm]
          constructor
          · rintro ⟨h | h, hne⟩
            · exact .inl h
            · rw [List.map_cons, List.mem_cons (l := ys.map enm)] at h
              exact .inr (h.resolve_left hne)
          · rintro (h | h)
            · exact ⟨.inl h, (ahd_ne (farX n h)).symm⟩
            · exact ⟨.inr (List.mem_cons_of_mem _ h), (ahd_ne (outY n h)).symm⟩)
        rw [← ih, List.flatMap_cons]
        have e1 : recOf (x :: xs) (y :: ys) (enm y) = [putR y] := by
          have : getL (x :: xs) (enm y) = none := getL_none.2 fun e he => (ahd_ne (farX _ (List.mem_map_of_mem he))).symm
          rw [recOf, this, getL_cons, if_pos rfl]
        rw [e1]
        show putR y :: _ = _
        congr 1
        refine flatMap_cong fun n hn => ?_
        have hne := ((hm' n).1 hn).2
        rw [recOf, recOf, getL_cons y, if_neg (Ne.symm hne)]
      | false =>
        rw [if_neg (by simp)]
        have hn := ahd_tri hxy hyx
        obtain ⟨ns', rfl, hs', hm'⟩ := srtN_head (n0 := enm x) hs ((hm _).2 (by simp)) (fun m h => by
          rcases (hm m).1 h with h | h
          · exact inX m h
          · rw [hn]; exact inY m h)
        have ih := makeN_merge xs ys ns' hx.2 hy.2 hs' (fun n => by
          rw [hm', hm]
          constructor
          · rintro ⟨h | h, hne⟩
            · rw [List.map_cons, List.mem_cons] at h
              exact .inl (h.resolve_left hne)
            · rw [List.map_cons, List.mem_cons (l := ys.map enm)] at h
              exact .inr (h.resolve_left (hn ▸ hne))
          · rintro (h | h)
            · exact ⟨.inl (List.mem_cons_of_mem _ h), (ahd_ne (outX n h)).symm⟩
            · exact ⟨.inr (List.mem_cons_of_mem _ h), hn ▸ (ahd_ne (outY n h)).symm⟩)
        rw [← ih, List.flatMap_cons]
        have e1 : recOf (x :: xs) (y :: ys) (enm x) = if y = x then [] else [putR y] := by
          rw [recOf, getL_cons x, if_pos rfl, getL_cons y, if_pos hn.symm]
        have e2 : ns'.flatMap (recOf (x :: xs) (y :: ys)) = ns'.flatMap (recOf xs ys) := flatMap_cong fun n h => by
          have hne := ((hm' n).1 h).2
          rw [recOf, recOf, getL_cons x, if_neg (Ne.symm hne), getL_cons y, if_neg (hn ▸ Ne.symm hne)]
        rw [e1, e2]
        by_cases hxy' : x = y
        · rw [if_pos hxy'.symm, if_pos hxy']; rfl
        · rw [if_neg (Ne.symm hxy'), if_neg hxy']; rfl
termination_by X Y => X.length + Y.length
decreasing_by all_goals (simp only [List.length_cons]; omega)
end Go.Proofs.Ytebhddpildfgcaa
