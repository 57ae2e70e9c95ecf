/-
  A program logic over the model's calls, part 15: operations that may stand in either order.
-/
import Derived.Test.YtmebampmjfbahaaCmEff4
namespace Go.CM

/-- Two environments say the same of some slots. -/
def Agree (us : List Nat) (env env' : Env) : Prop := ∀ t ∈ us, env t = env' t

theorem Agree.left {us vs : List Nat} {env env' : Env} (h : Agree (us ++ vs) env env') : Agree us env env' := fun t ht => h t (List.mem_append_left _ ht)
theorem Agree.right {us vs : List Nat} {env env' : Env} (h : Agree (us ++ vs) env env') : Agree vs env env' := fun t ht => h t (List.mem_append_right _ ht)

theorem X.congr {x : X} {env env' : Env} (h : Agree x.uses env env') : x.ev env = x.ev env' := by
  cases x with
  | t n => exact h n (by simp [X.uses])
  | k v => rfl

theorem Xs.congr {env env' : Env} : ∀ {xs : List X}, Agree (xs.flatMap X.uses) env env' → xs.map (X.ev env) = xs.map (X.ev env')
  | [], _ => rfl
  | x :: xs, h => by
    rw [List.flatMap_cons] at h
    simp [X.congr h.left, Xs.congr h.right]

theorem opt_congr {x : Option X} {env env' : Env} (h : Agree (optUses x) env env') : x.map (X.ev env) = x.map (X.ev env') := by
  cases x with
  | none => rfl
  | some x => simp [X.congr h]

theorem fillV_congr {env env' : Env} : ∀ {ps : List (Nat × Nat × X)} {cs : List V}, Agree (ps.flatMap fun p => p.2.2.uses) env env' → fillV env cs ps = fillV env' cs ps
  | [], _, _ => rfl
  | (off, s, x) :: ps, cs, h => by
    rw [List.flatMap_cons] at h
    have h1 := X.congr h.left
    simp only [fillV, h1]
    rw [fillV_congr h.right]

theorem R.congr {r : R} {env env' : Env} {H : Heap} (h : Agree r.uses env env') : r.ev env H = r.ev env' H := by
  cases r <;> simp only [R.uses] at h <;> simp only [R.ev]
  case pick c a b => rw [X.congr h.left.left, X.congr h.left.right, X.congr h.right]
  case build z ps => rw [fillV_congr h]
  case bin op x y => rw [X.congr h.left, X.congr h.right]
  case eq c g x y => rw [X.congr h.left, X.congr h.right]
  case iaddrS s x y => rw [X.congr h.left, X.congr h.right]
  case iaddrA k s x y => rw [X.congr h.left, X.congr h.right]
  case idxStr x y => rw [X.congr h.left, X.congr h.right]
  case idxArr1 k x y => rw [X.congr h.left, X.congr h.right]
  case lookup kt z ok x y => rw [X.congr h.left, X.congr h.right]
  case cutStr x lo hi => rw [X.congr h.left.left, opt_congr h.left.right, opt_congr h.right]
  case cutSl s x lo hi => rw [X.congr h.left.left, opt_congr h.left.right, opt_congr h.right]
  case mn x xs => rw [X.congr h.left, Xs.congr h.right]
  case mx x xs => rw [X.congr h.left, Xs.congr h.right]
  case clo f xs => rw [Xs.congr h]
  all_goals first | rfl | rw [X.congr h]

theorem E.congr {P : Program} {e : E} {env env' : Env} {H : Heap} {K : V → Heap → Prop} (h : Agree e.uses env env') : e.wp P env H K = e.wp P env' H K := by
  cases e <;> simp only [E.uses] at h <;> simp only [E.wp]
  case box x => rw [X.congr h]
  case lit s l z ps => rw [fillV_congr h]
  case store k x y => rw [X.congr h.left, X.congr h.right]
  case app s b x y => rw [X.congr h.left, X.congr h.right]
  case mkSl s b z x y => rw [X.congr h.left, X.congr h.right]
  case put kt m k v => rw [X.congr h.left.left, X.congr h.left.right, X.congr h.right]
  case del kt m k => rw [X.congr h.left, X.congr h.right]
  case call f xs => rw [Xs.congr h]
  case callv x xs => rw [X.congr h.left, Xs.congr h.right]
  case inv x m xs => rw [X.congr h.left, Xs.congr h.right]

theorem fresh_mono {H : Heap} {o : HObj} {K K' : Nat → Heap → Prop} (hk : ∀ id H', K id H' → K' id H') (h : fresh H o K) : fresh H o K' := fun id h0 hid => hk _ _ (h id h0 hid)

theorem E.mono {P : Program} {e : E} {env : Env} {H : Heap} {K K' : V → Heap → Prop} (hk : ∀ v H', K v H' → K' v H') (h : e.wp P env H K) : e.wp P env H K' := by
  cases e <;> simp only [E.wp] at h ⊢
  case alloc z => exact fresh_mono (fun _ _ => hk _ _) h
  case box x => exact ⟨h.1, fresh_mono (fun _ _ => hk _ _) h.2⟩
  case lit s l z ps => obtain ⟨cs, h1, h2⟩ := h; exact ⟨cs, h1, fresh_mono (fun _ _ => hk _ _) h2⟩
  case store k x y => obtain ⟨id, off, cs, h1, h2, h3, h4, h5, h6⟩ := h; exact ⟨id, off, cs, h1, h2, h3, h4, h5, hk _ _ h6⟩
  case app s b x y =>
    obtain ⟨m, vs, h1, h2⟩ := h
    refine ⟨m, vs, h1, ?_⟩
    rcases h2 with ⟨h2, h3, h4⟩ | ⟨off, e9, h2, h3, h4⟩ | ⟨id, off, len, cs, h2, h3, h4, h5, h6⟩
    · refine .inl ⟨h2, h3, ?_⟩
      cases hm : Nat.beq m 0 with
      | true => rw [hm] at h4; exact hk _ _ h4
      | false => rw [hm] at h4; exact fresh_mono (fun _ _ => hk _ _) h4
    · refine .inr (.inl ⟨off, e9, h2, h3, ?_⟩)
      cases hm : Nat.beq m 0 with
      | true => rw [hm] at h4; exact hk _ _ h4
      | false => rw [hm] at h4; exact fresh_mono (fun _ _ => hk _ _) h4
    · exact .inr (.inr ⟨id, off, len, cs, h2, h3, h4, h5, fresh_mono (fun _ _ => hk _ _) h6⟩)
  case mkSl s b z x y => obtain ⟨kl, nl, kc, nc, h1, h2, h3, h4, h5, h6, h7⟩ := h; exact ⟨kl, nl, kc, nc, h1, h2, h3, h4, h5, h6, fresh_mono (fun _ _ => hk _ _) h7⟩
  case mkMap => exact fresh_mono (fun _ _ => hk _ _) h
  case put kt m k v => obtain ⟨id, es, r, h1, h2, h3, h4, h5⟩ := h; exact ⟨id, es, r, h1, h2, h3, h4, hk _ _ h5⟩
  case del kt m k =>
    rcases h with ⟨h1, h2, h3⟩ | ⟨id, es, r, h1, h2, h3, h4⟩
    · exact .inl ⟨h1, h2, hk _ _ h3⟩
    · exact .inr ⟨id, es, r, h1, h2, h3, hk _ _ h4⟩
  case call f xs => exact CallsC.mono h hk
  case callv x xs => obtain ⟨f, cap, h1, h2⟩ := h; exact ⟨f, cap, h1, CallsC.mono h2 hk⟩
  case inv x m xs => obtain ⟨t, v, f, r, h1, h2, h3⟩ := h; exact ⟨t, v, f, r, h1, h2, CallsC.mono h3 hk⟩

theorem O.congr {P : Program} {o : O} {env env' : Env} {H : Heap} {K : V → Heap → Prop} (h : Agree o.uses env env') : o.wp P env H K = o.wp P env' H K := by
  cases o with
  | rd r => simp only [O.wp, R.congr (H := H) (show Agree r.uses env env' from h)]
  | ef e => exact E.congr h

theorem O.mono {P : Program} {o : O} {env : Env} {H : Heap} {K K' : V → Heap → Prop} (hk : ∀ v H', K v H' → K' v H') (h : o.wp P env H K) : o.wp P env H K' := by
  cases o with
  | rd r => obtain ⟨v, h1, h2⟩ := h; exact ⟨v, h1, hk _ _ h2⟩
  | ef e => exact E.mono hk h

theorem R.le {r : R} {env : Env} {H H' : Heap} (hl : H.le H') {v : V} (h : r.ev env H = some v) : r.ev env H' = some v := by
  cases r <;> simp only [R.ev] at h ⊢ <;> first | exact h | skip
  case load1 a =>
    split at h
    · split at h
      · rename_i hH; rw [hl _ _ hH]; exact h
      · cases h
    · cases h
  case loadn k a =>
    split at h
    · split at h
      · rename_i hH; rw [hl _ _ hH]; exact h
      · cases h
    · cases h
  case b2s x =>
    split at h
    · exact h
    · rename_i id off len esz _
      cases hz : Nat.beq len 0 with
      | true => rw [hz] at h; exact h
      | false =>
        rw [hz] at h
        simp only [cond_false] at h ⊢
        split at h
        · rename_i hH; rw [hl _ _ hH]; exact h
        · cases h
    · cases h
  case lenMap x =>
    split at h
    · exact h
    · split at h
      · rename_i hH; rw [hl _ _ hH]; exact h
      · cases h
    · cases h
  case lookup kt z ok m k =>
    split at h
    · exact h
    · split at h
      · rename_i hH; rw [hl _ _ hH]; exact h
      · cases h
    · cases h

theorem R.quiet {r : R} {env : Env} (hr : r.reads = false) (H H' : Heap) : r.ev env H = r.ev env H' := by
  cases r <;> simp only [R.reads] at hr <;> first | rfl | cases hr

/-- What an operation with its guard comes to. -/
def I.out (P : Program) (env : Env) (H : Heap) (K : V → Heap → Prop) (i : I) : Prop :=
  match i.g with
  | none => i.o.wp P env H fun v H' => (i.x = true → H.le H') ∧ K v H'
  | some (s, b) => gcond (env s) b (i.o.wp P env H fun v H' => (i.x = true → H.le H') ∧ K v H') (K V.undef H)

theorem I.wp_out (P : Program) (env : Env) (H : Heap) (K : Env → Heap → Prop) (i : I) : i.wp P env H K = i.out P env H fun v H' => K (env.put i.d v) H' := by
  unfold I.wp I.out I.run
  cases i.g with
  | none => rfl
  | some g => rfl

theorem gcond_mono {v : V} {b : Bool} {A B A' B' : Prop} (h : gcond v b A B) (hA : A → A') (hB : B → B') : gcond v b A' B' := by
  cases v <;> simp only [gcond] at h ⊢ <;> first | exact hB h | skip
  rename_i c
  cases hc : c == b with
  | true => rw [hc] at h; exact hA h
  | false => rw [hc] at h; exact hB h

theorem I.out_mono {P : Program} {env : Env} {H : Heap} {K K' : V → Heap → Prop} {i : I} (hk : ∀ v H', K v H' → K' v H') (h : i.out P env H K) : i.out P env H K' := by
  unfold I.out at *
  split at h
  · exact O.mono (fun v H' h => ⟨h.1, hk _ _ h.2⟩) h
  · exact gcond_mono h (O.mono fun v H' h => ⟨h.1, hk _ _ h.2⟩) (hk _ _)

theorem I.out_congr {P : Program} {env env' : Env} {H : Heap} {K : V → Heap → Prop} {i : I} (h : Agree i.uses env env') : i.out P env H K = i.out P env' H K := by
  unfold I.uses at h
  have h1 : Agree i.o.uses env env' := h.left
  unfold I.out
  cases hg : i.g with
  | none => simp only; rw [O.congr h1]
  | some g =>
    obtain ⟨s, b⟩ := g
    have h2 := h.right
    rw [hg] at h2
    have hs : env s = env' s := h2 s (by simp)
    simp only
    rw [O.congr h1, hs]

theorem agree_put {us : List Nat} {d : Option Nat} (h : dApart d us = true) (env : Env) (v : V) : Agree us (env.put d v) env := by
  intro t ht
  cases d with
  | none => rfl
  | some d =>
    have hne : t ≠ d := by
      rintro rfl
      simp [dApart] at h
      exact h ht
    simp [Env.put, show Nat.beq t d = false from Bool.eq_false_iff.2 fun e => hne (Nat.eq_of_beq_eq_true e)]

theorem put_comm {d d' : Option Nat} (h : dNe d d' = true) (env : Env) (v v' : V) : (env.put d v).put d' v' = (env.put d' v').put d v := by
  cases d with
  | none => rfl
  | some d =>
    cases d' with
    | none => rfl
    | some d' =>
      have hne : d ≠ d' := by
        rintro rfl
        simp [dNe] at h
      funext t
      simp only [Env.put]
      by_cases h1 : t = d
      · subst h1
        have : Nat.beq t d' = false := Bool.eq_false_iff.2 fun e => hne (Nat.eq_of_beq_eq_true e)
        simp [this]
      · have : Nat.beq t d = false := Bool.eq_false_iff.2 fun e => h1 (Nat.eq_of_beq_eq_true e)
        simp [this]

/-- The step that only reads, moved behind another. -/
theorem out_swap {P : Program} {env : Env} {H : Heap} {i j : I} (h : (match j.o, i.o with
    | .rd _, .rd _ => true
    | .rd r, .ef _ => !r.reads || i.x
    | .ef _, _ => false) = true) {K : V → V → Heap → Prop}
    (hk : j.out P env H fun v1 H1 => i.out P env H1 fun v2 H2 => K v1 v2 H2) : i.out P env H fun v2 H2 => j.out P env H2 fun v1 H1 => K v1 v2 H1 := by
  cases hj : j.o with
  | ef e => rw [hj] at h; cases i.o <;> cases h
  | rd r =>
    -- j comes to one value, wherever the heap has not turned
    have key : ∃ v1, (i.out P env H fun v2 H2 => K v1 v2 H2) ∧ ∀ (H' : Heap), (H.le H' ∨ r.reads = false) → ∀ K' : V → Heap → Prop, K' v1 H' → j.out P env H' K' := by
      unfold I.out at hk
      cases hg : j.g with
      | none =>
        rw [hg, hj] at hk
        obtain ⟨v, h1, _, h2⟩ := hk
        refine ⟨v, h2, fun H' hl K' hk' => ?_⟩
        unfold I.out
        rw [hg, hj]
        refine ⟨v, ?_, fun _ => Heap.le_refl _, hk'⟩
        rcases hl with hl | hl
        · exact R.le hl h1
        · rw [← R.quiet hl H H']; exact h1
      | some g =>
        obtain ⟨s, b⟩ := g
        rw [hg, hj] at hk
        have skip : (gcond (env s) b False True → (i.out P env H fun v2 H2 => K V.undef v2 H2) → ∃ v1, (i.out P env H fun v2 H2 => K v1 v2 H2) ∧ ∀ (H' : Heap), (H.le H' ∨ r.reads = false) → ∀ K' : V → Heap → Prop, K' v1 H' → j.out P env H' K') := by
          intro hs h2
          refine ⟨V.undef, h2, fun H' _ K' hk' => ?_⟩
          unfold I.out
          rw [hg]
          exact gcond_mono hs (fun h => h.elim) (fun _ => hk')
        have take : (gcond (env s) b True False → (∃ v, r.ev env H = some v ∧ (i.out P env H fun v2 H2 => K v v2 H2)) → ∃ v1, (i.out P env H fun v2 H2 => K v1 v2 H2) ∧ ∀ (H' : Heap), (H.le H' ∨ r.reads = false) → ∀ K' : V → Heap → Prop, K' v1 H' → j.out P env H' K') := by
          rintro hs ⟨v, h1, h2⟩
          refine ⟨v, h2, fun H' hl K' hk' => ?_⟩
          unfold I.out
          rw [hg, hj]
          refine gcond_mono hs (fun _ => ⟨v, ?_, fun _ => Heap.le_refl _, hk'⟩) (fun h => h.elim)
          rcases hl with hl | hl
          · exact R.le hl h1
          · rw [← R.quiet hl H H']; exact h1
        simp only at hk
        cases hv : env s with
        | bool c =>
          rw [hv] at hk skip take
          simp only [gcond] at hk skip take
          cases hc : c == b with
          | true =>
            rw [hc] at hk
            obtain ⟨v, h1, _, h2⟩ := hk
            exact take (by rw [hc]; trivial) ⟨v, h1, h2⟩
          | false =>
            rw [hc] at hk
            exact skip (by rw [hc]; trivial) hk
        | _ =>
          rw [hv] at hk skip
          exact skip trivial hk
    obtain ⟨v1, h1, h2⟩ := key
    -- and i leaves the heap as it must
    have keep : ∀ K' : V → Heap → Prop, i.out P env H K' → i.out P env H fun v H' => (H.le H' ∨ r.reads = false) ∧ K' v H' := by
      intro K' hk'
      cases hi : i.o with
      | rd r' =>
        unfold I.out at *
        rw [hi] at hk' ⊢
        cases hg : i.g with
        | none =>
          rw [hg] at hk'
          obtain ⟨v, g1, g2, g3⟩ := hk'
          exact ⟨v, g1, g2, .inl (Heap.le_refl _), g3⟩
        | some g =>
          rw [hg] at hk'
          exact gcond_mono hk' (fun ⟨v, g1, g2, g3⟩ => ⟨v, g1, g2, .inl (Heap.le_refl _), g3⟩) (fun g => ⟨.inl (Heap.le_refl _), g⟩)
      | ef e =>
        rw [hj, hi] at h
        simp only [Bool.or_eq_true, Bool.not_eq_true'] at h
        rcases h with h | h
        · exact I.out_mono (fun v H' g => ⟨.inr h, g⟩) hk'
        · unfold I.out at *
          cases hg : i.g with
          | none =>
            rw [hg] at hk'
            exact O.mono (fun v H' g => ⟨g.1, .inl (g.1 h), g.2⟩) hk'
          | some g =>
            rw [hg] at hk'
            exact gcond_mono hk' (O.mono fun v H' g => ⟨g.1, .inl (g.1 h), g.2⟩) (fun g => ⟨.inl (Heap.le_refl _), g⟩)
    exact I.out_mono (fun v2 H2 ⟨hl, g⟩ => h2 H2 hl _ g) (keep _ h1)

/-- TWO NEIGHBOURS CHANGE PLACES. -/
theorem wp_swap {P : Program} {env : Env} {H : Heap} {i j : I} (h : swapOk j i = true) {K : Env → Heap → Prop}
    (hk : j.wp P env H fun e1 H1 => i.wp P e1 H1 K) : i.wp P env H fun e1 H1 => j.wp P e1 H1 K := by
  unfold swapOk at h
  simp only [Bool.and_eq_true] at h
  obtain ⟨⟨⟨h1, h2⟩, h3⟩, h4⟩ := h
  rw [I.wp_out] at hk ⊢
  have e1 : (j.out P env H fun v1 H1 => i.out P env H1 fun v2 H2 => K ((env.put j.d v1).put i.d v2) H2) := by
    refine I.out_mono (fun v1 H1 g => ?_) hk
    rw [I.wp_out, I.out_congr (agree_put h1 env v1)] at g
    exact g
  have e2 := out_swap (i := i) (j := j) (by
    revert h4
    cases j.o <;> cases i.o <;> exact fun h => h) e1
  refine I.out_mono (fun v2 H2 g => ?_) e2
  rw [I.wp_out, I.out_congr (agree_put h2 env v2)]
  refine I.out_mono (fun v1 H1 g => ?_) g
  rw [← put_comm h3]
  exact g

theorem wp_mono_I {P : Program} {env : Env} {H : Heap} {K K' : Env → Heap → Prop} {i : I} (hk : ∀ e H', K e H' → K' e H') (h : i.wp P env H K) : i.wp P env H K' := by
  rw [I.wp_out] at *
  exact I.out_mono (fun _ _ => hk _ _) h

theorem wpOps_mono {P : Program} {K K' : Env → Heap → Prop} (hk : ∀ e H', K e H' → K' e H') : ∀ {is : List I} {env : Env} {H : Heap}, wpOps P is env H K → wpOps P is env H K'
  | [], _, _, h => hk _ _ h
  | _ :: _, _, _, h => wp_mono_I (fun _ _ g => wpOps_mono hk g) h

theorem wpOps_append {P : Program} {K : Env → Heap → Prop} : ∀ {is js : List I} {env : Env} {H : Heap}, wpOps P (is ++ js) env H K ↔ wpOps P is env H fun e H' => wpOps P js e H' K
  | [], _, _, _ => Iff.rfl
  | i :: is, js, env, H => by
    constructor
    · exact wp_mono_I fun _ _ g => wpOps_append.1 g
    · exact wp_mono_I fun _ _ g => wpOps_append.2 g

/-- One moved to the front, past those that it may change places with. -/
theorem wpOps_front {P : Program} {K : Env → Heap → Prop} {i : I} : ∀ {js rest : List I} {env : Env} {H : Heap}, (∀ j ∈ js, swapOk j i = true) → wpOps P (js ++ i :: rest) env H K → wpOps P (i :: (js ++ rest)) env H K
  | [], _, _, _, _, h => h
  | j :: js, rest, env, H, hs, h => by
    have h1 : j.wp P env H fun e1 H1 => i.wp P e1 H1 fun e2 H2 => wpOps P (js ++ rest) e2 H2 K :=
      wp_mono_I (fun e1 H1 g => wpOps_front (js := js) (fun j hj => hs j (by simp [hj])) g) h
    exact wp_swap (hs j (by simp)) h1

end Go.CM
