/-
  A program logic over the model's calls, part 15: operations that may stand in either order.
-/
import Derived.Test.YtebhddpildfgcaaCmEff4
namespace Go.CM

/-- Two environments say the same of some slots. -/
def Agree (us : List Nat) (env env' : Env) : Prop := ∀ t ∈ us, env t = env' t

theorem Agree.left {us vs : List Nat} {env env' : Env} (h : Agree (us ++ vs) env env') : Agree us env env' := fun t ht => h t (List.mem_append_left _ ht)
theorem Agree.right {us vs : List Nat} {env env' : Env} (h : Agree (us ++ vs) env env') : Agree vs env env' := fun t ht => h t (List.mem_append_right _ ht)

theorem X.congr {x : X} {env env' : Env} (h : Agree x.uses env env') : x.ev env = x.ev env' := by
  cases x with
  | t n => exact h n (by simp [X.uses])
  | k v => rfl

theorem Xs.congr {env env' : Env} : ∀ {xs : List X}, Agree (xs.flatMap X.uses) env env' → xs.map (X.ev env) = xs.map (X.ev env')
  | [], _ => rfl
  | x :: xs, h => by
    rw [List.flatMap_cons] at h
    simp [X.congr h.left, Xs.congr h.right]

theorem opt_congr {x : Option X} {env env' : Env} (h : Agree (optUses x) env env') : x.map (X.ev env) = x.map (X.ev env') := by
  cases x with
  | none => rfl
  | some x => simp [X.congr h]

theorem fillV_congr {env env' : Env} : ∀ {ps : List (Nat × Nat × X)} {cs : List V}, Agree (ps.flatMap fun p => p.2.2.uses) env env' → fillV env cs ps = fillV env' cs ps
  | [], _, _ => rfl
  | (off, s, x) :: ps, cs, h => by
    rw [List.flatMap_cons] at h
    have h1 := X.congr h.left
    simp only [fillV, h1]
    rw [fillV_congr h.right]

theorem R.congr {r : R} {env env' : Env} {H : Heap} (h : Agree r.uses env env') : r.ev env H = r.ev env' H := by
  cases r <;> simp only [R.uses] at h <;> simp only [R.ev]
  case pick c a b => rw [X.congr h.left.left, X.congr h.left.right, X.congr h.right]
  case build z ps => rw [fillV_congr h]
  case bin op x y => rw [X.congr h.left, X.congr h.right]
  case eq c g x y => rw [X.congr h.left, X.congr h.right]
  case iaddrS s x y => rw [X.congr h.left, X.congr h.right]
  case iaddrA k s x y => rw [X.congr h.left, X.congr h.right]
  case idxStr x y => rw [X.congr h.left, X.congr h.right]
  case idxArr1 k x y => rw [X.congr h.left, X.congr h.right]
  case lookup kt z ok x y => rw [X.congr h.left, X.congr h.right]
  case cutStr x lo hi => rw [X.congr h.left.left, opt_congr h.left.right, opt_congr h.right]
  case cutSl s x lo hi => rw [X.congr h.left.left, opt_congr h.left.right, opt_congr h.right]
  case cutSl3 s x lo hi m => rw [X.congr h.left.left.left, opt_congr h.left.left.right, opt_congr h.left.right, X.congr h.right]
  case mn x xs => rw [X.congr h.left, Xs.congr h.right]
  case mx x xs => rw [X.congr h.left, Xs.congr h.right]
  case clo f xs => rw [Xs.congr h]
  all_goals first | rfl | rw [X.congr h]

theorem E.congr {P : Program} {e : E} {env env' : Env} {H : Heap} {K : V → Heap → Prop} (h : Agree e.uses env env') : e.wp P env H K = e.wp P env' H K := by
  cases e <;> simp only [E.uses] at h <;> simp only [E.wp]
  case box x => rw [X.congr h]
  case lit s l z ps => rw [fillV_congr h]
  case store k x y => rw [X.congr h.left, X.congr h.right]
  case app s b x y => rw [X.congr h.left, X.congr h.right]
  case mkSl s b z x y => rw [X.congr h.left, X.congr h.right]
  case put kt m k v => rw [X.congr h.left.left, X.congr h.left.right, X.congr h.right]
  case del kt m k => rw [X.congr h.left, X.congr h.right]
  case ment kt z m k => rw [X.congr h.left, X.congr h.right]
  case mset m s v => rw [X.congr h.left.left, X.congr h.left.right, X.congr h.right]
  case clr s z x => rw [X.congr h]
  case rangeM x => rw [X.congr h]
  case nextM x => rw [X.congr h]
  case entryM x => rw [X.congr h]
  case appz s b z x y => rw [X.congr h.left, X.congr h.right]
  case copy s x y => rw [X.congr h.left, X.congr h.right]
  case call f xs => rw [Xs.congr h]
  case callv x xs => rw [X.congr h.left, Xs.congr h.right]
  case inv x m xs => rw [X.congr h.left, Xs.congr h.right]

theorem fresh_mono {H : Heap} {o : HObj} {K K' : Nat → Heap → Prop} (hk : ∀ id H', K id H' → K' id H') (h : fresh H o K) : fresh H o K' := fun id h0 hid => hk _ _ (h id h0 hid)

theorem E.mono {P : Program} {e : E} {env : Env} {H : Heap} {K K' : V → Heap → Prop} (hk : ∀ v H', K v H' → K' v H') (h : e.wp P env H K) : e.wp P env H K' := by
  cases e <;> simp only [E.wp] at h ⊢
  case alloc z => exact fresh_mono (fun _ _ => hk _ _) h
  case box x => exact ⟨h.1, fresh_mono (fun _ _ => hk _ _) h.2⟩
  case lit s l z ps => obtain ⟨cs, h1, h2⟩ := h; exact ⟨cs, h1, fresh_mono (fun _ _ => hk _ _) h2⟩
  case store k x y => obtain ⟨id, off, cs, h1, h2, h3, h4, h5, h6⟩ := h; exact ⟨id, off, cs, h1, h2, h3, h4, h5, hk _ _ h6⟩
  case app s b x y =>
    obtain ⟨m, vs, h1, h2⟩ := h
    refine ⟨m, vs, h1, ?_⟩
    rcases h2 with ⟨h2, h3, h4⟩ | ⟨off, e9, h2, h3, h4⟩ | ⟨id, off, len, cs, h2, h3, h4, h5, h6⟩ | ⟨id, off, len, cap, cs, h2, h3, h4, h5, h6⟩ | ⟨id, off, len, cap, cs, h2, h3, h4, h5, h6, h7⟩
    · refine .inl ⟨h2, h3, ?_⟩
      cases hm : Nat.beq m 0 with
      | true => rw [hm] at h4; exact hk _ _ h4
      | false => rw [hm] at h4; exact fresh_mono (fun _ _ => hk _ _) h4
    · refine .inr (.inl ⟨off, e9, h2, h3, ?_⟩)
      cases hm : Nat.beq m 0 with
      | true => rw [hm] at h4; exact hk _ _ h4
      | false => rw [hm] at h4; exact fresh_mono (fun _ _ => hk _ _) h4
    · exact .inr (.inr (.inl ⟨id, off, len, cs, h2, h3, h4, h5, fresh_mono (fun _ _ => hk _ _) h6⟩))
    · exact .inr (.inr (.inr (.inl ⟨id, off, len, cap, cs, h2, h3, h4, h5, hk _ _ h6⟩)))
    · exact .inr (.inr (.inr (.inr ⟨id, off, len, cap, cs, h2, h3, h4, h5, h6, fresh_mono (fun _ _ => hk _ _) h7⟩)))
  case appz s b z x y => obtain ⟨kx, m, id, off, len, cap, cs, h1, h2, h3, h4, h5, h6, h7, h8⟩ := h; exact ⟨kx, m, id, off, len, cap, cs, h1, h2, h3, h4, h5, h6, h7, fresh_mono (fun _ _ => hk _ _) h8⟩
  case copy s x y =>
    rcases h with ⟨m, vs, h1, h2, h3⟩ | ⟨id, off, len, cs, m, vs, h1, h2, h3, h4, h5⟩
    · exact .inl ⟨m, vs, h1, h2, hk _ _ h3⟩
    · exact .inr ⟨id, off, len, cs, m, vs, h1, h2, h3, h4, hk _ _ h5⟩
  case mkSl s b z x y => obtain ⟨kl, nl, kc, nc, h1, h2, h3, h4, h5, h6, h7⟩ := h; exact ⟨kl, nl, kc, nc, h1, h2, h3, h4, h5, h6, fresh_mono (fun _ _ => hk _ _) h7⟩
  case mkMap => exact fresh_mono (fun _ _ => hk _ _) h
  case put kt m k v => obtain ⟨id, es, r, h1, h2, h3, h4, h5⟩ := h; exact ⟨id, es, r, h1, h2, h3, h4, hk _ _ h5⟩
  case del kt m k =>
    rcases h with ⟨h1, h2, h3⟩ | ⟨id, es, r, h1, h2, h3, h4⟩
    · exact .inl ⟨h1, h2, hk _ _ h3⟩
    · exact .inr ⟨id, es, r, h1, h2, h3, hk _ _ h4⟩
  case ment kt z m k =>
    obtain ⟨id, es, r, h1, h2, h3, h4, h5⟩ := h
    refine ⟨id, es, r, h1, h2, h3, h4, fun n => ?_⟩
    have h5 := h5 n
    cases r with
    | none => exact hk _ _ h5
    | some i => exact fun e he => hk _ _ (h5 e he)
  case mset m s v => obtain ⟨id, es, i, n, e, h1, h2, h3, h4, h5, h6⟩ := h; exact ⟨id, es, i, n, e, h1, h2, h3, h4, h5, hk _ _ h6⟩
  case clr s z x =>
    rcases h with ⟨h1, h2⟩ | ⟨id, off, e, h1, h2⟩ | ⟨id, off, len, cs, h1, h2, h3, h4⟩ | ⟨id, off, len, cap, cs, h1, h2, h3, h4⟩
    · exact .inl ⟨h1, hk _ _ h2⟩
    · exact .inr (.inl ⟨id, off, e, h1, hk _ _ h2⟩)
    · exact .inr (.inr (.inl ⟨id, off, len, cs, h1, h2, h3, hk _ _ h4⟩))
    · exact .inr (.inr (.inr ⟨id, off, len, cap, cs, h1, h2, h3, hk _ _ h4⟩))
  case call f xs => exact h.imp (fun h => CallsC.mono h hk) (fun h => ExtC.mono h hk)
  case callv x xs => exact h.imp (fun ⟨f, cap, h1, h2⟩ => ⟨f, cap, h1, CallsC.mono h2 hk⟩) (fun ⟨l, h1, h2⟩ => ⟨l, h1, YieldC.mono h2 hk⟩)
  case rangeM x => obtain ⟨id, es, h1, h2, h3⟩ := h; exact ⟨id, es, h1, h2, fun bs clk a b c => fresh_mono (fun _ _ => hk _ _) (h3 bs clk a b c)⟩
  case nextM x => obtain ⟨it, mid, es, bs, clk, seen, h1, h2, h3, h4, h5⟩ := h; exact ⟨it, mid, es, bs, clk, seen, h1, h2, h3, fun h => hk _ _ (h4 h), fun i e b a c d => hk _ _ (h5 i e b a c d)⟩
  case entryM x => obtain ⟨it, mid, es, bs, clk, seen, i, e, b, h1, h2, h3, h4, h5, h6⟩ := h; exact ⟨it, mid, es, bs, clk, seen, i, e, b, h1, h2, h3, h4, h5, hk _ _ h6⟩
  case inv x m xs => obtain ⟨t, v, f, r, h1, h2, h3⟩ := h; exact ⟨t, v, f, r, h1, h2, CallsC.mono h3 hk⟩

theorem O.congr {P : Program} {o : O} {env env' : Env} {H : Heap} {K : V → Heap → Prop} (h : Agree o.uses env env') : o.wp P env H K = o.wp P env' H K := by
  cases o with
  | rd r => simp only [O.wp, R.congr (H := H) (show Agree r.uses env env' from h)]
  | ef e => exact E.congr h

theorem O.mono {P : Program} {o : O} {env : Env} {H : Heap} {K K' : V → Heap → Prop} (hk : ∀ v H', K v H' → K' v H') (h : o.wp P env H K) : o.wp P env H K' := by
  cases o with
  | rd r => obtain ⟨v, h1, h2⟩ := h; exact ⟨v, h1, hk _ _ h2⟩
  | ef e => exact E.mono hk h

theorem R.le {r : R} {env : Env} {H H' : Heap} (hl : H.le H') {v : V} (h : r.ev env H = some v) : r.ev env H' = some v := by
  cases r <;> simp only [R.ev] at h ⊢ <;> first | exact h | skip
  case load1 a =>
    split at h
    · split at h
      · rename_i hH; rw [hl _ _ hH]; exact h
      · cases h
    · cases h
  case loadn k a =>
    split at h
    · split at h
      · rename_i hH; rw [hl _ _ hH]; exact h
      · cases h
    · cases h
  case b2s x =>
    split at h
    · exact h
    · rename_i id off len esz _
      cases hz : Nat.beq len 0 with
      | true => rw [hz] at h; exact h
      | false =>
        rw [hz] at h
        simp only [cond_false] at h ⊢
        split at h
        · rename_i hH; rw [hl _ _ hH]; exact h
        · cases h
    · cases h
  case lenMap x =>
    split at h
    · exact h
    · split at h
      · rename_i hH; rw [hl _ _ hH]; exact h
      · cases h
    · cases h
  case lookup kt z ok m k =>
    split at h
    · exact h
    · split at h
      · rename_i hH; rw [hl _ _ hH]; exact h
      · cases h
    · cases h

theorem R.quiet {r : R} {env : Env} (hr : r.reads = false) (H H' : Heap) : r.ev env H = r.ev env H' := by
  cases r <;> simp only [R.reads] at hr <;> first | rfl | cases hr

/-- What an operation with its guard comes to. -/
def I.out (P : Program) (env : Env) (H : Heap) (K : V → Heap → Prop) (i : I) : Prop :=
  match i.g with
  | none => i.o.wp P env H fun v H' => i.x.ok env H H' ∧ K v H'
  | some (s, b) => gcond (env s) b (i.o.wp P env H fun v H' => i.x.ok env H H' ∧ K v H') (K V.undef H)

theorem I.wp_out (P : Program) (env : Env) (H : Heap) (K : Env → Heap → Prop) (i : I) : i.wp P env H K = i.out P env H fun v H' => K (env.put i.d v) H' := by
  unfold I.wp I.out I.run
  cases i.g with
  | none => rfl
  | some g => rfl

theorem gcond_mono {v : V} {b : Bool} {A B A' B' : Prop} (h : gcond v b A B) (hA : A → A') (hB : B → B') : gcond v b A' B' := by
  cases v <;> simp only [gcond] at h ⊢ <;> first | exact hB h | skip
  rename_i c
  cases hc : c == b with
  | true => rw [hc] at h; exact hA h
  | false => rw [hc] at h; exact hB h

theorem I.out_mono {P : Program} {env : Env} {H : Heap} {K K' : V → Heap → Prop} {i : I} (hk : ∀ v H', K v H' → K' v H') (h : i.out P env H K) : i.out P env H K' := by
  unfold I.out at *
  split at h
  · exact O.mono (fun v H' h => ⟨h.1, hk _ _ h.2⟩) h
  · exact gcond_mono h (O.mono fun v H' h => ⟨h.1, hk _ _ h.2⟩) (hk _ _)

theorem Kx.congr {x : Kx} (h : x.isSm = false) {env env' : Env} {H H' : Heap} : x.ok env H H' = x.ok env' H H' := by
  cases x with
  | no => rfl
  | all => rfl
  | sm l => cases h
/-- .. with what must be left said apart. -/
def I.outW (P : Program) (env : Env) (H : Heap) (W : Heap → Prop) (K : V → Heap → Prop) (i : I) : Prop :=
  match i.g with
  | none => i.o.wp P env H fun v H' => W H' ∧ K v H'
  | some (s, b) => gcond (env s) b (i.o.wp P env H fun v H' => W H' ∧ K v H') (K V.undef H)
theorem I.out_W (P : Program) (env : Env) (H : Heap) (K : V → Heap → Prop) (i : I) : i.out P env H K = i.outW P env H (fun H' => i.x.ok env H H') K := rfl
theorem I.outW_congr {P : Program} {env env' : Env} {H : Heap} {W : Heap → Prop} {K : V → Heap → Prop} {i : I} (h : Agree i.uses env env') : i.outW P env H W K = i.outW P env' H W K := by
  unfold I.uses at h
  have h1 : Agree i.o.uses env env' := h.left
  unfold I.outW
  cases hg : i.g with
  | none => simp only; rw [O.congr h1]
  | some g =>
    obtain ⟨s, b⟩ := g
    have h2 := h.right
    rw [hg] at h2
    have hs : env s = env' s := h2 s (by simp)
    simp only
    rw [O.congr h1, hs]
theorem I.outW_mono {P : Program} {env : Env} {H : Heap} {W W' : Heap → Prop} {K K' : V → Heap → Prop} {i : I} (hw : ∀ H', W H' → W' H') (hW : W H) (hk : ∀ v H', W H' → K v H' → K' v H') (h : i.outW P env H W K) : i.outW P env H W' K' := by
  unfold I.outW at *
  split at h
  · exact O.mono (fun v H' h => ⟨hw _ h.1, hk _ _ h.1 h.2⟩) h
  · exact gcond_mono h (O.mono fun v H' h => ⟨hw _ h.1, hk _ _ h.1 h.2⟩) (hk _ _ hW)
theorem I.out_congr {P : Program} {env env' : Env} {H : Heap} {K : V → Heap → Prop} {i : I} (hsm : i.x.isSm = false) (h : Agree i.uses env env') : i.out P env H K = i.out P env' H K := by
  have e : i.outW P env H (fun H' => i.x.ok env H H') K = i.outW P env H (fun H' => i.x.ok env' H H') K := by
    congr 1; funext H'; exact Kx.congr hsm
  rw [I.out_W, I.out_W, e]
  exact I.outW_congr h

theorem agree_put {us : List Nat} {d : Option Nat} (h : dApart d us = true) (env : Env) (v : V) : Agree us (env.put d v) env := by
  intro t ht
  cases d with
  | none => rfl
  | some d =>
    have hne : t ≠ d := by
      rintro rfl
      simp [dApart] at h
      exact h ht
    simp [Env.put, show Nat.beq t d = false from Bool.eq_false_iff.2 fun e => hne (Nat.eq_of_beq_eq_true e)]

theorem put_comm {d d' : Option Nat} (h : dNe d d' = true) (env : Env) (v v' : V) : (env.put d v).put d' v' = (env.put d' v').put d v := by
  cases d with
  | none => rfl
  | some d =>
    cases d' with
    | none => rfl
    | some d' =>
      have hne : d ≠ d' := by
        rintro rfl
        simp [dNe] at h
      funext t
      simp only [Env.put]
      by_cases h1 : t = d
      · subst h1
        have : Nat.beq t d' = false := Bool.eq_false_iff.2 fun e => hne (Nat.eq_of_beq_eq_true e)
        simp [this]
      · have : Nat.beq t d = false := Bool.eq_false_iff.2 fun e => h1 (Nat.eq_of_beq_eq_true e)
        simp [this]

/-- The step that only reads, moved behind another. -/
theorem out_swap {P : Program} {env : Env} {H : Heap} {i j : I} (hsm : i.x.isSm = false) (h : (match j.o, i.o with
    | .rd _, .rd _ => true
    | .rd r, .ef _ => !r.reads || keepsX i.x r
    | .ef _, _ => false) = true) {K : V → V → Heap → Prop}
    (hk : j.out P env H fun v1 H1 => i.out P env H1 fun v2 H2 => K v1 v2 H2) : i.out P env H fun v2 H2 => j.out P env H2 fun v1 H1 => K v1 v2 H1 := by
  cases hj : j.o with
  | ef e => rw [hj] at h; cases i.o <;> cases h
  | rd r =>
    -- j comes to one value, wherever the heap has not turned
    have key : ∃ v1, (i.out P env H fun v2 H2 => K v1 v2 H2) ∧ ∀ (H' : Heap), (H.le H' ∨ r.reads = false) → ∀ K' : V → Heap → Prop, K' v1 H' → j.out P env H' K' := by
      unfold I.out at hk
      cases hg : j.g with
      | none =>
        rw [hg, hj] at hk
        obtain ⟨v, h1, _, h2⟩ := hk
        refine ⟨v, h2, fun H' hl K' hk' => ?_⟩
        unfold I.out
        rw [hg, hj]
        refine ⟨v, ?_, Kx.refl, hk'⟩
        rcases hl with hl | hl
        · exact R.le hl h1
        · rw [← R.quiet hl H H']; exact h1
      | some g =>
        obtain ⟨s, b⟩ := g
        rw [hg, hj] at hk
        have skip : (gcond (env s) b False True → (i.out P env H fun v2 H2 => K V.undef v2 H2) → ∃ v1, (i.out P env H fun v2 H2 => K v1 v2 H2) ∧ ∀ (H' : Heap), (H.le H' ∨ r.reads = false) → ∀ K' : V → Heap → Prop, K' v1 H' → j.out P env H' K') := by
          intro hs h2
          refine ⟨V.undef, h2, fun H' _ K' hk' => ?_⟩
          unfold I.out
          rw [hg]
          exact gcond_mono hs (fun h => h.elim) (fun _ => hk')
        have take : (gcond (env s) b True False → (∃ v, r.ev env H = some v ∧ (i.out P env H fun v2 H2 => K v v2 H2)) → ∃ v1, (i.out P env H fun v2 H2 => K v1 v2 H2) ∧ ∀ (H' : Heap), (H.le H' ∨ r.reads = false) → ∀ K' : V → Heap → Prop, K' v1 H' → j.out P env H' K') := by
          rintro hs ⟨v, h1, h2⟩
          refine ⟨v, h2, fun H' hl K' hk' => ?_⟩
          unfold I.out
          rw [hg, hj]
          refine gcond_mono hs (fun _ => ⟨v, ?_, Kx.refl, hk'⟩) (fun h => h.elim)
          rcases hl with hl | hl
          · exact R.le hl h1
          · rw [← R.quiet hl H H']; exact h1
        simp only at hk
        cases hv : env s with
        | bool c =>
          rw [hv] at hk skip take
          simp only [gcond] at hk skip take
          cases hc : c == b with
          | true =>
            rw [hc] at hk
            obtain ⟨v, h1, _, h2⟩ := hk
            exact take (by rw [hc]; trivial) ⟨v, h1, h2⟩
          | false =>
            rw [hc] at hk
            exact skip (by rw [hc]; trivial) hk
        | _ =>
          rw [hv] at hk skip
          exact skip trivial hk
    obtain ⟨v1, h1, h2⟩ := key
    -- and i leaves the heap as it must
    have keep : ∀ K' : V → Heap → Prop, i.out P env H K' → i.out P env H fun v H' => (H.le H' ∨ r.reads = false) ∧ K' v H' := by
      intro K' hk'
      cases hi : i.o with
      | rd r' =>
        unfold I.out at *
        rw [hi] at hk' ⊢
        cases hg : i.g with
        | none =>
          rw [hg] at hk'
          obtain ⟨v, g1, g2, g3⟩ := hk'
          exact ⟨v, g1, g2, .inl (Heap.le_refl _), g3⟩
        | some g =>
          rw [hg] at hk'
          exact gcond_mono hk' (fun ⟨v, g1, g2, g3⟩ => ⟨v, g1, g2, .inl (Heap.le_refl _), g3⟩) (fun g => ⟨.inl (Heap.le_refl _), g⟩)
      | ef e =>
        rw [hj, hi] at h
        simp only [Bool.or_eq_true, Bool.not_eq_true'] at h
        rcases h with h | h
        · exact I.out_mono (fun v H' g => ⟨.inr h, g⟩) hk'
        · have hall : i.x = .all := by
            cases hx : i.x with
            | no => rw [hx] at h; cases h
            | all => rfl
            | sm l => rw [hx] at hsm; cases hsm
          have hle : ∀ H', i.x.ok env H H' → H.le H' := fun H' h => by rw [hall] at h; exact h
          unfold I.out at *
          cases hg : i.g with
          | none =>
            rw [hg] at hk'
            exact O.mono (fun v H' g => ⟨g.1, .inl (hle _ g.1), g.2⟩) hk'
          | some g =>
            rw [hg] at hk'
            exact gcond_mono hk' (O.mono fun v H' g => ⟨g.1, .inl (hle _ g.1), g.2⟩) (fun g => ⟨.inl (Heap.le_refl _), g⟩)
    exact I.out_mono (fun v2 H2 ⟨hl, g⟩ => h2 H2 hl _ g) (keep _ h1)

/-- TWO NEIGHBOURS CHANGE PLACES. -/
theorem wp_swap {P : Program} {env : Env} {H : Heap} {i j : I} (hsm : i.x.isSm = false) (h : swapOk j i = true) {K : Env → Heap → Prop}
    (hk : j.wp P env H fun e1 H1 => i.wp P e1 H1 K) : i.wp P env H fun e1 H1 => j.wp P e1 H1 K := by
  unfold swapOk at h
  simp only [Bool.and_eq_true, Bool.not_eq_true'] at h
  obtain ⟨⟨⟨⟨h1, h2⟩, h3⟩, hsj⟩, h4⟩ := h
  rw [I.wp_out] at hk ⊢
  have e1 : (j.out P env H fun v1 H1 => i.out P env H1 fun v2 H2 => K ((env.put j.d v1).put i.d v2) H2) := by
    refine I.out_mono (fun v1 H1 g => ?_) hk
    rw [I.wp_out, I.out_congr hsm (agree_put h1 env v1)] at g
    exact g
  have e2 := out_swap (i := i) (j := j) hsm (by
    revert h4
    cases j.o <;> cases i.o <;> exact fun h => h) e1
  refine I.out_mono (fun v2 H2 g => ?_) e2
  rw [I.wp_out, I.out_congr hsj (agree_put h2 env v2)]
  refine I.out_mono (fun v1 H1 g => ?_) g
  rw [← put_comm h3]
  exact g

theorem wp_mono_I {P : Program} {env : Env} {H : Heap} {K K' : Env → Heap → Prop} {i : I} (hk : ∀ e H', K e H' → K' e H') (h : i.wp P env H K) : i.wp P env H K' := by
  rw [I.wp_out] at *
  exact I.out_mono (fun _ _ => hk _ _) h

theorem wpOps_mono {P : Program} {K K' : Env → Heap → Prop} (hk : ∀ e H', K e H' → K' e H') : ∀ {is : List I} {env : Env} {H : Heap}, wpOps P is env H K → wpOps P is env H K'
  | [], _, _, h => hk _ _ h
  | _ :: _, _, _, h => wp_mono_I (fun _ _ g => wpOps_mono hk g) h

theorem wpOps_append {P : Program} {K : Env → Heap → Prop} : ∀ {is js : List I} {env : Env} {H : Heap}, wpOps P (is ++ js) env H K ↔ wpOps P is env H fun e H' => wpOps P js e H' K
  | [], _, _, _ => Iff.rfl
  | i :: is, js, env, H => by
    constructor
    · exact wp_mono_I fun _ _ g => wpOps_append.1 g
    · exact wp_mono_I fun _ _ g => wpOps_append.2 g

/-- One moved to the front, past those that it may change places with. -/
theorem wpOps_front {P : Program} {K : Env → Heap → Prop} {i : I} (hsm : i.x.isSm = false) : ∀ {js rest : List I} {env : Env} {H : Heap}, (∀ j ∈ js, swapOk j i = true) → wpOps P (js ++ i :: rest) env H K → wpOps P (i :: (js ++ rest)) env H K
  | [], _, _, _, _, h => h
  | j :: js, rest, env, H, hs, h => by
    have h1 : j.wp P env H fun e1 H1 => i.wp P e1 H1 fun e2 H2 => wpOps P (js ++ rest) e2 H2 K :=
      wp_mono_I (fun e1 H1 g => wpOps_front hsm (js := js) (fun j hj => hs j (by simp [hj])) g) h
    exact wp_swap hsm (hs j (by simp)) h1

/-- What is kept reads as it did, if its slots are not written by some. -/
def KJ (x : Kx) (js : List I) (env : Env) (H H' : Heap) : Prop :=
  ∀ r, keepsX x r = true → (∀ j ∈ js, dApart j.d r.uses = true) → ∀ v, r.ev env H = some v → r.ev env H' = some v
theorem KJ.of {x : Kx} {env : Env} {H H' : Heap} (h : x.ok env H H') : KJ x [] env H H' := by
  intro r hr hd v hv
  clear hd
  cases x with
  | no => cases r <;> cases hr
  | all => exact R.le h hv
  | sm l =>
    rcases h with h | h
    · exact R.le h hv
    · cases r
      case load1 a =>
        cases a with
        | k v => cases hr
        | t n =>
          simp only [keepsX] at hr
          obtain ⟨⟨p1, p2⟩, hp, h2⟩ := List.any_eq_true.1 hr
          simp only [Bool.and_eq_true] at h2
          have e1 := Nat.eq_of_beq_eq_true h2.1
          have e2 := Nat.eq_of_beq_eq_true h2.2
          subst e1; subst e2
          exact h _ hp v hv
      case loadn k a =>
        cases a with
        | k v => cases k <;> cases hr
        | t n =>
          cases k with
          | zero => cases hr
          | succ k =>
            simp only [keepsX] at hr
            obtain ⟨⟨p1, p2⟩, hp, h2⟩ := List.any_eq_true.1 hr
            simp only [Bool.and_eq_true] at h2
            have e1 := Nat.eq_of_beq_eq_true h2.1
            have e2 := Nat.eq_of_beq_eq_true h2.2
            subst e1; subst e2
            exact h _ hp v hv
      all_goals cases hr
theorem ssa_cons {j : I} {js : List I} (h : ssa (j :: js) = true) : (∀ b ∈ js, dApart b.d j.uses = true) ∧ dApart j.d j.uses = true ∧ ssa js = true := by
  simp only [ssa, pairsAll, List.all_cons, Bool.and_eq_true, List.all_eq_true] at h
  refine ⟨h.1.1, h.2.1, ?_⟩
  simp only [ssa, Bool.and_eq_true, List.all_eq_true]
  exact ⟨h.1.2, h.2.2⟩
theorem dApart_left {d : Option Nat} {us vs : List Nat} (h : dApart d (us ++ vs) = true) : dApart d us = true := by
  cases d with
  | none => rfl
  | some d => simp only [dApart, Bool.not_eq_true', List.contains_eq_mem, decide_eq_false_iff_not, List.mem_append] at h ⊢; exact fun k => h (.inl k)
/-- .. past those that read what it keeps. -/
theorem front_sm {P : Program} {K : Env → Heap → Prop} {i : I} (hie : i.o.isE = true) : ∀ {js rest : List I} {env : Env} {H : Heap}, ssa js = true → (∀ j ∈ js, swapOk j i = true) → wpOps P (js ++ i :: rest) env H K →
    i.outW P env H (KJ i.x js env H) fun v H' => wpOps P (js ++ rest) (env.put i.d v) H' K
  | [], rest, env, H, _, _, h => by
    have h1 : i.wp P env H fun e H' => wpOps P rest e H' K := h
    rw [I.wp_out, I.out_W] at h1
    exact I.outW_mono (fun H' => KJ.of) Kx.refl (fun _ _ _ h => h) h1
  | j :: js, rest, env, H, hss, hs, h => by
    obtain ⟨hs1, hs2, hs3⟩ := ssa_cons hss
    have hsw := hs j (by simp)
    unfold swapOk at hsw
    simp only [Bool.and_eq_true, Bool.not_eq_true'] at hsw
    obtain ⟨⟨⟨⟨h1, h2⟩, h3⟩, hsj⟩, h4⟩ := hsw
    have hj : j.wp P env H fun e1 H1 => wpOps P (js ++ i :: rest) e1 H1 K := h
    rw [I.wp_out] at hj
    have ih : ∀ e1 H1, wpOps P (js ++ i :: rest) e1 H1 K → i.outW P e1 H1 (KJ i.x js e1 H1) fun v H' => wpOps P (js ++ rest) (e1.put i.d v) H' K := fun e1 H1 h => front_sm hie hs3 (fun j hj => hs j (by simp [hj])) h
    have hu : ∀ (e1 : Env) (v : V), Agree j.uses (e1.put j.d v) e1 := fun e1 v => agree_put hs2 e1 v
    obtain ⟨e, hio⟩ : ∃ e, i.o = .ef e := by
      cases hio : i.o with
      | rd r => rw [hio] at hie; cases hie
      | ef e => exact ⟨e, rfl⟩
    cases hjo : j.o with
    | ef e => rw [hjo, hio] at h4; cases h4
    | rd r =>
    have hur : r.uses = j.o.uses := by rw [hjo]; rfl
    -- j comes to one value, behind i as ahead of it
    have hval : ∀ v, r.ev env H = some v → ∀ v1 H', KJ i.x js (env.put j.d v1) H H' → r.ev env H' = some v := by
      intro v hv v1 H' hkj
      have ha : Agree r.uses (env.put j.d v1) env := fun t ht => hu env v1 t (by rw [hur] at ht; exact List.mem_append_left _ ht)
      cases hrr : r.reads with
      | false => rw [← R.quiet hrr H H']; exact hv
      | true =>
        rw [hjo, hio] at h4
        simp only [hrr, Bool.not_true, Bool.false_or] at h4
        have := hkj r h4 (fun b hb => by have := hs1 b hb; unfold I.uses at this; rw [hur]; exact dApart_left this) v (by rw [R.congr ha]; exact hv)
        rwa [R.congr ha] at this
    have key : ∃ v1, (i.outW P env H (KJ i.x js (env.put j.d v1) H) fun v H' => wpOps P (js ++ rest) ((env.put j.d v1).put i.d v) H' K) ∧
        ∀ H', KJ i.x js (env.put j.d v1) H H' → ∀ K' : V → Heap → Prop, K' v1 H' → j.out P env H' K' := by
      have fin : ∀ v1, wpOps P (js ++ i :: rest) (env.put j.d v1) H K → i.outW P env H (KJ i.x js (env.put j.d v1) H) fun v H' => wpOps P (js ++ rest) ((env.put j.d v1).put i.d v) H' K := fun v1 g => by
        have := ih _ _ g
        rwa [I.outW_congr (agree_put h1 env v1)] at this
      have hxr : ∀ H', j.x.ok env H' H' := fun _ => Kx.refl
      unfold I.out at hj
      cases hg : j.g with
      | none =>
        rw [hg, hjo] at hj
        obtain ⟨v, g1, _, g2⟩ := hj
        refine ⟨v, fin v g2, fun H' hkj K' hk' => ?_⟩
        unfold I.out
        rw [hg, hjo]
        exact ⟨v, hval v g1 v H' hkj, hxr H', hk'⟩
      | some g =>
        obtain ⟨s, b⟩ := g
        rw [hg, hjo] at hj
        have skip : gcond (env s) b False True → wpOps P (js ++ i :: rest) (env.put j.d V.undef) H K → ∃ v1, (i.outW P env H (KJ i.x js (env.put j.d v1) H) fun v H' => wpOps P (js ++ rest) ((env.put j.d v1).put i.d v) H' K) ∧
            ∀ H', KJ i.x js (env.put j.d v1) H H' → ∀ K' : V → Heap → Prop, K' v1 H' → j.out P env H' K' := fun hs g2 => ⟨V.undef, fin _ g2, fun H' _ K' hk' => by
          unfold I.out
          rw [hg]
          exact gcond_mono hs (fun h => h.elim) (fun _ => hk')⟩
        have take : gcond (env s) b True False → (∃ v, r.ev env H = some v ∧ wpOps P (js ++ i :: rest) (env.put j.d v) H K) → ∃ v1, (i.outW P env H (KJ i.x js (env.put j.d v1) H) fun v H' => wpOps P (js ++ rest) ((env.put j.d v1).put i.d v) H' K) ∧
            ∀ H', KJ i.x js (env.put j.d v1) H H' → ∀ K' : V → Heap → Prop, K' v1 H' → j.out P env H' K' := fun hs ⟨v, g1, g2⟩ => ⟨v, fin _ g2, fun H' hkj K' hk' => by
          unfold I.out
          rw [hg, hjo]
          exact gcond_mono hs (fun _ => ⟨v, hval v g1 v H' hkj, hxr H', hk'⟩) (fun h => h.elim)⟩
        simp only at hj
        cases hv : env s with
        | bool c =>
          rw [hv] at hj skip take
          simp only [gcond] at hj skip take
          cases hc : c == b with
          | true =>
            rw [hc] at hj skip take
            obtain ⟨v, g1, _, g2⟩ := hj
            exact take trivial ⟨v, g1, g2⟩
          | false =>
            rw [hc] at hj skip take
            exact skip trivial hj
        | _ =>
          rw [hv] at hj skip
          exact skip trivial hj
    obtain ⟨v1, k1, k2⟩ := key
    refine I.outW_mono (W := KJ i.x js (env.put j.d v1) H) (fun H' hkj rr hr hd v hv => ?_) (fun rr _ _ v hv => hv) (fun v H' hkj g => ?_) k1
    · have ha : Agree rr.uses (env.put j.d v1) env := agree_put (hd j (by simp)) env v1
      have := hkj rr hr (fun b hb => hd b (by simp [hb])) v (by rw [R.congr ha]; exact hv)
      rwa [R.congr ha] at this
    · show j.wp P (env.put i.d v) H' fun e1 H1 => wpOps P (js ++ rest) e1 H1 K
      rw [I.wp_out, I.out_congr hsj (agree_put h2 env v)]
      refine k2 H' hkj _ ?_
      rw [← put_comm h3]
      exact g
/-- The one that was moved asks for nothing more. -/
def I.free (i : I) : I := { i with x := .no }
theorem wpOps_frontS {P : Program} {K : Env → Heap → Prop} {i : I} (hie : i.o.isE = true) {js rest : List I} {env : Env} {H : Heap} (hss : ssa js = true) (hs : ∀ j ∈ js, swapOk j i = true) (h : wpOps P (js ++ i :: rest) env H K) : wpOps P (i.free :: (js ++ rest)) env H K := by
  have := front_sm hie hss hs h
  show i.free.wp P env H fun e1 H1 => wpOps P (js ++ rest) e1 H1 K
  rw [I.wp_out, I.out_W]
  exact I.outW_mono (i := i.free) (W := KJ i.x js env H) (fun _ _ => trivial) (fun _ _ _ _ h => h) (fun _ _ _ h => h) this

end Go.CM
