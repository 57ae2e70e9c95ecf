/-
  A program logic over the model's calls: its texts CmSwap CmCode CmCode2 CmFun, joined.
-/
import Derived.Test.YtkfhgpegnnokgaaGreatDoorCmC
namespace Go.CM

def Agree (us : List Nat) (env env' : Env) : Prop := ∀ t ∈ us, env t = env' t

theorem Agree.left {us vs : List Nat} {env env' : Env} (h : Agree (us ++ vs) env env') : Agree us env env' := fun t ht => h t (List.mem_append_left _ ht)
theorem Agree.right {us vs : List Nat} {env env' : Env} (h : Agree (us ++ vs) env env') : Agree vs env env' := fun t ht => h t (List.mem_append_right _ ht)

theorem X.congr {x : X} {env env' : Env} (h : Agree x.uses env env') : x.ev env = x.ev env' := by
  cases x with
  | t n => exact h n (by simp [X.uses])
  | k v => rfl

theorem Xs.congr {env env' : Env} : ∀ {xs : List X}, Agree (xs.flatMap X.uses) env env' → xs.map (X.ev env) = xs.map (X.ev env')
  | [], _ => rfl
  | x :: xs, h => by
    rw [List.flatMap_cons] at h
    simp [X.congr h.left, Xs.congr h.right]

theorem opt_congr {x : Option X} {env env' : Env} (h : Agree (optUses x) env env') : x.map (X.ev env) = x.map (X.ev env') := by
  cases x with
  | none => rfl
  | some x => simp [X.congr h]

theorem fillV_congr {env env' : Env} : ∀ {ps : List (Nat × Nat × X)} {cs : List V}, Agree (ps.flatMap fun p => p.2.2.uses) env env' → fillV env cs ps = fillV env' cs ps
  | [], _, _ => rfl
  | (off, s, x) :: ps, cs, h => by
    rw [List.flatMap_cons] at h
    have h1 := X.congr h.left
    simp only [fillV, h1]
    rw [fillV_congr h.right]

theorem R.congr {r : R} {env env' : Env} {H : Heap} (h : Agree r.uses env env') : r.ev env H = r.ev env' H := by
  cases r <;> simp only [R.uses] at h <;> simp only [R.ev]
  case pick c a b => rw [X.congr h.left.left, X.congr h.left.right, X.congr h.right]
  case build z ps => rw [fillV_congr h]
  case bin op x y => rw [X.congr h.left, X.congr h.right]
  case eq c g x y => rw [X.congr h.left, X.congr h.right]
  case iaddrS s x y => rw [X.congr h.left, X.congr h.right]
  case iaddrA k s x y => rw [X.congr h.left, X.congr h.right]
  case idxStr x y => rw [X.congr h.left, X.congr h.right]
  case idxArr1 k x y => rw [X.congr h.left, X.congr h.right]
  case lookup kt z ok x y => rw [X.congr h.left, X.congr h.right]
  case cutStr x lo hi => rw [X.congr h.left.left, opt_congr h.left.right, opt_congr h.right]
  case cutSl s x lo hi => rw [X.congr h.left.left, opt_congr h.left.right, opt_congr h.right]
  case cutSl3 s x lo hi m => rw [X.congr h.left.left.left, opt_congr h.left.left.right, opt_congr h.left.right, X.congr h.right]
  case mn x xs => rw [X.congr h.left, Xs.congr h.right]
  case mx x xs => rw [X.congr h.left, Xs.congr h.right]
  case clo f xs => rw [Xs.congr h]
  all_goals first | rfl | rw [X.congr h]

theorem E.congr {P : Program} {e : E} {env env' : Env} {H : Heap} {K : V → Heap → Prop} (h : Agree e.uses env env') : e.wp P env H K = e.wp P env' H K := by
  cases e <;> simp only [E.uses] at h <;> simp only [E.wp]
  case rangeS x => rw [X.congr h]
  case nextS x => rw [X.congr h]
  case s2b x => rw [X.congr h]
  case appT e s b x y => unfold appWp; rw [X.congr h.left, X.congr h.right]
  case ustr e x y => rw [X.congr h.left, X.congr h.right]
  case box x => rw [X.congr h]
  case lit s l z ps => rw [fillV_congr h]
  case store k x y => rw [X.congr h.left, X.congr h.right]
  case app s b x y => rw [X.congr h.left, X.congr h.right]
  case mkSl s b z x y => rw [X.congr h.left, X.congr h.right]
  case mkSlT t s b z x y => rw [X.congr h.left, X.congr h.right]
  case put kt m k v => rw [X.congr h.left.left, X.congr h.left.right, X.congr h.right]
  case del kt m k => rw [X.congr h.left, X.congr h.right]
  case ment kt z m k => rw [X.congr h.left, X.congr h.right]
  case mset m s v => rw [X.congr h.left.left, X.congr h.left.right, X.congr h.right]
  case clr s z x => rw [X.congr h]
  case rangeM x => rw [X.congr h]
  case nextM x => rw [X.congr h]
  case entryM x => rw [X.congr h]
  case appz s b z x y => rw [X.congr h.left, X.congr h.right]
  case copy s x y => rw [X.congr h.left, X.congr h.right]
  case call f xs => rw [Xs.congr h]
  case callv x xs => rw [X.congr h.left, Xs.congr h.right]
  case inv x m xs => rw [X.congr h.left, Xs.congr h.right]

theorem fresh_mono {H : Heap} {o : HObj} {K K' : Nat → Heap → Prop} (hk : ∀ id H', K id H' → K' id H') (h : fresh H o K) : fresh H o K' := fun id h0 hid => hk _ _ (h id h0 hid)

theorem appWp_mono {env : Env} {H : Heap} {K K' : V → Heap → Prop} (hk : ∀ v H', K v H' → K' v H') {s b : Nat} {x y : X} (h : appWp env H K s b x y) : appWp env H K' s b x y := by
  obtain ⟨m, vs, h1, h2⟩ := h
  refine ⟨m, vs, h1, ?_⟩
  rcases h2 with ⟨h2, h3, h4⟩ | ⟨off, e9, h2, h3, h4⟩ | ⟨id, off, len, cs, h2, h3, h4, h5, h6⟩ | ⟨id, off, len, cap, cs, h2, h3, h4, h5, h6⟩ | ⟨id, off, len, cap, cs, h2, h3, h4, h5, h6, h7⟩
  · refine .inl ⟨h2, h3, ?_⟩
    cases hm : Nat.beq m 0 with
    | true => rw [hm] at h4; exact hk _ _ h4
    | false => rw [hm] at h4; exact fresh_mono (fun _ _ => hk _ _) h4
  · refine .inr (.inl ⟨off, e9, h2, h3, ?_⟩)
    cases hm : Nat.beq m 0 with
    | true => rw [hm] at h4; exact hk _ _ h4
    | false => rw [hm] at h4; exact fresh_mono (fun _ _ => hk _ _) h4
  · exact .inr (.inr (.inl ⟨id, off, len, cs, h2, h3, h4, h5, fresh_mono (fun _ _ => hk _ _) h6⟩))
  · exact .inr (.inr (.inr (.inl ⟨id, off, len, cap, cs, h2, h3, h4, h5, hk _ _ h6⟩)))
  · exact .inr (.inr (.inr (.inr ⟨id, off, len, cap, cs, h2, h3, h4, h5, h6, fresh_mono (fun _ _ => hk _ _) h7⟩)))
theorem E.mono {P : Program} {e : E} {env : Env} {H : Heap} {K K' : V → Heap → Prop} (hk : ∀ v H', K v H' → K' v H') (h : e.wp P env H K) : e.wp P env H K' := by
  cases e <;> simp only [E.wp] at h ⊢
  case alloc z => exact fresh_mono (fun _ _ => hk _ _) h
  case box x => exact ⟨h.1, fresh_mono (fun _ _ => hk _ _) h.2⟩
  case lit s l z ps => obtain ⟨cs, h1, h2⟩ := h; exact ⟨cs, h1, h2.imp (fresh_mono (fun _ _ => hk _ _)) (fresh_mono (fun _ _ h t => hk _ _ (h t)))⟩
  case store k x y => obtain ⟨id, off, cs, h1, h2, h3, h4, h5, h6⟩ := h; exact ⟨id, off, cs, h1, h2, h3, h4, h5, hk _ _ h6⟩
  case app s b x y => exact appWp_mono hk h
  case appT e s b x y =>
    rcases h with h | ⟨m, vs, h1, h2, ⟨h3, h4, h5⟩ | ⟨k, id, len, cs, h3, h4, h5, h6, h7⟩⟩
    · exact .inl (appWp_mono hk h)
    · exact .inr ⟨m, vs, h1, h2, .inl ⟨h3, h4, fresh_mono (fun _ _ => hk _ _) h5⟩⟩
    · exact .inr ⟨m, vs, h1, h2, .inr ⟨k, id, len, cs, h3, h4, h5, h6, fresh_mono (fun _ _ => hk _ _) h7⟩⟩
  case rangeS x => obtain ⟨s, h1, h2⟩ := h; exact ⟨s, h1, fresh_mono (fun _ _ => hk _ _) h2⟩
  case s2b x => obtain ⟨s, h1, h2⟩ := h; exact ⟨s, h1, fresh_mono (fun _ _ => hk _ _) h2⟩
  case allocT t z => exact fresh_mono (fun _ _ => hk _ _) h
  case nextS x =>
    obtain ⟨it, s, pos, h1, h2, h3⟩ := h
    refine ⟨it, s, pos, h1, h2, ?_⟩
    cases hb : Nat.blt pos s.length with
    | true => rw [hb] at h3; exact hk _ _ h3
    | false => rw [hb] at h3; exact hk _ _ h3
  case ustr e x y =>
    rcases h with ⟨h1, h2, h3⟩ | ⟨k, id, rest, l, h1, h2, h3, h4, h5, h6⟩
    · exact .inl ⟨h1, h2, hk _ _ h3⟩
    · exact .inr ⟨k, id, rest, l, h1, h2, h3, h4, h5, hk _ _ h6⟩
  case appz s b z x y => obtain ⟨kx, m, id, off, len, cap, cs, h1, h2, h3, h4, h5, h6, h7, h8⟩ := h; exact ⟨kx, m, id, off, len, cap, cs, h1, h2, h3, h4, h5, h6, h7, fresh_mono (fun _ _ => hk _ _) h8⟩
  case copy s x y =>
    rcases h with ⟨m, vs, h1, h2, h3⟩ | ⟨id, off, len, cs, m, vs, h1, h2, h3, h4, h5⟩
    · exact .inl ⟨m, vs, h1, h2, hk _ _ h3⟩
    · exact .inr ⟨id, off, len, cs, m, vs, h1, h2, h3, h4, hk _ _ h5⟩
  case mkSl s b z x y => obtain ⟨kl, nl, kc, nc, h1, h2, h3, h4, h5, h6, h7⟩ := h; exact ⟨kl, nl, kc, nc, h1, h2, h3, h4, h5, h6, fresh_mono (fun _ _ => hk _ _) h7⟩
  case mkSlT t s b z x y => obtain ⟨kl, nl, kc, nc, h1, h2, h3, h4, h5, h6, h7⟩ := h; exact ⟨kl, nl, kc, nc, h1, h2, h3, h4, h5, h6, h7.imp (fun h7 => fresh_mono (fun _ _ => hk _ _) h7) fun h7 => fresh_mono (fun _ _ => hk _ _) h7⟩
  case mkMap => exact fresh_mono (fun _ _ => hk _ _) h
  case put kt m k v => obtain ⟨id, es, r, h1, h2, h3, h4, h5⟩ := h; exact ⟨id, es, r, h1, h2, h3, h4, hk _ _ h5⟩
  case del kt m k =>
    rcases h with ⟨h1, h2, h3⟩ | ⟨id, es, r, h1, h2, h3, h4⟩
    · exact .inl ⟨h1, h2, hk _ _ h3⟩
    · exact .inr ⟨id, es, r, h1, h2, h3, hk _ _ h4⟩
  case ment kt z m k =>
    obtain ⟨id, es, r, h1, h2, h3, h4, h5⟩ := h
    refine ⟨id, es, r, h1, h2, h3, h4, fun n => ?_⟩
    have h5 := h5 n
    cases r with
    | none => exact hk _ _ h5
    | some i => exact fun e he => hk _ _ (h5 e he)
  case mset m s v => obtain ⟨id, es, i, n, e, h1, h2, h3, h4, h5, h6⟩ := h; exact ⟨id, es, i, n, e, h1, h2, h3, h4, h5, hk _ _ h6⟩
  case clr s z x =>
    rcases h with ⟨h1, h2⟩ | ⟨id, off, e, h1, h2⟩ | ⟨id, off, len, cs, h1, h2, h3, h4⟩ | ⟨id, off, len, cap, cs, h1, h2, h3, h4⟩
    · exact .inl ⟨h1, hk _ _ h2⟩
    · exact .inr (.inl ⟨id, off, e, h1, hk _ _ h2⟩)
    · exact .inr (.inr (.inl ⟨id, off, len, cs, h1, h2, h3, hk _ _ h4⟩))
    · exact .inr (.inr (.inr ⟨id, off, len, cap, cs, h1, h2, h3, hk _ _ h4⟩))
  case call f xs => exact h.imp (fun h => CallsC.mono h hk) (fun h => ExtC.mono h hk)
  case callv x xs => exact h.imp (fun ⟨f, cap, h1, h2⟩ => ⟨f, cap, h1, CallsC.mono h2 hk⟩) (fun ⟨l, h1, h2⟩ => ⟨l, h1, YieldC.mono h2 hk⟩)
  case rangeM x => obtain ⟨id, es, h1, h2, h3⟩ := h; exact ⟨id, es, h1, h2, fun bs clk a b c => fresh_mono (fun _ _ => hk _ _) (h3 bs clk a b c)⟩
  case nextM x => obtain ⟨it, mid, es, bs, clk, seen, h1, h2, h3, h4, h5⟩ := h; exact ⟨it, mid, es, bs, clk, seen, h1, h2, h3, fun h => hk _ _ (h4 h), fun i e b a c d => hk _ _ (h5 i e b a c d)⟩
  case entryM x => obtain ⟨it, mid, es, bs, clk, seen, i, e, b, h1, h2, h3, h4, h5, h6⟩ := h; exact ⟨it, mid, es, bs, clk, seen, i, e, b, h1, h2, h3, h4, h5, hk _ _ h6⟩
  case inv x m xs => obtain ⟨t, v, f, r, h1, h2, h3⟩ := h; exact ⟨t, v, f, r, h1, h2, CallsC.mono h3 hk⟩

theorem O.congr {P : Program} {o : O} {env env' : Env} {H : Heap} {K : V → Heap → Prop} (h : Agree o.uses env env') : o.wp P env H K = o.wp P env' H K := by
  cases o with
  | rd r => simp only [O.wp, R.congr (H := H) (show Agree r.uses env env' from h)]
  | ef e => exact E.congr h

theorem O.mono {P : Program} {o : O} {env : Env} {H : Heap} {K K' : V → Heap → Prop} (hk : ∀ v H', K v H' → K' v H') (h : o.wp P env H K) : o.wp P env H K' := by
  cases o with
  | rd r => obtain ⟨v, h1, h2⟩ := h; exact ⟨v, h1, hk _ _ h2⟩
  | ef e => exact E.mono hk h

theorem R.le {r : R} {env : Env} {H H' : Heap} (hl : H.le H') {v : V} (h : r.ev env H = some v) : r.ev env H' = some v := by
  cases r <;> simp only [R.ev] at h ⊢ <;> first | exact h | skip
  case load1 a =>
    split at h
    · split at h
      · rename_i hH; rw [hl _ _ hH]; exact h
      · cases h
    · cases h
  case loadn k a =>
    split at h
    · split at h
      · rename_i hH; rw [hl _ _ hH]; exact h
      · cases h
    · cases h
  case b2s x =>
    split at h
    · exact h
    · rename_i id off len esz _
      cases hz : Nat.beq len 0 with
      | true => rw [hz] at h; exact h
      | false =>
        rw [hz] at h
        simp only [cond_false] at h ⊢
        split at h
        · rename_i hH; rw [hl _ _ hH]; exact h
        · cases h
    · cases h
  case lenMap x =>
    split at h
    · exact h
    · split at h
      · rename_i hH; rw [hl _ _ hH]; exact h
      · cases h
    · cases h
  case lookup kt z ok m k =>
    split at h
    · exact h
    · split at h
      · rename_i hH; rw [hl _ _ hH]; exact h
      · cases h
    · cases h

theorem R.quiet {r : R} {env : Env} (hr : r.reads = false) (H H' : Heap) : r.ev env H = r.ev env H' := by
  cases r <;> simp only [R.reads] at hr <;> first | rfl | cases hr

def I.out (P : Program) (env : Env) (H : Heap) (K : V → Heap → Prop) (i : I) : Prop :=
  match i.g with
  | none => i.o.wp P env H fun v H' => i.x.ok env H H' ∧ K v H'
  | some (s, b) => gcond (env s) b (i.o.wp P env H fun v H' => i.x.ok env H H' ∧ K v H') (K V.undef H)

theorem I.wp_out (P : Program) (env : Env) (H : Heap) (K : Env → Heap → Prop) (i : I) : i.wp P env H K = i.out P env H fun v H' => K (env.put i.d v) H' := by
  unfold I.wp I.out I.run
  cases i.g with
  | none => rfl
  | some g => rfl

theorem gcond_mono {v : V} {b : Bool} {A B A' B' : Prop} (h : gcond v b A B) (hA : A → A') (hB : B → B') : gcond v b A' B' := by
  cases v <;> simp only [gcond] at h ⊢ <;> first | exact hB h | skip
  rename_i c
  cases hc : c == b with
  | true => rw [hc] at h; exact hA h
  | false => rw [hc] at h; exact hB h

theorem I.out_mono {P : Program} {env : Env} {H : Heap} {K K' : V → Heap → Prop} {i : I} (hk : ∀ v H', K v H' → K' v H') (h : i.out P env H K) : i.out P env H K' := by
  unfold I.out at *
  split at h
  · exact O.mono (fun v H' h => ⟨h.1, hk _ _ h.2⟩) h
  · exact gcond_mono h (O.mono fun v H' h => ⟨h.1, hk _ _ h.2⟩) (hk _ _)

theorem Kx.congr {x : Kx} (h : x.isSm = false) {env env' : Env} {H H' : Heap} : x.ok env H H' = x.ok env' H H' := by
  cases x with
  | no => rfl
  | all => rfl
  | sm l => cases h
theorem Kx.congrS {x : Kx} {env env' : Env} (h : Agree x.slots env env') {H H' : Heap} : x.ok env H H' = x.ok env' H H' := by
  cases x with
  | no => rfl
  | all => rfl
  | sm l =>
    have key : ∀ p ∈ l, ∀ H, (kR p).ev env H = (kR p).ev env' H := by
      intro p hp H
      refine R.congr fun t ht => h t ?_
      obtain ⟨a, k⟩ := p
      have : t = a := by
        cases k <;> simpa [kR, R.uses, X.uses] using ht
      subst this
      exact List.mem_map.2 ⟨_, hp, rfl⟩
    refine propext ⟨?_, ?_⟩
    · rintro (h1 | h1)
      · exact .inl h1
      · exact .inr fun p hp v hv => by rw [← key p hp]; exact h1 p hp v (by rw [key p hp]; exact hv)
    · rintro (h1 | h1)
      · exact .inl h1
      · exact .inr fun p hp v hv => by rw [key p hp]; exact h1 p hp v (by rw [← key p hp]; exact hv)
def I.outW (P : Program) (env : Env) (H : Heap) (W : Heap → Prop) (K : V → Heap → Prop) (i : I) : Prop :=
  match i.g with
  | none => i.o.wp P env H fun v H' => W H' ∧ K v H'
  | some (s, b) => gcond (env s) b (i.o.wp P env H fun v H' => W H' ∧ K v H') (K V.undef H)
theorem I.out_W (P : Program) (env : Env) (H : Heap) (K : V → Heap → Prop) (i : I) : i.out P env H K = i.outW P env H (fun H' => i.x.ok env H H') K := rfl
theorem I.outW_congr {P : Program} {env env' : Env} {H : Heap} {W : Heap → Prop} {K : V → Heap → Prop} {i : I} (h : Agree i.uses env env') : i.outW P env H W K = i.outW P env' H W K := by
  unfold I.uses at h
  have h1 : Agree i.o.uses env env' := h.left
  unfold I.outW
  cases hg : i.g with
  | none => simp only; rw [O.congr h1]
  | some g =>
    obtain ⟨s, b⟩ := g
    have h2 := h.right
    rw [hg] at h2
    have hs : env s = env' s := h2 s (by simp)
    simp only
    rw [O.congr h1, hs]
theorem I.outW_mono {P : Program} {env : Env} {H : Heap} {W W' : Heap → Prop} {K K' : V → Heap → Prop} {i : I} (hw : ∀ H', W H' → W' H') (hW : W H) (hk : ∀ v H', W H' → K v H' → K' v H') (h : i.outW P env H W K) : i.outW P env H W' K' := by
  unfold I.outW at *
  split at h
  · exact O.mono (fun v H' h => ⟨hw _ h.1, hk _ _ h.1 h.2⟩) h
  · exact gcond_mono h (O.mono fun v H' h => ⟨hw _ h.1, hk _ _ h.1 h.2⟩) (hk _ _ hW)
theorem I.out_congr {P : Program} {env env' : Env} {H : Heap} {K : V → Heap → Prop} {i : I} (hsm : i.x.isSm = false) (h : Agree i.uses env env') : i.out P env H K = i.out P env' H K := by
  have e : i.outW P env H (fun H' => i.x.ok env H H') K = i.outW P env H (fun H' => i.x.ok env' H H') K := by
    congr 1; funext H'; exact Kx.congr hsm
  rw [I.out_W, I.out_W, e]
  exact I.outW_congr h

theorem I.out_congrS {P : Program} {env env' : Env} {H : Heap} {K : V → Heap → Prop} {i : I} (hs : Agree i.x.slots env env') (h : Agree i.uses env env') : i.out P env H K = i.out P env' H K := by
  have e : i.outW P env H (fun H' => i.x.ok env H H') K = i.outW P env H (fun H' => i.x.ok env' H H') K := by
    congr 1; funext H'; exact Kx.congrS hs
  rw [I.out_W, I.out_W, e]
  exact I.outW_congr h

theorem agree_put {us : List Nat} {d : Option Nat} (h : dApart d us = true) (env : Env) (v : V) : Agree us (env.put d v) env := by
  intro t ht
  cases d with
  | none => rfl
  | some d =>
    have hne : t ≠ d := by
      rintro rfl
      simp [dApart] at h
      exact h ht
    simp [Env.put, show Nat.beq t d = false from Bool.eq_false_iff.2 fun e => hne (Nat.eq_of_beq_eq_true e)]

theorem put_comm {d d' : Option Nat} (h : dNe d d' = true) (env : Env) (v v' : V) : (env.put d v).put d' v' = (env.put d' v').put d v := by
  cases d with
  | none => rfl
  | some d =>
    cases d' with
    | none => rfl
    | some d' =>
      have hne : d ≠ d' := by
        rintro rfl
        simp [dNe] at h
      funext t
      simp only [Env.put]
      by_cases h1 : t = d
      · subst h1
        have : Nat.beq t d' = false := Bool.eq_false_iff.2 fun e => hne (Nat.eq_of_beq_eq_true e)
        simp [this]
      · have : Nat.beq t d = false := Bool.eq_false_iff.2 fun e => h1 (Nat.eq_of_beq_eq_true e)
        simp [this]

theorem CallsC.frameH {P : Program} {f : FuncId} {args : List V} {H : Heap} {Q : V → Heap → Prop} (h : CallsC P f args H Q) {id : Nat} (o : HObj) (hid : H id = none) :
    CallsC P f args (H.set id o) fun v H2 => ∃ H1, Q v H1 ∧ H1 id = none ∧ H2 = H1.set id o := by
  obtain ⟨hE, hc⟩ := h
  have le1 : H.le (H.set id o) := Heap.le_set o hid
  refine ⟨hE, fun ι w us hR hv => (hc ι w us (hR.weaken le1) hv).mono ?_⟩
  rintro e w' ⟨ι', H1', v, u, rfl, hvu, hR', hX, hQ⟩
  have hid1 : H1' id = none := by
    cases hx : H1' id with
    | none => rfl
    | some o' =>
      have := hX.ids id o' hx hid
      obtain ⟨b, off, hb, _⟩ := hR.obj id o (Heap.set_same _ _ _)
      rw [this] at hb; cases hb
  have in1 : ∀ i o', H1' i = some o' → (H1'.set id o) i = some o' := fun i o' ho => Heap.le_set o hid1 i o' ho
  have cas : ∀ i o', (H1'.set id o) i = some o' → H1' i = some o' ∨ (i = id ∧ o' = o) := by
    intro i o' ho
    by_cases hi : i = id
    · subst hi; rw [Heap.set_same] at ho; cases ho; exact .inr ⟨rfl, rfl⟩
    · rw [Heap.set_ne _ _ hi] at ho; exact .inl ho
  obtain ⟨bi, offi, hbi, hobi⟩ := hR.obj id o (Heap.set_same _ _ _)
  have hbi' : ι' id = some (bi, offi) := hX.pl _ _ hbi
  have notOwned : o.rw = true → ∀ id1 o1 off1, H id1 = some o1 → o1.rw = true → ι id1 = some (bi, off1) → False := fun hrw id1 o1 off1 h1 h2 h3 => by
    have := hR.inj id1 id o1 o bi off1 offi (le1 _ _ h1) (Heap.set_same _ _ _) h2 h3 hbi
    subst this
    rw [hid] at h1; cases h1
  have notOwned' : ∀ id1 o1 off1, H id1 = some o1 → o1.rw = true → ι id1 = some (bi, off1) → False := fun id1 o1 off1 h1 h2 h3 => by
    have := hR.inj id1 id o1 o bi off1 offi (le1 _ _ h1) (Heap.set_same _ _ _) h2 h3 hbi
    subst this
    rw [hid] at h1; cases h1
  refine ⟨ι', H1'.set id o, v, u, rfl, hvu, ⟨?_, ?_, hR'.fin, hR'.zero, hR'.glob⟩, ⟨hX.pl, hX.os, hX.tape, hX.output, hX.size, hX.shp, ?_, ?_, ?_, ?_⟩, H1', hQ, hid1, rfl⟩
  · intro i o' ho
    rcases cas i o' ho with h1 | ⟨rfl, rfl⟩
    · exact hR'.obj i o' h1
    · exact ⟨bi, offi, hbi', hobi.keep hX.pl hX.shp (hX.frame bi hobi.lt fun ⟨id1, o1, off1, h1, h2, h3⟩ => notOwned' id1 o1 off1 h1 h2 h3)⟩
  · intro i i' o1 o2 b off off' ho ho' hrw hb hb'
    rcases cas i o1 ho with h1 | ⟨rfl, rfl⟩
    · rcases cas i' o2 ho' with k1 | ⟨rfl, rfl⟩
      · exact hR'.inj i i' o1 o2 b off off' h1 k1 hrw hb hb'
      · exfalso
        rw [hbi'] at hb'; cases hb'
        rcases hX.owns _ ⟨i, o1, off, h1, hrw, hb⟩ with ⟨id1, o3, off3, h3, h4, h5⟩ | h5
        · exact notOwned' id1 o3 off3 h3 h4 h5
        · have := hobi.lt; omega
    · rcases cas i' o2 ho' with k1 | ⟨rfl, rfl⟩
      · rw [hbi'] at hb; cases hb
        cases hr' : o2.rw with
        | true =>
          exfalso
          rcases hX.owns _ ⟨i', o2, off', k1, hr', hb'⟩ with ⟨id1, o3, off3, h3, h4, h5⟩ | h5
          · exact notOwned' id1 o3 off3 h3 h4 h5
          · have := hobi.lt; omega
        | false =>
          have k2 := le1 _ _ (hX.ro i' o2 k1 hr')
          obtain ⟨b3, off3, h5, _⟩ := hR.obj i' o2 k2
          have := hX.pl _ _ h5
          rw [hb'] at this; cases this
          exact hR.inj i i' o1 o2 _ _ _ (Heap.set_same _ _ _) k2 hrw hbi h5
      · rfl
  · intro b hb hn
    exact hX.frame b hb fun ⟨id1, o1, off1, h1, h2, h3⟩ => hn ⟨id1, o1, off1, le1 _ _ h1, h2, h3⟩
  · rintro b ⟨i, o1, off, h1, h2, h3⟩
    rcases cas i o1 h1 with k1 | ⟨rfl, rfl⟩
    · rcases hX.owns b ⟨i, o1, off, k1, h2, h3⟩ with ⟨id1, o3, off3, h4, h5, h6⟩ | h5
      · exact .inl ⟨id1, o3, off3, le1 _ _ h4, h5, h6⟩
      · exact .inr h5
    · rw [hbi'] at h3; cases h3
      exact .inl ⟨i, o1, offi, Heap.set_same _ _ _, h2, hbi⟩
  · intro i o1 h1 h2
    rcases cas i o1 h1 with k1 | ⟨rfl, rfl⟩
    · refine hX.ids i o1 k1 ?_
      cases hh : H i with
      | none => rfl
      | some x => rw [le1 _ _ hh] at h2; cases h2
    · rw [Heap.set_same] at h2; cases h2
  · intro i o1 h1 h2
    rcases cas i o1 h1 with k1 | ⟨rfl, rfl⟩
    · exact le1 _ _ (hX.ro i o1 k1 h2)
    · exact Heap.set_same _ _ _
theorem set_comm (H : Heap) {i j : Nat} (o o' : HObj) (h : i ≠ j) : (H.set i o).set j o' = (H.set j o').set i o := by
  funext k
  by_cases h1 : k = j
  · subst h1; rw [Heap.set_same, Heap.set_ne _ _ (Ne.symm h), Heap.set_same]
  · rw [Heap.set_ne _ _ h1]
    by_cases h2 : k = i
    · subst h2; rw [Heap.set_same, Heap.set_same]
    · rw [Heap.set_ne _ _ h2, Heap.set_ne _ _ h2, Heap.set_ne _ _ h1]
theorem fresh_later {H : Heap} {id : Nat} {o o1 : HObj} (hid : H id = none) {K : Nat → Heap → Prop} (h : fresh H o1 K) : fresh (H.set id o) o1 fun i H2 => ∃ H1, K i H1 ∧ H1 id = none ∧ H2 = H1.set id o := by
  intro i h0 hi
  have hne : i ≠ id := fun e => by subst e; rw [Heap.set_same] at hi; cases hi
  rw [Heap.set_ne _ _ hne] at hi
  exact ⟨H.set i o1, h i h0 hi, by rw [Heap.set_ne _ _ (Ne.symm hne)]; exact hid, set_comm H o o1 (Ne.symm hne)⟩
theorem E.wp_later {P : Program} {e e' : E} (he : e.later e' = true) {env : Env} {H : Heap} {K : V → Heap → Prop} (h : e.wp P env H K) {id : Nat} (o : HObj) (hid : H id = none) :
    e.wp P env (H.set id o) fun v H2 => ∃ H1, K v H1 ∧ H1 id = none ∧ H2 = H1.set id o := by
  have le1 : H.le (H.set id o) := Heap.le_set o hid
  cases e with
  | alloc z => exact fresh_later hid h
  | mkMap => exact fresh_later hid h
  | box x => exact ⟨h.1, fresh_later hid h.2⟩
  | lit a b z ps =>
    obtain ⟨cs, h1, h2⟩ := h
    exact ⟨cs, h1, h2.imp (fresh_later hid) fun h => fresh_mono (fun i H2 ⟨H1, g1, g2, g3⟩ t => ⟨H1, g1 t, g2, g3⟩) (fresh_later hid h)⟩
  | store n a v =>
    obtain ⟨i, off, cs, h1, h2, h3, h4, h5, h6⟩ := h
    have hne : i ≠ id := fun e => by subst e; rw [hid] at h2; cases h2
    exact ⟨i, off, cs, h1, le1 _ _ h2, h3, h4, h5, _, h6, by rw [Heap.set_ne _ _ (Ne.symm hne)]; exact hid, set_comm H o _ (Ne.symm hne)⟩
  | call f args =>
    rcases h with h | ⟨v, h1, h2⟩
    · exact .inl (h.frameH o hid)
    · exact .inr ⟨v, fun ι w us hR hv => h1 ι w us (hR.weaken le1) hv, H, h2, hid, rfl⟩
  | inv x name args =>
    obtain ⟨t, v, f, r, h1, h2, h3⟩ := h
    exact ⟨t, v, f, r, h1, fun ι w u hR hv => h2 ι w u (hR.weaken le1) hv, h3.frameH o hid⟩
  | _ => cases e' <;> cases he

def I.takes (env : Env) (i : I) : Bool := match i.g with
  | none => true
  | some (s, b) => match env s with
    | .bool c => c == b
    | _ => false
theorem I.out_takes {P : Program} {env : Env} {H : Heap} {K : V → Heap → Prop} {i : I} : i.out P env H K ↔ if i.takes env = true then i.o.wp P env H (fun v H' => i.x.ok env H H' ∧ K v H') else K V.undef H := by
  unfold I.out I.takes
  cases hg : i.g with
  | none => exact Iff.rfl
  | some g =>
    obtain ⟨s, b⟩ := g
    have : ∀ (v : V) (A B : Prop), gcond v b A B ↔ if (match v with | .bool c => c == b | _ => false) = true then A else B := by
      intro v A B
      unfold gcond
      cases v with
      | bool c => cases hc : c == b <;> simp
      | _ => simp
    exact this _ _ _
theorem out_later {P : Program} {env : Env} {H : Heap} {i j : I} {e e' : E} (hj : j.o = .ef e) (hi : i.o = .ef e') (he : e.later e' = true) (_hsi : i.x.isSm = false) {K : V → V → Heap → Prop}
    (hk : j.out P env H fun v1 H1 => i.out P env H1 fun v2 H2 => K v1 v2 H2) : i.out P env H fun v2 H2 => j.out P env H2 fun v1 H1 => K v1 v2 H1 := by
  obtain ⟨z, rfl⟩ : ∃ z, e' = .alloc z := by cases e' <;> first | exact ⟨_, rfl⟩ | (cases e <;> cases he)
  rw [I.out_takes]
  cases hti : i.takes env with
  | false =>
    rw [if_neg (by simp)]
    refine I.out_mono (fun v1 H1 g => ?_) hk
    rw [I.out_takes, hti, if_neg (by simp)] at g
    exact g
  | true =>
    rw [if_pos rfl, hi]
    intro id h0 hid
    have hle : H.le (H.set id (.cells true z)) := Heap.le_set _ hid
    refine ⟨Kx.le hle, ?_⟩
    rw [I.out_takes] at hk ⊢
    cases htj : j.takes env with
    | false =>
      rw [htj, if_neg (by simp)] at hk
      rw [if_neg (by simp)]
      rw [I.out_takes, hti, if_pos rfl, hi] at hk
      exact (hk id h0 hid).2
    | true =>
      rw [htj, if_pos rfl, hj] at hk
      rw [if_pos rfl, hj]
      show E.wp P env (H.set id (.cells true z)) (fun v H' => j.x.ok env (H.set id (.cells true z)) H' ∧ K v (.ptr id 0) H') e
      refine E.mono ?_ (E.wp_later he (show E.wp P env H (fun v H' => j.x.ok env H H' ∧ i.out P env H' fun v2 H2 => K v v2 H2) e from hk) (.cells true z) hid)
      rintro v H2 ⟨H1, ⟨hok, g⟩, hn, rfl⟩
      rw [I.out_takes, hti, if_pos rfl, hi] at g
      refine ⟨?_, (g id h0 hn).2⟩
      have hle2 : H.le H1 → (H.set id (.cells true z)).le (H1.set id (.cells true z)) := by
        intro hok k ok hk2
        by_cases hkid : k = id
        · subst hkid; rw [Heap.set_same] at hk2 ⊢; exact hk2
        · rw [Heap.set_ne _ _ hkid] at hk2 ⊢; exact hok k ok hk2
      cases hx : j.x with
      | no => trivial
      | all => rw [hx] at hok; exact hle2 hok
      | sm l =>
        rw [hx] at hok
        rcases hok with hok | hok
        · exact .inl (hle2 hok)
        · refine .inr fun p hp v hv => ?_
          have := hok p hp
          obtain ⟨a, n⟩ := p
          cases hpa : env a with
          | ptr i off =>
            by_cases hi : i = id
            · subst hi
              cases n <;> (simp only [kR, R.ev, X.ev, hpa, Heap.set_same] at hv ⊢; exact hv)
            · cases n <;> (simp only [kR, R.ev, X.ev, hpa, Heap.set_ne _ _ hi] at hv this ⊢; exact this v hv)
          | _ => cases n <;> (simp only [kR, R.ev, X.ev, hpa] at hv; cases hv)
theorem out_swap {P : Program} {env : Env} {H : Heap} {i j : I} (hsm : i.x.isSm = false) (h : (match j.o, i.o with
    | .rd _, .rd _ => true
    | .rd r, .ef _ => !r.reads || keepsX i.x r
    | .ef _, _ => false) = true) {K : V → V → Heap → Prop}
    (hk : j.out P env H fun v1 H1 => i.out P env H1 fun v2 H2 => K v1 v2 H2) : i.out P env H fun v2 H2 => j.out P env H2 fun v1 H1 => K v1 v2 H1 := by
  cases hj : j.o with
  | ef e => rw [hj] at h; cases i.o <;> cases h
  | rd r =>
    -- j comes to one value, wherever the heap has not turned
    have key : ∃ v1, (i.out P env H fun v2 H2 => K v1 v2 H2) ∧ ∀ (H' : Heap), (H.le H' ∨ r.reads = false) → ∀ K' : V → Heap → Prop, K' v1 H' → j.out P env H' K' := by
      unfold I.out at hk
      cases hg : j.g with
      | none =>
        rw [hg, hj] at hk
        obtain ⟨v, h1, _, h2⟩ := hk
        refine ⟨v, h2, fun H' hl K' hk' => ?_⟩
        unfold I.out
        rw [hg, hj]
        refine ⟨v, ?_, Kx.refl, hk'⟩
        rcases hl with hl | hl
        · exact R.le hl h1
        · rw [← R.quiet hl H H']; exact h1
      | some g =>
        obtain ⟨s, b⟩ := g
        rw [hg, hj] at hk
        have skip : (gcond (env s) b False True → (i.out P env H fun v2 H2 => K V.undef v2 H2) → ∃ v1, (i.out P env H fun v2 H2 => K v1 v2 H2) ∧ ∀ (H' : Heap), (H.le H' ∨ r.reads = false) → ∀ K' : V → Heap → Prop, K' v1 H' → j.out P env H' K') := by
          intro hs h2
          refine ⟨V.undef, h2, fun H' _ K' hk' => ?_⟩
          unfold I.out
          rw [hg]
          exact gcond_mono hs (fun h => h.elim) (fun _ => hk')
        have take : (gcond (env s) b True False → (∃ v, r.ev env H = some v ∧ (i.out P env H fun v2 H2 => K v v2 H2)) → ∃ v1, (i.out P env H fun v2 H2 => K v1 v2 H2) ∧ ∀ (H' : Heap), (H.le H' ∨ r.reads = false) → ∀ K' : V → Heap → Prop, K' v1 H' → j.out P env H' K') := by
          rintro hs ⟨v, h1, h2⟩
          refine ⟨v, h2, fun H' hl K' hk' => ?_⟩
          unfold I.out
          rw [hg, hj]
          refine gcond_mono hs (fun _ => ⟨v, ?_, Kx.refl, hk'⟩) (fun h => h.elim)
          rcases hl with hl | hl
          · exact R.le hl h1
          · rw [← R.quiet hl H H']; exact h1
        simp only at hk
        cases hv : env s with
        | bool c =>
          rw [hv] at hk skip take
          simp only [gcond] at hk skip take
          cases hc : c == b with
          | true =>
            rw [hc] at hk
            obtain ⟨v, h1, _, h2⟩ := hk
            exact take (by rw [hc]; trivial) ⟨v, h1, h2⟩
          | false =>
            rw [hc] at hk
            exact skip (by rw [hc]; trivial) hk
        | _ =>
          rw [hv] at hk skip
          exact skip trivial hk
    obtain ⟨v1, h1, h2⟩ := key
    -- and i leaves the heap as it must
    have keep : ∀ K' : V → Heap → Prop, i.out P env H K' → i.out P env H fun v H' => (H.le H' ∨ r.reads = false) ∧ K' v H' := by
      intro K' hk'
      cases hi : i.o with
      | rd r' =>
        unfold I.out at *
        rw [hi] at hk' ⊢
        cases hg : i.g with
        | none =>
          rw [hg] at hk'
          obtain ⟨v, g1, g2, g3⟩ := hk'
          exact ⟨v, g1, g2, .inl (Heap.le_refl _), g3⟩
        | some g =>
          rw [hg] at hk'
          exact gcond_mono hk' (fun ⟨v, g1, g2, g3⟩ => ⟨v, g1, g2, .inl (Heap.le_refl _), g3⟩) (fun g => ⟨.inl (Heap.le_refl _), g⟩)
      | ef e =>
        rw [hj, hi] at h
        simp only [Bool.or_eq_true, Bool.not_eq_true'] at h
        rcases h with h | h
        · exact I.out_mono (fun v H' g => ⟨.inr h, g⟩) hk'
        · have hall : i.x = .all := by
            cases hx : i.x with
            | no => rw [hx] at h; cases h
            | all => rfl
            | sm l => rw [hx] at hsm; cases hsm
          have hle : ∀ H', i.x.ok env H H' → H.le H' := fun H' h => by rw [hall] at h; exact h
          unfold I.out at *
          cases hg : i.g with
          | none =>
            rw [hg] at hk'
            exact O.mono (fun v H' g => ⟨g.1, .inl (hle _ g.1), g.2⟩) hk'
          | some g =>
            rw [hg] at hk'
            exact gcond_mono hk' (O.mono fun v H' g => ⟨g.1, .inl (hle _ g.1), g.2⟩) (fun g => ⟨.inl (Heap.le_refl _), g⟩)
    exact I.out_mono (fun v2 H2 ⟨hl, g⟩ => h2 H2 hl _ g) (keep _ h1)

theorem wp_swap {P : Program} {env : Env} {H : Heap} {i j : I} (hsm : i.x.isSm = false) (h : swapOk j i = true) {K : Env → Heap → Prop}
    (hk : j.wp P env H fun e1 H1 => i.wp P e1 H1 K) : i.wp P env H fun e1 H1 => j.wp P e1 H1 K := by
  unfold swapOk at h
  simp only [Bool.and_eq_true] at h
  obtain ⟨⟨⟨h1, h2⟩, h3⟩, h4⟩ := h
  rw [I.wp_out] at hk ⊢
  have e1 : (j.out P env H fun v1 H1 => i.out P env H1 fun v2 H2 => K ((env.put j.d v1).put i.d v2) H2) := by
    refine I.out_mono (fun v1 H1 g => ?_) hk
    rw [I.wp_out, I.out_congr hsm (agree_put h1 env v1)] at g
    exact g
  have sl : ∀ v : V, Agree j.x.slots (env.put i.d v) env := by
    intro v
    cases hjo : j.o with
    | rd r =>
      have : j.x.isSm = false := by
        rw [hjo] at h4
        cases hio : i.o <;> rw [hio] at h4 <;> simp only [Bool.and_eq_true, Bool.not_eq_true'] at h4
        · exact h4
        · exact h4.1
      have : j.x.slots = [] := by
        cases hx : j.x with
        | sm l => rw [hx] at this; cases this
        | _ => rfl
      rw [this]
      exact fun t ht => by cases ht
    | ef e =>
      cases hio : i.o with
      | rd r => rw [hjo, hio] at h4; cases h4
      | ef e' =>
        rw [hjo, hio] at h4
        simp only [Bool.and_eq_true, Bool.not_eq_true'] at h4
        exact agree_put h4.2 env v
  have e2 : i.out P env H fun v2 H2 => j.out P env H2 fun v1 H1 => K ((env.put j.d v1).put i.d v2) H1 := by
    cases hjo : j.o with
    | rd r =>
      refine out_swap (i := i) (j := j) hsm ?_ e1
      revert h4
      rw [hjo]
      cases i.o with
      | rd _ => exact fun _ => rfl
      | ef _ => exact fun h => by simp only [Bool.and_eq_true] at h; exact h.2
    | ef e =>
      rw [hjo] at h4
      cases hio : i.o with
      | rd r => rw [hio] at h4; cases h4
      | ef e' =>
        rw [hio] at h4
        simp only [Bool.and_eq_true, Bool.not_eq_true'] at h4
        exact out_later hjo hio h4.1.1 hsm e1
  refine I.out_mono (fun v2 H2 g => ?_) e2
  rw [I.wp_out, I.out_congrS (sl v2) (agree_put h2 env v2)]
  refine I.out_mono (fun v1 H1 g => ?_) g
  rw [← put_comm h3]
  exact g

theorem wp_mono_I {P : Program} {env : Env} {H : Heap} {K K' : Env → Heap → Prop} {i : I} (hk : ∀ e H', K e H' → K' e H') (h : i.wp P env H K) : i.wp P env H K' := by
  rw [I.wp_out] at *
  exact I.out_mono (fun _ _ => hk _ _) h

theorem wpOps_mono {P : Program} {K K' : Env → Heap → Prop} (hk : ∀ e H', K e H' → K' e H') : ∀ {is : List I} {env : Env} {H : Heap}, wpOps P is env H K → wpOps P is env H K'
  | [], _, _, h => hk _ _ h
  | _ :: _, _, _, h => wp_mono_I (fun _ _ g => wpOps_mono hk g) h

theorem wpOps_front {P : Program} {K : Env → Heap → Prop} {i : I} (hsm : i.x.isSm = false) : ∀ {js rest : List I} {env : Env} {H : Heap}, (∀ j ∈ js, swapOk j i = true) → wpOps P (js ++ i :: rest) env H K → wpOps P (i :: (js ++ rest)) env H K
  | [], _, _, _, _, h => h
  | j :: js, rest, env, H, hs, h => by
    have h1 : j.wp P env H fun e1 H1 => i.wp P e1 H1 fun e2 H2 => wpOps P (js ++ rest) e2 H2 K :=
      wp_mono_I (fun e1 H1 g => wpOps_front hsm (js := js) (fun j hj => hs j (by simp [hj])) g) h
    exact wp_swap hsm (hs j (by simp)) h1

def KJ (x : Kx) (js : List I) (env : Env) (H H' : Heap) : Prop :=
  ∀ r, keepsX x r = true → (∀ j ∈ js, dApart j.d r.uses = true) → ∀ v, r.ev env H = some v → r.ev env H' = some v
theorem KJ.of {x : Kx} {env : Env} {H H' : Heap} (h : x.ok env H H') : KJ x [] env H H' := by
  intro r hr hd v hv
  clear hd
  cases x with
  | no => cases r <;> cases hr
  | all => exact R.le h hv
  | sm l =>
    rcases h with h | h
    · exact R.le h hv
    · cases r
      case load1 a =>
        cases a with
        | k v => cases hr
        | t n =>
          simp only [keepsX] at hr
          obtain ⟨⟨p1, p2⟩, hp, h2⟩ := List.any_eq_true.1 hr
          simp only [Bool.and_eq_true] at h2
          have e1 := Nat.eq_of_beq_eq_true h2.1
          have e2 := Nat.eq_of_beq_eq_true h2.2
          subst e1; subst e2
          exact h _ hp v hv
      case loadn k a =>
        cases a with
        | k v => cases k <;> cases hr
        | t n =>
          cases k with
          | zero => cases hr
          | succ k =>
            simp only [keepsX] at hr
            obtain ⟨⟨p1, p2⟩, hp, h2⟩ := List.any_eq_true.1 hr
            simp only [Bool.and_eq_true] at h2
            have e1 := Nat.eq_of_beq_eq_true h2.1
            have e2 := Nat.eq_of_beq_eq_true h2.2
            subst e1; subst e2
            exact h _ hp v hv
      all_goals cases hr
theorem ssa_cons {j : I} {js : List I} (h : ssa (j :: js) = true) : (∀ b ∈ js, dApart b.d j.uses = true) ∧ dApart j.d j.uses = true ∧ ssa js = true := by
  simp only [ssa, pairsAll, List.all_cons, Bool.and_eq_true, List.all_eq_true] at h
  refine ⟨h.1.1, h.2.1, ?_⟩
  simp only [ssa, Bool.and_eq_true, List.all_eq_true]
  exact ⟨h.1.2, h.2.2⟩
theorem dApart_left {d : Option Nat} {us vs : List Nat} (h : dApart d (us ++ vs) = true) : dApart d us = true := by
  cases d with
  | none => rfl
  | some d => simp only [dApart, Bool.not_eq_true', List.contains_eq_mem, decide_eq_false_iff_not, List.mem_append] at h ⊢; exact fun k => h (.inl k)
theorem front_sm {P : Program} {K : Env → Heap → Prop} {i : I} (hie : i.o.isE = true) (hism : i.x.isSm = true) : ∀ {js rest : List I} {env : Env} {H : Heap}, ssa js = true → (∀ j ∈ js, swapOk j i = true) → wpOps P (js ++ i :: rest) env H K →
    i.outW P env H (KJ i.x js env H) fun v H' => wpOps P (js ++ rest) (env.put i.d v) H' K
  | [], rest, env, H, _, _, h => by
    have h1 : i.wp P env H fun e H' => wpOps P rest e H' K := h
    rw [I.wp_out, I.out_W] at h1
    exact I.outW_mono (fun H' => KJ.of) Kx.refl (fun _ _ _ h => h) h1
  | j :: js, rest, env, H, hss, hs, h => by
    obtain ⟨hs1, hs2, hs3⟩ := ssa_cons hss
    have hsw := hs j (by simp)
    unfold swapOk at hsw
    simp only [Bool.and_eq_true] at hsw
    obtain ⟨⟨⟨h1, h2⟩, h3⟩, h4⟩ := hsw
    have hj : j.wp P env H fun e1 H1 => wpOps P (js ++ i :: rest) e1 H1 K := h
    rw [I.wp_out] at hj
    have ih : ∀ e1 H1, wpOps P (js ++ i :: rest) e1 H1 K → i.outW P e1 H1 (KJ i.x js e1 H1) fun v H' => wpOps P (js ++ rest) (e1.put i.d v) H' K := fun e1 H1 h => front_sm hie hism hs3 (fun j hj => hs j (by simp [hj])) h
    have hu : ∀ (e1 : Env) (v : V), Agree j.uses (e1.put j.d v) e1 := fun e1 v => agree_put hs2 e1 v
    obtain ⟨e, hio⟩ : ∃ e, i.o = .ef e := by
      cases hio : i.o with
      | rd r => rw [hio] at hie; cases hie
      | ef e => exact ⟨e, rfl⟩
    cases hjo : j.o with
    | ef e => rw [hjo, hio] at h4; simp only [hism, Bool.not_true, Bool.and_false, Bool.false_and] at h4; cases h4
    | rd r =>
    have hsj : j.x.isSm = false := by
      rw [hjo, hio] at h4
      simp only [Bool.and_eq_true, Bool.not_eq_true'] at h4
      exact h4.1
    replace h4 : (!r.reads || keepsX i.x r) = true := by
      rw [hjo, hio] at h4
      simp only [Bool.and_eq_true] at h4
      exact h4.2
    have hur : r.uses = j.o.uses := by rw [hjo]; rfl
    -- j comes to one value, behind i as ahead of it
    have hval : ∀ v, r.ev env H = some v → ∀ v1 H', KJ i.x js (env.put j.d v1) H H' → r.ev env H' = some v := by
      intro v hv v1 H' hkj
      have ha : Agree r.uses (env.put j.d v1) env := fun t ht => hu env v1 t (by rw [hur] at ht; exact List.mem_append_left _ ht)
      cases hrr : r.reads with
      | false => rw [← R.quiet hrr H H']; exact hv
      | true =>
        simp only [hrr, Bool.not_true, Bool.false_or] at h4
        have := hkj r h4 (fun b hb => by have := hs1 b hb; unfold I.uses at this; rw [hur]; exact dApart_left this) v (by rw [R.congr ha]; exact hv)
        rwa [R.congr ha] at this
    have key : ∃ v1, (i.outW P env H (KJ i.x js (env.put j.d v1) H) fun v H' => wpOps P (js ++ rest) ((env.put j.d v1).put i.d v) H' K) ∧
        ∀ H', KJ i.x js (env.put j.d v1) H H' → ∀ K' : V → Heap → Prop, K' v1 H' → j.out P env H' K' := by
      have fin : ∀ v1, wpOps P (js ++ i :: rest) (env.put j.d v1) H K → i.outW P env H (KJ i.x js (env.put j.d v1) H) fun v H' => wpOps P (js ++ rest) ((env.put j.d v1).put i.d v) H' K := fun v1 g => by
        have := ih _ _ g
        rwa [I.outW_congr (agree_put h1 env v1)] at this
      have hxr : ∀ H', j.x.ok env H' H' := fun _ => Kx.refl
      unfold I.out at hj
      cases hg : j.g with
      | none =>
        rw [hg, hjo] at hj
        obtain ⟨v, g1, _, g2⟩ := hj
        refine ⟨v, fin v g2, fun H' hkj K' hk' => ?_⟩
        unfold I.out
        rw [hg, hjo]
        exact ⟨v, hval v g1 v H' hkj, hxr H', hk'⟩
      | some g =>
        obtain ⟨s, b⟩ := g
        rw [hg, hjo] at hj
        have skip : gcond (env s) b False True → wpOps P (js ++ i :: rest) (env.put j.d V.undef) H K → ∃ v1, (i.outW P env H (KJ i.x js (env.put j.d v1) H) fun v H' => wpOps P (js ++ rest) ((env.put j.d v1).put i.d v) H' K) ∧
            ∀ H', KJ i.x js (env.put j.d v1) H H' → ∀ K' : V → Heap → Prop, K' v1 H' → j.out P env H' K' := fun hs g2 => ⟨V.undef, fin _ g2, fun H' _ K' hk' => by
          unfold I.out
          rw [hg]
          exact gcond_mono hs (fun h => h.elim) (fun _ => hk')⟩
        have take : gcond (env s) b True False → (∃ v, r.ev env H = some v ∧ wpOps P (js ++ i :: rest) (env.put j.d v) H K) → ∃ v1, (i.outW P env H (KJ i.x js (env.put j.d v1) H) fun v H' => wpOps P (js ++ rest) ((env.put j.d v1).put i.d v) H' K) ∧
            ∀ H', KJ i.x js (env.put j.d v1) H H' → ∀ K' : V → Heap → Prop, K' v1 H' → j.out P env H' K' := fun hs ⟨v, g1, g2⟩ => ⟨v, fin _ g2, fun H' hkj K' hk' => by
          unfold I.out
          rw [hg, hjo]
          exact gcond_mono hs (fun _ => ⟨v, hval v g1 v H' hkj, hxr H', hk'⟩) (fun h => h.elim)⟩
        simp only at hj
        cases hv : env s with
        | bool c =>
          rw [hv] at hj skip take
          simp only [gcond] at hj skip take
          cases hc : c == b with
          | true =>
            rw [hc] at hj skip take
            obtain ⟨v, g1, _, g2⟩ := hj
            exact take trivial ⟨v, g1, g2⟩
          | false =>
            rw [hc] at hj skip take
            exact skip trivial hj
        | _ =>
          rw [hv] at hj skip
          exact skip trivial hj
    obtain ⟨v1, k1, k2⟩ := key
    refine I.outW_mono (W := KJ i.x js (env.put j.d v1) H) (fun H' hkj rr hr hd v hv => ?_) (fun rr _ _ v hv => hv) (fun v H' hkj g => ?_) k1
    · have ha : Agree rr.uses (env.put j.d v1) env := agree_put (hd j (by simp)) env v1
      have := hkj rr hr (fun b hb => hd b (by simp [hb])) v (by rw [R.congr ha]; exact hv)
      rwa [R.congr ha] at this
    · show j.wp P (env.put i.d v) H' fun e1 H1 => wpOps P (js ++ rest) e1 H1 K
      rw [I.wp_out, I.out_congr hsj (agree_put h2 env v)]
      refine k2 H' hkj _ ?_
      rw [← put_comm h3]
      exact g
def I.free (i : I) : I := { i with x := .no }
theorem wpOps_frontS {P : Program} {K : Env → Heap → Prop} {i : I} (hie : i.o.isE = true) (hism : i.x.isSm = true) {js rest : List I} {env : Env} {H : Heap} (hss : ssa js = true) (hs : ∀ j ∈ js, swapOk j i = true) (h : wpOps P (js ++ i :: rest) env H K) : wpOps P (i.free :: (js ++ rest)) env H K := by
  have := front_sm hie hism hss hs h
  show i.free.wp P env H fun e1 H1 => wpOps P (js ++ rest) e1 H1 K
  rw [I.wp_out, I.out_W]
  exact I.outW_mono (i := i.free) (W := KJ i.x js env H) (fun _ _ => trivial) (fun _ _ _ _ h => h) (fun _ _ _ h => h) this

end Go.CM

namespace Go.CM

def exitR : Ex → Exit → Prop
  | .normal, .normal => True
  | .exit i, .exit j => i = j
  | .ret, .ret => True
  | _, _ => False

def PostR (n : Nat) (ι : Pl) (H : Heap) (w : World) (Q : Ex → Env → Heap → Prop) : Exit → Act → World → Prop := fun e a' w' =>
  ∃ (x : Ex) (ι' : Pl) (env' : Env) (H' : Heap), exitR x e ∧ EnvR n ι' w' env' a' ∧ Rel ι' H' w' ∧ Ext ι H w ι' H' w' ∧ Q x env' H'

section
variable {P : Program} {n : Nat} {ι : Pl} {H : Heap} {w : World} {env : Env} {a : Act}

theorem yielded_ok (hE : EnvR n ι w env a) {ops : Array Oper} {j : Nat} {p : Oper} (hp : ops[j]? = some p) {s : Nat} (hs : p.dst = some s) (hlt : s < n) (b : Bool) :
    (yielded ops a.tmps j == some b) = (match env s with | .bool c => c == b | _ => false) := by
  have hv := hE.vals s hlt
  have hsz : s < a.tmps.size := by rw [hE.size]; exact hlt
  have ht : a.tmps[s]? = some (a.tmps.getD s Go.undef) := by simp [hsz]
  unfold yielded
  simp only [hp, Option.bind_some, hs, ht]
  generalize a.tmps.getD s Go.undef = u at *
  generalize env s = z at *
  cases hv <;> first | rfl | (simp; done) | (rename_i ho; cases u <;> first | rfl | (simp; done) | (simp [ptrish] at ho))

theorem I.sound (hE : EnvR n ι w env a) (hR : Rel ι H w) {ops : Array Oper} {o : Oper} {x : Kx} {i : I} (hc : compI P n ops.toList o x = some i) {k : Nat} (ho : ops[k]? = some o) {Kc : Env → Heap → Prop} (hk : i.wp P env H Kc)
    {Kw : Act → World → Prop} {Qw : Exit → Act → World → Prop}
    (h : ∀ ι' env' H' a' w', Kc env' H' → EnvR n ι' w' env' a' → Rel ι' H' w' → Ext ι H w ι' H' w' → Kw a' w') (ro : Option Nat) : wpOpIn (FW ro) 0 P ops Qw k Kw a w := by
  unfold compI at hc
  cases hd : dstOk n o.dst with
  | false => rw [hd] at hc; cases hc
  | true =>
    rw [hd] at hc
    simp only [cond_true] at hc
    split at hc
    · rename_i oo hoo
      have run : ∀ (i : I), i.o = oo → i.d = o.dst → i.run P env H Kc → o.wpIn (FW ro) 0 P a w Kw Qw := by
        intro i h1 h2 hrun
        unfold I.run at hrun
        rw [h1, h2] at hrun
        refine O.sound hE hR hoo hrun ro Kw Qw ?_
        intro v ι' H' u w' hk hv hR' hE'
        exact h ι' _ H' _ w' hk.2 ((hE.mono hE'.pl hE'.shp).put hd hv) hR' hE'
      have skip : Kc (env.put o.dst V.undef) H → Kw (a.put o.dst Go.undef) w := fun hk => h ι _ H _ w hk (hE.put hd (VR.undef _ _)) hR (Ext.refl _ _ _)
      unfold wpOpIn
      simp only [ho]
      split at hc
      · rename_i hg
        cases hc
        have hw : Region.wanted o (yielded ops a.tmps) = true := by simp [Region.wanted, hg]
        simp only [hw, if_true]
        exact run _ rfl rfl hk
      · rename_i j b hg
        split at hc
        · rename_i p hp
          split at hc
          · rename_i s hs
            cases hlt : Nat.blt s n with
            | false => rw [hlt] at hc; cases hc
            | true =>
              rw [hlt] at hc
              cases hc
              have hlt' : s < n := by simpa [Nat.blt, Nat.lt_iff_add_one_le] using hlt
              have hw : Region.wanted o (yielded ops a.tmps) = (match env s with | .bool c => c == b | _ => false) := by
                simp only [Region.wanted, hg]
                exact yielded_ok hE (by rw [← Array.getElem?_toList]; exact hp) hs hlt' b
              simp only [I.wp] at hk
              cases hv : env s with
              | bool c =>
                rw [hv] at hk hw
                simp only [gcond] at hk hw
                cases hcb : c == b with
                | true =>
                  rw [hcb] at hk hw
                  simp only [hw, if_true]
                  exact run _ rfl rfl hk
                | false =>
                  rw [hcb] at hk hw
                  simp only [hw, Bool.false_eq_true, if_false]
                  exact ⟨fun _ _ => trivial, skip hk⟩
              | _ =>
                rw [hv] at hk hw
                simp only [hw, Bool.false_eq_true, if_false]
                exact ⟨fun _ _ => trivial, skip hk⟩
          · cases hc
        · cases hc
    · cases hc

theorem ops_sound {ops : Array Oper} {Q : Exit → Act → World → Prop} {Kc : Env → Heap → Prop} (ro : Option Nat) : ∀ (l : List Oper) (k : Nat) {is : List I} {ι : Pl} {env : Env} {H : Heap} {a : Act} {w : World},
    (∀ j o, l[j]? = some o → ops[k + j]? = some o) → compIs P n ops.toList l = some is → EnvR n ι w env a → Rel ι H w → wpOps P is env H Kc →
    (∀ ι' env' H' a' w', Kc env' H' → EnvR n ι' w' env' a' → Rel ι' H' w' → Ext ι H w ι' H' w' → Q .normal a' w') →
    wpOpsIn (FW ro) 0 P ops Q (List.range' k l.length) a w
  | [], k, is, ι, env, H, a, w, _, hc, hE, hR, hk, h => by
    simp only [compIs] at hc
    cases hc
    exact h ι env H a w hk hE hR (Ext.refl _ _ _)
  | o :: l, k, is, ι, env, H, a, w, hl, hc, hE, hR, hk, h => by
    unfold compIs at hc
    split at hc
    · rename_i i is' h1 h2
      cases hc
      simp only [List.length_cons, List.range'_succ]
      rw [wpOpsIn_cons]
      refine I.sound hE hR h1 (hl 0 o rfl) hk ?_ ro
      intro ι' env' H' a' w' hk' hE' hR' hX
      refine ops_sound ro l (k + 1) (fun j o hj => by rw [show k + 1 + j = k + (j + 1) by omega]; exact hl (j + 1) o (by simpa using hj)) h2 hE' hR' hk' ?_
      intro ι2 env2 H2 a2 w2 hk2 hE2 hR2 hX2
      exact h ι2 env2 H2 a2 w2 hk2 hE2 hR2 (hX.trans hX2)
    · cases hc

theorem region_sound {id : Nat} {ops : Array Oper} {is : List I} (hc : compIs P n ops.toList ops.toList = some is) {Q : Ex → Env → Heap → Prop} (hk : wpOps P is env H (Q .normal)) (hE : EnvR n ι w env a) (hR : Rel ι H w) (ro : Option Nat) :
    (Code.region id ops false).wpIn (FW ro) 0 P (PostR n ι H w Q) a w := by
  refine wpIn_region ?_
  have := ops_sound (P := P) (n := n) (ops := ops) (Q := PostR n ι H w Q) (Kc := Q .normal) ro ops.toList 0 (fun j o hj => by rw [Nat.zero_add, ← Array.getElem?_toList]; exact hj) hc hE hR hk
    (fun ι' env' H' a' w' hk' hE' hR' hX => ⟨.normal, ι', env', H', trivial, hE', hR', hX, hk'⟩)
  rw [List.range_eq_range']
  simpa using this

end
end Go.CM

namespace Go.CM

section
variable {P : Program} {n : Nat} {ι : Pl} {H : Heap} {w : World} {env : Env} {a : Act}

theorem compAll_spec {ops : List Oper} : ∀ {l : List (Nat × Kx)} {js : List (Nat × I)}, compAll P n ops l = some js → ∀ p ∈ js, ∃ o x, ops[p.1]? = some o ∧ compI P n ops o x = some p.2
  | [], js, h => by simp [compAll] at h; subst h; simp
  | (i, x) :: l, js, h => by
    unfold compAll at h
    split at h
    · rename_i o ho
      split at h
      · rename_i y ys h1 h2
        cases h
        intro p hp
        rcases List.mem_cons.1 hp with rfl | hp
        · exact ⟨o, x, ho, h1⟩
        · exact compAll_spec h2 p hp
      · cases h
    · cases h

theorem pairsAll_append {α : Type} {p : α → α → Bool} : ∀ {l l' : List α}, pairsAll p (l ++ l') = true → pairsAll p l = true ∧ pairsAll p l' = true ∧ ∀ a ∈ l, ∀ b ∈ l', p a b = true
  | [], l', h => ⟨rfl, h, by simp⟩
  | a :: l, l', h => by
    simp only [List.cons_append, pairsAll, Bool.and_eq_true, List.all_append] at h
    obtain ⟨⟨h1, h2⟩, h3⟩ := h
    obtain ⟨h4, h5, h6⟩ := pairsAll_append h3
    refine ⟨by simp [pairsAll, h1, h4], h5, fun x hx b hb => ?_⟩
    rcases List.mem_cons.1 hx with rfl | hx
    · exact List.all_eq_true.1 h2 b hb
    · exact h6 x hx b hb

theorem pairsAll_mid {α : Type} {p : α → α → Bool} {l l' : List α} {x : α} (h : pairsAll p (l ++ x :: l') = true) : pairsAll p (l ++ l') = true ∧ ∀ a ∈ l, p a x = true := by
  obtain ⟨h1, h2, h3⟩ := pairsAll_append h
  simp only [pairsAll, Bool.and_eq_true] at h2
  refine ⟨?_, fun a ha => h3 a ha x (by simp)⟩
  have : ∀ {l l' : List α}, pairsAll p l = true → pairsAll p l' = true → (∀ a ∈ l, ∀ b ∈ l', p a b = true) → pairsAll p (l ++ l') = true := by
    intro l l'
    induction l with
    | nil => intro _ h _; exact h
    | cons a l ih =>
      intro h h' hh
      simp only [pairsAll, Bool.and_eq_true] at h
      simp only [List.cons_append, pairsAll, Bool.and_eq_true, List.all_append]
      exact ⟨⟨h.1, List.all_eq_true.2 fun b hb => hh a (by simp) b hb⟩, ih h.2 h' fun a ha => hh a (by simp [ha])⟩
  exact this h1 h2.2 fun a ha b hb => h3 a ha b (by simp [hb])

theorem ssa_mid {l l' : List I} {y : I} (h : ssa (l ++ y :: l') = true) : ssa (l ++ l') = true ∧ ssa l = true := by
  simp only [ssa, Bool.and_eq_true, List.all_append, List.all_cons] at h ⊢
  obtain ⟨h1, _⟩ := pairsAll_mid h.1
  exact ⟨⟨h1, h.2.1, h.2.2.2⟩, (pairsAll_append h1).1, h.2.1⟩
def SmOk (L : List (Nat × I)) : Prop := ∀ p ∈ L, p.2.x.isSm = true → ssa (L.map (·.2)) = true ∧ p.2.o.isE = true
theorem SmOk.mid {l l' : List (Nat × I)} {y : Nat × I} (h : SmOk (l ++ y :: l')) : SmOk (l ++ l') := fun p hp hs => by
  obtain ⟨h1, h2⟩ := h p (by rcases List.mem_append.1 hp with h | h <;> simp [h]) hs
  refine ⟨?_, h2⟩
  rw [List.map_append, List.map_cons] at h1
  rw [List.map_append]
  exact (ssa_mid h1).1
theorem compI_free {ops : List Oper} {o : Oper} {x : Kx} {y : I} (h : compI P n ops o x = some y) : compI P n ops o .no = some y.free := by
  unfold compI at h ⊢
  cases hd : dstOk n o.dst with
  | false => rw [hd] at h; cases h
  | true =>
    rw [hd] at h
    simp only [cond_true] at h ⊢
    split at h
    · split at h
      · cases h; rfl
      · rename_i hg
        split at h
        · split at h
          · rename_i sl _
            cases hb : Nat.blt sl n with
            | false => rw [hb] at h; cases h
            | true => rw [hb] at h; cases h; rfl
          · cases h
        · cases h
    · cases h

def Down (ops : List Oper) (listed : Array Bool) : Prop := ∀ i o, listed.getD i false = true → ops[i]? = some o → ∀ e ∈ direct o, listed.getD e false = true

theorem direct_mem {o : Oper} {e : Edge} (he : e ∈ o.after) (hb : Region.binds .any e = true) : e.on ∈ direct o := by
  unfold direct
  exact List.mem_filterMap.2 ⟨e, by simpa using he, by simp [hb]⟩

theorem mem_direct {o : Oper} {k : Nat} (h : k ∈ direct o) : ∃ e ∈ o.after, Region.binds .any e = true ∧ e.on = k := by
  unfold direct at h
  obtain ⟨e, he, hx⟩ := List.mem_filterMap.1 h
  cases hb : Region.binds .any e with
  | false => rw [hb] at hx; cases hx
  | true => rw [hb] at hx; exact ⟨e, by simpa using he, hb, by simpa using hx⟩

theorem ahead_listed {ops : List Oper} {tab : List Nat} (ht : aheadOk ops tab = true) {listed : Array Bool} (hd : Down ops listed) :
    ∀ (i : Nat) (o : Oper), ops[i]? = some o → (∀ e ∈ direct o, listed.getD e false = true) → ∀ j, (tab.getD i 0).testBit j = true → j < ops.length → listed.getD j false = true := by
  intro i
  induction i using Nat.strongRecOn with
  | _ i ih =>
    intro o ho hdir j hj hjl
    unfold aheadOk at ht
    simp only [Bool.and_eq_true, List.all_eq_true, List.mem_range] at ht
    have hi := (List.getElem?_eq_some_iff.1 ho).1
    have := ht.2 i hi j hjl
    rw [hj, ho] at this
    simp only [Bool.not_true, Bool.false_or, Bool.or_eq_true, List.contains_iff_mem, List.any_eq_true, Bool.and_eq_true] at this
    rcases this with h | ⟨e, he, h1, h2⟩
    · exact hdir j h
    · have hei : e < i := by simpa [Nat.blt, Nat.lt_iff_add_one_le] using h1
      have hel := hdir e he
      have heo : ∃ oe, ops[e]? = some oe := ⟨ops[e]'(by omega), by simp⟩
      obtain ⟨oe, hoe⟩ := heo
      exact ih e hei oe hoe (hd e oe hel hoe) j h2 hjl

theorem getD_listed {listed : Array Bool} {i j : Nat} (hi : i < listed.size) : (listed.setIfInBounds i true).getD j false = if j = i then true else listed.getD j false := by
  by_cases h : j = i
  · subst h; simp [hi]
  · rw [if_neg h]; exact getD_set_ne false (Ne.symm h)

theorem any_sound {ops : Array Oper} {tab : List Nat} (ht : aheadOk ops.toList tab = true) (hed : edgesOk ops.toList = true) {Q : Exit → Act → World → Prop} {Kc : Env → Heap → Prop} (ro : Option Nat) :
    ∀ (fuel : Nat) (L : List (Nat × I)) (listed : Array Bool) {ι : Pl} {env : Env} {H : Heap} {a : Act} {w : World},
      L.length = fuel → listed.size = ops.size → Down ops.toList listed → (∀ i, i < ops.size → (listed.getD i false = false ↔ ∃ y, (i, y) ∈ L)) → (∀ p ∈ L, ∃ o x, ops.toList[p.1]? = some o ∧ compI P n ops.toList o x = some p.2) →
      pairsAll (pairOk tab) L = true → SmOk L → (∀ p ∈ L, p.1 < ops.size) → (L.map (·.1)).Nodup → EnvR n ι w env a → Rel ι H w → wpOps P (L.map (·.2)) env H Kc →
      (∀ ι' env' H' a' w', Kc env' H' → EnvR n ι' w' env' a' → Rel ι' H' w' → Ext ι H w ι' H' w' → Q .normal a' w') →
      wpAnyIn (FW ro) 0 P .any ops Q fuel listed a w
  | fuel, L, listed, ι, env, H, a, w, hlen, hsz, hdown, hmem, hcomp, hpairs, hsm, hlt, hnd, hE, hR, hk, h => by
    have hgd : ∀ (i : Nat) (b : Bool), i < ops.size → listed.getD i b = listed.getD i false := by
      intro i b hi
      have : i < listed.size := by omega
      simp [this]
    -- one that is not listed and is least is ready
    have least : ∀ i, i < ops.size → listed.getD i false = false → ∃ k, k ∈ Region.ready .any ops listed := by
      intro i
      induction i using Nat.strongRecOn with
      | _ i ih =>
        intro hi hl
        by_cases hex : ∃ k, k < i ∧ listed.getD k false = false
        · obtain ⟨k, hk1, hk2⟩ := hex
          exact ih k hk1 (by omega) hk2
        · refine ⟨i, mem_ready.2 ⟨by rw [hgd i true hi]; exact hl, ops[i], by simp [hi], fun e he hb => ?_⟩⟩
          have hd := direct_mem he hb
          unfold edgesOk at hed
          have := List.all_eq_true.1 hed i (by simpa using hi)
          rw [show ops.toList[i]? = some ops[i] by simp [hi]] at this
          have hlt := List.all_eq_true.1 this _ hd
          have hlt' : e.on < i := by simpa [Nat.blt, Nat.lt_iff_add_one_le] using hlt
          cases hc : listed.getD e.on false with
          | true => rfl
          | false => exact absurd ⟨e.on, hlt', hc⟩ hex
    have hfirst : Region.ready .any ops listed = [] → Q .normal a w := by
      intro hr
      cases L with
      | nil => exact h ι env H a w hk hE hR (Ext.refl _ _ _)
      | cons p L =>
        have hp := hlt p (by simp)
        have := (hmem p.1 hp).2 ⟨p.2, by simp⟩
        obtain ⟨k, hk⟩ := least p.1 hp this
        rw [hr] at hk; cases hk
    cases fuel with
    | zero =>
      have hL : L = [] := List.eq_nil_of_length_eq_zero hlen
      have hr : Region.ready .any ops listed = [] := by
        apply List.eq_nil_iff_forall_not_mem.2
        intro k hk
        obtain ⟨h1, o, ho, _⟩ := mem_ready.1 hk
        have hks : k < ops.size := (Array.getElem?_eq_some_iff.1 ho).1
        rw [hgd k true hks] at h1
        obtain ⟨y, hy⟩ := (hmem k hks).1 h1
        rw [hL] at hy; cases hy
      exact ⟨hr, hfirst hr⟩
    | succ fuel =>
      refine ⟨hfirst, fun i hi => ?_⟩
      obtain ⟨h1, o, ho, hedge⟩ := mem_ready.1 hi
      have his : i < ops.size := (Array.getElem?_eq_some_iff.1 ho).1
      rw [hgd i true his] at h1
      obtain ⟨y, hy⟩ := (hmem i his).1 h1
      obtain ⟨L1, L2, rfl⟩ := List.append_of_mem hy
      have hol : ops.toList[i]? = some o := by rw [Array.getElem?_toList]; exact ho
      have hdir : ∀ e ∈ direct o, listed.getD e false = true := by
        intro k hk
        obtain ⟨e, he, hb, rfl⟩ := mem_direct hk
        exact hedge e he hb
      obtain ⟨hp1, hp2⟩ := pairsAll_mid hpairs
      have hsw : ∀ p ∈ L1, swapOk p.2 y = true := by
        intro p hp
        have hpo := hp2 p hp
        unfold pairOk at hpo
        simp only [Bool.or_eq_true] at hpo
        rcases hpo with hpo | hpo
        · exfalso
          have hps := hlt p (by simp [hp])
          have h3 := ahead_listed ht hdown i o hol hdir p.1 hpo (by simpa using hps)
          have h4 := (hmem p.1 hps).2 ⟨p.2, by simp [hp]⟩
          rw [h3] at h4; cases h4
        · exact hpo
      obtain ⟨o', x, ho', hci⟩ := hcomp (i, y) (by simp)
      simp only at ho' hci
      rw [hol] at ho'; cases ho'
      have hfront : ∃ y' x', compI P n ops.toList o x' = some y' ∧ wpOps P (y' :: (L1.map (·.2) ++ L2.map (·.2))) env H Kc := by
        have hsw' : ∀ j ∈ L1.map (·.2), swapOk j y = true := fun j hj => by
          obtain ⟨p, hp, rfl⟩ := List.mem_map.1 hj
          exact hsw p hp
        cases hys : y.x.isSm with
        | false => exact ⟨y, x, hci, wpOps_front hys hsw' (by simpa using hk)⟩
        | true =>
          obtain ⟨h6, h7⟩ := hsm (i, y) (by simp) hys
          rw [List.map_append, List.map_cons] at h6
          exact ⟨y.free, .no, compI_free hci, wpOps_frontS h7 hys (ssa_mid h6).2 hsw' (by simpa using hk)⟩
      obtain ⟨y', x', hci', hfront⟩ := hfront
      refine I.sound hE hR hci' ho hfront ?_ ro
      intro ι' env' H' a' w' hk' hE' hR' hX
      have hnd' : i ∉ L1.map (·.1) ∧ i ∉ L2.map (·.1) ∧ ((L1 ++ L2).map (·.1)).Nodup := by
        simp only [List.map_append, List.map_cons] at hnd ⊢
        have h5 := (List.nodup_append.1 hnd)
        have h6 := List.nodup_cons.1 h5.2.1
        refine ⟨fun hh => (h5.2.2 i hh i (by simp)) rfl, h6.1, List.nodup_append.2 ⟨h5.1, h6.2, fun a ha b hb => h5.2.2 a ha b (by simp [hb])⟩⟩
      refine any_sound ht hed ro fuel (L1 ++ L2) _ (by simp at hlen ⊢; omega) (by simpa using hsz) ?_ ?_ (fun p hp => hcomp p (by rcases List.mem_append.1 hp with h | h <;> simp [h])) hp1 hsm.mid
        (fun p hp => hlt p (by rcases List.mem_append.1 hp with h | h <;> simp [h])) hnd'.2.2 hE' hR' (by simpa using hk') ?_
      · intro k ok hk1 hk2 e he
        rw [getD_listed (by omega)] at hk1 ⊢
        split
        · rfl
        · split at hk1
          · rename_i hki
            subst hki
            rw [hol] at hk2; cases hk2
            exact hdir e he
          · exact hdown k ok hk1 hk2 e he
      · intro k hk1
        rw [getD_listed (by omega)]
        by_cases hki : k = i
        · subst hki
          simp only [if_true]
          constructor
          · intro h; cases h
          · rintro ⟨y', hy'⟩
            rcases List.mem_append.1 hy' with h | h
            · exact absurd (List.mem_map.2 ⟨_, h, rfl⟩) hnd'.1
            · exact absurd (List.mem_map.2 ⟨_, h, rfl⟩) hnd'.2.1
        · rw [if_neg hki, hmem k hk1]
          constructor
          · rintro ⟨y', hy'⟩
            rcases List.mem_append.1 hy' with h | h
            · exact ⟨y', by simp [h]⟩
            · rcases List.mem_cons.1 h with h | h
              · cases h; exact absurd rfl hki
              · exact ⟨y', by simp [h]⟩
          · rintro ⟨y', hy'⟩
            rcases List.mem_append.1 hy' with h | h
            · exact ⟨y', by simp [h]⟩
            · exact ⟨y', by simp [h]⟩
      · intro ι2 env2 H2 a2 w2 hk2 hE2 hR2 hX2
        exact h ι2 env2 H2 a2 w2 hk2 hE2 hR2 (hX.trans hX2)

theorem nodup_of_pairs : ∀ {l : List Nat}, pairsAll (fun a b => !(Nat.beq a b)) l = true → l.Nodup
  | [], _ => List.nodup_nil
  | a :: l, h => by
    simp only [pairsAll, Bool.and_eq_true, List.all_eq_true] at h
    refine List.nodup_cons.2 ⟨fun ha => ?_, nodup_of_pairs h.2⟩
    have := h.1 a ha
    simp at this

theorem nodup_of_perm {m : Nat} {l : List Nat} (h : perm m l = true) : l.Nodup ∧ (∀ i, i < m ↔ i ∈ l) ∧ l.length = m := by
  unfold perm at h
  simp only [Bool.and_eq_true, List.all_eq_true, List.mem_range, List.contains_iff_mem] at h
  obtain ⟨⟨⟨h1, h2⟩, h3⟩, h4⟩ := h
  exact ⟨nodup_of_pairs h4, fun i => ⟨h2 i, fun hi => by simpa [Nat.blt, Nat.lt_iff_add_one_le] using h3 i hi⟩, Nat.eq_of_beq_eq_true h1⟩

theorem drawW_sound {id : Nat} {ops : Array Oper} {is : List I} {order : List Nat} (hm : P.follows .mixedOrders = true) (hc : compDrawW P n ops.toList order = some is) {Q : Ex → Env → Heap → Prop} (hk : wpOps P is env H (Q .normal)) (hE : EnvR n ι w env a) (hR : Rel ι H w) (ro : Option Nat) :
    (Code.region id ops true).wpIn (FW ro) 0 P (PostR n ι H w Q) a w := by
  unfold compDrawW at hc
  simp only at hc
  split at hc
  · split at hc
    · rename_i js hjs
      cases hb : (aheadOk ops.toList (ahead ops.toList) && edgesOk ops.toList && perm ops.toList.length (js.map (·.1)) && pairsAll (pairOk (ahead ops.toList)) js && ((ssa (js.map (·.2)) && js.all fun p => !p.2.x.isSm || p.2.o.isE) || js.all fun p => !p.2.x.isSm)) with
      | false => rw [hb] at hc; cases hc
      | true =>
        rw [hb] at hc
        cases hc
        simp only [Bool.and_eq_true] at hb
        obtain ⟨⟨⟨⟨h1, h2⟩, h3⟩, h4⟩, h5⟩ := hb
        have hsm : SmOk js := by
          intro p hp hs
          simp only [Bool.or_eq_true, Bool.and_eq_true, List.all_eq_true, Bool.not_eq_true'] at h5
          rcases h5 with ⟨h5, h6⟩ | h5
          · rcases h6 p hp with h7 | h7
            · rw [hs] at h7; cases h7
            · exact ⟨h5, h7⟩
          · have := h5 p hp; rw [hs] at this; cases this
        obtain ⟨hn1, hn2, hn3⟩ := nodup_of_perm h3
        have hlen : js.length = ops.size := by simpa using hn3
        have hE1 : EnvR n ι { w with drawn := w.drawn + 1 } env a := hE.mono (fun _ _ h => h) Shp.drawn
        have hR1 : Rel ι H { w with drawn := w.drawn + 1 } := ⟨fun i o hi => by obtain ⟨b, off, g1, g2⟩ := hR.obj i o hi; exact ⟨b, off, g1, g2.keep (fun _ _ h => h) Shp.drawn rfl⟩, hR.inj, hR.fin, hR.zero, hR.glob⟩
        have hX1 : Ext ι H w ι H { w with drawn := w.drawn + 1 } := { Ext.refl ι H w with os := rfl, tape := ⟨rfl, Nat.le_succ _⟩, output := rfl, size := Nat.le_refl _, shp := Shp.drawn, frame := fun _ _ _ => rfl }
        refine wpIn_region_any hm ?_
        refine any_sound (n := n) h1 h2 ro ops.size js _ hlen (by simp) ?_ ?_ (compAll_spec hjs) h4 hsm ?_ hn1 hE1 hR1 hk ?_
        · intro i o hi
          exfalso
          by_cases hi' : i < ops.size
          · simp [hi'] at hi
          · simp [hi'] at hi
        · intro i hi
          constructor
          · intro _
            have := (hn2 i).1 (by simpa using hi)
            obtain ⟨p, hp, rfl⟩ := List.mem_map.1 this
            exact ⟨p.2, hp⟩
          · intro _; simp [hi]
        · intro p hp
          have := (hn2 p.1).2 (List.mem_map.2 ⟨p, hp, rfl⟩)
          simpa using this
        · intro ι' env' H' a' w' hk' hE' hR' hX
          exact ⟨.normal, ι', env', H', trivial, hE', hR', hX1.trans hX, hk'⟩
    · cases hc
  · cases hc
theorem draw_sound {id : Nat} {ops : Array Oper} {is : List I} (hm : P.follows .mixedOrders = true) (hc : compDraw P n ops.toList = some is) {Q : Ex → Env → Heap → Prop} (hk : wpOps P is env H (Q .normal)) (hE : EnvR n ι w env a) (hR : Rel ι H w) (ro : Option Nat) :
    (Code.region id ops true).wpIn (FW ro) 0 P (PostR n ι H w Q) a w := by
  unfold compDraw at hc
  split at hc
  · rename_i l hl
    cases hc
    exact drawW_sound hm hl hk hE hR ro
  · exact drawW_sound hm hc hk hE hR ro

end
end Go.CM

namespace Go.CM

section
variable {P : Program} {n : Nat}

theorem PostR.trans {ι ι1 : Pl} {H H1 : Heap} {w w1 : World} (hX : Ext ι H w ι1 H1 w1) {Q : Ex → Env → Heap → Prop} {e : Exit} {a : Act} {w' : World} (h : PostR n ι1 H1 w1 Q e a w') : PostR n ι H w Q e a w' := by
  obtain ⟨x, ι', env', H', h1, h2, h3, h4, h5⟩ := h
  exact ⟨x, ι', env', H', h1, h2, h3, hX.trans h4, h5⟩

theorem PostR.wkl {ι : Pl} {H H' : Heap} {w : World} (h : HWk H H') {Q : Ex → Env → Heap → Prop} {e : Exit} {a : Act} {w' : World} (k : PostR n ι H' w Q e a w') : PostR n ι H w Q e a w' := by
  obtain ⟨x, ι', env', H2, h1, h2, h3, h4, h5⟩ := k
  exact ⟨x, ι', env', H2, h1, h2, h3, h4.wkl h, h5⟩

theorem EnvR.wk {ι : Pl} {w : World} {env env' : Env} {a : Act} (h : EnvR n ι w env a) (hw : ∀ t, Wk (env t) (env' t)) : EnvR n ι w env' a :=
  { h with vals := fun t ht => hw t _ _ _ (h.vals t ht) }

theorem Wkn.run {env : Env} {H : Heap} {K : Env → Heap → Prop} (h : Wkn env H K) : ∀ {ι : Pl} {w : World} {a : Act}, EnvR n ι w env a → Rel ι H w → ∃ ι' env' H', EnvR n ι' w env' a ∧ Rel ι' H' w ∧ Ext ι H w ι' H' w ∧ K env' H' := by
  induction h with
  | here h => intro ι w a hE hR; exact ⟨ι, _, _, hE, hR, Ext.refl _ _ _, h⟩
  | weak we wh _ ih =>
    intro ι w a hE hR
    obtain ⟨ι', env', H', g1, g2, g3, g4⟩ := ih (hE.wk we) (wh.rel hR)
    exact ⟨ι', env', H', g1, g2, g3.wkl wh, g4⟩
  | @base env H K s id off len e cs hs hH ho _ ih =>
    intro ι w a hE hR
    obtain ⟨id', h00, hid', hι'⟩ := hR.fresh
    obtain ⟨b, o, hι, c, et, f, hb, hcs, hfr, hfit⟩ := hR.obj _ _ hH
    have hle := Pl.le_add (ι := ι) (id := id') (b, o + off) hι'
    have hnew : ObjR (ι.add id' (b, o + off)) w b (o + off) (.cells true (cs.drop off)) := by
      refine ⟨c, et, f, hb, fun k v hk => ?_, hfr, by rw [List.length_drop]; omega⟩
      rw [List.getElem?_drop] at hk
      obtain ⟨u, g1, g2, g3⟩ := hcs _ _ hk
      exact ⟨u, by rw [Nat.add_assoc]; exact g1, g2.mono hle (Shp.refl w), g3⟩
    obtain ⟨k1, k2⟩ := hR.takeover (o' := .cells true (cs.drop off)) (off' := o + off) h00 hH rfl hι hid' hι' (Shp.refl w) (fun _ _ => rfl) rfl (Tape.refl _) rfl rfl hnew rfl
    have hE' : EnvR n (ι.add id' (b, o + off)) w (env.put (some s) (.slice id' 0 len e)) a := by
      refine ⟨hE.size, hE.defers, fun g => hle _ _ (hE.gl g), fun t ht => ?_⟩
      by_cases hts : t = s
      · subst hts
        have hv := hE.vals t ht
        rw [hs] at hv
        have : (env.put (some t) (.slice id' 0 len e)) t = .slice id' 0 len e := by simp [Env.put]
        rw [this]
        generalize a.tmps.getD t Go.undef = u at hv
        cases hv with
        | slice _ _ _ _ ad cap hl h =>
          refine .slice _ _ _ _ _ _ hl fun hc => ?_
          obtain ⟨b', o', c', e', f', g1, g2, g3, g4⟩ := h hc
          rw [hι] at g1; cases g1
          exact ⟨b, o + off, c', e', f', Pl.add_same _ _ _, g2, g3, g4⟩
        | slice0 => rw [hR.zero] at hι; cases hι
      · have : (env.put (some s) (.slice id' 0 len e)) t = env t := by simp [Env.put, show Nat.beq t s = false from Bool.eq_false_iff.2 fun h => hts (Nat.eq_of_beq_eq_true h)]
        rw [this]
        exact (hE.vals t ht).mono hle (Shp.refl w)
    obtain ⟨ι', env', H', g1, g2, g3, g4⟩ := ih id' h00 hid' hE' k1
    exact ⟨ι', env', H', g1, g2, k2.trans g3, g4⟩
  | @nilx env H K s off e hs _ _ ih1 ih2 =>
    intro ι w a hE hR
    have mk : ∀ v, (s < n → VR ι w v (a.tmps.getD s Go.undef)) → EnvR n ι w (env.put (some s) v) a := fun v hv => ⟨hE.size, hE.defers, hE.gl, fun t ht => by
      by_cases hts : t = s
      · subst hts
        have : (env.put (some t) v) t = v := by simp [Env.put]
        rw [this]; exact hv ht
      · have : (env.put (some s) v) t = env t := by simp [Env.put, show Nat.beq t s = false from Bool.eq_false_iff.2 fun h => hts (Nat.eq_of_beq_eq_true h)]
        rw [this]; exact hE.vals t ht⟩
    by_cases hsn : s < n
    · have hv := hE.vals s hsn
      rw [hs] at hv
      have cas : VR ι w .nils (a.tmps.getD s Go.undef) ∨ VR ι w (.slice 1 off 0 e) (a.tmps.getD s Go.undef) := by
        generalize a.tmps.getD s Go.undef = u at hv
        cases hv with
        | slice0 => exact .inl .nils
        | slice _ _ _ _ ad cap hl h =>
          refine .inr (.slice _ _ _ _ _ _ hl fun hc => ?_)
          obtain ⟨b, o, _, _, _, h1, _⟩ := h hc
          rw [hR.zero] at h1; cases h1
      rcases cas with h | h
      · exact ih1 (mk _ fun _ => h) hR
      · exact ih2 (mk _ fun _ => h) hR
    · exact ih1 (mk _ fun h => absurd h hsn) hR
  | @capx env H K s id off len e hs _ ih =>
    intro ι w a hE hR
    have hcap : ∃ cap, len ≤ cap ∧ EnvR n ι w (env.put (some s) (.sliceC id off len cap e)) a := by
      by_cases hsn : s < n
      · have hv := hE.vals s hsn
        rw [hs] at hv
        have mk : ∀ cap, len ≤ cap → VR ι w (.sliceC id off len cap e) (a.tmps.getD s Go.undef) → ∃ cap, len ≤ cap ∧ EnvR n ι w (env.put (some s) (.sliceC id off len cap e)) a := fun cap hc hv => ⟨cap, hc, hE.size, hE.defers, hE.gl, fun t ht => by
          by_cases hts : t = s
          · subst hts
            have : (env.put (some t) (.sliceC id off len cap e)) t = .sliceC id off len cap e := by simp [Env.put]
            rw [this]; exact hv
          · have : (env.put (some s) (.sliceC id off len cap e)) t = env t := by simp [Env.put, show Nat.beq t s = false from Bool.eq_false_iff.2 fun h => hts (Nat.eq_of_beq_eq_true h)]
            rw [this]; exact hE.vals t ht⟩
        generalize hu : a.tmps.getD s Go.undef = u at *
        cases hv with
        | slice0 => exact mk 0 (Nat.le_refl _) (.sliceC0 _ _)
        | slice _ _ _ _ ad cap hl h => exact mk cap hl (.sliceC _ _ _ _ _ _ hl h)
      · refine ⟨len, Nat.le_refl _, hE.size, hE.defers, hE.gl, fun t ht => ?_⟩
        have hts : t ≠ s := by omega
        have : (env.put (some s) (.sliceC id off len len e)) t = env t := by simp [Env.put, show Nat.beq t s = false from Bool.eq_false_iff.2 fun h => hts (Nat.eq_of_beq_eq_true h)]
        rw [this]; exact hE.vals t ht
    obtain ⟨cap, hc, hE'⟩ := hcap
    exact ih cap hc hE' hR

def LoopAt (P : Program) (n : Nat) (ro : Option Nat) (c : Code) (Q : Ex → Env → Heap → Prop) (env : Env) (H : Heap) : Prop :=
  ∀ (ι : Pl) (w : World) (a : Act), EnvR n ι w env a → Rel ι H w → ∀ (b : Frame) (k : List Item) (cs : List Frame), b.roundOf = (FW ro).round → (FW ro).fn b.fn → (FW ro).room (cs.length + 1 + 0) →
    ∃ e a' w', PostR n ι H w Q e a' w' ∧ ArrivesIn (Machine.fenced P (FW ro)) P (lone (b.atR a (.code c :: .inLoop c :: k)) cs w) b k cs e a' w'

theorem dead_no {ι : Pl} {env : Env} {H : Heap} {w : World} {a : Act} {Q : Ex → Env → Heap → Prop} (h : deadC.wp P Q env H) (hE : EnvR n ι w env a) (hR : Rel ι H w) : False := by
  obtain ⟨_, _, _, _, _, _, hf⟩ := Wkn.run h hE hR
  exact hf
theorem C.sound (hm : P.follows .mixedOrders = true) (ro : Option Nat) : ∀ (c : Code) (cc : C), comp P n c = some cc → ∀ (Q : Ex → Env → Heap → Prop) (env : Env) (H : Heap), cc.wp P Q env H →
    ∀ (ι : Pl) (w : World) (a : Act), EnvR n ι w env a → Rel ι H w → c.wpIn (FW ro) 0 P (PostR n ι H w Q) a w := by
  intro c
  induction c with
  | skip =>
    intro cc hc Q env H hk ι w a hE hR
    simp only [comp] at hc; cases hc
    obtain ⟨ι, env', H', hE, hR, hX, hk⟩ := Wkn.run hk hE hR
    exact wpIn_skip (PostR.trans hX ⟨.normal, ι, env', H', trivial, hE, hR, Ext.refl _ _ _, hk⟩)
  | region id ops draw =>
    intro cc hc Q env H hk ι w a hE hR
    cases draw with
    | false =>
      simp only [comp] at hc
      split at hc <;> cases hc
      rotate_left
      · exact (dead_no hk hE hR).elim
      rename_i is h1
      obtain ⟨ι, env', H', hE, hR, hX, hk⟩ := Wkn.run hk hE hR
      exact wpIn_mono (region_sound h1 hk hE hR ro) fun _ _ _ => PostR.trans hX
    | true =>
      simp only [comp] at hc
      split at hc <;> cases hc
      rotate_left
      · exact (dead_no hk hE hR).elim
      rename_i is h1
      obtain ⟨ι, env', H', hE, hR, hX, hk⟩ := Wkn.run hk hE hR
      exact wpIn_mono (draw_sound hm h1 hk hE hR ro) fun _ _ _ => PostR.trans hX
  | seq x y ihx ihy =>
    intro cc hc Q env H hk ι w a hE hR
    simp only [comp] at hc
    split at hc
    · rename_i cx cy h1 h2
      cases hc
      obtain ⟨ι, env1, H1, hE, hR, hX, hk⟩ := Wkn.run hk hE hR
      refine wpIn_mono (?_ : (Code.seq x y).wpIn (FW ro) 0 P (PostR n ι H1 w Q) a w) fun _ _ _ => PostR.trans hX
      refine wpIn_seq (wpIn_mono (ihx cx h1 _ env1 H1 hk ι w a hE hR) ?_)
      rintro e a' w' ⟨x, ι', env', H', g1, g2, g3, g4, g5⟩
      cases x <;> cases e <;> simp only [exitR] at g1
      · exact wpIn_mono (ihy cy h2 Q env' H' g5 ι' w' a' g2 g3) fun e a w h => h.trans g4
      · subst g1; exact ⟨.exit _, ι', env', H', rfl, g2, g3, g4, g5⟩
      · exact ⟨.ret, ι', env', H', trivial, g2, g3, g4, g5⟩
    · cases hc
  | cond x y z ihy ihz =>
    intro cc hc Q env H hk ι w a hE hR
    simp only [comp] at hc
    split at hc
    · rename_i x' cy cz h1 h2 h3
      cases hc
      obtain ⟨ι, env1, H1, hE, hR, hX, hk⟩ := Wkn.run hk hE hR
      refine wpIn_mono (?_ : (Code.cond x y z).wpIn (FW ro) 0 P (PostR n ι H1 w Q) a w) fun _ _ _ => PostR.trans hX
      have hv := X.sound hE h1
      replace hk : bcond (x'.ev env1) (cy.wp P Q env1 H1) (cz.wp P Q env1 H1) := hk
      generalize x'.ev env1 = p at *
      generalize hu : a.eval x = u at *
      unfold bcond at hk
      split at hk
      · cases hv; exact wpIn_cond_true hu (ihy cy h2 Q env1 H1 hk ι w a hE hR)
      · cases hv; exact wpIn_cond_false hu (ihz cz h3 Q env1 H1 hk ι w a hE hR)
      · exact hk.elim
    · cases hc
  | block id x ih =>
    intro cc hc Q env H hk ι w a hE hR
    simp only [comp] at hc
    split at hc
    · rename_i cx h1
      cases hc
      obtain ⟨ι, env1, H1, hE, hR, hX, hk⟩ := Wkn.run hk hE hR
      refine wpIn_mono (?_ : (Code.block id x).wpIn (FW ro) 0 P (PostR n ι H1 w Q) a w) fun _ _ _ => PostR.trans hX
      refine wpIn_block (wpIn_mono (ih cx h1 _ env1 H1 hk ι w a hE hR) ?_)
      rintro e a' w' ⟨x, ι', env', H', g1, g2, g3, g4, g5⟩
      cases x <;> cases e <;> simp only [exitR] at g1
      · exact ⟨.normal, ι', env', H', trivial, g2, g3, g4, g5⟩
      · subst g1
        simp only at g5
        rename_i j
        simp only [Exit.inBlock]
        by_cases hj : j = id
        · subst hj
          rw [if_pos rfl]
          have : Nat.beq j j = true := Nat.beq_refl j
          rw [this] at g5
          exact ⟨.normal, ι', env', H', trivial, g2, g3, g4, g5⟩
        · have : Nat.beq j id = false := Bool.eq_false_iff.2 fun e => hj (Nat.eq_of_beq_eq_true e)
          rw [this] at g5
          rw [if_neg hj]
          exact ⟨.exit j, ι', env', H', rfl, g2, g3, g4, g5⟩
      · exact ⟨.ret, ι', env', H', trivial, g2, g3, g4, g5⟩
    · cases hc
  | loop x ih =>
    intro cc hc Q env H hk ι w a hE hR
    simp only [comp] at hc
    split at hc
    · rename_i cx h1
      cases hc
      obtain ⟨ι, env1, H1, hE, hR, hX, hk⟩ := Wkn.run hk hE hR
      refine wpIn_mono (?_ : (Code.loop x).wpIn (FW ro) 0 P (PostR n ι H1 w Q) a w) fun _ _ _ => PostR.trans hX
      have hloop : LoopAt P n ro x Q env1 H1 := by
        refine hk (LoopAt P n ro x Q) ?_
        intro env H hbody ι w a hE hR b k cs hro hb hr
        obtain ⟨e, a1, w1, ⟨xx, ι', env', H', g1, g2, g3, g4, g5⟩, harr⟩ := ih cx h1 _ env H hbody ι w a hE hR b (.inLoop x :: k) cs hro hb hr
        cases xx <;> cases e <;> simp only [exitR] at g1
        · obtain ⟨ι2, env2, H2, g2, g3, hX2, g5⟩ := Wkn.run g5 g2 g3
          obtain ⟨e2, a2, w2, hq2, harr2⟩ := g5 ι2 w1 a1 g2 g3 b k cs hro hb hr
          exact ⟨e2, a2, w2, (PostR.trans hX2 hq2).trans g4, .of_steps (StepsIn.trans harr (.one (fenced_calm hb hr rfl) stepR_inLoop)) harr2⟩
        · subst g1
          exact ⟨.exit _, a1, w1, ⟨.exit _, ι', env', H', rfl, g2, g3, g4, g5⟩, .pass (x := .inLoop x) rfl (fun _ _ => .inl (by simp)) harr⟩
        · exact ⟨.ret, a1, w1, ⟨.ret, ι', env', H', trivial, g2, g3, g4, g5⟩, .pass (x := .inLoop x) rfl (fun _ _ => .inl (by simp)) harr⟩
      intro b k cs hro hb hr
      obtain ⟨e, a', w', hq, harr⟩ := hloop ι w a hE hR b k cs hro hb hr
      exact ⟨e, a', w', hq, .of_steps (.one (fenced_calm hb hr rfl) stepR_loop) harr⟩
    · cases hc
  | exit id =>
    intro cc hc Q env H hk ι w a hE hR
    simp only [comp] at hc; cases hc
    obtain ⟨ι, env', H', hE, hR, hX, hk⟩ := Wkn.run hk hE hR
    exact wpIn_exit (PostR.trans hX ⟨.exit id, ι, env', H', rfl, hE, hR, Ext.refl _ _ _, hk⟩)
  | ret =>
    intro cc hc Q env H hk ι w a hE hR
    simp only [comp] at hc; cases hc
    obtain ⟨ι, env', H', hE, hR, hX, hk⟩ := Wkn.run hk hE hR
    exact wpIn_ret (PostR.trans hX ⟨.ret, ι, env', H', trivial, hE, hR, Ext.refl _ _ _, hk⟩)
  | rangeFunc f ps x y _ _ => intro cc hc Q env H hk ι w a hE hR; simp only [comp] at hc; cases hc; exact (dead_no hk hE hR).elim
  | scope x _ => intro cc hc Q env H hk ι w a hE hR; simp only [comp] at hc; cases hc; exact (dead_no hk hE hR).elim
  | label l => intro cc hc Q env H hk ι w a hE hR; simp only [comp] at hc; cases hc; exact (dead_no hk hE hR).elim
  | goto l => intro cc hc Q env H hk ι w a hE hR; simp only [comp] at hc; cases hc; exact (dead_no hk hE hR).elim
  | refuse s => intro cc hc Q env H hk ι w a hE hR; simp only [comp] at hc; cases hc; exact (dead_no hk hE hR).elim

def resM (tmps : Array Value) (r : ResultVar) : Sem Value :=
  match r with
  | .tmp t => pure (tmps.getD t Go.undef)
  | .cell x t => do loadVar t (← asAddr (tmps.getD x Go.undef))

theorem results_eq (fn : Func) (tmps : Array Value) : results fn tmps = (do
    let vs ← fn.results.mapM (resM tmps)
    pure (if h : vs.size = 1 then vs[0] else .tuple vs)) := rfl

theorem res_run {ι : Pl} {H : Heap} {w : World} {env : Env} {a : Act} (hE : EnvR n ι w env a) (hR : Rel ι H w) : ∀ {rs : List ResultVar} {cs : List Res} {vs : List V}, rs.mapM (compRes P n) = some cs → cs.mapM (Res.ev env H) = some vs →
    ∃ us : List Value, (rs.mapM (resM a.tmps)).run P w = .ok us w ∧ VRs ι w vs us
  | [], cs, vs, h1, h2 => by
    simp at h1; subst h1
    simp at h2; subst h2
    exact ⟨[], by simp, .nil⟩
  | r :: rs, cs, vs, h1, h2 => by
    rw [List.mapM_cons] at h1
    cases hr : compRes P n r with
    | none => simp [hr] at h1
    | some c =>
      cases hrs : rs.mapM (compRes P n) with
      | none => simp [hr, hrs] at h1
      | some cs' =>
        simp [hr, hrs] at h1
        subst h1
        rw [List.mapM_cons] at h2
        cases hv : c.ev env H with
        | none => simp [hv] at h2
        | some v =>
          cases hvs : cs'.mapM (Res.ev env H) with
          | none => simp [hv, hvs] at h2
          | some vs' =>
            simp [hv, hvs] at h2
            subst h2
            obtain ⟨us, g1, g2⟩ := res_run hE hR hrs hvs
            have key : ∃ u, (resM a.tmps r).run P w = .ok u w ∧ VR ι w v u := by
              cases r with
              | tmp t =>
                simp only [compRes] at hr
                cases hb : Nat.blt t n with
                | false => rw [hb] at hr; cases hr
                | true =>
                  rw [hb] at hr; cases hr
                  simp only [Res.ev] at hv; cases hv
                  exact ⟨_, rfl, hE.vals t (by simpa [Nat.blt, Nat.lt_iff_add_one_le] using hb)⟩
              | cell x t =>
                simp only [compRes] at hr
                cases hb : Nat.blt x n with
                | false => rw [hb] at hr; cases hr
                | true =>
                  rw [hb] at hr
                  have hx : compX n (.tmp x) = some (.t x) := by simp [compX, hb]
                  simp only [cond_true] at hr
                  have conv : ∀ {u : Value}, (Instr.loadAt t (a.eval (.tmp x))).run P w = .ok u w → ((do loadVar t (← asAddr (a.tmps.getD x Go.undef))) : Sem Value).run P w = .ok u w := by
                    intro u hu
                    have e : a.eval (.tmp x) = a.tmps.getD x Go.undef := rfl
                    rw [e] at hu
                    generalize a.tmps.getD x Go.undef = z at hu ⊢
                    cases z <;> simp only [Instr.loadAt, Instr.sureAddr, Sem.run_bind, run_stuck, Result.andThen_halt] at hu <;> first | (cases hu; done) | skip
                    rename_i ad
                    cases ad with
                    | none => simp at hu
                    | some ad => simpa [asAddr] using hu
                  split at hr <;> cases hr
                  · rename_i ha hs
                    obtain ⟨u, k1, k2⟩ := rd_loadn hE hR ha hs hx hv
                    exact ⟨u, conv k1, k2⟩
                  · rename_i ha hs
                    obtain ⟨u, k1, k2⟩ := rd_load1 hE hR ha hx hv
                    exact ⟨u, conv k1, k2⟩
            obtain ⟨u, k1, k2⟩ := key
            refine ⟨u :: us, ?_, .cons _ _ _ _ k2 g2⟩
            rw [List.mapM_cons]
            simp only [Sem.run_bind]
            rw [k1]
            simp only [Result.andThen_ok]
            rw [g1]
            simp

theorem ret_rel {ι : Pl} {w : World} {vs : List V} {us : List Value} (h : VRs ι w vs us) : VR ι w (retV vs) (if h : (⟨us⟩ : Array Value).size = 1 then (⟨us⟩ : Array Value)[0] else .tuple ⟨us⟩) := by
  cases h with
  | nil => simpa [retV] using VR.tup [] [] .nil
  | cons v u vs us hv ht =>
    cases ht with
    | nil => simpa [retV] using hv
    | cons v' u' vs us hv' ht => simpa [retV] using VR.tup _ _ (.cons _ _ _ _ hv (.cons _ _ _ _ hv' ht))

theorem F.sound (hm : P.follows .mixedOrders = true) {f : FuncId} {fn : Func} (hf : P.funcs[f]? = some fn) {cf : F} (hc : compF P fn = some cf) {args : List V} (hlen : args.length ≤ cf.n) {H : Heap} {Q : V → Heap → Prop} (hk : cf.wp P args H Q) :
    CallsC P f args H Q := by
  unfold compF at hc
  split at hc
  · rename_i c hb
    split at hc
    · rename_i cb rs h1 h2
      cases hname : fn.name == "runtime.NumGoroutine" with
      | true => rw [hname] at hc; cases hc
      | false =>
        rw [hname] at hc
        cases hc
        refine ⟨⟨fn, hf, hname, by rw [hb]; rfl⟩, fun ι w us hR hv => ?_⟩
        have hl := hv.length
        have hE : EnvR fn.ntmps ι w (env0 args) { tmps := ⟨us⟩ ++ Array.replicate (fn.ntmps - (⟨us⟩ : Array Value).size) Go.undef, defers := [] } := by
          simp only at hlen
          refine ⟨by simp; omega, rfl, hR.glob, fun t ht => ?_⟩
          simp only [env0]
          by_cases hta : t < args.length
          · obtain ⟨u, g1, g2⟩ := hv.get (i := t) (v := args[t]) (by simp [hta])
            have : ((⟨us⟩ : Array Value) ++ Array.replicate (fn.ntmps - (⟨us⟩ : Array Value).size) Go.undef).getD t Go.undef = u := by
              rw [Array.getD_eq_getD_getElem?, Array.getElem?_append_left (by simp; omega)]
              rw [← Array.getElem?_toList, g1]; rfl
            rw [this]
            simpa [hta] using g2
          · have : ((⟨us⟩ : Array Value) ++ Array.replicate (fn.ntmps - (⟨us⟩ : Array Value).size) Go.undef).getD t Go.undef = Go.undef := by
              rw [Array.getD_eq_getD_getElem?, Array.getElem?_append_right (by simp; omega), Array.getElem?_replicate]
              split <;> rfl
            rw [this, List.getElem?_eq_none (by omega)]
            exact VR.undef _ _
        refine calls_of_wp hf hb (wp_mono (wpIn_wide.1 (C.sound hm none c cb h1 _ _ _ hk ι w _ hE hR)) ?_)
        rintro e a' w' ⟨x, ι', env', H', g1, g2, g3, g4, hx, vs, g5, g6⟩
        obtain ⟨us', k1, k2⟩ := res_run (P := P) g2 g3 h2 g5
        have hres : (results fn a'.tmps).run P w' = .ok (if h : (⟨us'⟩ : Array Value).size = 1 then (⟨us'⟩ : Array Value)[0] else .tuple ⟨us'⟩) w' := by
          rw [results_eq, Array.mapM_eq_mapM_toList]
          simp only [Sem.run_bind, Sem.run_map]
          rw [k1]
          simp
        have fin : a'.defers = [] ∧ ∃ v, (results fn a'.tmps).run P w' = .ok v w' ∧ ∃ (ι' : Pl) (H' : Heap) (v_1 : V) (u : Value), Ending.returned v = .returned u ∧ VR ι' w' v_1 u ∧ Rel ι' H' w' ∧ Ext ι H w ι' H' w' ∧ Q v_1 H' :=
          ⟨g2.defers, _, hres, ι', H', retV vs, _, rfl, ret_rel k2, g3, g4, g6⟩
        rcases hx with rfl | rfl
        · cases e <;> simp only [exitR] at g1
          exact fin
        · cases e <;> simp only [exitR] at g1
          exact fin
    · cases hc
  · cases hc

end
end Go.CM
