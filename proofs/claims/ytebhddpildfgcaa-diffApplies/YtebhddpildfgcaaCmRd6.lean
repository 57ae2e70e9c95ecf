/-
  A program logic over the model's calls, part 10: the rest of what only reads, and all of it together.
-/
import Derived.Test.YtebhddpildfgcaaCmRd5
namespace Go.CM

section
variable {P : Program} {n : Nat} {ι : Pl} {H : Heap} {w : World} {env : Env} {a : Act}

theorem optX_none {x : Option Operand} (h : optX n x = some none) : x = none := by
  cases x with
  | none => rfl
  | some x => simp only [optX] at h; split at h <;> cases h

theorem optX_some {x : Option Operand} {y : X} (h : optX n x = some (some y)) : ∃ x', x = some x' ∧ compX n x' = some y := by
  cases x with
  | none => cases h
  | some x => simp only [optX] at h; split at h <;> cases h; exact ⟨x, rfl, by assumption⟩

/-- A bound of a slice expression. -/
theorem bound_some (hE : EnvR n ι w env a) {x : Operand} {x' : X} (hx : compX n x = some x') {d y k : Nat} (hb : boundV (some (x'.ev env)) d y = some k) {code : BoundsCode} :
    k ≤ y ∧ ∀ z, y ≤ z → (Instr.sliceBound (a.eval x) z code).run P w = .ok k w := by
  have h1 := X.sound hE hx
  generalize x'.ev env = p at *
  generalize a.eval x = u at *
  unfold boundV at hb
  split at hb
  · rename_i he; cases he
  · rename_i kk i he
    cases he
    split at hb
    · rename_i h
      cases hb
      cases h1
      refine ⟨by omega, fun z hz => run_sliceBound w _ _ _ _ h.1 (by omega)⟩
    · cases hb
  · cases hb

/-- Both bounds. -/
theorem bounds_run (hE : EnvR n ι w env a) {sl : Bool} {lo hi : Option Operand} {lo' hi' : Option X} (hl : optX n lo = some lo') (hh : optX n hi = some hi') {len cap h l : Nat} (hc : len ≤ cap)
    (h1 : boundV (hi'.map (X.ev env)) len len = some h) (h2 : boundV (lo'.map (X.ev env)) 0 h = some l) :
    l ≤ h ∧ h ≤ len ∧ (Instr.sliceBounds sl len cap (lo.map a.eval) (hi.map a.eval) none).run P w = .ok (l, h, cap) w := by
  have hh' : h ≤ len ∧ ((hi = none ∧ h = len) ∨ ∃ y, hi = some y ∧ ∀ code, (Instr.sliceBound (a.eval y) cap code).run P w = .ok h w) := by
    cases hi' with
    | none => simp only [Option.map_none, boundV] at h1; cases h1; exact ⟨Nat.le_refl _, .inl ⟨optX_none hh, rfl⟩⟩
    | some y =>
      obtain ⟨x', rfl, hx⟩ := optX_some hh
      simp only [Option.map_some] at h1
      exact ⟨(bound_some (P := P) (code := .index) hE hx h1).1, .inr ⟨x', rfl, fun code => (bound_some (P := P) (code := code) hE hx h1).2 cap hc⟩⟩
  have hl' : l ≤ h ∧ ((lo = none ∧ l = 0) ∨ ∃ y, lo = some y ∧ ∀ code, (Instr.sliceBound (a.eval y) h code).run P w = .ok l w) := by
    cases lo' with
    | none => simp only [Option.map_none, boundV] at h2; cases h2; exact ⟨Nat.zero_le _, .inl ⟨optX_none hl, rfl⟩⟩
    | some y =>
      obtain ⟨x', rfl, hx⟩ := optX_some hl
      simp only [Option.map_some] at h2
      exact ⟨(bound_some (P := P) (code := .index) hE hx h2).1, .inr ⟨x', rfl, fun code => (bound_some (P := P) (code := code) hE hx h2).2 h (Nat.le_refl _)⟩⟩
  refine ⟨hl'.1, hh'.1, ?_⟩
  rcases hh'.2 with ⟨rfl, rfl⟩ | ⟨y, rfl, e1⟩ <;> rcases hl'.2 with ⟨rfl, rfl⟩ | ⟨z, rfl, e2⟩ <;>
    simp only [Instr.sliceBounds, Option.map_none, Option.map_some, Sem.run_bind, Sem.run_pure, Result.andThen_ok, *]

/-- .. where the capacity is known. -/
theorem bounds_runC (hE : EnvR n ι w env a) {sl : Bool} {lo hi : Option Operand} {lo' hi' : Option X} (hl : optX n lo = some lo') (hh : optX n hi = some hi') {len cap h l : Nat} (hc : len ≤ cap)
    (h1 : boundV (hi'.map (X.ev env)) len cap = some h) (h2 : boundV (lo'.map (X.ev env)) 0 h = some l) :
    l ≤ h ∧ h ≤ cap ∧ (Instr.sliceBounds sl len cap (lo.map a.eval) (hi.map a.eval) none).run P w = .ok (l, h, cap) w := by
  have hh' : h ≤ cap ∧ ((hi = none ∧ h = len) ∨ ∃ y, hi = some y ∧ ∀ code, (Instr.sliceBound (a.eval y) cap code).run P w = .ok h w) := by
    cases hi' with
    | none => simp only [Option.map_none, boundV] at h1; cases h1; exact ⟨hc, .inl ⟨optX_none hh, rfl⟩⟩
    | some y =>
      obtain ⟨x', rfl, hx⟩ := optX_some hh
      simp only [Option.map_some] at h1
      exact ⟨(bound_some (P := P) (code := .index) hE hx h1).1, .inr ⟨x', rfl, fun code => (bound_some (P := P) (code := code) hE hx h1).2 cap (Nat.le_refl _)⟩⟩
  have hl' : l ≤ h ∧ ((lo = none ∧ l = 0) ∨ ∃ y, lo = some y ∧ ∀ code, (Instr.sliceBound (a.eval y) h code).run P w = .ok l w) := by
    cases lo' with
    | none => simp only [Option.map_none, boundV] at h2; cases h2; exact ⟨Nat.zero_le _, .inl ⟨optX_none hl, rfl⟩⟩
    | some y =>
      obtain ⟨x', rfl, hx⟩ := optX_some hl
      simp only [Option.map_some] at h2
      exact ⟨(bound_some (P := P) (code := .index) hE hx h2).1, .inr ⟨x', rfl, fun code => (bound_some (P := P) (code := code) hE hx h2).2 h (Nat.le_refl _)⟩⟩
  refine ⟨hl'.1, hh'.1, ?_⟩
  rcases hh'.2 with ⟨rfl, rfl⟩ | ⟨y, rfl, e1⟩ <;> rcases hl'.2 with ⟨rfl, rfl⟩ | ⟨z, rfl, e2⟩ <;>
    simp only [Instr.sliceBounds, Option.map_none, Option.map_some, Sem.run_bind, Sem.run_pure, Result.andThen_ok, *]
/-- .. and of a slice expression with three. -/
theorem bounds_run3 (hE : EnvR n ι w env a) {lo : Option Operand} {lo' : Option X} {hi mx : Operand} {hi' mx' : X} (hl : optX n lo = some lo') (hh : compX n hi = some hi') (hm : compX n mx = some mx') {len cap top m h l : Nat} (hc : top ≤ cap)
    (h0 : boundV (some (mx'.ev env)) 0 top = some m) (h1 : boundV (some (hi'.ev env)) len m = some h) (h2 : boundV (lo'.map (X.ev env)) 0 h = some l) :
    l ≤ h ∧ h ≤ m ∧ m ≤ top ∧ (Instr.sliceBounds true len cap (lo.map a.eval) (some (a.eval hi)) (some (a.eval mx))).run P w = .ok (l, h, m) w := by
  have e0 := fun code => (bound_some (P := P) (code := code) hE hm h0).2 cap hc
  have e1 := fun code => (bound_some (P := P) (code := code) hE hh h1).2 m (Nat.le_refl _)
  have g0 := (bound_some (P := P) (code := .index) hE hm h0).1
  have g1 := (bound_some (P := P) (code := .index) hE hh h1).1
  have hl' : l ≤ h ∧ ((lo = none ∧ l = 0) ∨ ∃ y, lo = some y ∧ ∀ code, (Instr.sliceBound (a.eval y) h code).run P w = .ok l w) := by
    cases lo' with
    | none => simp only [Option.map_none, boundV] at h2; cases h2; exact ⟨Nat.zero_le _, .inl ⟨optX_none hl, rfl⟩⟩
    | some y =>
      obtain ⟨x', rfl, hx⟩ := optX_some hl
      simp only [Option.map_some] at h2
      exact ⟨(bound_some (P := P) (code := .index) hE hx h2).1, .inr ⟨x', rfl, fun code => (bound_some (P := P) (code := code) hE hx h2).2 h (Nat.le_refl _)⟩⟩
  refine ⟨hl'.1, g1, g0, ?_⟩
  rcases hl'.2 with ⟨rfl, rfl⟩ | ⟨z, rfl, e2⟩ <;>
    simp only [Instr.sliceBounds, Option.map_none, Option.map_some, Sem.run_bind, Sem.run_pure, Result.andThen_ok, *]

theorem rd_cutStr (hE : EnvR n ι w env a) {t : TypeId} (hun : P.underlying t = some .string) {x : Operand} {x' : X} (hx : compX n x = some x') {lo hi : Option Operand} {lo' hi' : Option X}
    (hl : optX n lo = some lo') (hh : optX n hi = some hi') {v : V} (hv : R.ev env H (.cutStr x' lo' hi') = some v) : Gives P (Instr.sliceAt t (a.eval x) (lo.map a.eval) (hi.map a.eval) none) ι w v := by
  have h1 := X.sound hE hx
  simp only [R.ev] at hv
  generalize x'.ev env = p at *
  generalize a.eval x = u at *
  split at hv
  · split at hv
    · rename_i h hb
      split at hv
      · rename_i l hb'
        cases hv
        cases h1 with
        | str s =>
          have hsz := str_size s
          rw [hsz] at hb
          obtain ⟨k1, k2, k3⟩ := bounds_run (P := P) (sl := false) hE hl hh (Nat.le_refl _) hb hb'
          refine ⟨.string (s.extract l h), ?_, ?_⟩
          · simp [Instr.sliceAt, Instr.slice, run_underlying hun, k3]
          · have := VR.str (ι := ι) (w := w) (s.extract l h)
            have e : (s.extract l h).data.toList = (s.data.toList.take h).drop l := by
              rw [ByteArray.data_extract, Array.toList_extract]
              simp [List.extract_eq_take_drop, List.drop_take]
            rw [e] at this
            exact this
      · cases hv
    · cases hv
  · cases hv

theorem rd_cutSl (hE : EnvR n ι w env a) {t e : TypeId} (hun : P.underlying t = some (.slice e)) {s : Nat} (hs : sizeT P e = some s) {x : Operand} {x' : X} (hx : compX n x = some x') {lo hi : Option Operand} {lo' hi' : Option X}
    (hl : optX n lo = some lo') (hh : optX n hi = some hi') {v : V} (hv : R.ev env H (.cutSl s x' lo' hi') = some v) : Gives P (Instr.sliceAt t (a.eval x) (lo.map a.eval) (hi.map a.eval) none) ι w v := by
  have h1 := X.sound hE hx
  simp only [R.ev] at hv
  generalize x'.ev env = p at *
  generalize a.eval x = u at *
  split at hv
  · rename_i id off len esz'
    split at hv
    · rename_i h hb
      split at hv
      · rename_i l hb'
        split at hv
        · rename_i he
          cases hv
          subst he
          cases h1 with
          | slice0 =>
            obtain ⟨k1, k2, k3⟩ := bounds_run (P := P) (sl := true) hE hl hh (Nat.le_refl 0) hb hb'
            have h0 : h = 0 := by omega
            have l0 : l = 0 := by omega
            subst h0; subst l0
            refine ⟨.slice none 0 0, ?_, .slice0 _ _⟩
            simp [Instr.sliceAt, Instr.slice, run_underlying hun, k3, run_sizeOf hs]
          | slice _ _ _ _ ad cap hlc hc =>
            obtain ⟨k1, k2, k3⟩ := bounds_run (P := P) (sl := true) hE hl hh hlc hb hb'
            refine ⟨.slice (if cap = l then some ad else some (ad.add (l * esz'))) (h - l) (cap - l), ?_, ?_⟩
            · simp [Instr.sliceAt, Instr.slice, run_underlying hun, k3, run_sizeOf hs]
            · have : (if cap = l then some ad else some (ad.add (l * esz'))) = some (if cap = l then ad else ad.add (l * esz')) := by split <;> rfl
              rw [this]
              refine .slice _ _ _ _ _ _ (by omega) fun hpos => ?_
              obtain ⟨b, o, c, e', f, g1, g2, g3, g4⟩ := hc (by omega)
              refine ⟨b, o, c, e', f, g1, ?_, g3, ?_⟩
              · rw [if_neg (by omega), g2, Addr.add_lit, Nat.add_assoc]
              · have : l * esz' + (cap - l) * esz' = cap * esz' := by rw [← Nat.add_mul]; congr 1; omega
                omega
        · cases hv
      · cases hv
    · cases hv
  · split at hv
    · rename_i h hb
      split at hv
      · rename_i l hb'
        cases hv
        cases h1 with
        | nils =>
          obtain ⟨k1, k2, k3⟩ := bounds_run (P := P) (sl := true) hE hl hh (Nat.le_refl 0) hb hb'
          have h0 : h = 0 := by omega
          have l0 : l = 0 := by omega
          subst h0; subst l0
          refine ⟨.slice none 0 0, ?_, .nils⟩
          simp [Instr.sliceAt, Instr.slice, run_underlying hun, k3, run_sizeOf hs]
      · cases hv
    · cases hv
  · rename_i id off len capv esz'
    split at hv
    · rename_i h hb
      split at hv
      · rename_i l hb'
        split at hv
        · rename_i he
          cases hv
          subst he
          cases h1 with
          | sliceC0 =>
            obtain ⟨k1, k2, k3⟩ := bounds_runC (P := P) (sl := true) hE hl hh (Nat.le_refl 0) hb hb'
            have h0 : h = 0 := by omega
            have l0 : l = 0 := by omega
            subst h0; subst l0
            refine ⟨.slice none 0 0, ?_, .sliceC0 _ _⟩
            simp [Instr.sliceAt, Instr.slice, run_underlying hun, k3, run_sizeOf hs]
          | sliceC _ _ _ _ ad cap hlc hc =>
            obtain ⟨k1, k2, k3⟩ := bounds_runC (P := P) (sl := true) hE hl hh hlc hb hb'
            refine ⟨.slice (if capv = l then some ad else some (ad.add (l * esz'))) (h - l) (capv - l), ?_, ?_⟩
            · simp [Instr.sliceAt, Instr.slice, run_underlying hun, k3, run_sizeOf hs]
            · have : (if capv = l then some ad else some (ad.add (l * esz'))) = some (if capv = l then ad else ad.add (l * esz')) := by split <;> rfl
              rw [this]
              refine .sliceC _ _ _ _ _ _ (by omega) fun hpos => ?_
              obtain ⟨b, o, c, e', f, g1, g2, g3, g4⟩ := hc (by omega)
              refine ⟨b, o, c, e', f, g1, ?_, g3, ?_⟩
              · rw [if_neg (by omega), g2, Addr.add_lit, Nat.add_assoc]
              · have : l * esz' + (capv - l) * esz' = capv * esz' := by rw [← Nat.add_mul]; congr 1; omega
                omega
        · cases hv
      · cases hv
    · cases hv
  · cases hv

theorem rd_cutSl3 (hE : EnvR n ι w env a) {t e : TypeId} (hun : P.underlying t = some (.slice e)) {s : Nat} (hs : sizeT P e = some s) {x : Operand} {x' : X} (hx : compX n x = some x') {lo : Option Operand} {lo' : Option X} {hi mx : Operand} {hi' mx' : X}
    (hl : optX n lo = some lo') (hh : compX n hi = some hi') (hm : compX n mx = some mx') {v : V} (hv : R.ev env H (.cutSl3 s x' lo' (some hi') mx') = some v) : Gives P (Instr.sliceAt t (a.eval x) (lo.map a.eval) (some (a.eval hi)) (some (a.eval mx))) ι w v := by
  have h1 := X.sound hE hx
  simp only [R.ev, Option.map_some] at hv
  generalize x'.ev env = p at *
  generalize a.eval x = u at *
  have fin : ∀ (id off len cap top m h l : Nat) (ad : Addr), len ≤ cap → top ≤ cap → (0 < cap → ∃ (b o : Nat) (c : Array Value) (e : TypeId) (f : Nat × Nat), ι id = some (b, o) ∧ ad = ⟨b, o + off, none⟩ ∧ w.heap[b]? = some (.cells c e f) ∧ o + off + cap * s ≤ c.size) →
      boundV (some (mx'.ev env)) 0 top = some m → boundV (some (hi'.ev env)) len m = some h → boundV (lo'.map (X.ev env)) 0 h = some l →
      Gives P (Instr.sliceAt t (.slice (some ad) len cap) (lo.map a.eval) (some (a.eval hi)) (some (a.eval mx))) ι w (.sliceC id (off + l * s) (h - l) (m - l) s) := by
    intro id off len cap top m h l ad hlc htc hc g0 g1 g2
    obtain ⟨k1, k2, k3, k4⟩ := bounds_run3 (P := P) hE hl hh hm htc g0 g1 g2
    refine ⟨.slice (if m = l then some ad else some (ad.add (l * s))) (h - l) (m - l), ?_, ?_⟩
    · simp [Instr.sliceAt, Instr.slice, run_underlying hun, k4, run_sizeOf hs]
    · have : (if m = l then some ad else some (ad.add (l * s))) = some (if m = l then ad else ad.add (l * s)) := by split <;> rfl
      rw [this]
      refine .sliceC _ _ _ _ _ _ (by omega) fun hpos => ?_
      obtain ⟨b, o, c, e', f, q1, q2, q3, q4⟩ := hc (by omega)
      refine ⟨b, o, c, e', f, q1, ?_, q3, ?_⟩
      · rw [if_neg (by omega), q2, Addr.add_lit, Nat.add_assoc]
      · have : l * s + (m - l) * s ≤ cap * s := by rw [← Nat.add_mul]; exact Nat.mul_le_mul_right _ (by omega)
        omega
  have fin0 : ∀ (off m h l : Nat), boundV (some (mx'.ev env)) 0 0 = some m → boundV (some (hi'.ev env)) 0 m = some h → boundV (lo'.map (X.ev env)) 0 h = some l →
      Gives P (Instr.sliceAt t (.slice none 0 0) (lo.map a.eval) (some (a.eval hi)) (some (a.eval mx))) ι w (.sliceC 0 (off + l * s) (h - l) (m - l) s) := by
    intro off m h l g0 g1 g2
    obtain ⟨k1, k2, k3, k4⟩ := bounds_run3 (P := P) (cap := 0) hE hl hh hm (Nat.le_refl 0) g0 g1 g2
    have m0 : m = 0 := by omega
    have h0 : h = 0 := by omega
    have l0 : l = 0 := by omega
    subst m0; subst h0; subst l0
    refine ⟨.slice none 0 0, ?_, .sliceC0 _ _⟩
    simp [Instr.sliceAt, Instr.slice, run_underlying hun, k4, run_sizeOf hs]
  split at hv
  · rename_i id off len esz'
    split at hv
    · rename_i m g0
      split at hv
      · rename_i h _ g1 hq
        cases hq
        split at hv
        · rename_i l g2
          split at hv
          · rename_i he
            cases hv
            subst he
            cases h1 with
            | slice0 => exact fin0 _ _ _ _ g0 g1 g2
            | slice _ _ _ _ ad cap hlc hc => exact fin _ _ _ _ _ _ _ _ _ hlc hlc hc g0 g1 g2
          · cases hv
        · cases hv
      · cases hv
    · cases hv
  · rename_i id off len capv esz'
    split at hv
    · rename_i m g0
      split at hv
      · rename_i h _ g1 hq
        cases hq
        split at hv
        · rename_i l g2
          split at hv
          · rename_i he
            cases hv
            subst he
            cases h1 with
            | sliceC0 => exact fin0 _ _ _ _ g0 g1 g2
            | sliceC _ _ _ _ ad cap hlc hc => exact fin _ _ _ _ _ _ _ _ _ hlc (Nat.le_refl _) hc g0 g1 g2
          · cases hv
        · cases hv
      · cases hv
    · cases hv
  · cases hv

theorem Xs.sound (hE : EnvR n ι w env a) : ∀ {xs : List Operand} {ys : List X}, compXs n xs = some ys → VRs ι w (ys.map (X.ev env)) (xs.map a.eval)
  | [], ys, h => by simp [compXs] at h; subst h; exact .nil
  | x :: xs, ys, h => by
    unfold compXs at h
    split at h
    · rename_i y ys' h1 h2
      cases h
      exact .cons _ _ _ _ (X.sound hE h1) (Xs.sound hE h2)
    · cases h

theorem fold_run {f : V → V → Option V} {g : Value → Value → Sem Value} (hfg : ∀ p q u z r, VR ι w p u → VR ι w q z → f p q = some r → Gives P (g u z) ι w r) :
    ∀ {ps : List V} {us : List Value} {p : V} {u : Value} {v : V}, VR ι w p u → VRs ι w ps us → foldV f p ps = some v → Gives P (us.foldlM g u) ι w v
  | [], us, p, u, v, h, hs, hf => by cases hs; simp only [foldV] at hf; cases hf; exact ⟨u, by simp, h⟩
  | q :: ps, us, p, u, v, h, hs, hf => by
    cases hs with
    | cons _ z _ zs hq hs =>
      simp only [foldV] at hf
      split at hf
      · rename_i r hr
        obtain ⟨x, h1, h2⟩ := hfg _ _ _ _ _ h hq hr
        obtain ⟨y, h3, h4⟩ := fold_run hfg h2 hs hf
        exact ⟨y, by simp [List.foldlM_cons, h1, h3], h4⟩
      · cases hf

theorem min_run (p q : V) (u z : Value) (r : V) (h : VR ι w p u) (h' : VR ι w q z) (hr : minV p q = some r) : Gives P (Builtin.min2 u z) ι w r := by
  cases h <;> cases h' <;> simp only [minV] at hr <;> first | (cases hr; done) | skip
  cases hr
  exact ⟨_, rfl, .int _ _⟩

theorem max_run (p q : V) (u z : Value) (r : V) (h : VR ι w p u) (h' : VR ι w q z) (hr : maxV p q = some r) : Gives P (Builtin.max2 u z) ι w r := by
  cases h <;> cases h' <;> simp only [maxV] at hr <;> first | (cases hr; done) | skip
  cases hr
  exact ⟨_, rfl, .int _ _⟩

theorem keyT_kinds {t : TypeId} {kt : KT} (h : keyT P t = some kt) : kindsT P 20 t = some kt.2 ∧ isAggT P t = some kt.1 := by
  unfold keyT at h
  split at h
  · cases h; exact ⟨by assumption, by assumption⟩
  · cases h

theorem key_pack' {t : TypeId} {kt : KT} (ht : keyT P t = some kt) {k : V} {u : Value} (hu : VR ι w k u) (hf : keyFits kt k = true) : ∃ us : List Value, u = pack P t us ∧ us.length = kt.2.length := by
  obtain ⟨_, hag⟩ := keyT_kinds ht
  unfold keyFits at hf
  split at hf
  · rename_i h1
    cases hu with
    | agg _ us h ho => exact ⟨us, by simp [pack, hag, h1], by rw [← h.length]; exact Nat.eq_of_beq_eq_true hf⟩
  · cases hf
  · rename_i h1
    exact ⟨[u], by simp [pack, hag, h1], by simpa using (Nat.eq_of_beq_eq_true hf).symm⟩

theorem checkKey_run {t : TypeId} {kt : KT} (ht : keyT P t = some kt) {k : V} {u : Value} (hu : VR ι w k u) (hf : keyFits kt k = true) (b : Bool) : (Instr.checkKey b 10000 t u).run P w = .ok () w := by
  obtain ⟨us, rfl, hl⟩ := key_pack' ht hu hf
  exact checkKey_ok 20 10000 (by decide) t kt.2 (keyT_kinds ht).1 us hl

theorem run_getObj {b : Nat} {o : Obj} (h : w.heap[b]? = some o) (hc : ∀ c e f, o ≠ .cells c e f) : (getObj b).run P w = .ok o w := by
  simp only [getObj, Sem.run, h]

theorem rd_lookup (hE : EnvR n ι w env a) (hR : Rel ι H w) {t kt e : TypeId} (hun : P.underlying t = some (.map kt e)) {K : KT} (hk : keyT P kt = some K) {z : V} (hz : zeroT P e = some z) {x y : Operand} {x' y' : X} (hx : compX n x = some x') (hy : compX n y = some y')
    {ok : Bool} {v : V} (hv : R.ev env H (.lookup K z ok x' y') = some v) : Gives P (Instr.lookup t (a.eval x) (a.eval y) ok) ι w v := by
  have h1 := X.sound hE hx
  have h2 := X.sound hE hy
  obtain ⟨zu, hz1, hz2, _⟩ := run_zero hz
  simp only [R.ev] at hv
  generalize x'.ev env = p at *
  generalize y'.ev env = q at *
  generalize a.eval x = u at *
  generalize a.eval y = y at *
  have fin : ∀ (r : V) (u : Value) (b : Bool), VR ι w r u → VR ι w (bif ok then .tup [r, .bool b] else r) (if ok then .tuple #[u, .bool b] else u) := by
    intro r u b h
    cases ok with
    | true => exact .tup _ [u, .bool b] (.cons _ _ _ _ h (.cons _ _ _ _ (.bool b) .nil))
    | false => exact h
  split at hv
  · cases hf : keyFits K q with
    | false => rw [hf] at hv; cases hv
    | true =>
      rw [hf] at hv; cases hv
      cases h1
      refine ⟨_, ?_, fin z zu false (hz2 ι w)⟩
      simp [Instr.lookup, run_underlying hun, checkKey_run hk h2 hf, Instr.findKey, Instr.findNow, hz1]
      obtain ⟨d, hd⟩ := isAggT_under (keyT_kinds hk).2
      simp [run_underlying hd]
  · rename_i id
    split at hv
    · rename_i es hH
      obtain ⟨b, off, hι, ms, clock, hb, hent, _, _⟩ := hR.obj _ _ hH
      cases h1 with
      | map _ b' o' hι' =>
        rw [hι] at hι'; cases hι'
        have hget := run_getObj (P := P) hb (by intro c e f h; cases h)
        split at hv
        · rename_i i hi
          split at hv
          · rename_i en hen
            cases hv
            have hf := findI_fits hi
            have hfk := findKey_ok hk h2 hent hi
            have hkv := hent.vals
            obtain ⟨u, g1, g2⟩ := hkv.get (i := i) (v := en.2) (by simp [hen])
            rw [List.getElem?_map] at g1
            cases hm : ms.toList[i]? with
            | none => rw [hm] at g1; cases g1
            | some m =>
              rw [hm] at g1
              simp only [Option.map_some, Option.some.injEq] at g1
              subst g1
              refine ⟨_, ?_, fin en.2 m.val true g2⟩
              simp only [Instr.lookup, Sem.run_bind, run_underlying hun, Result.andThen_ok, hget, Sem.run_pure, checkKey_run hk h2 hf, hfk, Option.map_some, entAt, hm, Option.getD_some]
          · cases hv
        · rename_i hi
          cases hv
          have hf := findI_fits hi
          have hfk := findKey_ok hk h2 hent hi
          refine ⟨_, ?_, fin z zu false (hz2 ι w)⟩
          simp only [Instr.lookup, Sem.run_bind, run_underlying hun, Result.andThen_ok, hget, Sem.run_pure, checkKey_run hk h2 hf, hfk, Option.map_none, hz1]
        · cases hv
    · cases hv
  · cases hv

theorem toNext {s : Sem Value} {v : V} (h : Gives P s ι w v) : ∃ u, (do pure (Next.value (← s)) : Sem Next).run P w = .ok (.value u) w ∧ VR ι w v u := by
  obtain ⟨u, h1, h2⟩ := h
  exact ⟨u, by simp [h1], h2⟩

/-- EVERY OPERATION THAT ONLY READS. -/
theorem R.sound (hE : EnvR n ι w env a) (hR : Rel ι H w) {o : Oper} {r : R} (hc : compOp P n o.op o.type = some (.rd r)) {v : V} (hv : r.ev env H = some v) :
    ∃ u, (execOp a.eval o).run P w = .ok (.value u) w ∧ VR ι w v u := by
  obtain ⟨dst, op, ty, pos, af, g⟩ := o
  simp only at hc
  cases op <;> simp only [compOp] at hc <;> first | (cases hc; done) | skip
  case move x =>
    simp only [Option.map_eq_some_iff] at hc
    obtain ⟨y, hy, he⟩ := hc
    cases he
    simp only [R.ev] at hv; cases hv
    exact ⟨_, rfl, X.sound hE hy⟩
  case assign x =>
    simp only [Option.map_eq_some_iff] at hc
    obtain ⟨y, hy, he⟩ := hc
    cases he
    simp only [R.ev] at hv; cases hv
    exact ⟨_, rfl, X.sound hE hy⟩
  case pick c x y =>
    split at hc <;> cases hc
    rename_i h1 h2 h3
    obtain ⟨u, h4, h5⟩ := rd_pick (P := P) (H := H) hE h1 h2 h3 hv
    refine ⟨u, ?_, h5⟩
    simp only [execOp, Sem.run_bind, Sem.run_pure] at h4 ⊢
    generalize (asBool (a.eval c)).run P w = r at *
    cases r with
    | ok b w' => simp only [Result.andThen_ok, Result.ok.injEq] at h4 ⊢; exact ⟨by rw [h4.1], h4.2⟩
    | halt x w' => cases h4
  case alloc t => split at hc <;> cases hc
  case box t x => simp only [Option.map_eq_some_iff] at hc; obtain ⟨y, _, he⟩ := hc; cases he
  case build t ps =>
    split at hc
    · rename_i z fs hz hun
      simp only [Option.map_eq_some_iff] at hc
      obtain ⟨qs, hq, he⟩ := hc
      cases he
      cases hb : fs.toList.all (fun f => (sizeT P f.type).isSome) with
      | false => rw [hb] at hq; cases hq
      | true =>
        rw [hb] at hq
        rw [List.all_eq_true] at hb
        exact toNext (rd_build hE hz (.inl ⟨fs, hun, hq, fun f hf => Option.isSome_iff_exists.1 (hb f hf)⟩) hv)
    · rename_i z k e hz hun
      split at hc
      · rename_i s hs
        simp only [Option.map_eq_some_iff] at hc
        obtain ⟨qs, hq, he⟩ := hc
        cases he
        exact toNext (rd_build hE hz (.inr ⟨k, e, s, hun, hs, hq⟩) hv)
      · cases hc
    · cases hc
  case buildSlice t l ps =>
    split at hc
    · split at hc
      · rename_i s z _ _
        cases hb : (Nat.beq z.length s && Nat.blt 0 s && Nat.ble (l * s) 16777216) with
        | false => rw [hb] at hc; cases hc
        | true => rw [hb] at hc; simp only [cond_true, Option.map_eq_some_iff] at hc; obtain ⟨_, _, he⟩ := hc; cases he
      · cases hc
    · cases hc
  case load t x =>
    split at hc <;> cases hc
    · rename_i h1 h2 h3; exact toNext (rd_loadn hE hR h1 h2 h3 hv)
    · rename_i h1 h2; exact toNext (rd_load1 hE hR h1 h2 hv)
  case store t x y => split at hc <;> cases hc
  case nilCheck x =>
    simp only [Option.map_eq_some_iff] at hc
    obtain ⟨y, hy, he⟩ := hc
    cases he
    exact rd_nilck hE hy hv
  case binOp op t x y yt =>
    split at hc
    · rename_i x' y' hx hy
      split at hc
      · cases hc; exact toNext (rd_bin hE hx hy hv)
      · cases hc; exact toNext (rd_bin hE hx hy hv)
      · split at hc <;> cases hc
        · rename_i c he; exact toNext (rd_eq (neg := false) hE he hx hy hv)
        · rename_i c he; exact toNext (rd_eq (neg := true) hE he hx hy hv)
    · cases hc
  case unOp op t x =>
    simp only [Option.map_eq_some_iff] at hc
    obtain ⟨y, hy, he⟩ := hc
    cases he
    exact toNext (rd_un hE hy hv)
  case convert s d x =>
    split at hc
    · rename_i k' k x' hs hd hx
      cases hc
      have h1 := X.sound hE hx
      simp only [R.ev] at hv
      generalize x'.ev env = p at *
      simp only [execOp]
      generalize a.eval x = u at *
      split at hv
      · cases hv
        cases h1
        exact ⟨_, by simp [convert, run_underlying hs, run_underlying hd, Conv.intToInt], .int _ _⟩
      · cases hv
    · rename_i x' hs hd hx
      cases hc
      have h1 := X.sound hE hx
      simp only [R.ev] at hv
      generalize x'.ev env = p at *
      simp only [execOp]
      generalize a.eval x = u at *
      split at hv
      · cases hv
        cases h1
        exact ⟨_, by simp [convert, run_underlying hs, run_underlying hd], .str _⟩
      · cases hv
    · rename_i e x' hs hd hx
      split at hc
      · rename_i he
        cases hc
        obtain ⟨u, h4, h5⟩ := rd_b2s (P := P) hE hR hx hv
        refine ⟨u, ?_, h5⟩
        have h1 := X.sound hE hx
        simp only [R.ev] at hv
        simp only [execOp]
        generalize x'.ev env = p at *
        generalize a.eval x = z at *
        split at hv <;> first | (cases hv; done) | skip
        all_goals
          cases h1 <;> simp [convert, run_underlying hs, run_underlying hd, run_underlying he, h4]
      · cases hc
    · cases hc
  case fieldAddr s x i =>
    split at hc
    · rename_i fs x' hun hx
      split at hc
      · rename_i f hf
        split at hc
        · rename_i k hs
          cases hc
          exact toNext (rd_faddr hE hun hf hs hx hv)
        · cases hc
      · cases hc
    · cases hc
  case field t x i =>
    split at hc
    · rename_i fs x' hun hx
      split at hc
      · rename_i f hf
        split at hc <;> cases hc
        · rename_i ha hs; exact toNext (rd_fieldn hE hun hf ha hs hx hv)
        · rename_i ha hs; exact toNext (rd_field1 hE hun hf ha hx hv)
      · cases hc
    · cases hc
  case indexAddr t x i =>
    split at hc
    · rename_i e x' i' hun hx hi
      simp only [Option.map_eq_some_iff] at hc
      obtain ⟨s, hs, he⟩ := hc
      cases he
      exact toNext (rd_iaddrS hE hun hs hx hi hv)
    · rename_i k e x' i' hun hx hi
      simp only [Option.map_eq_some_iff] at hc
      obtain ⟨s, hs, he⟩ := hc
      cases he
      exact toNext (rd_iaddrA hE hun hs hx hi hv)
    · cases hc
  case index t x i =>
    split at hc
    · rename_i x' i' hun hx hi
      cases hc
      exact toNext (rd_idxStr hE hun hx hi hv)
    · rename_i k e x' i' hun hx hi
      split at hc <;> cases hc
      rename_i ha hs
      exact toNext (rd_idxArr1 hE hun ha hs hx hi hv)
    · cases hc
  case slice t x lo hi mx =>
    cases mx with
    | some m =>
      cases hi with
      | none => simp only at hc; cases hc
      | some hi =>
        simp only at hc
        split at hc
        · rename_i e x' lo' hi' m' hun hx hl hh hm
          simp only [Option.map_eq_some_iff] at hc
          obtain ⟨s, hs, he⟩ := hc
          cases he
          exact toNext (rd_cutSl3 hE hun hs hx hl hh hm hv)
        · cases hc
    | none =>
      simp only at hc
      split at hc
      · rename_i x' lo' hi' hun hx hl hh
        cases hc
        exact toNext (rd_cutStr hE hun hx hl hh hv)
      · rename_i e x' lo' hi' hun hx hl hh
        simp only [Option.map_eq_some_iff] at hc
        obtain ⟨s, hs, he⟩ := hc
        cases he
        exact toNext (rd_cutSl hE hun hs hx hl hh hv)
      · cases hc
  case extract x i =>
    simp only [Option.map_eq_some_iff] at hc
    obtain ⟨x', hx, he⟩ := hc
    cases he
    have h1 := X.sound hE hx
    simp only [R.ev] at hv
    simp only [execOp]
    generalize x'.ev env = p at *
    generalize a.eval x = u at *
    split at hv
    · cases h1 with
      | tup vs us h =>
        obtain ⟨u, h2, h3⟩ := h.get hv
        exact ⟨u, by simp [Instr.extract, h2], h3⟩
    · cases hv
  case makeInterface t x =>
    split at hc
    · cases hc
    · rename_i d x' hn hun hx
      cases hc
      simp only [R.ev] at hv; cases hv
      refine ⟨.iface t (a.eval x), ?_, .iface _ _ _ (X.sound hE hx)⟩
      simp only [execOp, Instr.makeInterface, Sem.run_bind, run_underlying hun, Result.andThen_ok]
      cases d <;> first | rfl | exact absurd rfl (hn _)
    · cases hc
  case typeAssert x xt t ok =>
    cases ok with
    | true => simp only at hc; cases hc
    | false =>
      simp only at hc
      split at hc
      · cases hc
      · rename_i d x' hn hun hx
        cases hc
        have h1 := X.sound hE hx
        simp only [R.ev] at hv
        simp only [execOp]
        generalize x'.ev env = p at *
        generalize a.eval x = u at *
        split at hv
        · split at hv
          · rename_i he
            cases hv
            subst he
            cases h1 with
            | iface _ _ u h =>
              refine ⟨u, ?_, h⟩
              simp only [Instr.typeAssert, Sem.run_bind, run_underlying hun, Result.andThen_ok]
              cases d <;> first | exact absurd rfl (hn _) | simp
          · cases hv
        · cases hv
      · cases hc
  case makeFunc fn first cap =>
    cases fn <;> simp only at hc <;> first | (cases hc; done) | skip
    split at hc
    · rename_i f cap' hf hcap
      cases hc
      simp only [R.ev] at hv; cases hv
      have h1 := Xs.sound hE hcap
      refine ⟨.func (.func _) #[] ⟨cap.toList.map a.eval⟩, ?_, .func _ _ _ h1⟩
      have : first = #[] := by apply Array.ext'; simpa using hf
      subst this
      simp [execOp, Instr.makeFunc]
      apply Array.ext'; simp
    · cases hc
  case makeMap t r => cases r <;> simp only at hc <;> cases hc
  case makeSlice t l c =>
    split at hc
    · split at hc
      · rename_i s by_ z l' c' _ _ _ _ _
        cases hb : (Nat.beq z.length s && Nat.blt 0 s) with
        | false => rw [hb] at hc; cases hc
        | true => rw [hb] at hc; simp only [cond_true] at hc; cases hc
      · cases hc
    · cases hc
  case lookup t m k ok =>
    split at hc
    · rename_i kt e hun
      split at hc <;> cases hc
      rename_i hk hz hm hk'
      exact toNext (rd_lookup hE hR hun hk hz hm hk' hv)
    · cases hc
  case mapUpdate t m k v =>
    split at hc
    · split at hc <;> cases hc
    · cases hc
  case mapEntry t m k =>
    split at hc
    · split at hc <;> cases hc
    · cases hc
  case entryStore t m s x => split at hc <;> cases hc
  case range t m => split at hc <;> cases hc
  case next it b =>
    cases b with
    | true => simp only at hc; cases hc
    | false => simp only [Option.map_eq_some_iff] at hc; obtain ⟨_, _, h⟩ := hc; cases h
  case entry it => simp only [Option.map_eq_some_iff] at hc; obtain ⟨_, _, h⟩ := hc; cases h
  case call c =>
    obtain ⟨callee, args, ats⟩ := c
    cases callee with
    | builtin b =>
      simp only at hc
      unfold compBuiltin at hc
      split at hc
      · rename_i t x hats hargs
        have eats : ats = #[t] := by apply Array.ext'; simpa using hats
        have eargs : args = #[x] := by apply Array.ext'; simpa using hargs
        subst eats; subst eargs
        split at hc <;> first | (cases hc; done) | skip
        all_goals
          rename_i hun hx
          cases hc
          have h1 := X.sound hE hx
          simp only [R.ev] at hv
        · generalize X.ev env _ = p at *
          simp only [execOp, resolve, Sem.run_bind, Sem.run_pure, Result.andThen_ok, invoke, builtin, List.map_toArray, List.map_cons, List.map_nil]
          generalize a.eval x = u at *
          split at hv
          · cases hv
            cases h1 with
            | str s =>
              refine ⟨goInt s.size, ?_, by rw [str_size]; exact .int _ _⟩
              simp [Builtin.len_, run_underlying hun]
          · cases hv
        · generalize X.ev env _ = p at *
          simp only [execOp, resolve, Sem.run_bind, Sem.run_pure, Result.andThen_ok, invoke, builtin, List.map_toArray, List.map_cons, List.map_nil]
          generalize a.eval x = u at *
          split at hv
          · cases hv
            cases h1 <;> exact ⟨goInt _, by simp [Builtin.len_, run_underlying hun], .int _ _⟩
          · cases hv
            cases h1 <;> exact ⟨goInt _, by simp [Builtin.len_, run_underlying hun], .int _ _⟩
          · cases hv
            cases h1
            exact ⟨goInt _, by simp [Builtin.len_, run_underlying hun], .int _ _⟩
          · cases hv
        · cases hv
          simp only [execOp, resolve, Sem.run_bind, Sem.run_pure, Result.andThen_ok, invoke, builtin, List.map_toArray, List.map_cons, List.map_nil]
          exact ⟨goInt _, by simp [Builtin.len_, run_underlying hun], .int _ _⟩
        · generalize X.ev env _ = p at *
          simp only [execOp, resolve, Sem.run_bind, Sem.run_pure, Result.andThen_ok, invoke, builtin, List.map_toArray, List.map_cons, List.map_nil]
          generalize a.eval x = u at *
          split at hv
          · cases hv
            cases h1
            exact ⟨goInt 0, by simp [Builtin.len_, run_underlying hun], .int _ _⟩
          · rename_i id
            split at hv
            · rename_i es hH
              cases hv
              obtain ⟨b, off, hι, ms, clock, hb, hent, _, _⟩ := hR.obj _ _ hH
              cases h1 with
              | map _ b' o' hι' =>
                rw [hι] at hι'; cases hι'
                have hget := run_getObj (P := P) hb (by intro c e f h; cases h)
                have hl := hent.keys.length
                simp only [List.length_map, Array.length_toList] at hl
                refine ⟨goInt ms.size, ?_, by rw [hl]; exact .int _ _⟩
                simp [Builtin.len_, run_underlying hun, hget]
            · cases hv
          · cases hv
      · rename_i x xs hargs
        split at hc <;> cases hc
        rename_i hx hxs
        simp only [R.ev] at hv
        obtain ⟨u, h4, h5⟩ := fold_run (P := P) min_run (X.sound hE hx) (Xs.sound hE hxs) hv
        refine ⟨u, ?_, h5⟩
        have eargs : args.toList = x :: xs := hargs
        simp only [execOp, resolve, Sem.run_bind, Sem.run_pure, Result.andThen_ok, invoke, builtin, Builtin.min_, Array.toList_map, eargs, List.map_cons, h4]
      · rename_i x xs hargs
        split at hc <;> cases hc
        rename_i hx hxs
        simp only [R.ev] at hv
        obtain ⟨u, h4, h5⟩ := fold_run (P := P) max_run (X.sound hE hx) (Xs.sound hE hxs) hv
        refine ⟨u, ?_, h5⟩
        have eargs : args.toList = x :: xs := hargs
        simp only [execOp, resolve, Sem.run_bind, Sem.run_pure, Result.andThen_ok, invoke, builtin, Builtin.max_, Array.toList_map, eargs, List.map_cons, h4]
      · split at hc
        · split at hc
          · rename_i s by_ z d s' _ _ _ _ _
            cases hb : (Nat.beq z.cells.length s && Nat.blt 0 by_ && !z.isTup) with
            | false => rw [hb] at hc; cases hc
            | true => rw [hb] at hc; simp only [cond_true] at hc; cases hc
          · cases hc
        · split at hc
          · rename_i s by_ z d s' _ _ _ _ _
            cases hb : (Nat.beq z.cells.length s && Nat.blt 0 by_ && !z.isTup) with
            | false => rw [hb] at hc; cases hc
            | true => rw [hb] at hc; simp only [cond_true] at hc; cases hc
          · cases hc
        · split at hc
          · rename_i s by_ z d s' _ _ _ _ _
            cases hb : (Nat.beq z.cells.length s && Nat.blt 0 by_ && !z.isTup && Nat.blt 0 s) with
            | false => rw [hb] at hc; cases hc
            | true => rw [hb] at hc; simp only [cond_true] at hc; cases hc
          · cases hc
        · cases hc
      · rename_i t x hargs' hats'
        split at hc
        · rename_i e x' hun hx
          cases hc
          have eats : ats = #[t] := by apply Array.ext'; simpa using hargs'
          have eargs : args = #[x] := by apply Array.ext'; simpa using hats'
          subst eats; subst eargs
          have h1 := X.sound hE hx
          simp only [R.ev] at hv
          simp only [execOp, resolve, Sem.run_bind, Sem.run_pure, Result.andThen_ok, invoke, builtin, List.map_toArray, List.map_cons, List.map_nil]
          generalize X.ev env _ = p at *
          generalize a.eval x = u at *
          split at hv
          · cases hv
            cases h1 <;> exact ⟨goInt _, by simp [Builtin.cap_, run_underlying hun], .int _ _⟩
          · cases hv
            cases h1
            exact ⟨goInt _, by simp [Builtin.cap_, run_underlying hun], .int _ _⟩
          · cases hv
        · cases hc
      · split at hc
        · split at hc
          · rename_i s d s' _ _ _
            cases hb : Nat.blt 0 s with
            | false => rw [hb] at hc; cases hc
            | true => rw [hb] at hc; simp only [cond_true] at hc; cases hc
          · cases hc
        · cases hc
      · split at hc
        · split at hc
          · rename_i s z x' _ _ _
            cases hb : (Nat.beq z.cells.length s && Nat.blt 0 s && !z.isTup) with
            | false => rw [hb] at hc; cases hc
            | true => rw [hb] at hc; simp only [cond_true] at hc; cases hc
          · cases hc
        · cases hc
      · split at hc
        · split at hc <;> cases hc
        · cases hc
      · cases hc
    | value x =>
      cases x <;> simp only at hc <;> split at hc <;> cases hc
    | invoke x m => simp only at hc; split at hc <;> cases hc

end
end Go.CM
