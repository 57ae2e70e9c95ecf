/-
  A program logic over the model's calls, part 8: keys of maps.
-/
import Derived.Test.YtebhddpildfgcaaCmRd3
namespace Go.CM

section
variable {P : Program} {n : Nat} {ι : Pl} {H : Heap} {w : World} {env : Env} {a : Act}

theorem checkKey_fields {d D : Nat} {e : Bool} (ih : ∀ (t : TypeId) (ks : List SK), kindsT P d t = some ks → ∀ us : List Value, us.length = ks.length → (Instr.checkKey e D t (pack P t us)).run P w = .ok () w) :
    ∀ (fs : List Field) (o : Nat) (ks : List SK), kindsF P (kindsT P d) o fs = some ks → ∀ (pu us : List Value), pu.length = o → us.length = ks.length →
      (forIn (m := Sem) fs PUnit.unit (fun (f : Field) (_ : PUnit) => if f.name ≠ "_" then (do
          let v ← part f.type ⟨pu ++ us⟩ f.offset
          Instr.checkKey e D f.type v
          pure (ForInStep.yield PUnit.unit)) else pure (ForInStep.yield PUnit.unit))).run P w = .ok PUnit.unit w
  | [], _, _, _, _, _, _, _ => by simp
  | f :: fs, o, ks, hc, pu, us, hpu, hus => by
    obtain ⟨k1, k2, h1, hname, ho, h2, rfl⟩ := kindsF_cons hc
    rw [List.length_append] at hus
    have p1 := run_part_at (w := w) h1 pu us f.offset (by omega) (by omega)
    have p2 := ih f.type k1 h1 (us.take k1.length) (by simp; omega)
    rw [List.forIn_cons]
    simp only [if_pos hname, Sem.run_bind, p1, p2, Result.andThen_ok, Sem.run_pure]
    have := checkKey_fields ih fs (o + k1.length) k2 h2 (pu ++ us.take k1.length) (us.drop k1.length) (by simp; omega) (by simp; omega)
    rw [List.append_assoc, List.take_append_drop] at this
    exact this

theorem checkKey_ok {e : Bool} : ∀ (d D : Nat), d ≤ D → ∀ (t : TypeId) (ks : List SK), kindsT P d t = some ks → ∀ us : List Value, us.length = ks.length →
    (Instr.checkKey e D t (pack P t us)).run P w = .ok () w := by
  intro d
  induction d with
  | zero => intro D _ t ks h; simp [kindsT] at h
  | succ d ih =>
    intro D hD t ks h us hus
    obtain ⟨D, rfl⟩ : ∃ k, D = k + 1 := ⟨D - 1, by omega⟩
    unfold kindsT at h
    split at h
    · rename_i ks' s hk hs
      cases hb : Nat.beq ks'.length s with
      | false => simp [hb] at h
      | true =>
        simp [hb] at h; subst h
        split at hk
        case h_5 => cases hk
        case h_4 fs hun =>
          have hag : isAggT P t = some true := by simp [isAggT, hun]
          cases hst : P.stoodInHeld t with
          | true => simp [hst] at hk
          | false =>
            simp only [hst, cond_false] at hk
            have := checkKey_fields (e := e) (w := w) (fun t ks h us hl => ih D (by omega) t ks h us hl) fs.toList 0 ks' hk [] us rfl hus
            simp only [pack, hag, Instr.checkKey, Sem.run_bind, run_underlying hun, Result.andThen_ok]
            rw [Array.forIn_toList] at this
            simp at this ⊢
            rw [this]; rfl
        all_goals
          rename_i hun
          simp [Instr.checkKey, run_underlying hun]
    · cases h

/-- A key, and its type. -/
theorem key_pack {t : TypeId} {kt : KT} (ht : keyT P t = some kt) {k e : V} {u : Value} (hu : VR ι w k u) {b : Bool} (hq : eqKey kt k e = some b) :
    ∃ cs us, VRs ι w cs us ∧ u = pack P t us ∧ us.length = kt.2.length ∧ ((kt.1 = true ∧ k = .agg cs) ∨ (kt.1 = false ∧ cs = [k])) := by
  unfold keyT at ht
  split at ht
  · rename_i b' ks hb hk
    cases ht
    unfold eqKey at hq
    split at hq
    · rename_i as bs h1
      simp only at h1
      subst h1
      cases hu with
      | agg _ us h ho => exact ⟨as, us, h, by simp [pack, hb], by rw [← h.length]; exact (seqs_len hq).1, .inl ⟨rfl, rfl⟩⟩
    · rename_i h1
      simp only at h1
      subst h1
      refine ⟨[_], [u], .cons _ _ _ _ hu .nil, by simp [pack, hb], ?_, .inr ⟨rfl, rfl⟩⟩
      have := (seqs_len hq).1
      simpa using this
    · cases hq
  · cases ht

theorem equal_key {t : TypeId} {kt : KT} (ht : keyT P t = some kt) {k e : V} {u z : Value} (hu : VR ι w k u) (hz : VR ι w e z) {b : Bool} (hq : eqKey kt k e = some b) :
    (Op.equal t u z).run P w = .ok b w := by
  have hks : kindsT P 20 t = some kt.2 ∧ isAggT P t = some kt.1 := by
    unfold keyT at ht
    split at ht
    · rename_i b' ks hb hk; cases ht; exact ⟨hk, hb⟩
    · cases ht
  unfold eqKey at hq
  unfold Op.equal
  split at hq
  · rename_i as bs h1
    cases hu with
    | agg _ us h ho =>
      cases hz with
      | agg _ zs h' ho' =>
        have := equal_plain 20 Op.maxDepth (by decide) t kt.2 hks.1 as bs us zs b h h' hq
        simpa [pack, hks.2, h1] using this
  · rename_i h1
    have := equal_plain 20 Op.maxDepth (by decide) t kt.2 hks.1 [_] [_] [u] [z] b (.cons _ _ _ _ hu .nil) (.cons _ _ _ _ hz .nil) hq
    simpa [pack, hks.2, h1] using this
  · cases hq

def entAt (ms : List MapEntry) (i : Nat) : Value := ((ms[i]?).map (·.val)).getD Go.undef

theorem findI_nil {kt : KT} {k : V} {r : Option Nat} (h : findI kt k [] = some r) : keyFits kt k = true ∧ r = none := by
  simp only [findI] at h
  cases hk : keyFits kt k with
  | false => rw [hk] at h; cases h
  | true => rw [hk] at h; cases h; exact ⟨rfl, rfl⟩

theorem eqKey_fits {kt : KT} {k e : V} {b : Bool} (h : eqKey kt k e = some b) : keyFits kt k = true := by
  unfold eqKey at h
  unfold keyFits
  split at h
  · rename_i h1; simp only [h1]; rw [Nat.beq_eq]; exact (seqs_len h).1
  · rename_i h1
    simp only [h1]
    rw [Nat.beq_eq]; exact (seqs_len h).1.symm
  · cases h

theorem findI_fits {kt : KT} {k : V} : ∀ {es : List (V × V)} {r : Option Nat}, findI kt k es = some r → keyFits kt k = true
  | [], _, h => (findI_nil h).1
  | e :: es, r, h => by
    simp only [findI] at h
    split at h
    · rename_i hq; exact eqKey_fits hq
    · rename_i hq; exact eqKey_fits hq
    · cases h

theorem findAsking_ok {t : TypeId} {kt : KT} (ht : keyT P t = some kt) {k : V} {u : Value} (hu : VR ι w k u) :
    ∀ (es : List (V × V)) (ms : List MapEntry) (j : Nat) (r : Option Nat), EntR ι w es ms → findI kt k es = some r →
      (Instr.findAsking t u ms j).run P w = .ok (r.map fun i => (j + i, entAt ms i)) w
  | [], [], j, r, _, hr => by rw [(findI_nil hr).2]; simp [Instr.findAsking]
  | [], _ :: _, _, _, h, _ => by have := h.keys.length; simp at this
  | _ :: _, [], _, _, h, _ => by have := h.keys.length; simp at this
  | e :: es, m :: ms, j, r, h, hr => by
    have hk := h.keys
    have hv := h.vals
    simp only [List.map_cons] at hk hv
    cases hk with
    | cons _ _ _ _ hk hks =>
      cases hv with
      | cons _ _ _ _ hv hvs =>
        simp only [findI] at hr
        split at hr
        · rename_i hq
          cases hr
          simp [Instr.findAsking, equal_key ht hu hk hq, entAt]
        · rename_i hq
          simp only [Instr.findAsking, Sem.run_bind, equal_key ht hu hk hq, Result.andThen_ok, Bool.false_eq_true, if_false]
          split at hr
          · rename_i i hi
            cases hr
            rw [findAsking_ok ht hu es ms (j + 1) _ ⟨hks, hvs⟩ hi]
            simp [entAt]; omega
          · rename_i hne
            rw [findAsking_ok ht hu es ms (j + 1) r ⟨hks, hvs⟩ hr]
            cases r with
            | none => rfl
            | some i => exact absurd hr (hne i)
        · cases hr

theorem findNow_agg {u : Value} {fs : Array Field} (m : MapEntry) (ms : List MapEntry) (j : Nat) : Instr.findNow (.struct fs) u (m :: ms) j = none := by
  simp [Instr.findNow, Instr.sameNow]

theorem findNow_ok {d : TypeDesc} {kt : KT} {sk : SK} (hkt : kt = (false, [sk])) (hd : (sk = .b ∧ d = .bool) ∨ (sk = .i ∧ ∃ k, d = .int k) ∨ (sk = .s ∧ d = .string)) {k : V} {u : Value} (hu : VR ι w k u) :
    ∀ (es : List (V × V)) (ms : List MapEntry) (j : Nat) (r : Option Nat), EntR ι w es ms → findI kt k es = some r →
      Instr.findNow d u ms j = some (r.map fun i => (j + i, entAt ms i))
  | [], [], j, r, _, hr => by rw [(findI_nil hr).2]; simp [Instr.findNow]
  | [], _ :: _, _, _, h, _ => by have := h.keys.length; simp at this
  | _ :: _, [], _, _, h, _ => by have := h.keys.length; simp at this
  | e :: es, m :: ms, j, r, h, hr => by
    have hk := h.keys
    have hv := h.vals
    simp only [List.map_cons] at hk hv
    cases hk with
    | cons _ _ _ _ hk hks =>
      cases hv with
      | cons _ _ _ _ hv hvs =>
        have key : ∀ b, eqKey kt k e.1 = some b → Instr.sameNow d u m.key = some b := by
          intro b hb
          rw [hkt] at hb
          simp only [eqKey, seqs] at hb
          split at hb
          · rename_i x y hx hy
            cases hy; cases hb
            rcases seq_runs hu hk hx with ⟨h0, p, q, h1, h2, rfl⟩ | ⟨h0, k', p, q, h1, h2, rfl⟩ | ⟨h0, p, q, h1, h2, rfl⟩
            · rcases hd with ⟨h3, rfl⟩ | ⟨h3, _⟩ | ⟨h3, _⟩ <;> rw [h0] at h3 <;> cases h3
              rw [h1, h2]; simp [Instr.sameNow]
            · rcases hd with ⟨h3, _⟩ | ⟨h3, k'', rfl⟩ | ⟨h3, _⟩ <;> rw [h0] at h3 <;> cases h3
              rw [h1, h2]; simp [Instr.sameNow]
            · rcases hd with ⟨h3, _⟩ | ⟨h3, _⟩ | ⟨h3, rfl⟩ <;> rw [h0] at h3 <;> cases h3
              rw [h1, h2]; simp only [Instr.sameNow, beq_toListBytes, list_toList, Bool.and_true]
          · cases hb
        simp only [findI] at hr
        split at hr
        · rename_i hq
          cases hr
          simp [Instr.findNow, key _ hq, entAt]
        · rename_i hq
          simp only [Instr.findNow, key _ hq]
          split at hr
          · rename_i i hi
            cases hr
            rw [findNow_ok hkt hd hu es ms (j + 1) _ ⟨hks, hvs⟩ hi]
            simp [entAt]; omega
          · rename_i hne
            rw [findNow_ok hkt hd hu es ms (j + 1) r ⟨hks, hvs⟩ hr]
            cases r with
            | none => rfl
            | some i => exact absurd hr (hne i)
        · cases hr

theorem findKey_ok {t : TypeId} {kt : KT} (ht : keyT P t = some kt) {k : V} {u : Value} (hu : VR ι w k u) {es : List (V × V)} {ms : List MapEntry} {r : Option Nat}
    (h : EntR ι w es ms) (hr : findI kt k es = some r) : (Instr.findKey t u ms).run P w = .ok (r.map fun i => (i, entAt ms i)) w := by
  have hks : kindsT P 20 t = some kt.2 ∧ isAggT P t = some kt.1 := by
    unfold keyT at ht
    split at ht
    · rename_i b' ks hb hk; cases ht; exact ⟨hk, hb⟩
    · cases ht
  obtain ⟨hks, hag⟩ := hks
  have hask := findAsking_ok (P := P) ht hu es ms 0 r h hr
  simp only [Nat.zero_add] at hask
  unfold kindsT at hks
  split at hks
  · rename_i ks' s hk hs
    cases hb : Nat.beq ks'.length s with
    | false => simp [hb] at hks
    | true =>
      simp only [hb, cond_true, Option.some.injEq] at hks
      split at hk
      case h_5 => cases hk
      case h_4 fs hun =>
        simp only [Instr.findKey, Sem.run_bind, run_underlying hun, Result.andThen_ok]
        cases ms with
        | nil =>
          have : es = [] := by have := h.keys.length; simp at this; exact this
          subst this
          rw [(findI_nil hr).2]
          simp [Instr.findNow]
        | cons m ms => rw [findNow_agg]; exact hask
      case h_1 hun =>
        cases hk
        have hf : isAggT P t = some false := by simp [isAggT, hun]
        have hkt : kt = (false, kt.2) := by
          rw [hf] at hag
          exact Prod.ext (by simpa using hag.symm) rfl
        rw [← hks] at hkt
        have := findNow_ok (d := .bool) hkt (.inl ⟨rfl, rfl⟩) hu es ms 0 r h hr
        simp only [Nat.zero_add] at this
        simp only [Instr.findKey, Sem.run_bind, run_underlying hun, Result.andThen_ok, this, Sem.run_pure]
      case h_2 k' hun =>
        cases hk
        have hf : isAggT P t = some false := by simp [isAggT, hun]
        have hkt : kt = (false, kt.2) := by
          rw [hf] at hag
          exact Prod.ext (by simpa using hag.symm) rfl
        rw [← hks] at hkt
        have := findNow_ok (d := .int k') hkt (.inr (.inl ⟨rfl, k', rfl⟩)) hu es ms 0 r h hr
        simp only [Nat.zero_add] at this
        simp only [Instr.findKey, Sem.run_bind, run_underlying hun, Result.andThen_ok, this, Sem.run_pure]
      case h_3 hun =>
        cases hk
        have hf : isAggT P t = some false := by simp [isAggT, hun]
        have hkt : kt = (false, kt.2) := by
          rw [hf] at hag
          exact Prod.ext (by simpa using hag.symm) rfl
        rw [← hks] at hkt
        have := findNow_ok (d := .string) hkt (.inr (.inr ⟨rfl, rfl⟩)) hu es ms 0 r h hr
        simp only [Nat.zero_add] at this
        simp only [Instr.findKey, Sem.run_bind, run_underlying hun, Result.andThen_ok, this, Sem.run_pure]
  · cases hks

theorem findI_lt {kt : KT} {k : V} : ∀ {es : List (V × V)} {i : Nat}, findI kt k es = some (some i) → i < es.length
  | [], i, h => by have := (findI_nil h).2; cases this
  | e :: es, i, h => by
    simp only [findI] at h
    split at h
    · cases h; simp
    · split at h
      · rename_i j hj; cases h; have := findI_lt hj; simp; omega
      · rename_i hne; exact absurd h (hne i)
    · cases h

theorem findI_key {kt : KT} {k : V} : ∀ {es : List (V × V)} {i : Nat}, findI kt k es = some (some i) → ∃ e, es[i]? = some e ∧ eqKey kt k e.1 = some true
  | [], i, h => by have := (findI_nil h).2; cases this
  | e :: es, i, h => by
    simp only [findI] at h
    split at h
    · rename_i hq; cases h; exact ⟨e, rfl, hq⟩
    · split at h
      · rename_i j hj; cases h; obtain ⟨e', h1, h2⟩ := findI_key hj; exact ⟨e', by simpa using h1, h2⟩
      · rename_i hne; exact absurd h (hne i)
    · cases h

end
end Go.CM
