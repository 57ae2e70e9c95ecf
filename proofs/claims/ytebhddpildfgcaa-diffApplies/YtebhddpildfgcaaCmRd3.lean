/-
  A program logic over the model's calls, part 7: equality cell by cell; keys of maps.
-/
import Derived.Test.YtebhddpildfgcaaCmRd2
namespace Go.CM

section
variable {P : Program} {n : Nat} {ι : Pl} {H : Heap} {w : World} {env : Env} {a : Act}

theorem seqs_len : ∀ {ks : List SK} {as bs : List V} {b : Bool}, seqs ks as bs = some b → as.length = ks.length ∧ bs.length = ks.length
  | [], [], [], _, _ => ⟨rfl, rfl⟩
  | k :: ks, a :: as, c :: bs, b, h => by
    simp only [seqs] at h
    split at h
    · rename_i x y h1 h2
      have := seqs_len h2
      simp [this.1, this.2]
    · cases h
  | [], _ :: _, _, _, h | [], [], _ :: _, _, h | _ :: _, [], _, _, h | _ :: _, _ :: _, [], _, h => by simp [seqs] at h

theorem seqs_append : ∀ {ks ks' : List SK} {as bs : List V} {b : Bool}, seqs (ks ++ ks') as bs = some b →
    ∃ x y, seqs ks (as.take ks.length) (bs.take ks.length) = some x ∧ seqs ks' (as.drop ks.length) (bs.drop ks.length) = some y ∧ b = (x && y)
  | [], _, as, bs, b, h => ⟨true, b, by simp [seqs], by simpa using h, by simp⟩
  | k :: ks, ks', [], _, b, h => by simp [seqs] at h
  | k :: ks, ks', _ :: _, [], b, h => by simp [seqs] at h
  | k :: ks, ks', a :: as, c :: bs, b, h => by
    simp only [List.cons_append, seqs] at h
    split at h
    · rename_i x y h1 h2
      cases h
      obtain ⟨x', y', h3, h4, rfl⟩ := seqs_append h2
      exact ⟨x && x', y', by simp [seqs, h1, h3], by simpa using h4, by rw [Bool.and_assoc]⟩
    · cases h

/-- A value of a type, out of its cells. -/
def pack (P : Program) (t : TypeId) (us : List Value) : Value :=
  match isAggT P t with
  | some true => .agg ⟨us⟩
  | _ => us.headD Go.undef

theorem kindsT_size {d : Nat} {t : TypeId} {ks : List SK} (h : kindsT P d t = some ks) : sizeT P t = some ks.length := by
  cases d with
  | zero => simp [kindsT] at h
  | succ d =>
    unfold kindsT at h
    split at h
    · rename_i ks' s hk hs
      cases hb : Nat.beq ks'.length s with
      | false => simp [hb] at h
      | true => simp [hb] at h; subst h; rw [hs, Nat.eq_of_beq_eq_true hb]
    · cases h

theorem kindsT_agg {d : Nat} {t : TypeId} {ks : List SK} (h : kindsT P d t = some ks) : ∃ b, isAggT P t = some b ∧ (b = false → ks.length = 1) := by
  cases d with
  | zero => simp [kindsT] at h
  | succ d =>
    unfold kindsT at h
    split at h
    · rename_i ks' s hk hs
      cases hb : Nat.beq ks'.length s with
      | false => simp [hb] at h
      | true =>
        simp [hb] at h; subst h
        split at hk
        case h_4 hu => exact ⟨true, by simp [isAggT, hu], fun h => by cases h⟩
        case h_5 => cases hk
        all_goals
          rename_i hu
          cases hk
          exact ⟨false, by simp [isAggT, hu], fun _ => rfl⟩
    · cases h

theorem run_part {t : TypeId} {b : Bool} (hb : isAggT P t = some b) {s : Nat} (hs : sizeT P t = some s) (h1 : b = false → s = 1) (us vs ws : List Value) (hl : vs.length = s) :
    (part t ⟨us ++ (vs ++ ws)⟩ us.length).run P w = .ok (pack P t vs) w := by
  cases b with
  | true =>
    simp only [part, Sem.run_bind, run_isAgg hb, Result.andThen_ok, if_true, run_sizeOf hs, Sem.run_pure, pack, hb]
    congr 2
    apply Array.ext'
    subst hl
    simp
  | false =>
    have := h1 rfl
    subst this
    obtain ⟨v, rfl⟩ : ∃ v, vs = [v] := by
      match vs, hl with
      | [v], _ => exact ⟨v, rfl⟩
    simp [part, run_isAgg hb, pack, hb]

/-- The part of a row of cells that begins where the fields ahead of it end. -/
theorem run_part_at {d : Nat} {t : TypeId} {ks : List SK} (h : kindsT P d t = some ks) (pu us : List Value) (o : Nat) (ho : pu.length = o) (hl : ks.length ≤ us.length) :
    (part t ⟨pu ++ us⟩ o).run P w = .ok (pack P t (us.take ks.length)) w := by
  obtain ⟨b, hb, h1⟩ := kindsT_agg h
  subst ho
  have e : us = us.take ks.length ++ us.drop ks.length := (List.take_append_drop _ us).symm
  conv => lhs; rw [e]
  exact run_part hb (kindsT_size h) h1 pu _ _ (by simp; omega)

theorem kindsF_cons {rec : TypeId → Option (List SK)} {o : Nat} {f : Field} {fs : List Field} {ks : List SK} (h : kindsF P rec o (f :: fs) = some ks) :
    ∃ k1 k2, rec f.type = some k1 ∧ f.name ≠ "_" ∧ f.offset = o ∧ kindsF P rec (o + k1.length) fs = some k2 ∧ ks = k1 ++ k2 := by
  unfold kindsF at h
  split at h
  · rename_i k1 h1
    cases hb : (f.name != "_" && Nat.beq o f.offset) with
    | false => simp [hb] at h
    | true =>
      simp only [hb, cond_true] at h
      simp only [Bool.and_eq_true] at hb
      split at h
      · rename_i k2 h2
        cases h
        exact ⟨k1, k2, h1, by simpa using hb.1, (Nat.eq_of_beq_eq_true hb.2).symm, h2, rfl⟩
      · cases h
  · cases h

theorem equal_fields {d : Nat} {D : Nat} (ih : ∀ (t : TypeId) (ks : List SK), kindsT P d t = some ks → ∀ (as bs : List V) (us zs : List Value) (b : Bool),
      VRs ι w as us → VRs ι w bs zs → seqs ks as bs = some b → (Op.equalIn D t (pack P t us) (pack P t zs)).run P w = .ok b w) :
    ∀ (fs : List Field) (o : Nat) (ks : List SK), kindsF P (kindsT P d) o fs = some ks →
      ∀ (pu pz us zs : List Value) (as bs : List V) (b : Bool), pu.length = o → pz.length = o → VRs ι w as us → VRs ι w bs zs → seqs ks as bs = some b →
        (Op.eqFields D ⟨pu ++ us⟩ ⟨pz ++ zs⟩ fs).run P w = .ok b w
  | [], o, ks, hc, pu, pz, us, zs, as, bs, b, _, _, _, _, hb => by
    simp only [kindsF] at hc
    cases hc
    match as, bs, hb with
    | [], [], hb => simp only [seqs] at hb; cases hb; simp [Op.eqFields]
  | f :: fs, o, ks, hc, pu, pz, us, zs, as, bs, b, hpu, hpz, hu, hz, hb => by
    obtain ⟨k1, k2, h1, hname, ho, h2, rfl⟩ := kindsF_cons hc
    obtain ⟨hla, hlb⟩ := seqs_len hb
    obtain ⟨x, y, hx, hy, rfl⟩ := seqs_append hb
    have hlu := hu.length
    have hlz := hz.length
    rw [List.length_append] at hla hlb
    have p1 := run_part_at (w := w) h1 pu us f.offset (by omega) (by omega)
    have p2 := run_part_at (w := w) h1 pz zs f.offset (by omega) (by omega)
    have p3 := ih f.type k1 h1 _ _ _ _ x (hu.take k1.length) (hz.take k1.length) hx
    simp only [Op.eqFields, if_pos hname, Sem.run_bind, p1, p2, p3, Result.andThen_ok]
    cases x with
    | false => simp
    | true =>
      simp only [Bool.not_true, Bool.false_eq_true, if_false, Bool.true_and]
      have := equal_fields ih fs (o + k1.length) k2 h2 (pu ++ us.take k1.length) (pz ++ zs.take k1.length) (us.drop k1.length) (zs.drop k1.length) (as.drop k1.length) (bs.drop k1.length) y
        (by simp; omega) (by simp; omega) (hu.drop _) (hz.drop _) hy
      rw [List.append_assoc, List.append_assoc, List.take_append_drop, List.take_append_drop] at this
      exact this

theorem equal_plain : ∀ (d : Nat) (D : Nat), d ≤ D → ∀ (t : TypeId) (ks : List SK), kindsT P d t = some ks → ∀ (as bs : List V) (us zs : List Value) (b : Bool),
      VRs ι w as us → VRs ι w bs zs → seqs ks as bs = some b → (Op.equalIn D t (pack P t us) (pack P t zs)).run P w = .ok b w := by
  intro d
  induction d with
  | zero => intro D _ t ks h; simp [kindsT] at h
  | succ d ih =>
    intro D hD t ks h as bs us zs b hu hz hq
    obtain ⟨D, rfl⟩ : ∃ k, D = k + 1 := ⟨D - 1, by omega⟩
    unfold kindsT at h
    split at h
    · rename_i ks' s hk hs
      cases hb : Nat.beq ks'.length s with
      | false => simp [hb] at h
      | true =>
        simp [hb] at h; subst h
        split at hk
        case h_5 => cases hk
        case h_4 fs hun =>
          have hag : isAggT P t = some true := by simp [isAggT, hun]
          have hfo : P.fieldsOf t = fs := by simp [Program.fieldsOf, hun]
          cases hst : P.stoodInHeld t with
          | true => simp [hst] at hk
          | false =>
            simp only [hst, cond_false] at hk
            simp only [pack, hag]
            rw [run_equalIn_struct w D t ⟨us⟩ ⟨zs⟩ (by rw [hfo]; exact hun) hst, hfo]
            exact equal_fields (fun t ks h as bs us zs b => ih D (by omega) t ks h as bs us zs b) fs.toList 0 ks' hk [] [] us zs as bs b rfl rfl hu hz hq
        all_goals
          rename_i hun
          have hag : isAggT P t = some false := by simp [isAggT, hun]
          cases hk
          obtain ⟨hla, hlb⟩ := seqs_len hq
          obtain ⟨v, rfl⟩ : ∃ v, as = [v] := by
            match as, hla with
            | [v], _ => exact ⟨v, rfl⟩
          obtain ⟨v', rfl⟩ : ∃ v, bs = [v] := by
            match bs, hlb with
            | [v], _ => exact ⟨v, rfl⟩
          · cases hu with
            | cons _ u _ us' hu hu' =>
              cases hu'
              cases hz with
              | cons _ z _ zs' hz hz' =>
                cases hz'
                simp only [pack, hag, List.headD_cons]
                simp only [seqs] at hq
                split at hq
                · rename_i x y hx hy
                  cases hy; cases hq
                  rw [Bool.and_true]
                  rcases seq_runs hu hz hx with ⟨hk, p, q, rfl, rfl, rfl⟩ | ⟨hk, k, p, q, rfl, rfl, rfl⟩ | ⟨hk, p, q, rfl, rfl, rfl⟩ <;> first | (cases hk; done) | skip
                  first
                  | exact run_equalIn_bool w D t p q hun
                  | exact run_equalIn_int w D t k _ p q hun
                  | (rw [run_equalIn_string w D t p q hun, list_toList, list_toList]; done)
                · cases hq
    · cases h
end
end Go.CM
