/-
  diff: what is joined (plain).
-/
import Derived.Test.YtebhddpildfgcaaDiffK
namespace Go.Proofs.Ytebhddpildfgcaa
open Go Go.CM
set_option maxRecDepth 100000
set_option maxHeartbeats 4000000

abbrev rnm (r : Rec) : Nm := enm r.e
def cng (r : Rec) : Bool := decide (r.kind = 1) || decide (r.kind = 2)
/-- The last change of a name. -/
def stepO (n : Nm) (o : Option Rec) (r : Rec) : Option Rec := if rnm r = n then (if r.kind = 1 then some r else if r.kind = 2 then some (dropR n) else o) else o
def lastF (o : Option Rec) (rs : List Rec) (n : Nm) : Option Rec := rs.foldl (stepO n) o
abbrev lastR (rs : List Rec) (n : Nm) : Option Rec := lastF none rs n
def zrec : Rec := ⟨0, Entry.zero⟩

theorem getJ_put (jm : JM) (n m : Nm) (r : Rec) : getJ (putJ jm n r) m = if n = m then some r else getJ jm m := by
  have hj : ∀ (k : Nm) (p : Nm × Rec), isJ k p = decide (p.1 = k) := isJ_eq
  unfold putJ getJ
  induction jm with
  | nil =>
    simp only [List.findIdx?_nil, List.nil_append, List.find?_cons, List.find?_nil, hj]
    by_cases h : n = m <;> simp [h]
  | cons x jm ih =>
    simp only [List.findIdx?_cons, hj n x]
    by_cases hx : x.1 = n
    · simp only [decide_eq_true hx, if_true, List.set_cons_zero, List.find?_cons, hj m]
      by_cases h : n = m
      · simp [h]
      · simp [h, show x.1 ≠ m from fun e => h (hx.symm.trans e)]
    · simp only [decide_eq_false hx]
      cases hf : jm.findIdx? (isJ n) with
      | none =>
        rw [hf] at ih
        simp only [Option.map_none, List.cons_append, List.find?_cons, hj m, Bool.false_eq_true, if_false] at ih ⊢
        by_cases h : x.1 = m
        · simp only [decide_eq_true h, Option.map_some]
          rw [if_neg (fun e => hx (h.trans e.symm))]
        · simp only [decide_eq_false h]
          exact ih
      | some i =>
        rw [hf] at ih
        simp only [Option.map_some, List.set_cons_succ, List.find?_cons, hj m, Bool.false_eq_true, if_false] at ih ⊢
        by_cases h : x.1 = m
        · simp only [decide_eq_true h, Option.map_some]
          rw [if_neg (fun e => hx (h.trans e.symm))]
        · simp only [decide_eq_false h]
          exact ih
theorem getJ_step (jm : JM) (r : Rec) (n : Nm) : getJ (stepJ jm r) n = stepO n (getJ jm n) r := by
  unfold stepJ stepO
  split
  · rename_i k1
    rw [getJ_put]
  · rename_i k1
    split
    · rename_i k2
      rw [getJ_put]
      by_cases h : rnm r = n
      · rw [if_pos h, if_pos h, ← h]
      · rw [if_neg h, if_neg h]
    · split <;> simp
theorem getJ_join : ∀ (rs : List Rec) (jm : JM) (n : Nm), getJ (joinM jm rs) n = lastF (getJ jm n) rs n
  | [], _, _ => rfl
  | r :: rs, jm, n => by
    have := getJ_join rs (stepJ jm r) n
    rw [getJ_step] at this
    exact this
theorem keys_put (jm : JM) (n : Nm) (r : Rec) (h : (jm.map (·.1)).Nodup) : ((putJ jm n r).map (·.1)).Nodup ∧ ∀ m, m ∈ (putJ jm n r).map (·.1) ↔ m = n ∨ m ∈ jm.map (·.1) := by
  unfold putJ
  cases hf : jm.findIdx? (isJ n) with
  | none =>
    have hout : n ∉ jm.map (·.1) := fun hm => by
      obtain ⟨i, _, h1, _⟩ := jm_has hm
      rw [hf] at h1; cases h1
    simp only [List.map_append, List.map_cons, List.map_nil]
    refine ⟨List.nodup_append.2 ⟨h, by simp, fun a ha b hb => ?_⟩, fun m => ?_⟩
    · rw [List.mem_singleton] at hb
      rintro rfl
      exact hout (hb ▸ ha)
    · rw [List.mem_append, List.mem_singleton]
      exact Or.comm
  | some i =>
    have hi := List.findIdx?_eq_some_iff_getElem.1 hf
    obtain ⟨hlt, hp, _⟩ := hi
    have he : (jm.set i (n, r)).map (·.1) = jm.map (·.1) := by
      rw [List.map_set]
      have h4 : (jm.map (·.1))[i]'(by simpa using hlt) = n := by
        rw [List.getElem_map]
        rw [isJ_eq] at hp
        simpa using hp
      show (jm.map (·.1)).set i n = _
      rw [← h4, List.set_getElem_self]
    simp only
    rw [he]
    refine ⟨h, fun m => ⟨.inr, ?_⟩⟩
    rintro (rfl | hm)
    · rw [← he]
      exact List.mem_map.2 ⟨(m, r), List.mem_set hlt (m, r), rfl⟩
    · exact hm
theorem keys_join : ∀ (rs : List Rec) (jm : JM), (jm.map (·.1)).Nodup → ((joinM jm rs).map (·.1)).Nodup ∧ ∀ m, m ∈ (joinM jm rs).map (·.1) ↔ (∃ r ∈ rs, cng r = true ∧ rnm r = m) ∨ m ∈ jm.map (·.1)
  | [], _, h => ⟨h, fun m => by simp [joinM]⟩
  | r :: rs, jm, h => by
    have h1 : ((stepJ jm r).map (·.1)).Nodup ∧ ∀ m, m ∈ (stepJ jm r).map (·.1) ↔ (cng r = true ∧ m = rnm r) ∨ m ∈ jm.map (·.1) := by
      unfold stepJ cng
      split
      · rename_i k1
        obtain ⟨h2, h3⟩ := keys_put jm (enm r.e) r h
        exact ⟨h2, fun m => by rw [h3]; simp [k1]⟩
      · split
        · rename_i k1 k2
          obtain ⟨h2, h3⟩ := keys_put jm (enm r.e) (dropR (enm r.e)) h
          exact ⟨h2, fun m => by rw [h3]; simp [k2]⟩
        · rename_i k1 k2
          exact ⟨h, fun m => by simp [k1, k2]⟩
    obtain ⟨h2, h3⟩ := keys_join rs (stepJ jm r) h1.1
    refine ⟨h2, fun m => ?_⟩
    show m ∈ (joinM (stepJ jm r) rs).map (·.1) ↔ _
    rw [h3, h1.2]
    simp only [List.mem_cons, exists_eq_or_imp]
    constructor
    · rintro (h | ⟨h, rfl⟩ | h)
      · exact .inl (.inr h)
      · exact .inl (.inl ⟨h, rfl⟩)
      · exact .inr h
    · rintro ((⟨h, rfl⟩ | h) | h)
      · exact .inr (.inl ⟨h, rfl⟩)
      · exact .inl h
      · exact .inr (.inr h)
theorem SrtN.ext : ∀ {a b : List Nm}, SrtN a → SrtN b → (∀ n, n ∈ a ↔ n ∈ b) → a = b
  | [], [], _, _, _ => rfl
  | [], y :: ys, _, _, h => absurd ((h y).2 (by simp)) (by simp)
  | x :: xs, b, ha, hb, h => by
    have ha' := List.pairwise_cons.1 ha
    obtain ⟨ns', rfl, hs, hm⟩ := srtN_head hb ((h x).1 (by simp)) (fun m hm => by
      rcases List.mem_cons.1 ((h m).2 hm) with e | e
      · exact .inl e
      · exact .inr (ha'.1 m e))
    congr 1
    refine SrtN.ext ha'.2 hs fun n => ?_
    rw [hm, ← h, List.mem_cons]
    constructor
    · intro hn
      exact ⟨.inr hn, (ahd_ne (ha'.1 n hn)).symm⟩
    · rintro ⟨hn | hn, hne⟩
      · exact absurd hn hne
      · exact hn
theorem pw_srtN {ks : List Nm} (h : ks.Pairwise (fun x y => ahd y x = false)) (hn : ks.Nodup) : SrtN ks := by
  induction ks with
  | nil => exact List.Pairwise.nil
  | cons a l ih =>
    have h' := List.pairwise_cons.1 h
    have hn' := List.nodup_cons.1 hn
    refine List.pairwise_cons.2 ⟨fun b hb => ?_, ih h'.2 hn'.2⟩
    cases hx : ahd a b with
    | true => rfl
    | false => exact absurd (ahd_tri hx (h'.1 b hb)) fun e => hn'.1 (e ▸ hb)
/-- The names of which records tell, as bare entries in order. -/
def nmsE (rs : List Rec) : List Entry := srtL ((rs.filter cng).map fun r => dropE (rnm r))
theorem nmsE_srt (rs : List Rec) : Srt (nmsE rs) := putsL_srt .nil
theorem puts_get : ∀ (es : List Entry) {l : List Entry} {n : Nm}, Srt l → ((getL (putsL l es) n).isSome = true ↔ (∃ e ∈ es, enm e = n) ∨ (getL l n).isSome = true)
  | [], _, _, _ => by simp [putsL]
  | e :: es, l, n, h => by
    have ih := puts_get es (n := n) (h.put e)
    show (getL (putsL (putL l e) es) n).isSome = true ↔ _
    rw [ih, getL_put h]
    by_cases hn : enm e = n
    · simp [hn]
    · simp [hn]
theorem getL_mem_iff {l : List Entry} {n : Nm} : (getL l n).isSome = true ↔ n ∈ l.map enm := by
  cases h : getL l n with
  | none =>
    have := getL_none.1 h
    simp only [Option.isSome_none, Bool.false_eq_true, false_iff]
    exact fun hm => by obtain ⟨e, h1, h2⟩ := List.mem_map.1 hm; exact this e h1 h2
  | some e =>
    simp only [Option.isSome_some, true_iff]
    exact List.mem_map.2 ⟨e, getL_mem h, getL_nm h⟩
theorem nmsE_mem {rs : List Rec} {n : Nm} : n ∈ (nmsE rs).map enm ↔ ∃ r ∈ rs, cng r = true ∧ rnm r = n := by
  rw [← getL_mem_iff, nmsE, srtL, puts_get _ .nil]
  simp only [getL, List.find?_nil, Option.isSome_none, Bool.false_eq_true, or_false]
  constructor
  · rintro ⟨e, he, hn⟩
    obtain ⟨r, h1, rfl⟩ := List.mem_map.1 he
    rw [List.mem_filter] at h1
    exact ⟨r, h1.1, h1.2, hn⟩
  · rintro ⟨r, h1, h2, h3⟩
    exact ⟨dropE (rnm r), List.mem_map.2 ⟨r, List.mem_filter.2 ⟨h1, h2⟩, rfl⟩, h3⟩
theorem Srt.names {l : List Entry} (h : Srt l) : SrtN (l.map enm) := List.pairwise_map.2 h
/-- What is joined. -/
def joinR (rs : List Rec) : List Rec := ((nmsE rs).map enm).map fun n => (lastR rs n).getD zrec
/-- The program's answer is it. -/
theorem join_is {rs : List Rec} {ks : List Nm} (hp : ks.Perm ((joinM [] rs).map (·.1))) (hs : ks.Pairwise (fun x y => ahd y x = false)) : (ks.map fun n => (getJ (joinM [] rs) n).getD ⟨0, Entry.zero⟩) = joinR rs := by
  obtain ⟨h1, h2⟩ := keys_join rs [] List.nodup_nil
  have hk : ks = (nmsE rs).map enm := by
    refine SrtN.ext (pw_srtN hs (hp.nodup_iff.2 h1)) (nmsE_srt rs).names fun n => ?_
    rw [hp.mem_iff, h2, nmsE_mem]
    simp
  rw [joinR, ← hk]
  exact List.map_congr_left fun n _ => by rw [getJ_join]; rfl

theorem lastF_out {n : Nm} : ∀ {rs : List Rec} {o : Option Rec}, (¬ ∃ r ∈ rs, cng r = true ∧ rnm r = n) → lastF o rs n = o
  | [], _, _ => rfl
  | x :: xs, o, hx => by
    have h1 : stepO n o x = o := by
      unfold stepO
      split
      · rename_i hn
        split
        · rename_i k; exact absurd ⟨x, by simp, by simp [cng, k], hn⟩ hx
        · split
          · rename_i k; exact absurd ⟨x, by simp, by simp [cng, k], hn⟩ hx
          · rfl
      · rfl
    show lastF (stepO n o x) xs n = o
    rw [h1]
    exact lastF_out fun ⟨y, hy, h2⟩ => hx ⟨y, List.mem_cons_of_mem _ hy, h2⟩
theorem lastF_in {n : Nm} : ∀ (rs : List Rec) (o : Option Rec), (∃ r ∈ rs, cng r = true ∧ rnm r = n) → ∃ r, lastF o rs n = some r ∧ rnm r = n ∧ (r.kind = 1 ∨ r = dropR n)
  | [], _, h => by obtain ⟨r, hr, _⟩ := h; cases hr
  | y :: rs, o, h => by
    by_cases hr : ∃ r ∈ rs, cng r = true ∧ rnm r = n
    · exact lastF_in rs (stepO n o y) hr
    · obtain ⟨x, hx, hc, hn⟩ := h
      have hxy : x = y := by
        rcases List.mem_cons.1 hx with e | hx
        · exact e
        · exact absurd ⟨x, hx, hc, hn⟩ hr
      subst hxy
      have e1 : lastF o (x :: rs) n = stepO n o x := lastF_out hr
      rw [e1]
      unfold stepO
      rw [if_pos hn]
      by_cases k : x.kind = 1
      · rw [if_pos k]; exact ⟨x, rfl, hn, .inl k⟩
      · have k2 : x.kind = 2 := by simpa [cng, k] using hc
        rw [if_neg k, if_pos k2]
        exact ⟨dropR n, rfl, rfl, .inr rfl⟩
/-- What records make of a name. -/
def valO (o : Option Rec) (g : Option Entry) : Option Entry := match o with
  | none => g
  | some r => if r.kind = 1 then some r.e else none
theorem apply_get (Z0 : List Entry) (n : Nm) : ∀ (rs : List Rec) {Z : List Entry} {o : Option Rec}, Srt Z → getL Z n = valO o (getL Z0 n) → getL (applyL Z rs) n = valO (lastF o rs n) (getL Z0 n)
  | [], _, _, _, h => h
  | r :: rs, Z, o, hZ, h => by
    refine apply_get Z0 n rs (Z := stepL Z r) (o := stepO n o r) (stepL_srt hZ r) ?_
    unfold stepL stepO
    split
    · rename_i k1
      rw [getL_put hZ]
      by_cases hn : enm r.e = n
      · rw [if_pos hn, if_pos (show rnm r = n from hn), valO, if_pos k1]
      · rw [if_neg hn, if_neg (show rnm r ≠ n from hn)]; exact h
    · split
      · rename_i k1 k2
        rw [getL_drop hZ]
        by_cases hn : enm r.e = n
        · rw [if_pos hn, if_pos (show rnm r = n from hn)]; rfl
        · rw [if_neg hn, if_neg (show rnm r ≠ n from hn)]; exact h
      · rename_i k1 k2
        simpa using h
/-- The names of what is joined. -/
theorem joinR_names (rs : List Rec) : (joinR rs).map rnm = (nmsE rs).map enm := by
  rw [joinR, List.map_map]
  refine (List.map_congr_left fun n hn => ?_).trans (List.map_id _)
  obtain ⟨r, h1, h2, _⟩ := lastF_in _ none (nmsE_mem.1 hn)
  show rnm ((lastF none rs n).getD zrec) = n
  rw [h1]; exact h2
theorem joinR_mem {rs : List Rec} {r : Rec} (h : r ∈ joinR rs) : (r.kind = 1 ∨ r = dropR (rnm r)) ∧ lastR rs (rnm r) = some r := by
  obtain ⟨n, hn, rfl⟩ := List.mem_map.1 h
  obtain ⟨r, h1, h2, h3⟩ := lastF_in _ none (nmsE_mem.1 hn)
  rw [show lastR rs n = some r from h1, Option.getD_some, h2]
  exact ⟨h3, h1⟩
theorem joinR_cng {rs : List Rec} {r : Rec} (h : r ∈ joinR rs) : cng r = true := by
  rcases (joinR_mem h).1 with h | h
  · simp [cng, h]
  · rw [h]; rfl
/-- Each name once: the last change is the only one. -/
theorem last_once {n : Nm} : ∀ (js : List Rec) (o : Option Rec), (js.map rnm).Nodup → (∀ r ∈ js, r.kind = 1 ∨ r = dropR (rnm r)) → ∀ r ∈ js, rnm r = n → lastF o js n = some r
  | [], _, _, _, r, hr, _ => by cases hr
  | x :: js, o, hnd, hk, r, hr, hn => by
    have hnd' := List.nodup_cons.1 hnd
    have e1 : lastF o (x :: js) n = lastF (stepO n o x) js n := rfl
    rw [e1]
    rcases List.mem_cons.1 hr with e | hr
    · subst e
      rw [lastF_out]
      · unfold stepO
        rw [if_pos hn]
        rcases hk r (by simp) with k | k
        · rw [if_pos k]
        · rw [k, ← hn]; rfl
      · rintro ⟨y, hy, _, h2⟩
        exact hnd'.1 (List.mem_map.2 ⟨y, hy, h2.trans hn.symm⟩)
    · exact last_once js _ hnd'.2 (fun y hy => hk y (List.mem_cons_of_mem _ hy)) r hr hn
theorem joinR_last (rs : List Rec) (n : Nm) : lastR (joinR rs) n = lastR rs n := by
  by_cases h : ∃ r ∈ rs, cng r = true ∧ rnm r = n
  · have hn : n ∈ (joinR rs).map rnm := by rw [joinR_names]; exact nmsE_mem.2 h
    obtain ⟨r, hr, rfl⟩ := List.mem_map.1 hn
    rw [(joinR_mem hr).2]
    exact last_once _ _ (by rw [joinR_names]; exact (nmsE_srt rs).names.nodup) (fun y hy => (joinR_mem hy).1) r hr rfl
  · rw [lastR, lastR, lastF_out h, lastF_out]
    rintro ⟨r, hr, _, rfl⟩
    exact h (nmsE_mem.1 (by rw [← joinR_names]; exact List.mem_map_of_mem hr))
/-- Joined records change as the records do. -/
theorem apply_joined {Z : List Entry} (hZ : Srt Z) (rs : List Rec) : applyL Z (joinR rs) = applyL Z rs :=
  (applyL_srt _ hZ).ext (applyL_srt _ hZ) fun n => by
    rw [apply_get Z n (joinR rs) (o := none) hZ rfl, apply_get Z n rs (o := none) hZ rfl]
    exact congrArg (fun o => valO o _) (joinR_last rs n)
/-- What is in order stays. -/
theorem putL_end {A : List Entry} {e : Entry} (h : ∀ a ∈ A, ahd (enm a) (enm e) = true) : putL A e = A ++ [e] := by
  have hp : plN A (enm e) = A.length := by
    unfold plN
    have := while_app (p := fun x => ahd (enm x) (enm e)) (A := A) (B := []) h (fun b hb => by cases hb)
    rw [List.append_nil] at this
    rw [this]
  have hi : isN A (enm e) = false := by
    rw [isN, hp, decide_eq_false (by omega), Bool.false_and]
  rw [putL, hi, hp]
  simp
theorem puts_srt : ∀ (es A : List Entry), Srt (A ++ es) → putsL A es = A ++ es
  | [], A, _ => (List.append_nil A).symm
  | e :: es, A, h => by
    have h' := Srt.app.1 h
    show putsL (putL A e) es = _
    rw [putL_end fun a ha => h'.2.2 a ha e (by simp)]
    have := puts_srt es (A ++ [e]) (by simpa using h)
    rw [this]; simp
theorem srtL_id {l : List Entry} (h : Srt l) : srtL l = l := puts_srt l [] h
theorem nmsE_bare {rs : List Rec} {e : Entry} (h : e ∈ nmsE rs) : e = dropE (enm e) := by
  have key : ∀ (es : List Entry) (l : List Entry), Srt l → (∀ e ∈ es, e = dropE (enm e)) → (∀ e ∈ l, e = dropE (enm e)) → ∀ e ∈ putsL l es, e = dropE (enm e) := by
    intro es
    induction es with
    | nil => exact fun l _ _ h => h
    | cons x es ih =>
      intro l hs h1 h2
      refine ih (putL l x) (hs.put x) (fun e he => h1 e (List.mem_cons_of_mem _ he)) fun e he => ?_
      have hg := (hs.put x).mem_get he
      rw [getL_put hs] at hg
      split at hg
      · cases hg; exact h1 _ (by simp)
      · exact h2 _ (getL_mem hg)
  refine key _ [] .nil (fun e he => ?_) (by simp) e h
  obtain ⟨r, _, rfl⟩ := List.mem_map.1 he
  rfl
/-- What was joined is joined. -/
theorem joinR_id (rs : List Rec) : joinR (joinR rs) = joinR rs := by
  have h1 : nmsE (joinR rs) = nmsE rs := by
    rw [nmsE, List.filter_eq_self.2 fun r hr => joinR_cng hr]
    have : (joinR rs).map (fun r => dropE (rnm r)) = nmsE rs := by
      have e1 : (joinR rs).map (fun r => dropE (rnm r)) = ((joinR rs).map rnm).map dropE := by rw [List.map_map]; rfl
      rw [e1, joinR_names, List.map_map]
      exact (List.map_congr_left fun e he => (nmsE_bare he).symm).trans (List.map_id _)
    rw [this]
    exact srtL_id (nmsE_srt rs)
  have e1 : joinR (joinR rs) = ((nmsE (joinR rs)).map enm).map fun n => (lastR (joinR rs) n).getD zrec := rfl
  rw [e1, h1]
  exact List.map_congr_left fun n _ => by rw [joinR_last]
end Go.Proofs.Ytebhddpildfgcaa
