/-
  Lists in order, as what they have of each name.
-/
import Derived.Test.YtebhddpildfgcaaEntryA
namespace Go.Proofs.Ytebhddpildfgcaa
open Go Go.CM
set_option maxRecDepth 100000
set_option maxHeartbeats 4000000

theorem while_app {p : Entry → Bool} : ∀ {A B : List Entry}, (∀ a ∈ A, p a = true) → (∀ b, B.head? = some b → p b = false) → (A ++ B).takeWhile p = A
  | [], [], _, _ => rfl
  | [], b :: B, _, h => by simp [h b rfl]
  | a :: A, B, h, h' => by
    rw [List.cons_append, List.takeWhile_cons_of_pos (h a (by simp)), while_app (fun x hx => h x (List.mem_cons_of_mem _ hx)) h']
/-- In order, each name once. -/
def Srt (l : List Entry) : Prop := l.Pairwise fun a b => ahd (enm a) (enm b) = true
theorem Srt.nil : Srt [] := List.Pairwise.nil
/-- Where a name stands. -/
theorem Srt.at {l : List Entry} (h : Srt l) (n : Nm) : ∃ A B, (∀ a ∈ A, ahd (enm a) n = true) ∧ (∀ b ∈ B, ahd n (enm b) = true) ∧ plN l n = A.length ∧ ((l = A ++ B ∧ isN l n = false) ∨ ∃ x, enm x = n ∧ l = A ++ x :: B ∧ isN l n = true) := by
  induction l with
  | nil => exact ⟨[], [], by simp, by simp, rfl, .inl ⟨rfl, rfl⟩⟩
  | cons y l ih =>
    have hy := (List.pairwise_cons.1 h).1
    have hl := (List.pairwise_cons.1 h).2
    cases ha : ahd (enm y) n with
    | true =>
      obtain ⟨A, B, h1, h2, h3, h4⟩ := ih hl
      have hp : plN (y :: l) n = plN l n + 1 := by unfold plN; rw [List.takeWhile_cons_of_pos (by exact ha)]; rfl
      have hb : isN (y :: l) n = isN l n := by
        unfold isN
        rw [hp, nth_succ]
        congr 1
        rw [List.length_cons]; simp
      refine ⟨y :: A, B, ?_, h2, by rw [hp, h3]; rfl, ?_⟩
      · intro a h; rcases List.mem_cons.1 h with rfl | h
        · exact ha
        · exact h1 a h
      · rw [hb]
        rcases h4 with ⟨e, k⟩ | ⟨x, e1, e2, k⟩
        · exact .inl ⟨by rw [e]; rfl, k⟩
        · exact .inr ⟨x, e1, by rw [e2]; rfl, k⟩
    | false =>
      have hp : plN (y :: l) n = 0 := by unfold plN; rw [List.takeWhile_cons_of_neg (by rw [ha]; simp)]; rfl
      have hb : isN (y :: l) n = decide (enm y = n) := by unfold isN; rw [hp, nth_zero]; simp
      by_cases he : enm y = n
      · exact ⟨[], l, by simp, fun b h => by rw [← he]; exact hy b h, hp, .inr ⟨y, he, rfl, by rw [hb]; exact decide_eq_true he⟩⟩
      · have hn : ahd n (enm y) = true := by
          cases h : ahd n (enm y) with
          | true => rfl
          | false => exact absurd (ahd_tri ha h) he
        refine ⟨[], y :: l, by simp, ?_, hp, .inl ⟨rfl, by rw [hb]; exact decide_eq_false he⟩⟩
        intro b h; rcases List.mem_cons.1 h with rfl | h
        · exact hn
        · exact ahd_trans hn (hy b h)
/-- What a list has of a name. -/
def getL (l : List Entry) (n : Nm) : Option Entry := l.find? fun e => decide (enm e = n)
theorem getL_nm {l : List Entry} {n : Nm} {e : Entry} (h : getL l n = some e) : enm e = n := by
  have := List.find?_some h; simpa using this
theorem getL_mem {l : List Entry} {n : Nm} {e : Entry} (h : getL l n = some e) : e ∈ l := List.mem_of_find?_eq_some h
theorem getL_none {l : List Entry} {n : Nm} : getL l n = none ↔ ∀ e ∈ l, enm e ≠ n := by simp [getL]
theorem getL_app {A B : List Entry} {n : Nm} (h : ∀ a ∈ A, enm a ≠ n) : getL (A ++ B) n = getL B n := by
  unfold getL
  rw [List.find?_append, List.find?_eq_none.2 (by simpa using h)]; rfl
theorem getL_out {A B : List Entry} {n : Nm} (h : ∀ b ∈ B, enm b ≠ n) : getL (A ++ B) n = getL A n := by
  unfold getL
  rw [List.find?_append, show B.find? (fun e => decide (enm e = n)) = none from List.find?_eq_none.2 (by simpa using h)]
  cases A.find? (fun e => decide (enm e = n)) <;> rfl
theorem getL_cons (e : Entry) (l : List Entry) (n : Nm) : getL (e :: l) n = if enm e = n then some e else getL l n := by
  unfold getL
  by_cases h : enm e = n <;> simp [h]
theorem Srt.getL_pl {l : List Entry} (h : Srt l) (n : Nm) : getL l n = if isN l n then some (nth l (plN l n)) else none := by
  obtain ⟨A, B, h1, h2, h3, ⟨rfl, k⟩ | ⟨x, e, rfl, k⟩⟩ := h.at n
  · rw [k, if_neg (by simp)]
    rw [getL_none]
    intro e he
    rcases List.mem_append.1 he with he | he
    · exact ahd_ne (h1 e he)
    · exact (ahd_ne (h2 e he)).symm
  · rw [k, if_pos rfl, h3, getL_app fun a ha => ahd_ne (h1 a ha), getL_cons, if_pos e]
    rw [nth_eq, List.getD_eq_getElem?_getD, List.getElem?_append_right (Nat.le_refl _)]
    simp
theorem Srt.app {A B : List Entry} : Srt (A ++ B) ↔ Srt A ∧ Srt B ∧ ∀ a ∈ A, ∀ b ∈ B, ahd (enm a) (enm b) = true := List.pairwise_append
theorem Srt.cons {x : Entry} {B : List Entry} : Srt (x :: B) ↔ (∀ b ∈ B, ahd (enm x) (enm b) = true) ∧ Srt B := List.pairwise_cons
theorem putL_at {l : List Entry} (h : Srt l) (e : Entry) : ∃ A B, (∀ a ∈ A, ahd (enm a) (enm e) = true) ∧ (∀ b ∈ B, ahd (enm e) (enm b) = true) ∧ putL l e = A ++ e :: B ∧ ((l = A ++ B) ∨ ∃ x, enm x = enm e ∧ l = A ++ x :: B) := by
  obtain ⟨A, B, h1, h2, h3, ⟨rfl, k⟩ | ⟨x, e', rfl, k⟩⟩ := h.at (enm e)
  · refine ⟨A, B, h1, h2, ?_, .inl rfl⟩
    rw [putL, k, if_neg (by simp), h3, List.take_left', List.drop_left'] <;> rfl
  · refine ⟨A, B, h1, h2, ?_, .inr ⟨x, e', rfl⟩⟩
    rw [putL, k, if_pos rfl, h3, List.take_left' rfl, show A ++ x :: B = (A ++ [x]) ++ B by simp, List.drop_left' (by simp)]
theorem dropL_at {l : List Entry} (h : Srt l) (n : Nm) : ∃ A B, (∀ a ∈ A, ahd (enm a) n = true) ∧ (∀ b ∈ B, ahd n (enm b) = true) ∧ dropL l n = A ++ B ∧ ((l = A ++ B) ∨ ∃ x, enm x = n ∧ l = A ++ x :: B) := by
  obtain ⟨A, B, h1, h2, h3, ⟨rfl, k⟩ | ⟨x, e', rfl, k⟩⟩ := h.at n
  · refine ⟨A, B, h1, h2, ?_, .inl rfl⟩
    rw [dropL, k, if_neg (by simp), h3, List.take_left', List.drop_left'] <;> rfl
  · refine ⟨A, B, h1, h2, ?_, .inr ⟨x, e', rfl⟩⟩
    rw [dropL, k, if_pos rfl, h3, List.take_left' rfl, show A ++ x :: B = (A ++ [x]) ++ B by simp, List.drop_left' (by simp)]
theorem Srt.ends {l A B : List Entry} (h : Srt l) (hl : l = A ++ B ∨ ∃ x, l = A ++ x :: B) : Srt A ∧ Srt B := by
  rcases hl with rfl | ⟨x, rfl⟩
  · exact ⟨(Srt.app.1 h).1, (Srt.app.1 h).2.1⟩
  · exact ⟨(Srt.app.1 h).1, (Srt.cons.1 (Srt.app.1 h).2.1).2⟩
theorem Srt.put {l : List Entry} (h : Srt l) (e : Entry) : Srt (putL l e) := by
  obtain ⟨A, B, h1, h2, h3, h4⟩ := putL_at h e
  have hAB := h.ends (h4.imp id fun ⟨x, _, k⟩ => ⟨x, k⟩)
  rw [h3]
  refine Srt.app.2 ⟨hAB.1, Srt.cons.2 ⟨h2, hAB.2⟩, fun a ha b hb => ?_⟩
  rcases List.mem_cons.1 hb with rfl | hb
  · exact h1 a ha
  · exact ahd_trans (h1 a ha) (h2 b hb)
theorem Srt.drp {l : List Entry} (h : Srt l) (n : Nm) : Srt (dropL l n) := by
  obtain ⟨A, B, h1, h2, h3, h4⟩ := dropL_at h n
  have hAB := h.ends (h4.imp id fun ⟨x, _, k⟩ => ⟨x, k⟩)
  rw [h3]
  exact Srt.app.2 ⟨hAB.1, hAB.2, fun a ha b hb => ahd_trans (h1 a ha) (h2 b hb)⟩
theorem getL_mid {A B : List Entry} {x : Entry} {n : Nm} (h : enm x ≠ n) : getL (A ++ x :: B) n = getL (A ++ B) n := by
  unfold getL
  rw [List.find?_append, List.find?_append, List.find?_cons_of_neg (by simpa using h)]
theorem getL_put {l : List Entry} (h : Srt l) (e : Entry) (n : Nm) : getL (putL l e) n = if enm e = n then some e else getL l n := by
  obtain ⟨A, B, h1, h2, h3, h4⟩ := putL_at h e
  rw [h3]
  by_cases he : enm e = n
  · rw [if_pos he, getL_app fun a ha => he ▸ ahd_ne (h1 a ha), getL_cons, if_pos he]
  · rw [if_neg he, getL_mid he]
    rcases h4 with rfl | ⟨x, e', rfl⟩
    · rfl
    · rw [getL_mid (e' ▸ he)]
theorem getL_drop {l : List Entry} (h : Srt l) (m n : Nm) : getL (dropL l m) n = if m = n then none else getL l n := by
  obtain ⟨A, B, h1, h2, h3, h4⟩ := dropL_at h m
  rw [h3]
  by_cases he : m = n
  · subst he
    rw [if_pos rfl, getL_none]
    intro e he
    rcases List.mem_append.1 he with he | he
    · exact ahd_ne (h1 e he)
    · exact (ahd_ne (h2 e he)).symm
  · rw [if_neg he]
    rcases h4 with rfl | ⟨x, e', rfl⟩
    · rfl
    · rw [getL_mid (e' ▸ he)]
theorem Srt.mem_get {l : List Entry} (h : Srt l) {e : Entry} (he : e ∈ l) : getL l (enm e) = some e := by
  obtain ⟨A, B, rfl⟩ := List.append_of_mem he
  rw [getL_app fun a ha => ahd_ne ((Srt.app.1 h).2.2 a ha e (by simp)), getL_cons, if_pos rfl]
/-- Two lists in order that have the same of each name are one. -/
theorem Srt.ext : ∀ {l r : List Entry}, Srt l → Srt r → (∀ n, getL l n = getL r n) → l = r
  | [], [], _, _, _ => rfl
  | [], b :: r, _, _, h => by have := h (enm b); rw [getL_cons, if_pos rfl] at this; cases this
  | a :: l, [], _, _, h => by have := h (enm a); rw [getL_cons, if_pos rfl] at this; cases this
  | a :: l, b :: r, ha, hb, h => by
    have ha' := Srt.cons.1 ha
    have hb' := Srt.cons.1 hb
    have key : ∀ {a b : Entry} {l r : List Entry}, (∀ x ∈ l, ahd (enm a) (enm x) = true) → (∀ n, getL (a :: l) n = getL (b :: r) n) → ahd (enm b) (enm a) = false := by
      intro a b l r hl h
      refine Bool.eq_false_iff.2 fun hc => ?_
      have e := h (enm b)
      rw [getL_cons b, if_pos rfl, getL_cons, if_neg (ahd_ne hc).symm] at e
      have := hl b (getL_mem e)
      rw [ahd_asymm this] at hc; cases hc
    have hn : enm a = enm b := ahd_tri (key hb'.1 fun n => (h n).symm) (key ha'.1 h)
    have hab : a = b := by
      have e := h (enm a)
      rw [getL_cons, if_pos rfl, getL_cons, if_pos hn.symm] at e
      exact Option.some.inj e
    subst hab
    congr 1
    refine Srt.ext ha'.2 hb'.2 fun n => ?_
    by_cases he : enm a = n
    · rw [getL_none.2 fun x hx => he ▸ (ahd_ne (ha'.1 x hx)).symm, getL_none.2 fun x hx => he ▸ (ahd_ne (hb'.1 x hx)).symm]
    · have e := h n
      rwa [getL_cons, if_neg he, getL_cons, if_neg he] at e
/-- Many entries put, one behind the other. -/
def putsL (l : List Entry) (es : List Entry) : List Entry := es.foldl putL l
theorem putsL_srt : ∀ {es l : List Entry}, Srt l → Srt (putsL l es)
  | [], _, h => h
  | e :: es, l, h => putsL_srt (es := es) (h.put e)
theorem putsL_le : ∀ (es l : List Entry), (putsL l es).length ≤ l.length + es.length
  | [], _ => Nat.le_refl _
  | e :: es, l => by
    have h1 := putsL_le es (putL l e)
    have h2 := putL_le l e
    show (putsL (putL l e) es).length ≤ _
    rw [List.length_cons]; omega
/-- In order, the last one of each name. -/
abbrev srtL (es : List Entry) : List Entry := putsL [] es
end Go.Proofs.Ytebhddpildfgcaa
