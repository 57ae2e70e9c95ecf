/-
  The law of files, in plain words: names that were taken, their places.
-/
import Derived.Test.YtdpnaneedjoboaaGreatDoorFllA
namespace Go.Proofs.YtdpnaneedjoboaaGreatDoor
open Go Go.CM
set_option maxRecDepth 100000
set_option maxHeartbeats 4000000

def zeroT (i : Nat) : Tx := List.replicate i 0
def dskK (K : List (Tx × Nat)) : Dsk := ⟨K.map fun x => (x.1, []), (K.filter fun x => decide (0 < x.2)).map fun x => (x.1, zeroT x.2), 60000, -1, false⟩
def takK (K : List (Tx × Nat)) (n : Tx) : Bool := rightN n && !hasT n K
def accK (names : List Tx) : Nat → List (Tx × Nat)
  | 0 => []
  | i + 1 => if takK (accK names i) (nth names i) = true then accK names i ++ [(nth names i, i)] else accK names i
structure KOk (K : List (Tx × Nat)) (i : Nat) : Prop where
  len : K.length ≤ i
  nd : (K.map (·.1)).Nodup
  lt : ∀ x ∈ K, x.2 < i
theorem KOk.acc (names : List Tx) : ∀ i, KOk (accK names i) i
  | 0 => ⟨Nat.le_refl _, List.nodup_nil, by simp [accK]⟩
  | i + 1 => by
    have h := KOk.acc names i
    unfold accK
    split
    · rename_i ht
      refine ⟨by rw [List.length_append, List.length_singleton]; have := h.len; omega, ?_, fun x hx => ?_⟩
      · rw [List.map_append]
        refine List.nodup_append.2 ⟨h.nd, by simp, fun a ha b hb => ?_⟩
        simp at hb; subst hb
        unfold takK at ht
        simp only [Bool.and_eq_true, Bool.not_eq_true'] at ht
        exact fun e => hasT_no.1 ht.2 (e ▸ ha)
      · rcases List.mem_append.1 hx with k | k
        · have := h.lt x k; omega
        · simp at k; subst k; exact Nat.lt_succ_self _
    · exact ⟨by have := h.len; omega, h.nd, fun x hx => by have := h.lt x hx; omega⟩
theorem dskK_keys (K : List (Tx × Nat)) : (dskK K).sure.map (·.1) = K.map (·.1) := by
  show (K.map _).map _ = _
  rw [List.map_map]; rfl
theorem hasT_keys {α β : Type} {s : Tx} {a : List (Tx × α)} {b : List (Tx × β)} (h : a.map (·.1) = b.map (·.1)) : hasT s a = hasT s b := by
  rw [Bool.eq_iff_iff, hasT_iff, hasT_iff, h]
theorem sumK (K : List (Tx × Nat)) (i : Nat) (h : ∀ x ∈ K, x.2 < i) : sumL (dskK K).waits ≤ K.length * i := by
  show sumL ((K.filter _).map _) ≤ _
  induction K with
  | nil => exact Nat.zero_le _
  | cons x K ih =>
    have h1 := h x (List.mem_cons_self ..)
    have h2 := ih fun y hy => h y (List.mem_cons_of_mem _ hy)
    have e : (K.length + 1) * i = K.length * i + i := Nat.succ_mul _ _
    by_cases hx : 0 < x.2
    · rw [List.filter_cons_of_pos (by simpa using hx), List.map_cons, sumL_cons, List.length_cons, e]
      have hz : (zeroT x.2).length = x.2 := List.length_replicate
      show (zeroT x.2).length + _ ≤ _
      omega
    · rw [List.filter_cons_of_neg (by simpa using hx), List.length_cons, e]; omega
theorem sumS (K : List (Tx × Nat)) : sumL (dskK K).sure = 0 := by
  show sumL (K.map _) = 0
  induction K with
  | nil => rfl
  | cons x K ih => rw [List.map_cons, sumL_cons, ih]; rfl
theorem KOk.dsk {K : List (Tx × Nat)} {i : Nat} (h : KOk K i) (hi : i ≤ 16) : DOk (dskK K) := by
  have h1 := sumK K 16 fun x hx => by have := h.lt x hx; omega
  have h2 := sumS K
  have h3 := h.len
  refine ⟨?_, ?_, ?_, fun w hw => ?_, fun w hw => ?_, by show (0 : Int) ≤ 60000; omega, by show (60000 : Int) ≤ 60000; omega, by show (-1 : Int) ≤ -1; omega, by show (-1 : Int) ≤ _; omega⟩
  · unfold Dsk.used
    have : K.length * 16 ≤ 16 * 16 := Nat.mul_le_mul_right _ (by omega)
    omega
  · show (K.map _).length ≤ 16
    rw [List.length_map]; omega
  · rw [dskK_keys]; exact h.nd
  · obtain ⟨x, hx, rfl⟩ := List.mem_map.1 hw
    have : 0 < x.2 := by simpa using (List.mem_filter.1 hx).2
    show zeroT x.2 ≠ []
    unfold zeroT
    intro k
    have := congrArg List.length k
    rw [List.length_replicate, List.length_nil] at this; omega
  · obtain ⟨x, hx, rfl⟩ := List.mem_map.1 hw
    rw [dskK_keys]
    exact List.mem_map.2 ⟨x, (List.mem_filter.1 hx).1, rfl⟩
theorem dead_K (K : List (Tx × Nat)) : (dskK K).dead = dskK K := rfl
theorem app_K {K : List (Tx × Nat)} {i : Nat} (h : KOk K i) (hi : i < 16) {n : Tx} (hn : hasT n K = false) :
    appE (dskK K) n (zeroT i) = (if rightN n = true then 0 else 1) ∧ appR (dskK K) n (zeroT i) = dskK (if takK K n = true then K ++ [(n, i)] else K) := by
  have h1 := sumK K 16 fun x hx => by have := h.lt x hx; omega
  have h2 := sumS K
  have h3 := h.len
  have hF : ¬ Full (dskK K) n (zeroT i) := by
    unfold Full
    rintro (⟨_, k⟩ | k)
    · have : (dskK K).sure.length = K.length := List.length_map ..
      omega
    · unfold Dsk.used at k
      have hz : (zeroT i).length = i := List.length_replicate
      have hr : (dskK K).room = 60000 := rfl
      have : K.length * 16 ≤ 16 * 16 := Nat.mul_le_mul_right _ (by omega)
      omega
  have hE : appE (dskK K) n (zeroT i) = (if rightN n = true then 0 else 1) := by
    unfold appE
    have hd : ¬ (deadD (dskK K).fuse (dskK K).down = true) := show ¬ (deadD (-1) false = true) by decide
    rw [if_neg hd]
    cases rightN n with
    | false => rfl
    | true => rw [if_neg (by decide), if_neg hF]; rfl
  refine ⟨hE, ?_⟩
  unfold appR takK
  rw [hE, hn, dead_K]
  cases rightN n with
  | false => rfl
  | true =>
    rw [if_pos (by rfl), if_pos (by rfl)]
    unfold putD
    rw [hasT_keys (dskK_keys K), hn]
    show (⟨(dskK K).sure ++ [(n, [])], if zeroT i = [] then (dskK K).waits else (dskK K).waits ++ [(n, zeroT i)], _, _, _⟩ : Dsk) = _
    unfold dskK
    rw [List.map_append, List.filter_append]
    congr 1
    by_cases h0 : i = 0
    · subst h0
      rw [if_pos (by rfl)]; simp
    · rw [if_neg (fun k => h0 (by have := congrArg List.length k; simpa [zeroT] using this)), List.map_append, List.filter_cons_of_pos (by simp; omega)]; rfl
noncomputable def hasK (w : Tx) : List (Tx × Nat) → List (Int × Nat)
  | [] => []
  | x :: K => (if 0 < numOf w x.1 then [(numOf w x.1, x.2)] else []) ++ hasK w K
theorem hasK_app (w : Tx) : ∀ a b : List (Tx × Nat), hasK w (a ++ b) = hasK w a ++ hasK w b
  | [], _ => rfl
  | x :: a, b => by
    show _ ++ hasK w (a ++ b) = _ ++ _ ++ _
    rw [hasK_app w a b, List.append_assoc]
theorem hasK_one (w : Tx) (x : Tx × Nat) : hasK w [x] = if 0 < numOf w x.1 then [(numOf w x.1, x.2)] else [] := List.append_nil _
theorem hasK_keys (w : Tx) : ∀ K : List (Tx × Nat), (hasK w K).map (·.1) = numsL w (K.map (·.1))
  | [] => rfl
  | x :: K => by
    have h := nums_app w [x.1] (K.map (·.1))
    have e : (x :: K).map (·.1) = [x.1] ++ K.map (·.1) := rfl
    rw [e, h, nums_one, ← hasK_keys w K]
    show List.map _ (_ ++ _) = _
    rw [List.map_append]
    by_cases hp : 0 < numOf w x.1
    · rw [if_pos hp, if_pos hp]; rfl
    · rw [if_neg hp, if_neg hp]; rfl
theorem num_name {w s : Tx} (h : 0 < numOf w s) : nameL w (numOf w s) = s := by
  rcases numOf_cases w s with ⟨h0, _⟩ | ⟨h1, _⟩
  · omega
  · exact h1.name.1
theorem num_inj {w s t : Tx} (h : 0 < numOf w s) (e : numOf w s = numOf w t) : s = t := by
  rw [← num_name h, e, num_name (by omega)]
theorem hasK_new {w : Tx} {K : List (Tx × Nat)} {n : Tx} (hn : hasT n K = false) (hp : 0 < numOf w n) : numOf w n ∉ (hasK w K).map (·.1) := by
  rw [hasK_keys]
  intro hm
  unfold numsL at hm
  obtain ⟨hm, _⟩ := List.mem_filter.1 hm
  obtain ⟨s, hs, e⟩ := List.mem_map.1 hm
  have := num_inj hp e.symm
  subst this
  exact hasT_no.1 hn hs
theorem hasK_mem {w : Tx} : ∀ {K : List (Tx × Nat)} {p : Int × Nat}, p ∈ hasK w K ↔ ∃ x ∈ K, 0 < numOf w x.1 ∧ p = (numOf w x.1, x.2)
  | [], p => by simp [hasK]
  | x :: K, p => by
    show p ∈ _ ++ hasK w K ↔ _
    rw [List.mem_append, hasK_mem]
    by_cases hp : 0 < numOf w x.1
    · rw [if_pos hp]; simp [hp]
    · rw [if_neg hp]; simp [hp]
theorem late_none {s : Tx} : ∀ {l : List (Tx × Tx)}, s ∉ l.map (·.1) → lateL s l = []
  | [], _ => rfl
  | x :: l, h => by
    rw [late_cons, if_neg fun k => h (by rw [← k]; exact List.mem_map_of_mem (List.mem_cons_self ..)), late_none fun k => h (by rw [List.map_cons]; exact List.mem_cons_of_mem _ k)]; rfl
theorem late_K {x : Tx × Nat} : ∀ {K : List (Tx × Nat)}, (K.map (·.1)).Nodup → x ∈ K → (lateL x.1 (dskK K).waits).length = x.2
  | [], _, h => by cases h
  | y :: K, hnd, h => by
    rw [List.map_cons, List.nodup_cons] at hnd
    have hsub : ∀ s, s ∈ (dskK K).waits.map (·.1) → s ∈ K.map (·.1) := fun s hs => by
      obtain ⟨a, ha, rfl⟩ := List.mem_map.1 hs
      obtain ⟨b, hb, rfl⟩ := List.mem_map.1 ha
      exact List.mem_map.2 ⟨b, (List.mem_filter.1 hb).1, rfl⟩
    have hw : (dskK (y :: K)).waits = (if 0 < y.2 then [(y.1, zeroT y.2)] else []) ++ (dskK K).waits := by
      show ((y :: K).filter _).map _ = _
      by_cases hy : 0 < y.2
      · rw [List.filter_cons_of_pos (by simpa using hy), if_pos hy]; rfl
      · rw [List.filter_cons_of_neg (by simpa using hy), if_neg hy]; rfl
    rw [hw, late_app]
    rcases List.mem_cons.1 h with rfl | h
    · rw [late_none fun k => hnd.1 (hsub _ k), List.append_nil]
      by_cases hy : 0 < x.2
      · rw [if_pos hy, late_one, if_pos rfl]
        exact List.length_replicate
      · rw [if_neg hy]
        show 0 = _
        omega
    · have ih := late_K hnd.2 h
      have hne : y.1 ≠ x.1 := fun e => hnd.1 (by rw [e]; exact List.mem_map_of_mem h)
      rw [List.length_append, ih]
      by_cases hy : 0 < y.2
      · rw [if_pos hy, late_one, if_neg hne]; exact Nat.zero_add _
      · rw [if_neg hy]; exact Nat.zero_add _
theorem getT_K {s : Tx} (K : List (Tx × Nat)) : getT s (dskK K).sure = [] := by
  unfold getT
  cases hf : fat s (dskK K).sure with
  | none => rfl
  | some i =>
    have hi := (fat_some hf).1
    have : ∀ x ∈ (dskK K).sure, x.2 = [] := fun x hx => by
      obtain ⟨y, _, rfl⟩ := List.mem_map.1 hx; rfl
    exact this _ (nth_mem hi)
theorem file_K {x : Tx × Nat} {K : List (Tx × Nat)} (hnd : (K.map (·.1)).Nodup) (h : x ∈ K) : (fileT (dskK K) x.1).length = x.2 := by
  unfold fileT
  rw [if_pos (hasT_iff.2 (by rw [dskK_keys]; exact List.mem_map_of_mem h)), getT_K]
  exact late_K hnd h
theorem nums_nd {w : Tx} {l : List Tx} (h : l.Nodup) : (numsL w l).Nodup := by
  induction l with
  | nil => exact List.nodup_nil
  | cons x l ih =>
    rw [List.nodup_cons] at h
    have e : x :: l = [x] ++ l := rfl
    rw [e, nums_app, nums_one]
    by_cases hp : 0 < numOf w x
    · rw [if_pos hp]
      refine List.nodup_cons.2 ⟨fun hm => ?_, ih h.2⟩
      unfold numsL at hm
      obtain ⟨s, hs, e⟩ := List.mem_map.1 (List.mem_filter.1 hm).1
      have := num_inj hp e.symm
      subst this
      exact h.1 hs
    · rw [if_neg hp]; exact ih h.2
theorem all_lt {w : Tx} {l : List (Tx × Tx)} (h : (l.map (·.1)).Nodup) : (allL w l).Pairwise (· < ·) := by
  unfold allL
  have h1 := srtN_pw (numsL w (l.map (·.1)))
  have h2 : (srtN (numsL w (l.map (·.1)))).Nodup := ((srtN_perm _).nodup_iff).2 (nums_nd h)
  exact (h1.and h2).imp fun ⟨a, b⟩ => by omega
theorem all_mem {w : Tx} {l : List (Tx × Tx)} {n : Int} : n ∈ allL w l ↔ ∃ s ∈ l.map (·.1), 0 < numOf w s ∧ numOf w s = n := by
  unfold allL
  rw [(srtN_perm _).mem_iff]
  unfold numsL
  rw [List.mem_filter, List.mem_map]
  constructor
  · rintro ⟨⟨s, hs, rfl⟩, h⟩
    exact ⟨s, hs, by simpa using h, rfl⟩
  · rintro ⟨s, hs, h, rfl⟩
    exact ⟨⟨s, hs, rfl⟩, by simpa using h⟩
end Go.Proofs.YtdpnaneedjoboaaGreatDoor
