/-
  A log of which a byte is turned is opened, in plain words; the first example.
-/
import Derived.Test.YtkfhgpegnnokgaaGreatDoorRotQ
namespace Go.Proofs.YtkfhgpegnnokgaaGreatDoor
open Go Go.CM
set_option maxRecDepth 100000
set_option maxHeartbeats 4000000

theorem fat_hd {α : Type} (s : Tx) (t : α) (l : List (Tx × α)) : fat s ((s, t) :: l) = some 0 := by simp [fat, List.findIdx?_cons]
theorem getT_hd (s t : Tx) (l : List (Tx × Tx)) : getT s ((s, t) :: l) = t := by unfold getT; rw [fat_hd]; show (nth ((s, t) :: l) 0).2 = t; rw [nth_zero]
theorem hasT_hd {α : Type} (s : Tx) (t : α) (l : List (Tx × α)) : hasT s ((s, t) :: l) = true := by unfold hasT; rw [fat_hd]; rfl
theorem setT_hd (s t u : Tx) (l : List (Tx × Tx)) : setT s u ((s, t) :: l) = (s, u) :: l := by unfold setT; rw [fat_hd]; rfl
theorem LOk.sync {olds : List (List Tx)} {cur : List Tx} (h : LOk olds cur) : ¬ sizeS (logD olds cur) (olds.length + 1) < 0 ∧ readyE (logD olds cur) (segN (olds.length + 1)) = 0 ∧ syncR (logD olds cur) (segN (olds.length + 1)) = logS (olds ++ [cur]) := by
  obtain ⟨f1, f2, f3, f4, f5, f6⟩ := h.facts
  have hrd : readyE (logD olds cur) (segN (olds.length + 1)) = 0 := readyE_0.2 ⟨rfl, f3⟩
  refine ⟨?_, hrd, ?_⟩
  · unfold sizeS
    rw [if_pos f3, f4]; omega
  · unfold syncR
    rw [if_pos hrd]
    have hg : getT (segN (olds.length + 1)) (logD olds cur).sure ++ lateL (segN (olds.length + 1)) (logD olds cur).waits = framesT cur := by
      have := f4
      unfold fileT at this
      rwa [if_pos f3] at this
    show (⟨setT (segN (olds.length + 1)) (getT (segN (olds.length + 1)) (logD olds cur).sure ++ lateL (segN (olds.length + 1)) (logD olds cur).waits) (sureI 1 olds ++ [(segN (olds.length + 1), [])]), butW (segN (olds.length + 1)) (cur.map fun r => (segN (olds.length + 1), makeT r)), 9000, -1, false⟩ : Dsk) = _
    rw [hg, set_last f1, but_same]
    unfold logS
    rw [sureI_app]
    show _ = (⟨sureI 1 olds ++ [(segN (1 + olds.length), framesT cur)], [], 9000, -1, false⟩ : Dsk)
    rw [Int.add_comm 1]
theorem LOk.segs {olds : List (List Tx)} {cur : List Tx} (h : LOk olds cur) : (olds ++ [cur]).flatten = olds.flatten ++ cur ∧ (olds ++ [cur]).length ≤ 12 := by
  have := h.olds
  refine ⟨by rw [List.flatten_append, List.flatten_cons, List.flatten_nil, List.append_nil], ?_⟩
  rw [List.length_append, List.length_singleton]; omega
theorem logZ_app {r : Tx} (hr : r.length ≤ 200) (limit : Int) : appS (logS []) 1 limit r 0 = ⟨0, ([] : List (List Tx)).length + 1, logD [] [r]⟩ := by
  have hm := make_len r
  have hz : sizeS (logS []) 1 = -1 := rfl
  have hlim : limI 0 = 0 := by decide
  have hno : ¬ noRoom (logS []) true r 0 := fun k => by
    rcases k with ⟨_, k⟩ | k
    · exact absurd k (by decide)
    · have e : (logS []).room = 9000 := rfl
      have e2 : (logS []).used = 0 := rfl
      rw [e, e2, hlim] at k
      omega
  have hap : appE (logS []) (segN 1) (makeT r) = 0 := by
    refine appE_0.2 ⟨rfl, seg_right (by omega) (by omega), fun k => ?_⟩
    rcases k with ⟨_, k⟩ | k
    · exact absurd k (by decide)
    · have e : (logS []).room = 9000 := rfl
      have e2 : (logS []).used = 0 := rfl
      rw [e, e2] at k
      omega
  have hmn : makeT r ≠ [] := fun k => by rw [k] at hm; simp at hm
  unfold appS
  rw [if_neg (by omega), if_neg (fun k => by have := k.1; rw [hz] at this; omega), hz]
  unfold appT
  rw [show decide ((-1 : Int) < 0) = true from rfl, if_neg (by omega), if_neg hno, if_neg (by omega)]
  unfold appU
  rw [if_pos hap]
  unfold appR
  rw [if_pos hap]
  unfold putD
  rw [if_neg hmn]
  rfl
theorem sureI_of : ∀ {a : List (List Tx)} {i n : Int}, n ∈ upI i a.length → ∃ c ∈ a, (segN n, framesT c) ∈ sureI i a
  | [], _, _, h => by cases h
  | c :: a, i, n, h => by
    rcases List.mem_cons.1 (show n ∈ i :: upI (i + 1) a.length from h) with rfl | h
    · exact ⟨c, List.mem_cons_self .., List.mem_cons_self ..⟩
    · obtain ⟨c', h1, h2⟩ := sureI_of h
      exact ⟨c', List.mem_cons_of_mem _ h1, List.mem_cons_of_mem _ h2⟩
theorem nums_up : ∀ (n : Nat) (i : Int), 1 ≤ i → i + n ≤ 100000 → numsL lgW ((upI i n).map segN) = upI i n
  | 0, _, _, _ => rfl
  | n + 1, i, h1, h2 => by
    have e := nums_app lgW [segN i] ((upI (i + 1) n).map segN)
    have h3 := seg_num (n := i) h1 (by push_cast at h2; omega)
    rw [nums_one, h3, if_pos (by omega), nums_up n (i + 1) (by omega) (by push_cast at h2; omega)] at e
    exact e
theorem srt_up (n : Nat) (i : Int) : srtN (upI i n) = upI i n :=
  List.Perm.eq_of_pairwise (le := (· ≤ ·)) (fun x y _ _ h1 h2 => by omega) (srtN_pw _) ((up_pw n i).imp fun h => by omega) (srtN_perm _)
theorem all_up {l : List (Tx × Tx)} {n : Nat} (hk : l.map (·.1) = (upI 1 n).map segN) (hn : n ≤ 99999) : allL lgW l = upI 1 n := by
  unfold allL
  rw [hk, nums_up n 1 (by omega) (by omega), srt_up]
theorem numO_up (first : Int) : ∀ (n : Nat) (out : List Int), numO first (upI (first + out.length) n) out = some (out ++ upI (first + out.length) n)
  | 0, out => by show some out = some (out ++ []); rw [List.append_nil]
  | n + 1, out => by
    show numO first ((first + out.length) :: upI (first + out.length + 1) n) out = some (out ++ (first + out.length) :: upI (first + out.length + 1) n)
    rw [numO_cons, if_neg (by omega), if_pos rfl]
    have ih := numO_up first n (out ++ [first + out.length])
    have e : first + ((out ++ [first + (out.length : Int)]).length : Int) = first + out.length + 1 := by rw [List.length_append]; push_cast; show _ + (_ + 1) = _; omega
    rw [e] at ih
    rw [ih, List.append_assoc]; rfl
theorem openF_err {D : Dsk} : ∀ {A : List Int} {last : Int} {recs : List Tx}, (∀ n ∈ A, (splitT (fileT D (segN n))).2.2 = 0 ∨ (splitT (fileT D (segN n))).2.2 = 4) → (∃ n ∈ A, (splitT (fileT D (segN n))).2.2 = 4) → (openF D last recs A).e = 4 ∧ (openF D last recs A).D = D
  | [], _, _, _, ⟨_, h, _⟩ => by cases h
  | n :: A, last, recs, h, ⟨x, hx, he⟩ => by
    rw [openF_cons]
    rcases h n (List.mem_cons_self ..) with h0 | h4
    · rw [if_pos h0]
      refine openF_err (fun k hk => h k (List.mem_cons_of_mem _ hk)) ?_
      rcases List.mem_cons.1 hx with rfl | hx
      · rw [h0] at he; cases he
      · exact ⟨x, hx, he⟩
    · rw [if_neg (by rw [h4]; decide), if_neg (fun k => by have := k.1; rw [h4] at this; cases this)]
      exact ⟨h4, rfl⟩
theorem xor_other {a b : UInt8} (h : b ≠ 0) : a ^^^ b ≠ a := fun k => h (by
  have := congrArg (fun x => a ^^^ x) k
  simpa [← UInt8.xor_assoc] using this)
theorem rot_open {segs : List (List Tx)} (hl : segs.length ≤ 12) (hlen : ∀ r ∈ segs.flatten, r.length ≤ 200) {s : Tx} (hs : s ∈ (logS segs).sure.map (·.1)) {p : Nat} (hp : p < (getT s (logS segs).sure).length) {b : UInt8} (hb : b ≠ 0) (D : Dsk)
    (hD : D = ⟨setT s (turnT (getT s (logS segs).sure) p b) (logS segs).sure, [], 9000, 0, false⟩) :
    numO 1 (allL lgW D.sure) [] = some (upI 1 segs.length) ∧ (openF D 1 [] (upI 1 segs.length)).e = 4 ∧ (openF D 1 [] (upI 1 segs.length)).D = D := by
  have hk : (logS segs).sure.map (·.1) = (upI 1 segs.length).map segN := sureI_keys segs 1
  have hnd : ((logS segs).sure.map (·.1)).Nodup := by rw [hk]; exact up_names (by omega) (by omega)
  have hk2 : D.sure.map (·.1) = (upI 1 segs.length).map segN := by rw [hD]; rw [← hk]; exact set_keys _ hs
  have h1 : allL lgW D.sure = upI 1 segs.length := all_up hk2 (by omega)
  have hfile : ∀ u, u ∈ (logS segs).sure.map (·.1) → fileT D u = if u = s then turnT (getT s (logS segs).sure) p b else getT u (logS segs).sure := fun u hu => by
    unfold fileT
    rw [if_pos (hasT_iff.2 (by rw [hk2, ← hk]; exact hu))]
    have e1 : D.waits = [] := by rw [hD]
    have e2 : D.sure = setT s (turnT (getT s (logS segs).sure) p b) (logS segs).sure := by rw [hD]
    rw [e1, e2, getT_set hnd hs]
    exact List.append_nil _
  have hget : ∀ n ∈ upI 1 segs.length, ∃ c ∈ segs, getT (segN n) (logS segs).sure = framesT c := fun n hn => by
    obtain ⟨c, h2, h3⟩ := sureI_of hn
    exact ⟨c, h2, getT_of hnd h3⟩
  have h2000 : ∀ c ∈ segs, ∀ r ∈ c, r.length ≤ 2000 := fun c hc r hr => by
    have := hlen r (List.mem_flatten.2 ⟨c, hc, hr⟩); omega
  have hin : ∀ n ∈ upI 1 segs.length, segN n ∈ (logS segs).sure.map (·.1) := fun n hn => by rw [hk]; exact List.mem_map_of_mem hn
  have hturn : ∀ n ∈ upI 1 segs.length, segN n = s → (splitT (fileT D (segN n))).2.2 = 4 := fun n hn e => by
    obtain ⟨c, hc, h3⟩ := hget n hn
    rw [hfile _ (hin n hn), if_pos e]
    rw [e] at h3
    rw [h3] at hp ⊢
    exact split_turn c (h2000 c hc) p hp _ (xor_other hb)
  have hwhole : ∀ n ∈ upI 1 segs.length, segN n ≠ s → (splitT (fileT D (segN n))).2.2 = 0 := fun n hn e => by
    obtain ⟨c, hc, h3⟩ := hget n hn
    rw [hfile _ (hin n hn), if_neg e, h3, split_whole c (h2000 c hc)]
  refine ⟨?_, ?_⟩
  · rw [h1]
    have := numO_up 1 segs.length []
    exact this
  · refine openF_err (fun n hn => ?_) ?_
    · by_cases e : segN n = s
      · exact .inr (hturn n hn e)
      · exact .inl (hwhole n hn e)
    · rw [hk] at hs
      obtain ⟨n, hn, e⟩ := List.mem_map.1 hs
      exact ⟨n, hn, hturn n hn e⟩
end Go.Proofs.YtkfhgpegnnokgaaGreatDoor
