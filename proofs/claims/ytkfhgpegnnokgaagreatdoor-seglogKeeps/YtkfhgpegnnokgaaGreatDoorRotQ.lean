/-
  A log to which records are appended, in plain words.
-/
import Derived.Test.YtkfhgpegnnokgaaGreatDoorRotP
namespace Go.Proofs.YtkfhgpegnnokgaaGreatDoor
open Go Go.CM
set_option maxRecDepth 100000
set_option maxHeartbeats 4000000

def upI : Int → Nat → List Int
  | _, 0 => []
  | i, n + 1 => i :: upI (i + 1) n
theorem up_mem : ∀ {n : Nat} {i x : Int}, x ∈ upI i n ↔ i ≤ x ∧ x < i + n
  | 0, i, x => by
    constructor
    · intro h; cases h
    · intro h; omega
  | n + 1, i, x => by
    show x ∈ i :: upI (i + 1) n ↔ _
    rw [List.mem_cons, up_mem]
    omega
theorem up_len : ∀ (n : Nat) (i : Int), (upI i n).length = n
  | 0, _ => rfl
  | n + 1, i => by show (upI (i + 1) n).length + 1 = _; rw [up_len n]
theorem up_pw : ∀ (n : Nat) (i : Int), (upI i n).Pairwise (· < ·)
  | 0, _ => .nil
  | n + 1, i => .cons (fun x hx => by have := up_mem.1 hx; omega) (up_pw n (i + 1))
theorem up_snoc : ∀ (n : Nat) (i : Int), upI i (n + 1) = upI i n ++ [i + n]
  | 0, i => by show [i] = [i + 0]; simp
  | n + 1, i => by
    show i :: upI (i + 1) (n + 1) = i :: upI (i + 1) n ++ _
    rw [up_snoc n (i + 1)]
    show _ = i :: (upI (i + 1) n ++ _)
    congr 3
    push_cast; omega
theorem up_names {n : Nat} {i : Int} (h1 : 1 ≤ i) (h2 : i + n ≤ 100000) : ((upI i n).map segN).Nodup := by
  rw [List.nodup_iff_pairwise_ne, List.pairwise_map]
  refine (List.pairwise_iff_forall_sublist.2 fun {a b} hs => ?_)
  have ha := up_mem.1 (hs.subset (List.mem_cons_self ..))
  have hb := up_mem.1 (hs.subset (List.mem_cons_of_mem _ (List.mem_cons_self ..)))
  have hlt : a < b := by
    have := (up_pw n i).sublist hs
    rw [List.pairwise_cons] at this
    exact this.1 b (List.mem_cons_self ..)
  exact seg_ne (by omega) (by omega) (by omega) (by omega) (by omega)
def sureI : Int → List (List Tx) → List (Tx × Tx)
  | _, [] => []
  | i, c :: cs => (segN i, framesT c) :: sureI (i + 1) cs
theorem sureI_app : ∀ (a b : List (List Tx)) (i : Int), sureI i (a ++ b) = sureI i a ++ sureI (i + a.length) b
  | [], b, i => by show sureI i b = sureI (i + 0) b; rw [Int.add_zero]
  | c :: a, b, i => by
    show (segN i, framesT c) :: sureI (i + 1) (a ++ b) = (segN i, framesT c) :: (sureI (i + 1) a ++ _)
    rw [sureI_app a b (i + 1)]
    congr 3
    rw [List.length_cons]; push_cast; omega
theorem sureI_keys : ∀ (a : List (List Tx)) (i : Int), (sureI i a).map (·.1) = (upI i a.length).map segN
  | [], _ => rfl
  | c :: a, i => by
    show segN i :: (sureI (i + 1) a).map (·.1) = segN i :: (upI (i + 1) a.length).map segN
    rw [sureI_keys a (i + 1)]
theorem sureI_len : ∀ (a : List (List Tx)) (i : Int), (sureI i a).length = a.length
  | [], _ => rfl
  | c :: a, i => by show (sureI (i + 1) a).length + 1 = _; rw [sureI_len a]; rfl
def numR (a : List (List Tx)) : Nat := a.flatten.length
theorem frames_len {c : List Tx} (h : ∀ r ∈ c, r.length ≤ 200) : (framesT c).length ≤ c.length * 210 := by
  induction c with
  | nil => exact Nat.zero_le _
  | cons r c ih =>
    have h1 := h r (List.mem_cons_self ..)
    have h2 := ih fun x hx => h x (List.mem_cons_of_mem _ hx)
    rw [frames_cons, List.length_append, make_len, List.length_cons]; omega
theorem sureI_sum : ∀ (a : List (List Tx)) (i : Int), (∀ c ∈ a, ∀ r ∈ c, r.length ≤ 200) → sumL (sureI i a) ≤ a.flatten.length * 210
  | [], _, _ => Nat.zero_le _
  | c :: a, i, h => by
    have h1 := frames_len (h c (List.mem_cons_self ..))
    have h2 := sureI_sum a (i + 1) fun x hx => h x (List.mem_cons_of_mem _ hx)
    show sumL ((segN i, framesT c) :: sureI (i + 1) a) ≤ _
    rw [sumL_cons, List.flatten_cons, List.length_append]
    show (framesT c).length + _ ≤ _
    omega
theorem flat_len {a : List (List Tx)} (h : ∀ c ∈ a, c ≠ []) : a.length ≤ a.flatten.length := by
  induction a with
  | nil => exact Nat.le_refl _
  | cons c a ih =>
    have h1 := List.length_pos_iff.2 (h c (List.mem_cons_self ..))
    have h2 := ih fun x hx => h x (List.mem_cons_of_mem _ hx)
    rw [List.flatten_cons, List.length_append, List.length_cons]; omega
def logD (olds : List (List Tx)) (cur : List Tx) : Dsk := ⟨sureI 1 olds ++ [(segN (olds.length + 1), [])], cur.map fun r => (segN (olds.length + 1), makeT r), 9000, -1, false⟩
def logS (segs : List (List Tx)) : Dsk := ⟨sureI 1 segs, [], 9000, -1, false⟩
structure LOk (olds : List (List Tx)) (cur : List Tx) : Prop where
  cur0 : cur ≠ []
  old0 : ∀ c ∈ olds, c ≠ []
  num : (olds.flatten ++ cur).length ≤ 12
  len : ∀ r ∈ olds.flatten ++ cur, r.length ≤ 200
theorem LOk.olds {olds : List (List Tx)} {cur : List Tx} (h : LOk olds cur) : olds.length ≤ 11 := by
  have h1 := flat_len h.old0
  have h2 := List.length_pos_iff.2 h.cur0
  have h3 := h.num
  rw [List.length_append] at h3; omega
theorem late_same (s : Tx) (f : Tx → Tx) (l : List Tx) : lateL s (l.map fun r => (s, f r)) = l.flatMap f := by
  induction l with
  | nil => rfl
  | cons r l ih => rw [List.map_cons, late_cons, if_pos rfl, ih, List.flatMap_cons]
theorem sum_same (s : Tx) (f : Tx → Tx) (l : List Tx) : sumL (l.map fun r => (s, f r)) = (l.flatMap f).length := by
  induction l with
  | nil => rfl
  | cons r l ih => rw [List.map_cons, sumL_cons, ih, List.flatMap_cons, List.length_append]
theorem but_same (s : Tx) (f : Tx → Tx) (l : List Tx) : butW s (l.map fun r => (s, f r)) = [] := by
  unfold butW
  rw [List.filter_eq_nil_iff]
  intro x hx
  obtain ⟨r, _, rfl⟩ := List.mem_map.1 hx
  simp
theorem logD_keys (olds : List (List Tx)) (cur : List Tx) : (logD olds cur).sure.map (·.1) = (upI 1 (olds.length + 1)).map segN := by
  show (sureI 1 olds ++ [(segN (olds.length + 1), [])]).map (fun x : Tx × Tx => x.1) = _
  rw [List.map_append, sureI_keys, up_snoc, List.map_append]
  have e : (1 : Int) + olds.length = olds.length + 1 := Int.add_comm ..
  rw [e]; rfl
theorem set_last {a : List (Tx × Tx)} {s t u : Tx} (h : s ∉ a.map (·.1)) : setT s t (a ++ [(s, u)]) = a ++ [(s, t)] := by
  have hf : fat s (a ++ [(s, u)]) = some a.length := by
    unfold fat
    rw [List.findIdx?_append]
    have : List.findIdx? (fun x : Tx × Tx => s == x.1) a = none := fat_none.2 h
    rw [this]
    simp [List.findIdx?_cons]
  unfold setT
  rw [hf]
  show (a ++ [(s, u)]).set a.length (s, t) = _
  rw [List.set_append_right _ _ (Nat.le_refl _), Nat.sub_self]; rfl
theorem LOk.facts {olds : List (List Tx)} {cur : List Tx} (h : LOk olds cur) : segN (olds.length + 1) ∉ (sureI 1 olds).map (·.1) ∧ segN (olds.length + 1 + 1) ∉ (logD olds cur).sure.map (·.1) ∧ hasT (segN (olds.length + 1)) (logD olds cur).sure = true ∧
    fileT (logD olds cur) (segN (olds.length + 1)) = framesT cur ∧ (logD olds cur).used ≤ (olds.flatten ++ cur).length * 210 ∧ (logD olds cur).sure.length = olds.length + 1 := by
  have ho := h.olds
  have hno : ∀ (k : Int), 1 ≤ k → k ≤ 99999 → ∀ n : Nat, 1 + (n : Int) ≤ k → segN k ∉ (upI 1 n).map segN := fun k k1 k2 n hn hm => by
    obtain ⟨x, hx, e⟩ := List.mem_map.1 hm
    have := up_mem.1 hx
    exact seg_ne (by omega) (by omega) k1 k2 (by omega) e
  have h1 : segN (olds.length + 1) ∉ (sureI 1 olds).map (·.1) := by
    rw [sureI_keys]; exact hno _ (by omega) (by omega) _ (by omega)
  have h2 : segN (olds.length + 1 + 1) ∉ (logD olds cur).sure.map (·.1) := by
    rw [logD_keys]; exact hno _ (by omega) (by omega) _ (by push_cast; omega)
  have h3 : hasT (segN (olds.length + 1)) (logD olds cur).sure = true := by
    rw [hasT_iff, logD_keys]
    exact List.mem_map_of_mem (up_mem.2 ⟨by omega, by push_cast; omega⟩)
  refine ⟨h1, h2, h3, ?_, ?_, ?_⟩
  · unfold fileT
    rw [if_pos h3]
    have hnd : ((logD olds cur).sure.map (·.1)).Nodup := by rw [logD_keys]; exact up_names (by omega) (by push_cast; omega)
    rw [getT_of hnd (t := []) (List.mem_append_right _ (List.mem_singleton.2 rfl)), List.nil_append]
    exact late_same _ _ _
  · have e1 : sumL (logD olds cur).waits = (framesT cur).length := sum_same _ _ _
    have e2 : sumL (logD olds cur).sure = sumL (sureI 1 olds) := by
      show sumL (sureI 1 olds ++ [(_, [])]) = _
      rw [sumL_snoc]; rfl
    have h4 := frames_len (c := cur) fun r hr => h.len r (List.mem_append_right _ hr)
    have h5 := sureI_sum olds 1 fun c hc r hr => h.len r (List.mem_append_left _ (List.mem_flatten.2 ⟨c, hc, hr⟩))
    unfold Dsk.used
    rw [e1, e2, List.length_append]; omega
  · show (sureI 1 olds ++ [(_, [])]).length = _
    rw [List.length_append, sureI_len]; rfl
theorem LOk.app {olds : List (List Tx)} {cur : List Tx} (h : LOk olds cur) {r : Tx} (hr : r.length ≤ 200) (hn : (olds.flatten ++ cur).length < 12) (limit : Int) :
    ∃ olds' cur', LOk olds' cur' ∧ olds'.flatten ++ cur' = olds.flatten ++ cur ++ [r] ∧ appS (logD olds cur) (olds.length + 1) limit r 0 = ⟨0, olds'.length + 1, logD olds' cur'⟩ := by
  obtain ⟨f1, f2, f3, f4, f5, f6⟩ := h.facts
  have ho := h.olds
  have hsz : sizeS (logD olds cur) (olds.length + 1) = ((framesT cur).length : Nat) := by
    unfold sizeS
    rw [if_pos f3, f4]
  have hm := make_len r
  have hlen : ∀ x ∈ olds.flatten ++ cur ++ [r], x.length ≤ 200 := fun x hx => by
    rcases List.mem_append.1 hx with k | k
    · exact h.len x k
    · simp at k; subst k; exact hr
  have hlim : limI 0 = 0 := by decide
  have hroom : ∀ fr : Bool, ¬ noRoom (logD olds cur) fr r 0 := fun fr k => by
    rcases k with ⟨_, k⟩ | k
    · omega
    · have e : (logD olds cur).room = 9000 := rfl
      rw [e, hlim] at k
      omega
  unfold appS
  rw [if_neg (by omega)]
  by_cases hro : roll (logD olds cur) (olds.length + 1) limit r
  · rw [if_pos hro]
    have hrd : readyE (logD olds cur) (segN (olds.length + 1)) = 0 := readyE_0.2 ⟨rfl, f3⟩
    have hsy : syncR (logD olds cur) (segN (olds.length + 1)) = logS (olds ++ [cur]) := by
      unfold syncR
      rw [if_pos hrd]
      have hg : getT (segN (olds.length + 1)) (logD olds cur).sure ++ lateL (segN (olds.length + 1)) (logD olds cur).waits = framesT cur := by
        have := f4
        unfold fileT at this
        rwa [if_pos f3] at this
      show (⟨setT (segN (olds.length + 1)) (getT (segN (olds.length + 1)) (logD olds cur).sure ++ lateL (segN (olds.length + 1)) (logD olds cur).waits) (sureI 1 olds ++ [(segN (olds.length + 1), [])]), butW (segN (olds.length + 1)) (cur.map fun r => (segN (olds.length + 1), makeT r)), 9000, -1, false⟩ : Dsk) = _
      rw [hg, set_last f1, but_same]
      unfold logS
      rw [sureI_app]
      show _ = (⟨sureI 1 olds ++ [(segN (1 + olds.length), framesT cur)], [], 9000, -1, false⟩ : Dsk)
      rw [Int.add_comm 1]
    have hk : (logS (olds ++ [cur])).sure.map (·.1) = (logD olds cur).sure.map (·.1) := by
      rw [logD_keys]
      show (sureI 1 (olds ++ [cur])).map (·.1) = _
      rw [sureI_keys, List.length_append]; rfl
    have hnk : hasT (segN (olds.length + 1 + 1)) (logS (olds ++ [cur])).sure = false := by
      rw [hasT_no, hk]; exact f2
    have hsl : (logS (olds ++ [cur])).sure.length = olds.length + 1 := by
      show (sureI 1 (olds ++ [cur])).length = _
      rw [sureI_len, List.length_append]; rfl
    have hsu : (logS (olds ++ [cur])).used ≤ (olds.flatten ++ cur).length * 210 := by
      show 0 + sumL (sureI 1 (olds ++ [cur])) ≤ _
      have := sureI_sum (olds ++ [cur]) 1 fun c hc x hx => by
        rcases List.mem_append.1 hc with k | k
        · exact h.len x (List.mem_append_left _ (List.mem_flatten.2 ⟨c, k, hx⟩))
        · simp at k; subst k
          exact h.len x (List.mem_append_right _ hx)
      rw [List.flatten_append, List.flatten_cons, List.flatten_nil, List.append_nil] at this
      omega
    have hap : appE (logS (olds ++ [cur])) (segN (olds.length + 1 + 1)) (makeT r) = 0 := by
      refine appE_0.2 ⟨rfl, seg_right (by omega) (by omega), fun k => ?_⟩
      rcases k with ⟨_, k⟩ | k
      · omega
      · have e : (logS (olds ++ [cur])).room = 9000 := rfl
        rw [e] at k; omega
    refine ⟨olds ++ [cur], [r], ⟨by simp, fun c hc => ?_, ?_, ?_⟩, ?_, ?_⟩
    · rcases List.mem_append.1 hc with k | k
      · exact h.old0 c k
      · simp at k; subst k; exact h.cur0
    · rw [List.flatten_append, List.flatten_cons, List.flatten_nil, List.append_nil, List.length_append, List.length_singleton]; omega
    · rw [List.flatten_append, List.flatten_cons, List.flatten_nil, List.append_nil]; exact hlen
    · rw [List.flatten_append, List.flatten_cons, List.flatten_nil, List.append_nil]
    · unfold appT
      rw [if_neg (by omega), if_neg (hroom true), if_pos (by omega), if_pos hrd, hsy]
      unfold appU
      rw [if_pos hap]
      unfold appR
      rw [if_pos hap]
      have e3 : ((olds ++ [cur]).length : Int) = olds.length + 1 := by rw [List.length_append]; rfl
      unfold putD
      rw [show (logS (olds ++ [cur])).dead = logS (olds ++ [cur]) from rfl, hnk]
      unfold logD
      rw [e3]
      have hmn : makeT r ≠ [] := fun k => by rw [k] at hm; simp at hm
      rw [if_neg hmn]
      rfl
  · rw [if_neg hro]
    have hfr : decide (sizeS (logD olds cur) (olds.length + 1) < 0) = false := decide_eq_false (by omega)
    have hap : appE (logD olds cur) (segN (olds.length + 1)) (makeT r) = 0 := by
      refine appE_0.2 ⟨rfl, seg_right (by omega) (by omega), fun k => ?_⟩
      rcases k with ⟨k, _⟩ | k
      · rw [f3] at k; cases k
      · have e : (logD olds cur).room = 9000 := rfl
        rw [e] at k; omega
    refine ⟨olds, cur ++ [r], ⟨by simp, h.old0, ?_, ?_⟩, ?_, ?_⟩
    · rw [← List.append_assoc, List.length_append, List.length_singleton]; omega
    · rw [← List.append_assoc]; exact hlen
    · rw [List.append_assoc]
    · unfold appT
      rw [if_neg (by omega), hfr, if_neg (hroom false), if_neg (by omega)]
      unfold appU
      rw [if_pos hap]
      unfold appR
      rw [if_pos hap]
      unfold putD
      rw [show (logD olds cur).dead = logD olds cur from rfl, f3]
      have hmn : makeT r ≠ [] := fun k => by rw [k] at hm; simp at hm
      rw [if_neg hmn]
      unfold logD
      rw [List.map_append]
      rfl
end Go.Proofs.YtkfhgpegnnokgaaGreatDoor
