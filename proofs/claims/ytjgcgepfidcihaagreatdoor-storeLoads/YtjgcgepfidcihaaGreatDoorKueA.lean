/-
  Texts joined: The queue of what is due: how two dues are compared. The queue of what is due: the heap's row, and its five deeds. The queue of what is due: the heap's ways up and down.
-/
import Derived.Test.YtjgcgepfidcihaaGreatDoorBaseA
namespace Go.Proofs.YtjgcgepfidcihaaGreatDoor.Que
open Go Go.CM
set_option maxRecDepth 100000
set_option maxHeartbeats 4000000

structure Due where
  tenant : Int
  key : List UInt8
  at_ : Int
  deriving Inhabited, DecidableEq
def Due.enc (d : Due) : List V := [.int .i64 d.tenant, .str d.key, .int .i64 d.at_]
def ordD (a b : Due) : Int := orI [cmpI a.at_ b.at_, cmpI a.tenant b.tenant, cmpS a.key b.key]
theorem order_prog (a b : Due) : CallsR Tryz.prog nqueue_order [.agg a.enc, .agg b.enc] [] fun v => v = .int .i64 (ordD a b) := by
  refine squeue_order fun H hh => ?_
  dsimp only [cqueue_order]
  refine walk (k := ?_)
  repeat' first | refine And.intro ?_ ?_ | intro
  all_goals refine leaf ?_
  refine callE (cmpI_prog a.at_ b.at_) ?_
  refine walk (k := ?_)
  repeat' first | refine And.intro ?_ ?_ | intro
  all_goals refine leaf ?_
  refine callE (cmpI_prog a.tenant b.tenant) ?_
  refine walk (k := ?_)
  repeat' first | refine And.intro ?_ ?_ | intro
  all_goals refine leaf ?_
  refine callE (cmpS_prog a.key b.key) ?_
  refine walk (k := ?_)
  repeat' first | refine And.intro ?_ ?_ | intro
  all_goals refine leaf ?_
  rename_i t _ _
  refine callE (or_prog t true [cmpI a.at_ b.at_, cmpI a.tenant b.tenant, cmpS a.key b.key] (Nat.le_of_ble_eq_true rfl)) ?_
  refine walk (k := ?_)
  repeat' first | refine And.intro ?_ ?_ | intro
  all_goals refine leaf ?_
  exact doneR rfl

def lt (a b : Due) : Prop := ordD a b < 0
instance (a b : Due) : Decidable (lt a b) := inferInstanceAs (Decidable (ordD a b < 0))
theorem lt_iff {a b : Due} : lt a b ↔ a.at_ < b.at_ ∨ (a.at_ = b.at_ ∧ (a.tenant < b.tenant ∨ (a.tenant = b.tenant ∧ Op.bytesLess a.key b.key = true))) := by
  unfold lt ordD orI orI orI orI cmpI cmpS
  by_cases h1 : a.at_ < b.at_
  · simp [h1]
  · by_cases h2 : b.at_ < a.at_
    · simp [h1, h2]; omega
    · have e1 : a.at_ = b.at_ := by omega
      by_cases h3 : a.tenant < b.tenant
      · simp [e1, h3]
      · by_cases h4 : b.tenant < a.tenant
        · simp [e1, h3, h4]; omega
        · have e2 : a.tenant = b.tenant := by omega
          cases h5 : Op.bytesLess a.key b.key with
          | true => simp [e1, e2]
          | false => cases h6 : Op.bytesLess b.key a.key <;> simp [e1, e2]
theorem lt_irrefl (a : Due) : ¬ lt a a := by rw [lt_iff, bl_irrefl]; simp
theorem lt_trans {a b c : Due} (h : lt a b) (h' : lt b c) : lt a c := by
  rw [lt_iff] at *
  rcases h with h | ⟨h, h1⟩
  · rcases h' with h' | ⟨h', _⟩ <;> exact .inl (by omega)
  · rcases h' with h' | ⟨h', h2⟩
    · exact .inl (by omega)
    · refine .inr ⟨by omega, ?_⟩
      rcases h1 with h1 | ⟨h1, h3⟩
      · rcases h2 with h2 | ⟨h2, _⟩ <;> exact .inl (by omega)
      · rcases h2 with h2 | ⟨h2, h4⟩
        · exact .inl (by omega)
        · exact .inr ⟨by omega, bl_trans h3 h4⟩
theorem lt_tri {a b : Due} (h : ¬ lt a b) (h' : ¬ lt b a) : a = b := by
  rw [lt_iff] at h h'
  have e1 : a.at_ = b.at_ := by omega
  have e2 : a.tenant = b.tenant := by omega
  have e3 : a.key = b.key := by
    refine bl_tri (Bool.eq_false_iff.2 fun k => h ?_) (Bool.eq_false_iff.2 fun k => h' ?_)
    · exact .inr ⟨e1, .inr ⟨e2, k⟩⟩
    · exact .inr ⟨e1.symm, .inr ⟨e2.symm, k⟩⟩
  cases a; cases b; simp_all
end Go.Proofs.YtjgcgepfidcihaaGreatDoor.Que

namespace Go.Proofs.YtjgcgepfidcihaaGreatDoor.Que
open Go Go.CM
set_option maxRecDepth 100000
set_option maxHeartbeats 4000000

abbrev It := Nat × Due
abbrev Its := List It
def itC (x : It) : List V := [.ptr x.1 0]
def obI (x : It) (i : Nat) : Ob := (x.1, .cells true [.int .i64 x.2.tenant, .str x.2.key, .int .i64 x.2.at_, .int .i64 i])
abbrev rowO (s : Nat) (its : Its) : Ob := (s, .cells true (its.flatMap itC))
def itO (its : Its) : List Ob := (List.range its.length).map fun i => obI (nth its i) i
theorem itO_get {its : Its} {i : Nat} (h : i < its.length) : (itO its)[i]? = some (obI (nth its i) i) := by
  simp [itO, h]
theorem itO_mem {its : Its} {i : Nat} (h : i < its.length) : obI (nth its i) i ∈ itO its := List.mem_of_getElem? (itO_get h)
theorem itO_length (its : Its) : (itO its).length = its.length := by simp [itO]

theorem less_prog (s : Nat) (its : Its) (i j : Nat) (hi : i < its.length) (hj : j < its.length) : CallsR Tryz.prog nqueue_row_Less [.slice s 0 its.length 1, .int .i64 i, .int .i64 j] (rowO s its :: itO its) fun v => v = .bool (decide (lt (nth its i).2 (nth its j).2)) := by
  refine squeue_row_Less fun H hh => ?_
  dsimp only [cqueue_row_Less]
  refine walk (k := ?_)
  repeat' first | refine And.intro ?_ ?_ | intro
  all_goals refine leaf ?_
  refine wps_ldn hh rfl (.there (at_mem' (itO_mem hi))) (vs' := (nth its i).2.enc) rfl rfl ?_
  refine walk (k := ?_)
  repeat' first | refine And.intro ?_ ?_ | intro
  all_goals refine leaf ?_
  refine wps_ldn hh rfl (.there (at_mem' (itO_mem hj))) (vs' := (nth its j).2.enc) rfl rfl ?_
  refine walk (k := ?_)
  repeat' first | refine And.intro ?_ ?_ | intro
  all_goals refine leaf ?_
  refine callE (order_prog (nth its i).2 (nth its j).2) ?_
  refine walk (k := ?_)
  repeat' first | refine And.intro ?_ ?_ | intro
  all_goals refine leaf ?_
  exact doneR rfl

theorem len_prog (s : Nat) (n : Nat) : CallsR Tryz.prog nqueue_row_Len [.slice s 0 n 1] [] fun v => v = .int .i64 n := by
  refine squeue_row_Len fun H hh => ?_
  dsimp only [cqueue_row_Len]
  refine walk (k := ?_)
  repeat' first | refine And.intro ?_ ?_ | intro
  all_goals refine leaf ?_
  exact doneR rfl

theorem itO_swap {its : Its} {i j : Nat} (hi : i < its.length) (hj : j < its.length) :
    (((itO its).set j (obI (nth its j) i)).set i (obI (nth its i) j)).Perm (itO (swapL its i j)) := by
  by_cases hij : i = j
  · subst hij
    have h1 : swapL its i i = its := by
      apply List.ext_getElem? ; intro k
      by_cases hk : k < its.length
      · rw [getD_some (by rw [swapL_length]; exact hk), getD_some hk, nth_swapL hi hi hk]
        by_cases h : k = i
        · subst h; simp
        · simp [h]
      · rw [List.getElem?_eq_none (by rw [swapL_length]; omega), List.getElem?_eq_none (by omega)]
    rw [h1]
    have h2 : (itO its).set i (obI (nth its i) i) = itO its := by
      apply List.ext_getElem?; intro k
      by_cases h : k = i
      · subst h; rw [List.getElem?_set_self (by rw [itO_length]; exact hi), itO_get hi]
      · rw [List.getElem?_set_ne (Ne.symm h)]
    rw [h2, h2]
  · haveI : Inhabited Ob := ⟨(0, .map [])⟩
    have hl : (itO (swapL its i j)).length = its.length := by rw [itO_length, swapL_length]
    have key : ((itO its).set j (obI (nth its j) i)).set i (obI (nth its i) j) = swapL (itO (swapL its i j)) i j := by
      have n1 : nth (itO (swapL its i j)) i = obI (nth its j) i := by
        rw [nth_of (itO_get (by rw [swapL_length]; exact hi)), nth_swapL hi hj hi, if_pos rfl]
      have n2 : nth (itO (swapL its i j)) j = obI (nth its i) j := by
        rw [nth_of (itO_get (by rw [swapL_length]; exact hj)), nth_swapL hi hj hj, if_neg (Ne.symm hij), if_pos rfl]
      apply List.ext_getElem?; intro k
      by_cases hk : k < its.length
      · by_cases h1 : k = i
        · subst h1
          rw [List.getElem?_set_self (by simp [itO_length]; exact hk), getD_some (by rw [swapL_length, hl]; exact hk), nth_swapL (by rw [hl]; exact hi) (by rw [hl]; exact hj) (by rw [hl]; exact hk), if_pos rfl, n2]
        · rw [List.getElem?_set_ne (Ne.symm h1)]
          by_cases h2 : k = j
          · subst h2
            rw [List.getElem?_set_self (by rw [itO_length]; exact hk), getD_some (by rw [swapL_length, hl]; exact hk), nth_swapL (by rw [hl]; exact hi) (by rw [hl]; exact hj) (by rw [hl]; exact hk), if_neg h1, if_pos rfl, n1]
          · rw [List.getElem?_set_ne (Ne.symm h2), itO_get hk, getD_some (by rw [swapL_length, hl]; exact hk), nth_swapL (by rw [hl]; exact hi) (by rw [hl]; exact hj) (by rw [hl]; exact hk), if_neg h1, if_neg h2, nth_of (itO_get (by rw [swapL_length]; exact hk)), nth_swapL hi hj hk, if_neg h1, if_neg h2]
      · rw [List.getElem?_eq_none (by simp [itO_length]; omega), List.getElem?_eq_none (by rw [swapL_length, hl]; omega)]
    rw [key]
    exact swapL_perm (by rw [hl]; exact hi) (by rw [hl]; exact hj)

theorem swap_prog (s : Nat) (its : Its) (i j : Nat) (hi : i < its.length) (hj : j < its.length) : CallsL Tryz.prog nqueue_row_Swap [.slice s 0 its.length 1, .int .i64 i, .int .i64 j] (rowO s its :: itO its) fun v L' => v = .tup [] ∧ L' = rowO s (swapL its i j) :: itO (swapL its i j) := by
  refine squeue_row_Swap fun H hh => ?_
  dsimp only [cqueue_row_Swap]
  refine walk (k := ?_)
  repeat' first | refine And.intro ?_ ?_ | intro
  all_goals refine leaf ?_
  rename_i hh
  have hi' : i < (swapL its i j).length := by rw [swapL_length]; exact hi
  have hj' : j < (swapL its i j).length := by rw [swapL_length]; exact hj
  change Has _ (rowO s (swapL its i j) :: itO its) at hh
  rw [show nth ((its.set i (nth its j)).set j (nth its i)) i = nth its j from by have := nth_swapL hi hj hi; rwa [if_pos rfl] at this, show nth ((its.set i (nth its j)).set j (nth its i)) j = nth its i from by
    have := nth_swapL hi hj hj
    by_cases h : j = i
    · subst h; rwa [if_pos rfl] at this
    · rwa [if_neg h, if_pos rfl] at this]
  refine wps_store (cs' := [.int .i64 (nth its j).2.tenant, .str (nth its j).2.key, .int .i64 (nth its j).2.at_, .int .i64 i]) hh rfl rfl rfl rfl rfl (.there (upd_set' (itO_get hj))) (Nat.le_of_ble_eq_true rfl) rfl fun _ hh => ?_
  refine walk1 (k := ?_)
  repeat' first | refine And.intro ?_ ?_ | intro
  all_goals refine leaf ?_
  have h1 : ((itO its).set j (obI (nth its j) i))[i]? = some (obI (nth its i) i) := by
    by_cases h : j = i
    · subst h; rw [List.getElem?_set_self (by rw [itO_length]; exact hj)]
    · rw [List.getElem?_set_ne h, itO_get hi]
  refine wps_store (cs' := [.int .i64 (nth its i).2.tenant, .str (nth its i).2.key, .int .i64 (nth its i).2.at_, .int .i64 j]) hh rfl rfl rfl rfl rfl (.there (upd_set' h1)) (Nat.le_of_ble_eq_true rfl) rfl fun _ hh => ?_
  refine walk1 (k := ?_)
  repeat' first | refine And.intro ?_ ?_ | intro
  all_goals refine leaf ?_
  exact .mk (hh.perm ((itO_swap hi hj).cons _)) ⟨rfl, rfl⟩

theorem itO_push (its : Its) (x : It) : itO (its ++ [x]) = itO its ++ [obI x its.length] := by
  simp only [itO, List.length_append, List.length_singleton, List.range_succ, List.map_append, List.map_cons, List.map_nil]
  congr 1
  · refine List.map_congr_left fun i hi => ?_
    have := List.mem_range.1 hi
    rw [nth_getElem (by simp; omega), nth_getElem this, List.getElem_append_left this]
  · rw [nth_getElem (by simp)]; simp
theorem push_prog (q s id mid : Nat) (its : Its) (d : Due) (n : Int) (hl : its.length ≤ 1000) : CallsL Tryz.prog nqueue_row_Push [.ptr q 0, .iface tP_queue_item (.ptr id 0)] ((q, .cells true [.slice s 0 its.length 1, .map mid]) :: rowO s its :: (id, .cells true [.int .i64 d.tenant, .str d.key, .int .i64 d.at_, .int .i64 n]) :: itO its)
    fun v L' => v = .tup [] ∧ ∃ s', L' = (q, .cells true [.slice s' 0 (its ++ [(id, d)]).length 1, .map mid]) :: rowO s' (its ++ [(id, d)]) :: itO (its ++ [(id, d)]) := by
  refine squeue_row_Push fun H hh => ?_
  dsimp only [cqueue_row_Push]
  refine walk (k := ?_)
  repeat' first | refine And.intro ?_ ?_ | intro
  all_goals refine leaf ?_
  rename_i t _ hh
  refine wps_approw hh [(id, d)] (l := its) (enc := itC) (L' := fun s' => (t, .cells true [.ptr id 0]) :: (q, .cells true [.slice s 0 its.length 1, .map mid]) :: rowO s' (its ++ [(id, d)]) :: (obI (id, d) its.length) :: itO its) rfl rfl .here (fun _ => rfl) (fun s' => .there (.there .here1)) (by simp; omega) fun s' _ hh => ?_
  refine walk1 (k := ?_)
  repeat' first | refine And.intro ?_ ?_ | intro
  all_goals refine leaf ?_
  rename_i hh
  refine .mk (L := (q, .cells true [.slice s' 0 (its ++ [(id, d)]).length 1, .map mid]) :: rowO s' (its ++ [(id, d)]) :: itO (its ++ [(id, d)])) ?_ ⟨rfl, s', rfl⟩
  rw [itO_push]
  exact hh.tail.perm (((List.perm_append_singleton _ _).symm.cons _).cons _)
theorem pop_prog (q s mid : Nat) (its : Its) (x : It) (hl : its.length ≤ 1000) : CallsL Tryz.prog nqueue_row_Pop [.ptr q 0] ((q, .cells true [.slice s 0 (its ++ [x]).length 1, .map mid]) :: rowO s (its ++ [x]) :: itO (its ++ [x]))
    fun v L' => v = .iface tP_queue_item (.ptr x.1 0) ∧ L' = (q, .cells true [.slice s 0 its.length 1, .map mid]) :: rowO s its :: obI x its.length :: itO its := by
  refine squeue_row_Pop fun H hh => ?_
  dsimp only [cqueue_row_Pop]
  refine walk (k := ?_)
  repeat' first | refine And.intro ?_ ?_ | intro
  all_goals refine leaf ?_
  rename_i hh
  have e : ((↑(its ++ [x]).length - 1 : Int)).toNat = its.length := by simp
  rw [e] at hh ⊢
  have e2 : nth (its ++ [x]) its.length = x := by rw [nth_getElem (by simp)]; simp
  rw [e2]
  rw [itO_push] at hh
  refine CEnds.cut hh (id := s) (cs := its.flatMap itC) (cs' := itC x) (L' := (q, .cells true [.slice s 0 its.length 1, .map mid]) :: rowO s its :: (itO its ++ [obI x its.length])) ?_ (by simp [itC]) fun H' hh => ?_
  · have : (its ++ [x]).flatMap itC = its.flatMap itC ++ itC x := by simp
    rw [rowO, this]; exact .there .here1
  · exact .mk (hh.perm (((List.perm_append_singleton _ _).cons _).cons _)) ⟨rfl, rfl⟩
end Go.Proofs.YtjgcgepfidcihaaGreatDoor.Que

namespace Go.Proofs.YtjgcgepfidcihaaGreatDoor.Que
open Go Go.CM
set_option maxRecDepth 100000
set_option maxHeartbeats 4000000

abbrev Lt (its : Its) (a b : Nat) : Prop := lt (nth its a).2 (nth its b).2
def par (k : Nat) : Nat := (k - 1) / 2
def Heapy (its : Its) (n : Nat) : Prop := ∀ k, 0 < k → k < n → ¬ Lt its k (par k)
structure Near (its : Its) (n i : Nat) : Prop where
  far : ∀ k, 0 < k → k < n → k ≠ i → par k ≠ i → ¬ Lt its k (par k)
  over : ∀ k, 0 < k → k < n → par k = i → 0 < i → ¬ Lt its k (par i)
def Kids (its : Its) (n i : Nat) : Prop := ∀ k, 0 < k → k < n → par k = i → ¬ Lt its k i
theorem le_trans' {a b c : Due} (h : ¬ lt b a) (h' : ¬ lt c b) : ¬ lt c a := fun k => by
  by_cases h1 : lt b c
  · exact h (lt_trans h1 k)
  · have := lt_tri h' h1; subst this; exact h k

theorem Near.done {its : Its} {n i : Nat} (h : Near its n i) (hk : Kids its n i) (hi : i = 0 ∨ ¬ Lt its i (par i)) : Heapy its n := fun k h0 hn => by
  by_cases h1 : k = i
  · subst h1
    rcases hi with rfl | hi
    · omega
    · exact hi
  · by_cases h2 : par k = i
    · subst h2; exact hk k h0 hn rfl
    · exact h.far k h0 hn h1 h2
theorem Near.up {its : Its} {n i : Nat} (h : Near its n i) (hk : Kids its n i) (hi : 0 < i) (hin : i < n) (hn : n ≤ its.length) (hlt : Lt its i (par i)) : Near (swapL its (par i) i) n (par i) ∧ Kids (swapL its (par i) i) n (par i) := by
  have hp : par i < i := by unfold par; omega
  have get : ∀ k, k < n → nth (swapL its (par i) i) k = if k = par i then nth its i else if k = i then nth its (par i) else nth its k := fun k hk => nth_swapL (by omega) (by omega) (by omega)
  have gp : nth (swapL its (par i) i) (par i) = nth its i := by rw [get _ (by omega), if_pos rfl]
  have gi : nth (swapL its (par i) i) i = nth its (par i) := by rw [get _ hin, if_neg (by omega), if_pos rfl]
  have go : ∀ k, k < n → k ≠ par i → k ≠ i → nth (swapL its (par i) i) k = nth its k := fun k h1 h2 h3 => by rw [get k h1, if_neg h2, if_neg h3]
  refine ⟨⟨fun k h0 h1 h2 h3 => ?_, fun k h0 h1 h2 h3 => ?_⟩, fun k h0 h1 h2 => ?_⟩
  · have hki : k ≠ i := fun e => by subst e; exact h3 rfl
    have hpk : par k < k := by unfold par; omega
    unfold Lt
    by_cases h4 : par k = i
    · rw [h4, gi, go k h1 h2 hki]; exact h.over k h0 h1 h4 hi
    · rw [go k h1 h2 hki, go (par k) (by omega) h3 h4]; exact h.far k h0 h1 hki h4
  · unfold Lt
    have hpp : par (par i) < par i := by unfold par at *; omega
    rw [go (par (par i)) (by omega) (by omega) (by omega)]
    by_cases h4 : k = i
    · subst h4; rw [gi]; exact h.far (par k) h3 (by omega) (by omega) (by omega)
    · have hkp : k ≠ par i := fun e => by rw [e] at h2; omega
      rw [go k h1 hkp h4]
      have a1 := h.far (par i) h3 (by omega) (by omega) (by omega)
      have a2 := h.far k h0 h1 h4 (by omega)
      rw [h2] at a2
      exact le_trans' a1 a2
  · unfold Lt
    rw [gp]
    by_cases h4 : k = i
    · subst h4; rw [gi]; exact fun hx => lt_irrefl _ (lt_trans hlt hx)
    · have hkp : k ≠ par i := fun e => by unfold par at *; omega
      rw [go k h1 hkp h4]
      have a2 := h.far k h0 h1 h4 (by omega)
      rw [h2] at a2
      exact le_trans' (fun hx => lt_irrefl _ (lt_trans hlt hx)) a2
theorem Near.down {its : Its} {n i j : Nat} (h : Near its n i) (hj : j < n) (hp : par j = i) (h0 : 0 < j) (hn : n ≤ its.length) (hlt : Lt its j i) (hmin : ∀ k, 0 < k → k < n → par k = i → ¬ Lt its k j) :
    Near (swapL its i j) n j ∧ ¬ Lt (swapL its i j) j (par j) ∧ (i = 0 ∨ ¬ Lt (swapL its i j) i (par i)) ∧ ∀ k, 0 < k → k < n → k ≠ j → par k ≠ j → ¬ Lt (swapL its i j) k (par k) := by
  have hij : i < j := by rw [← hp]; unfold par; omega
  have get : ∀ k, k < n → nth (swapL its i j) k = if k = i then nth its j else if k = j then nth its i else nth its k := fun k hk => nth_swapL (by omega) (by omega) (by omega)
  have gi : nth (swapL its i j) i = nth its j := by rw [get _ (by omega), if_pos rfl]
  have gj : nth (swapL its i j) j = nth its i := by rw [get _ hj, if_neg (by omega), if_pos rfl]
  have go : ∀ k, k < n → k ≠ i → k ≠ j → nth (swapL its i j) k = nth its k := fun k h1 h2 h3 => by rw [get k h1, if_neg h2, if_neg h3]
  have top : 0 < i → ¬ Lt (swapL its i j) i (par i) := fun hi => by
    have : par i < i := by unfold par; omega
    unfold Lt
    rw [gi, go (par i) (by omega) (by omega) (by omega)]
    exact h.over j h0 hj hp hi
  have all : ∀ k, 0 < k → k < n → k ≠ j → par k ≠ j → ¬ Lt (swapL its i j) k (par k) := fun k k0 hk h1 h2 => by
    by_cases h3 : k = i
    · subst h3; exact top k0
    · have : par k < k := by unfold par; omega
      unfold Lt
      by_cases h4 : par k = i
      · rw [h4, gi, go k hk h3 h1]; exact hmin k k0 hk h4
      · rw [go k hk h3 h1, go (par k) (by omega) h4 h2]; exact h.far k k0 hk h3 h4
  refine ⟨⟨fun k k0 hk h1 h2 => all k k0 hk h1 h2, fun k k0 hk h1 _ => ?_⟩, ?_, ?_, all⟩
  · have : par k < k := by unfold par; omega
    unfold Lt
    rw [hp, gi, go k hk (by omega) (by omega)]
    have := h.far k k0 hk (by omega) (by omega)
    rwa [h1] at this
  · unfold Lt
    rw [hp, gi, gj]
    exact fun hx => lt_irrefl _ (lt_trans hlt hx)
  · rcases Nat.eq_zero_or_pos i with h1 | h1
    · exact .inl h1
    · exact .inr (top h1)
end Go.Proofs.YtjgcgepfidcihaaGreatDoor.Que
