/-
  Texts joined: The queue of what is due: the heap's deeds walk as said. The queue of what is due: one more on the heap, one less, one that is turned.
-/
import Derived.Test.YtjgcgepfidcihaaGreatDoorKueA
namespace Go.Proofs.YtjgcgepfidcihaaGreatDoor.Que
open Go Go.CM
set_option maxRecDepth 100000
set_option maxHeartbeats 4000000

abbrev QO (q s n mid : Nat) : Ob := (q, .cells true [.slice s 0 n 1, .map mid])
abbrev HL (q s mid : Nat) (its : Its) : List Ob := QO q s its.length mid :: rowO s its :: itO its
abbrev hV (q : Nat) : V := .iface tP_queue_row (.ptr q 0)

theorem mLess : methB Tryz.prog tP_queue_row "Less" = some (nqueue_row_Less, 1) := by kernel_rfl
theorem mSwap : methB Tryz.prog tP_queue_row "Swap" = some (nqueue_row_Swap, 1) := by kernel_rfl
theorem mLen : methB Tryz.prog tP_queue_row "Len" = some (nqueue_row_Len, 1) := by kernel_rfl
theorem mPush : methB Tryz.prog tP_queue_row "Push" = some (nqueue_row_Push, 0) := by kernel_rfl
theorem mPop : methB Tryz.prog tP_queue_row "Pop" = some (nqueue_row_Pop, 0) := by kernel_rfl
theorem mOf {H : Heap} {L : List Ob} (hh : Has H L) {q s n mid : Nat} (hm : At (QO q s n mid) L) {name : String} {f : FuncId} (h : methB Tryz.prog tP_queue_row name = some (f, 1)) : Meth Tryz.prog H tP_queue_row name (.ptr q 0) f (.slice s 0 n 1) :=
  meth_l h (hh.getc hm.mem (by simp)) rfl

theorem up_prog (q s mid : Nat) (its : Its) (n j : Nat) (hl : its.length ≤ 1000) (hn : n ≤ its.length) (hj : j < n) (hnear : Near its n j) (hk : Kids its n j) :
    CallsL Tryz.prog nheap_up [hV q, .int .i64 j] (HL q s mid its) fun v L' => v = .tup [] ∧ ∃ its' : Its, its'.Perm its ∧ Heapy its' n ∧ (∀ k, n ≤ k → k < its.length → nth its' k = nth its k) ∧ L' = HL q s mid its' := by
  refine sheap_up fun H hh => ?_
  dsimp only [cheap_up]
  refine walk (k := ?_)
  repeat' first | refine And.intro ?_ ?_ | intro
  all_goals refine leaf ?_
  refine loopM [0, 1] (fun j vs L => ∃ its' : Its, its'.Perm its ∧ (∀ k, n ≤ k → k < its.length → nth its' k = nth its k) ∧ j < n ∧ Near its' n j ∧ Kids its' n j ∧ vs = [hV q, .int .i64 j] ∧ L = HL q s mid its') (Nx.intro (i := j) trivial ⟨its, .refl _, fun _ _ _ => rfl, hj, hnear, hk, rfl, rfl⟩) ?_
  clear hh hk hnear hj
  rintro j _ _ e H ⟨is, hp, hsame, hj, hnear, hk, rfl, rfl⟩ hh
  have hlen := hp.length_eq
  simp only [puts]
  rcases Nat.eq_zero_or_pos j with rfl | hj0
  · skip
    refine walk (k := ?_)
    repeat' first | refine And.intro ?_ ?_ | intro
    all_goals refine leaf ?_
    exact done ⟨rfl, is, hp, hnear.done hk (.inl rfl), hsame, rfl⟩
  · skip
    refine walk1 (k := ?_)
    repeat' first | refine And.intro ?_ ?_ | intro
    all_goals refine leaf ?_
    have e1 : ((j : Int) - 1) / 2 = (par j : Nat) := by unfold par; omega
    rw [e1]
    have hpj : par j < j := by unfold par; omega
    refine wps_slot (s := 11) (v := .bool false) (by show V.bool _ = _; simp; omega) ?_
    refine walk1 (k := ?_)
    repeat' first | refine And.intro ?_ ?_ | intro
    all_goals refine leaf ?_
    refine icallE (mOf (by assumption) .here mLess) (less_prog s is j (par j) (by omega) (by omega)) ?_
    refine walk (k := ?_)
    repeat' first | refine And.intro ?_ ?_ | intro
    all_goals refine leaf ?_
    · rename_i hc
      exact done ⟨rfl, is, hp, hnear.done hk (.inr hc), hsame, rfl⟩
    · rename_i hc
      refine icallL (mOf (by assumption) .here mSwap) (swap_prog s is (par j) j (by omega) (by omega)) ?_
      rintro _ _ H' ⟨rfl, rfl⟩ hh
      refine walk1 (k := ?_)
      repeat' first | refine And.intro ?_ ?_ | intro
      all_goals refine leaf ?_
      have hu := hnear.up hk hj0 hj (by omega) hc
      rw [show QO q s is.length mid = QO q s (swapL is (par j) j).length mid by rw [swapL_length]] at hh
      exact Nx.intro (i := par j) hpj ⟨swapL is (par j) j, (swapL_perm (by omega) (by omega)).trans hp, fun k h1 h2 => by rw [nth_swapL (by omega) (by omega) (by omega), if_neg (by omega), if_neg (by omega)]; exact hsame k h1 h2, by omega, hu.1, hu.2, rfl, rfl⟩

theorem down_prog (q s mid : Nat) (its : Its) (n i : Nat) (hl : its.length ≤ 1000) (hn : n ≤ its.length) (hi : i < n) (hnear : Near its n i) :
    CallsL Tryz.prog nheap_down [hV q, .int .i64 i, .int .i64 n] (HL q s mid its) fun v L' => ∃ (b : Bool) (its' : Its), v = .bool b ∧ its'.Perm its ∧ (∀ k, n ≤ k → k < its.length → nth its' k = nth its k) ∧ (b = true → Heapy its' n) ∧ (b = false → its' = its ∧ Kids its n i) ∧ L' = HL q s mid its' := by
  refine sheap_down fun H hh => ?_
  dsimp only [cheap_down]
  refine walk (k := ?_)
  repeat' first | refine And.intro ?_ ?_ | intro
  all_goals refine leaf ?_
  refine loopM [0, 1, 2, 7] (fun m vs L => ∃ (its' : Its) (j : Nat), m = n - j ∧ its'.Perm its ∧ (∀ k, n ≤ k → k < its.length → nth its' k = nth its k) ∧ i ≤ j ∧ j < n ∧ Near its' n j ∧ (j = i → its' = its) ∧ (j ≠ i → j = 0 ∨ ¬ Lt its' j (par j)) ∧ vs = [hV q, .int .i64 i, .int .i64 n, .int .i64 j] ∧ L = HL q s mid its') (Nx.intro (i := n - i) trivial ⟨its, i, rfl, .refl _, fun _ _ _ => rfl, Nat.le_refl _, hi, hnear, fun _ => rfl, fun h => absurd rfl h, rfl, rfl⟩) ?_
  clear hh hnear
  rintro m _ _ e H ⟨is, j, rfl, hp, hsame, hij, hj, hnear, hfirst, htop, rfl, rfl⟩ hh
  have hlen := hp.length_eq
  simp only [puts]
  have fin : ∀ (hk : Kids is n j), ∃ (b : Bool) (its' : Its), V.bool (decide ((i : Int) < j)) = .bool b ∧ its'.Perm its ∧ (∀ k, n ≤ k → k < its.length → nth its' k = nth its k) ∧ (b = true → Heapy its' n) ∧ (b = false → its' = its ∧ Kids its n i) ∧ HL q s mid is = HL q s mid its' := fun hk => by
    refine ⟨_, is, rfl, hp, hsame, fun hb => hnear.done hk (htop (by simp at hb; omega)), fun hb => ?_, rfl⟩
    have : j = i := by simp at hb; omega
    subst this
    have := hfirst rfl
    subst this
    exact ⟨rfl, hk⟩
  refine walk1 (k := ?_)
  repeat' first | refine And.intro ?_ ?_ | intro
  all_goals refine leaf ?_
  by_cases hn1 : n ≤ 2 * j + 1
  · refine wps_slot (s := 18) (v := .bool true) (by show V.bool _ = _; simp; omega) ?_
    refine walk (k := ?_)
    repeat' first | refine And.intro ?_ ?_ | intro
    all_goals refine leaf ?_
    exact done (fin fun k k0 hk hpk => by unfold par at hpk; omega)
  · refine wps_slot (s := 18) (v := .bool false) (by show V.bool _ = _; simp; omega) ?_
    refine walk1 (k := ?_)
    repeat' first | refine And.intro ?_ ?_ | intro
    all_goals refine leaf ?_
    have ec : (2 * (j : Int) + 1) = ((2 * j + 1 : Nat) : Int) := by omega
    have ec2 : (((2 * j + 1 : Nat) : Int) + 1) = ((2 * j + 2 : Nat) : Int) := by omega
    rw [ec, ec2]
    by_cases hn2 : 2 * j + 2 < n
    · refine wps_slot (s := 28) (v := .bool true) (by show V.bool _ = _; simp; omega) ?_
      refine walk1 (k := ?_)
      repeat' first | refine And.intro ?_ ?_ | intro
      all_goals refine leaf ?_
      refine icallE (mOf (by assumption) .here mLess) (less_prog s is (2 * j + 2) (2 * j + 1) (by omega) (by omega)) ?_
      refine walk1 (k := ?_)
      repeat' first | refine And.intro ?_ ?_ | intro
      all_goals refine leaf ?_
      by_cases hll : Lt is (2 * j + 2) (2 * j + 1)
      · refine c_cond_t (by show V.bool _ = _; simp [hll]) ?_
        have hmin : ∀ k, 0 < k → k < n → par k = j → ¬ Lt is k (2 * j + 2) := fun k k0 hk hpk => by
          have : k = 2 * j + 1 ∨ k = 2 * j + 2 := by unfold par at hpk; omega
          rcases this with rfl | rfl
          · exact fun h => lt_irrefl _ (lt_trans h hll)
          · exact lt_irrefl _
        refine walk1 (k := ?_)
        repeat' first | refine And.intro ?_ ?_ | intro
        all_goals refine leaf ?_
        refine icallE (mOf (by assumption) .here mLess) (less_prog s is (2 * j + 2) j (by omega) (by omega)) ?_
        refine walk1 (k := ?_)
        repeat' first | refine And.intro ?_ ?_ | intro
        all_goals refine leaf ?_
        by_cases hlt : Lt is (2 * j + 2) j
        · refine c_cond_f (by show V.bool _ = _; simp [hlt]) ?_
          refine walk1 (k := ?_)
          repeat' first | refine And.intro ?_ ?_ | intro
          all_goals refine leaf ?_
          refine icallL (mOf (by assumption) .here mSwap) (swap_prog s is j (2 * j + 2) (by omega) (by omega)) ?_
          rintro _ _ H' ⟨rfl, rfl⟩ hh
          rw [show QO q s is.length mid = QO q s (swapL is j (2 * j + 2)).length mid by rw [swapL_length]] at hh
          refine walk1 (k := ?_)
          repeat' first | refine And.intro ?_ ?_ | intro
          all_goals refine leaf ?_
          obtain ⟨d1, d2, d3, d4⟩ := hnear.down (j := (2 * j + 2)) (by omega) (by unfold par; omega) (by omega) (by omega) hlt hmin
          exact Nx.intro (i := n - (2 * j + 2)) (by omega) ⟨swapL is j (2 * j + 2), (2 * j + 2), rfl, (swapL_perm (by omega) (by omega)).trans hp, fun k h1 h2 => by rw [nth_swapL (by omega) (by omega) (by omega), if_neg (by omega), if_neg (by omega)]; exact hsame k h1 h2, by omega, by omega, d1, fun h => by omega, fun _ => .inr d2, rfl, rfl⟩
        · refine c_cond_t (by show V.bool _ = _; simp [hlt]) ?_
          refine walk (k := ?_)
          repeat' first | refine And.intro ?_ ?_ | intro
          all_goals refine leaf ?_
          exact done (fin fun k k0 hk hpk => le_trans' hlt (hmin k k0 hk hpk))
      · refine c_cond_f (by show V.bool _ = _; simp [hll]) ?_
        have hmin : ∀ k, 0 < k → k < n → par k = j → ¬ Lt is k (2 * j + 1) := fun k k0 hk hpk => by
          have : k = 2 * j + 1 ∨ k = 2 * j + 2 := by unfold par at hpk; omega
          rcases this with rfl | rfl
          · exact lt_irrefl _
          · exact hll
        refine walk1 (k := ?_)
        repeat' first | refine And.intro ?_ ?_ | intro
        all_goals refine leaf ?_
        refine icallE (mOf (by assumption) .here mLess) (less_prog s is (2 * j + 1) j (by omega) (by omega)) ?_
        refine walk1 (k := ?_)
        repeat' first | refine And.intro ?_ ?_ | intro
        all_goals refine leaf ?_
        by_cases hlt : Lt is (2 * j + 1) j
        · refine c_cond_f (by show V.bool _ = _; simp [hlt]) ?_
          refine walk1 (k := ?_)
          repeat' first | refine And.intro ?_ ?_ | intro
          all_goals refine leaf ?_
          refine icallL (mOf (by assumption) .here mSwap) (swap_prog s is j (2 * j + 1) (by omega) (by omega)) ?_
          rintro _ _ H' ⟨rfl, rfl⟩ hh
          rw [show QO q s is.length mid = QO q s (swapL is j (2 * j + 1)).length mid by rw [swapL_length]] at hh
          refine walk1 (k := ?_)
          repeat' first | refine And.intro ?_ ?_ | intro
          all_goals refine leaf ?_
          obtain ⟨d1, d2, d3, d4⟩ := hnear.down (j := (2 * j + 1)) (by omega) (by unfold par; omega) (by omega) (by omega) hlt hmin
          exact Nx.intro (i := n - (2 * j + 1)) (by omega) ⟨swapL is j (2 * j + 1), (2 * j + 1), rfl, (swapL_perm (by omega) (by omega)).trans hp, fun k h1 h2 => by rw [nth_swapL (by omega) (by omega) (by omega), if_neg (by omega), if_neg (by omega)]; exact hsame k h1 h2, by omega, by omega, d1, fun h => by omega, fun _ => .inr d2, rfl, rfl⟩
        · refine c_cond_t (by show V.bool _ = _; simp [hlt]) ?_
          refine walk (k := ?_)
          repeat' first | refine And.intro ?_ ?_ | intro
          all_goals refine leaf ?_
          exact done (fin fun k k0 hk hpk => le_trans' hlt (hmin k k0 hk hpk))
    · refine wps_slot (s := 28) (v := .bool false) (by show V.bool _ = _; simp; omega) ?_
      have hmin : ∀ k, 0 < k → k < n → par k = j → ¬ Lt is k (2 * j + 1) := fun k k0 hk hpk => by
        have : k = 2 * j + 1 := by unfold par at hpk; omega
        subst this
        exact lt_irrefl _
      refine walk1 (k := ?_)
      repeat' first | refine And.intro ?_ ?_ | intro
      all_goals refine leaf ?_
      refine icallE (mOf (by assumption) .here mLess) (less_prog s is (2 * j + 1) j (by omega) (by omega)) ?_
      refine walk1 (k := ?_)
      repeat' first | refine And.intro ?_ ?_ | intro
      all_goals refine leaf ?_
      by_cases hlt : Lt is (2 * j + 1) j
      · refine c_cond_f (by show V.bool _ = _; simp [hlt]) ?_
        refine walk1 (k := ?_)
        repeat' first | refine And.intro ?_ ?_ | intro
        all_goals refine leaf ?_
        refine icallL (mOf (by assumption) .here mSwap) (swap_prog s is j (2 * j + 1) (by omega) (by omega)) ?_
        rintro _ _ H' ⟨rfl, rfl⟩ hh
        rw [show QO q s is.length mid = QO q s (swapL is j (2 * j + 1)).length mid by rw [swapL_length]] at hh
        refine walk1 (k := ?_)
        repeat' first | refine And.intro ?_ ?_ | intro
        all_goals refine leaf ?_
        obtain ⟨d1, d2, d3, d4⟩ := hnear.down (j := (2 * j + 1)) (by omega) (by unfold par; omega) (by omega) (by omega) hlt hmin
        exact Nx.intro (i := n - (2 * j + 1)) (by omega) ⟨swapL is j (2 * j + 1), (2 * j + 1), rfl, (swapL_perm (by omega) (by omega)).trans hp, fun k h1 h2 => by rw [nth_swapL (by omega) (by omega) (by omega), if_neg (by omega), if_neg (by omega)]; exact hsame k h1 h2, by omega, by omega, d1, fun h => by omega, fun _ => .inr d2, rfl, rfl⟩
      · refine c_cond_t (by show V.bool _ = _; simp [hlt]) ?_
        refine walk (k := ?_)
        repeat' first | refine And.intro ?_ ?_ | intro
        all_goals refine leaf ?_
        exact done (fin fun k k0 hk hpk => le_trans' hlt (hmin k k0 hk hpk))
end Go.Proofs.YtjgcgepfidcihaaGreatDoor.Que

namespace Go.Proofs.YtjgcgepfidcihaaGreatDoor.Que
open Go Go.CM
set_option maxRecDepth 100000
set_option maxHeartbeats 4000000

theorem nth_app {its : Its} {x : It} {k : Nat} (h : k < its.length) : nth (its ++ [x]) k = nth its k := by
  rw [nth_getElem (by simp; omega), nth_getElem h, List.getElem_append_left h]
theorem Heapy.push {its : Its} {x : It} (h : Heapy its its.length) : Near (its ++ [x]) (its ++ [x]).length its.length ∧ Kids (its ++ [x]) (its ++ [x]).length its.length := by
  have hl : (its ++ [x]).length = its.length + 1 := by simp
  rw [hl]
  refine ⟨⟨fun k h0 h1 h2 h3 => ?_, fun k h0 h1 h2 h3 => ?_⟩, fun k h0 h1 h2 => ?_⟩
  · unfold Lt
    have : par k < k := by unfold par; omega
    rw [nth_app (by omega), nth_app (by omega)]
    exact h k h0 (by omega)
  · unfold par at h2; omega
  · unfold par at h2; omega
theorem heap_push_prog (q s id mid : Nat) (its : Its) (d : Due) (n : Int) (hl : its.length ≤ 999) (h : Heapy its its.length) :
    CallsL Tryz.prog nheap_Push [hV q, .iface tP_queue_item (.ptr id 0)] (QO q s its.length mid :: rowO s its :: (id, .cells true [.int .i64 d.tenant, .str d.key, .int .i64 d.at_, .int .i64 n]) :: itO its)
      fun v L' => v = .tup [] ∧ ∃ s' its', its'.Perm ((id, d) :: its) ∧ Heapy its' its'.length ∧ L' = HL q s' mid its' := by
  refine sheap_Push fun H hh => ?_
  dsimp only [cheap_Push]
  refine walk (k := ?_)
  repeat' first | refine And.intro ?_ ?_ | intro
  all_goals refine leaf ?_
  refine icallL (meth_p mPush _) (push_prog q s id mid its d n (by omega)) ?_
  rintro _ _ H' ⟨rfl, s', rfl⟩ hh
  refine walk1 (k := ?_)
  repeat' first | refine And.intro ?_ ?_ | intro
  all_goals refine leaf ?_
  refine icallE (mOf (by assumption) .here mLen) (len_prog s' (its ++ [(id, d)]).length) ?_
  refine walk1 (k := ?_)
  repeat' first | refine And.intro ?_ ?_ | intro
  all_goals refine leaf ?_
  have e1 : ((its ++ [(id, d)]).length : Int) - 1 = (its.length : Nat) := by simp
  rw [e1]
  obtain ⟨h1, h2⟩ := Heapy.push (x := (id, d)) h
  refine callL (up_prog q s' mid (its ++ [(id, d)]) (its ++ [(id, d)]).length its.length (by simp; omega) (Nat.le_refl _) (by simp) h1 h2) ?_
  rintro _ _ H2 ⟨rfl, its', hp, hy, _, rfl⟩ hh2
  refine walk1 (k := ?_)
  repeat' first | refine And.intro ?_ ?_ | intro
  all_goals refine leaf ?_
  have hp2 := hp.length_eq
  rw [← hp2] at hy
  exact done ⟨rfl, s', its', hp.trans (List.perm_append_singleton _ _), hy, rfl⟩

theorem fix_prog (q s mid : Nat) (its : Its) (i : Nat) (hl : its.length ≤ 1000) (hi : i < its.length) (hnear : Near its its.length i) :
    CallsL Tryz.prog nheap_Fix [hV q, .int .i64 i] (HL q s mid its) fun v L' => v = .tup [] ∧ ∃ its', its'.Perm its ∧ Heapy its' its'.length ∧ L' = HL q s mid its' := by
  refine sheap_Fix fun H hh => ?_
  dsimp only [cheap_Fix]
  refine walk (k := ?_)
  repeat' first | refine And.intro ?_ ?_ | intro
  all_goals refine leaf ?_
  refine icallE (mOf (by assumption) .here mLen) (len_prog s its.length) ?_
  refine walk1 (k := ?_)
  repeat' first | refine And.intro ?_ ?_ | intro
  all_goals refine leaf ?_
  refine callL (down_prog q s mid its its.length i hl (Nat.le_refl _) hi hnear) ?_
  rintro _ _ H' ⟨b, its', rfl, hp, _, h1, h2, rfl⟩ hh
  have hlen := hp.length_eq
  refine walk (k := ?_)
  repeat' first | refine And.intro ?_ ?_ | intro
  all_goals refine leaf ?_
  · rename_i hb
    simp at hb
    obtain ⟨rfl, hk⟩ := h2 hb
    refine callL (up_prog q s mid its' its'.length i hl (Nat.le_refl _) hi hnear hk) ?_
    rintro _ _ H2 ⟨rfl, its2, hp2, hy, _, rfl⟩ hh2
    refine walk1 (k := ?_)
    repeat' first | refine And.intro ?_ ?_ | intro
    all_goals refine leaf ?_
    exact done ⟨rfl, its2, hp2, by rw [hp2.length_eq]; exact hy, rfl⟩
  · rename_i hb
    simp at hb
    exact done ⟨rfl, its', hp, by rw [hlen]; exact h1 hb, rfl⟩

theorem Heapy.swap_last {its : Its} {i n : Nat} (h : Heapy its its.length) (hn : its.length = n + 1) (hi : i < n) : Near (swapL its i n) n i := by
  have go : ∀ k, k < n → k ≠ i → nth (swapL its i n) k = nth its k := fun k h1 h2 => by rw [nth_swapL (by omega) (by omega) (by omega), if_neg h2, if_neg (by omega)]
  refine ⟨fun k h0 h1 h2 h3 => ?_, fun k h0 h1 h2 h3 => ?_⟩
  · unfold Lt
    have : par k < k := by unfold par; omega
    rw [go k h1 h2, go (par k) (by omega) h3]
    exact h k h0 (by omega)
  · unfold Lt
    have : par k < k := by unfold par; omega
    have : par i < i := by unfold par; omega
    rw [go k h1 (by omega), go (par i) (by omega) (by omega)]
    have a1 := h k h0 (by omega)
    rw [h2] at a1
    exact le_trans' (h i h3 (by omega)) a1
theorem Heapy.take {its : Its} {n : Nat} (h : Heapy its n) (hn : n ≤ its.length) : Heapy (its.take n) n := fun k h0 h1 => by
  have : par k < k := by unfold par; omega
  have go : ∀ k, k < n → nth (its.take n) k = nth its k := fun k hk => by rw [nth_getElem (by simp; omega), nth_getElem (by omega), List.getElem_take]
  unfold Lt
  rw [go k h1, go (par k) (by omega)]
  exact h k h0 h1
theorem split_last {its : Its} {n : Nat} (hn : its.length = n + 1) : its = its.take n ++ [nth its n] := by
  rw [← take_getD (by omega), List.take_of_length_le (by omega)]

theorem remove_prog (q s mid : Nat) (its : Its) (i : Nat) (hl : its.length ≤ 1000) (hi : i < its.length) (h : Heapy its its.length) :
    CallsL Tryz.prog nheap_Remove [hV q, .int .i64 i] (HL q s mid its) fun v L' => v = .iface tP_queue_item (.ptr (nth its i).1 0) ∧ ∃ its', (nth its i :: its').Perm its ∧ Heapy its' its'.length ∧ L' = QO q s its'.length mid :: rowO s its' :: obI (nth its i) its'.length :: itO its' := by
  obtain ⟨n, hn⟩ : ∃ n, its.length = n + 1 := ⟨its.length - 1, by omega⟩
  -- the end, from a heap whose last place has the one that goes
  have key : ∀ is : Its, is.Perm its → Heapy is n → nth is n = nth its i → is = is.take n ++ [nth its i] ∧ (is.take n).length = n ∧ (nth its i :: is.take n).Perm its ∧ Heapy (is.take n) (is.take n).length := fun is hp hy he => by
    have hlen := hp.length_eq
    have h1 := split_last (its := is) (n := n) (by omega)
    rw [he] at h1
    have h2 : (is.take n).length = n := by simp; omega
    refine ⟨h1, h2, ?_, ?_⟩
    · have := (List.perm_append_singleton (nth its i) (is.take n)).symm
      rw [← h1] at this
      exact this.trans hp
    · rw [h2]; exact hy.take (by omega)
  refine sheap_Remove fun H hh => ?_
  dsimp only [cheap_Remove]
  refine walk (k := ?_)
  repeat' first | refine And.intro ?_ ?_ | intro
  all_goals refine leaf ?_
  refine icallE (mOf (by assumption) .here mLen) (len_prog s its.length) ?_
  refine walk1 (k := ?_)
  repeat' first | refine And.intro ?_ ?_ | intro
  all_goals refine leaf ?_
  have e1 : (its.length : Int) - 1 = (n : Nat) := by omega
  rw [e1]
  by_cases hin : i = n
  · refine c_cond_f (by show V.bool _ = _; simp; omega) ?_
    refine walk1 (k := ?_)
    repeat' first | refine And.intro ?_ ?_ | intro
    all_goals refine leaf ?_
    obtain ⟨k1, k2, k3, k4⟩ := key its (.refl _) (fun k h0 h1 => h k h0 (by omega)) (by rw [hin])
    generalize its.take n = is at *
    rw [k1] at hh
    refine icallL (meth_p mPop _) (pop_prog q s mid is (nth its i) (by omega)) ?_
    rintro _ _ H' ⟨rfl, rfl⟩ hh
    refine walk (k := ?_)
    repeat' first | refine And.intro ?_ ?_ | intro
    all_goals refine leaf ?_
    exact done ⟨rfl, is, k3, k4, rfl⟩
  · refine c_cond_t (by show V.bool _ = _; simp; omega) ?_
    refine walk1 (k := ?_)
    repeat' first | refine And.intro ?_ ?_ | intro
    all_goals refine leaf ?_
    refine icallL (mOf (by assumption) .here mSwap) (swap_prog s its i n (by omega) (by omega)) ?_
    rintro _ _ H' ⟨rfl, rfl⟩ hh
    have hsl := swapL_length its i n
    rw [show QO q s its.length mid = QO q s (swapL its i n).length mid by rw [hsl]] at hh
    have hl2 : nth (swapL its i n) n = nth its i := by rw [nth_swapL (by omega) (by omega) (by omega), if_neg (Ne.symm hin), if_pos rfl]
    have hp0 := swapL_perm (l := its) (i := i) (j := n) (by omega) (by omega)
    refine walk1 (k := ?_)
    repeat' first | refine And.intro ?_ ?_ | intro
    all_goals refine leaf ?_
    refine callL (down_prog q s mid (swapL its i n) n i (by omega) (by omega) (by omega) (h.swap_last hn (by omega))) ?_
    rintro _ _ H2 ⟨b, is, rfl, hp, hs, h1, h2, rfl⟩ hh
    have hlen := hp.length_eq
    have hsn := hs n (Nat.le_refl _) (by omega)
    refine walk (k := ?_)
    repeat' first | refine And.intro ?_ ?_ | intro
    all_goals refine leaf ?_
    · rename_i hb
      simp at hb
      obtain ⟨rfl, hk⟩ := h2 hb
      refine callL (up_prog q s mid (swapL its i n) n i (by omega) (by omega) (by omega) (h.swap_last hn (by omega)) hk) ?_
      rintro _ _ H3 ⟨rfl, is2, hp2, hy2, hs2, rfl⟩ hh
      have hsn2 := hs2 n (Nat.le_refl _) (by omega)
      obtain ⟨k1, k2, k3, k4⟩ := key is2 (hp2.trans hp0) hy2 (by rw [hsn2, hl2])
      generalize is2.take n = is at *
      refine walk1 (k := ?_)
      repeat' first | refine And.intro ?_ ?_ | intro
      all_goals refine leaf ?_
      rw [k1] at hh
      refine icallL (meth_p mPop _) (pop_prog q s mid is (nth its i) (by omega)) ?_
      rintro _ _ H' ⟨rfl, rfl⟩ hh
      refine walk (k := ?_)
      repeat' first | refine And.intro ?_ ?_ | intro
      all_goals refine leaf ?_
      exact done ⟨rfl, is, k3, k4, rfl⟩
    · rename_i hb
      simp at hb
      obtain ⟨k1, k2, k3, k4⟩ := key is (hp.trans hp0) (h1 hb) (by rw [hsn, hl2])
      generalize is.take n = is2 at *
      rw [k1] at hh
      refine icallL (meth_p mPop _) (pop_prog q s mid is2 (nth its i) (by omega)) ?_
      rintro _ _ H' ⟨rfl, rfl⟩ hh
      refine walk (k := ?_)
      repeat' first | refine And.intro ?_ ?_ | intro
      all_goals refine leaf ?_
      exact done ⟨rfl, is2, k3, k4, rfl⟩
end Go.Proofs.YtjgcgepfidcihaaGreatDoor.Que
