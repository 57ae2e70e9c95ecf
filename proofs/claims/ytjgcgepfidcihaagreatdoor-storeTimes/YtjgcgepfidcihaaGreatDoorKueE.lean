/-
  The queue of what is due: one more on the heap, one less, one that is turned.
-/
import Derived.Test.YtjgcgepfidcihaaGreatDoorKueD
namespace Go.Proofs.YtjgcgepfidcihaaGreatDoor.Que
open Go Go.CM
set_option maxRecDepth 100000
set_option maxHeartbeats 4000000

theorem nth_app {its : Its} {x : It} {k : Nat} (h : k < its.length) : nth (its ++ [x]) k = nth its k := by
  rw [nth_getElem (by simp; omega), nth_getElem h, List.getElem_append_left h]
theorem Heapy.push {its : Its} {x : It} (h : Heapy its its.length) : Near (its ++ [x]) (its ++ [x]).length its.length ∧ Kids (its ++ [x]) (its ++ [x]).length its.length := by
  have hl : (its ++ [x]).length = its.length + 1 := by simp
  rw [hl]
  refine ⟨⟨fun k h0 h1 h2 h3 => ?_, fun k h0 h1 h2 h3 => ?_⟩, fun k h0 h1 h2 => ?_⟩
  · unfold Lt
    have : par k < k := by unfold par; omega
    rw [nth_app (by omega), nth_app (by omega)]
    exact h k h0 (by omega)
  · unfold par at h2; omega
  · unfold par at h2; omega
theorem heap_push_prog (q s id mid : Nat) (its : Its) (d : Due) (n : Int) (hl : its.length ≤ 999) (h : Heapy its its.length) :
    CallsL Tryz.prog nheap_Push [hV q, .iface tP_queue_item (.ptr id 0)] (QO q s its.length mid :: rowO s its :: (id, .cells true [.int .i64 d.tenant, .str d.key, .int .i64 d.at_, .int .i64 n]) :: itO its)
      fun v L' => v = .tup [] ∧ ∃ s' its', its'.Perm ((id, d) :: its) ∧ Heapy its' its'.length ∧ L' = HL q s' mid its' := by
  refine sheap_Push fun H hh => ?_
  dsimp only [cheap_Push]
  refine walk (k := ?_)
  repeat' first | refine And.intro ?_ ?_ | intro
  all_goals refine leaf ?_
  refine icallL (meth_p mPush _) (push_prog q s id mid its d n (by omega)) ?_
  rintro _ _ H' ⟨rfl, s', rfl⟩ hh
  refine walk1 (k := ?_)
  repeat' first | refine And.intro ?_ ?_ | intro
  all_goals refine leaf ?_
  refine icallE (mOf (by assumption) .here mLen) (len_prog s' (its ++ [(id, d)]).length) ?_
  refine walk1 (k := ?_)
  repeat' first | refine And.intro ?_ ?_ | intro
  all_goals refine leaf ?_
  have e1 : ((its ++ [(id, d)]).length : Int) - 1 = (its.length : Nat) := by simp
  rw [e1]
  obtain ⟨h1, h2⟩ := Heapy.push (x := (id, d)) h
  refine callL (up_prog q s' mid (its ++ [(id, d)]) (its ++ [(id, d)]).length its.length (by simp; omega) (Nat.le_refl _) (by simp) h1 h2) ?_
  rintro _ _ H2 ⟨rfl, its', hp, hy, _, rfl⟩ hh2
  refine walk1 (k := ?_)
  repeat' first | refine And.intro ?_ ?_ | intro
  all_goals refine leaf ?_
  have hp2 := hp.length_eq
  rw [← hp2] at hy
  exact done ⟨rfl, s', its', hp.trans (List.perm_append_singleton _ _), hy, rfl⟩

theorem fix_prog (q s mid : Nat) (its : Its) (i : Nat) (hl : its.length ≤ 1000) (hi : i < its.length) (hnear : Near its its.length i) :
    CallsL Tryz.prog nheap_Fix [hV q, .int .i64 i] (HL q s mid its) fun v L' => v = .tup [] ∧ ∃ its', its'.Perm its ∧ Heapy its' its'.length ∧ L' = HL q s mid its' := by
  refine sheap_Fix fun H hh => ?_
  dsimp only [cheap_Fix]
  refine walk (k := ?_)
  repeat' first | refine And.intro ?_ ?_ | intro
  all_goals refine leaf ?_
  refine icallE (mOf (by assumption) .here mLen) (len_prog s its.length) ?_
  refine walk1 (k := ?_)
  repeat' first | refine And.intro ?_ ?_ | intro
  all_goals refine leaf ?_
  refine callL (down_prog q s mid its its.length i hl (Nat.le_refl _) hi hnear) ?_
  rintro _ _ H' ⟨b, its', rfl, hp, _, h1, h2, rfl⟩ hh
  have hlen := hp.length_eq
  refine walk (k := ?_)
  repeat' first | refine And.intro ?_ ?_ | intro
  all_goals refine leaf ?_
  · rename_i hb
    simp at hb
    obtain ⟨rfl, hk⟩ := h2 hb
    refine callL (up_prog q s mid its' its'.length i hl (Nat.le_refl _) hi hnear hk) ?_
    rintro _ _ H2 ⟨rfl, its2, hp2, hy, _, rfl⟩ hh2
    refine walk1 (k := ?_)
    repeat' first | refine And.intro ?_ ?_ | intro
    all_goals refine leaf ?_
    exact done ⟨rfl, its2, hp2, by rw [hp2.length_eq]; exact hy, rfl⟩
  · rename_i hb
    simp at hb
    exact done ⟨rfl, its', hp, by rw [hlen]; exact h1 hb, rfl⟩

theorem Heapy.swap_last {its : Its} {i n : Nat} (h : Heapy its its.length) (hn : its.length = n + 1) (hi : i < n) : Near (swapL its i n) n i := by
  have go : ∀ k, k < n → k ≠ i → nth (swapL its i n) k = nth its k := fun k h1 h2 => by rw [nth_swapL (by omega) (by omega) (by omega), if_neg h2, if_neg (by omega)]
  refine ⟨fun k h0 h1 h2 h3 => ?_, fun k h0 h1 h2 h3 => ?_⟩
  · unfold Lt
    have : par k < k := by unfold par; omega
    rw [go k h1 h2, go (par k) (by omega) h3]
    exact h k h0 (by omega)
  · unfold Lt
    have : par k < k := by unfold par; omega
    have : par i < i := by unfold par; omega
    rw [go k h1 (by omega), go (par i) (by omega) (by omega)]
    have a1 := h k h0 (by omega)
    rw [h2] at a1
    exact le_trans' (h i h3 (by omega)) a1
theorem Heapy.take {its : Its} {n : Nat} (h : Heapy its n) (hn : n ≤ its.length) : Heapy (its.take n) n := fun k h0 h1 => by
  have : par k < k := by unfold par; omega
  have go : ∀ k, k < n → nth (its.take n) k = nth its k := fun k hk => by rw [nth_getElem (by simp; omega), nth_getElem (by omega), List.getElem_take]
  unfold Lt
  rw [go k h1, go (par k) (by omega)]
  exact h k h0 h1
theorem split_last {its : Its} {n : Nat} (hn : its.length = n + 1) : its = its.take n ++ [nth its n] := by
  rw [← take_getD (by omega), List.take_of_length_le (by omega)]

theorem remove_prog (q s mid : Nat) (its : Its) (i : Nat) (hl : its.length ≤ 1000) (hi : i < its.length) (h : Heapy its its.length) :
    CallsL Tryz.prog nheap_Remove [hV q, .int .i64 i] (HL q s mid its) fun v L' => v = .iface tP_queue_item (.ptr (nth its i).1 0) ∧ ∃ its', (nth its i :: its').Perm its ∧ Heapy its' its'.length ∧ L' = QO q s its'.length mid :: rowO s its' :: obI (nth its i) its'.length :: itO its' := by
  obtain ⟨n, hn⟩ : ∃ n, its.length = n + 1 := ⟨its.length - 1, by omega⟩
  -- the end, from a heap whose last place has the one that goes
  have key : ∀ is : Its, is.Perm its → Heapy is n → nth is n = nth its i → is = is.take n ++ [nth its i] ∧ (is.take n).length = n ∧ (nth its i :: is.take n).Perm its ∧ Heapy (is.take n) (is.take n).length := fun is hp hy he => by
    have hlen := hp.length_eq
    have h1 := split_last (its := is) (n := n) (by omega)
    rw [he] at h1
    have h2 : (is.take n).length = n := by simp; omega
    refine ⟨h1, h2, ?_, ?_⟩
    · have := (List.perm_append_singleton (nth its i) (is.take n)).symm
      rw [← h1] at this
      exact this.trans hp
    · rw [h2]; exact hy.take (by omega)
  refine sheap_Remove fun H hh => ?_
  dsimp only [cheap_Remove]
  refine walk (k := ?_)
  repeat' first | refine And.intro ?_ ?_ | intro
  all_goals refine leaf ?_
  refine icallE (mOf (by assumption) .here mLen) (len_prog s its.length) ?_
  refine walk1 (k := ?_)
  repeat' first | refine And.intro ?_ ?_ | intro
  all_goals refine leaf ?_
  have e1 : (its.length : Int) - 1 = (n : Nat) := by omega
  rw [e1]
  by_cases hin : i = n
  · refine c_cond_f (by show V.bool _ = _; simp; omega) ?_
    refine walk1 (k := ?_)
    repeat' first | refine And.intro ?_ ?_ | intro
    all_goals refine leaf ?_
    obtain ⟨k1, k2, k3, k4⟩ := key its (.refl _) (fun k h0 h1 => h k h0 (by omega)) (by rw [hin])
    generalize its.take n = is at *
    rw [k1] at hh
    refine icallL (meth_p mPop _) (pop_prog q s mid is (nth its i) (by omega)) ?_
    rintro _ _ H' ⟨rfl, rfl⟩ hh
    refine walk (k := ?_)
    repeat' first | refine And.intro ?_ ?_ | intro
    all_goals refine leaf ?_
    exact done ⟨rfl, is, k3, k4, rfl⟩
  · refine c_cond_t (by show V.bool _ = _; simp; omega) ?_
    refine walk1 (k := ?_)
    repeat' first | refine And.intro ?_ ?_ | intro
    all_goals refine leaf ?_
    refine icallL (mOf (by assumption) .here mSwap) (swap_prog s its i n (by omega) (by omega)) ?_
    rintro _ _ H' ⟨rfl, rfl⟩ hh
    have hsl := swapL_length its i n
    rw [show QO q s its.length mid = QO q s (swapL its i n).length mid by rw [hsl]] at hh
    have hl2 : nth (swapL its i n) n = nth its i := by rw [nth_swapL (by omega) (by omega) (by omega), if_neg (Ne.symm hin), if_pos rfl]
    have hp0 := swapL_perm (l := its) (i := i) (j := n) (by omega) (by omega)
    refine walk1 (k := ?_)
    repeat' first | refine And.intro ?_ ?_ | intro
    all_goals refine leaf ?_
    refine callL (down_prog q s mid (swapL its i n) n i (by omega) (by omega) (by omega) (h.swap_last hn (by omega))) ?_
    rintro _ _ H2 ⟨b, is, rfl, hp, hs, h1, h2, rfl⟩ hh
    have hlen := hp.length_eq
    have hsn := hs n (Nat.le_refl _) (by omega)
    refine walk (k := ?_)
    repeat' first | refine And.intro ?_ ?_ | intro
    all_goals refine leaf ?_
    · rename_i hb
      simp at hb
      obtain ⟨rfl, hk⟩ := h2 hb
      refine callL (up_prog q s mid (swapL its i n) n i (by omega) (by omega) (by omega) (h.swap_last hn (by omega)) hk) ?_
      rintro _ _ H3 ⟨rfl, is2, hp2, hy2, hs2, rfl⟩ hh
      have hsn2 := hs2 n (Nat.le_refl _) (by omega)
      obtain ⟨k1, k2, k3, k4⟩ := key is2 (hp2.trans hp0) hy2 (by rw [hsn2, hl2])
      generalize is2.take n = is at *
      refine walk1 (k := ?_)
      repeat' first | refine And.intro ?_ ?_ | intro
      all_goals refine leaf ?_
      rw [k1] at hh
      refine icallL (meth_p mPop _) (pop_prog q s mid is (nth its i) (by omega)) ?_
      rintro _ _ H' ⟨rfl, rfl⟩ hh
      refine walk (k := ?_)
      repeat' first | refine And.intro ?_ ?_ | intro
      all_goals refine leaf ?_
      exact done ⟨rfl, is, k3, k4, rfl⟩
    · rename_i hb
      simp at hb
      obtain ⟨k1, k2, k3, k4⟩ := key is (hp.trans hp0) (h1 hb) (by rw [hsn, hl2])
      generalize is.take n = is2 at *
      rw [k1] at hh
      refine icallL (meth_p mPop _) (pop_prog q s mid is2 (nth its i) (by omega)) ?_
      rintro _ _ H' ⟨rfl, rfl⟩ hh
      refine walk (k := ?_)
      repeat' first | refine And.intro ?_ ?_ | intro
      all_goals refine leaf ?_
      exact done ⟨rfl, is2, k3, k4, rfl⟩
end Go.Proofs.YtjgcgepfidcihaaGreatDoor.Que
