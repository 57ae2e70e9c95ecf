/-
  Texts joined: What was brought to its form has it: in plain words. What a step makes of an entry may be: in plain words. Entries, deeds and configurations as a law's inputs.
-/
import Derived.Test.YtelgcaacaolgfaaGreatDoorMayB
import Derived.Test.YtelgcaacaolgfaaGreatDoorDoA
import Derived.Test.YtelgcaacaolgfaaGreatDoorCmE
namespace Go.Proofs.YtelgcaacaolgfaaGreatDoor
open Go Go.CM
set_option maxRecDepth 100000
set_option maxHeartbeats 4000000

theorem ofNat_toNat (c : UInt8) : UInt8.ofNat c.toNat = c := by simp
theorem hex_dig : ∀ n : Nat, n < 16 → digI ((hexB n).toNat : Nat) = (n : Int) := by decide +kernel
theorem hex_pair (c : UInt8) : pairB (hexB (c.toNat / 16)) (hexB (c.toNat % 16)) = c := by
  have h : ∀ n : Nat, n < 256 → pairB (hexB (n / 16)) (hexB (n % 16)) = UInt8.ofNat n := by decide +kernel
  have := h c.toNat (UInt8.toNat_lt c)
  rwa [ofNat_toNat] at this
theorem put_no47 (c : UInt8) : ∀ x ∈ putB c, x ≠ 47 := by
  have h : ∀ n : Nat, n < 256 → ∀ x ∈ putB (UInt8.ofNat n), x ≠ 47 := by decide +kernel
  have := h c.toNat (UInt8.toNat_lt c)
  rwa [ofNat_toNat] at this
theorem write_no47 (q : List UInt8) : ∀ x ∈ writeL q, x ≠ 47 := by
  intro x hx
  obtain ⟨c, _, hc⟩ := List.mem_flatMap.1 hx
  exact put_no47 c x hc
theorem getD_app (A B : List UInt8) (k : Nat) : (A ++ B).getD (A.length + k) 0 = B.getD k 0 := by
  simp only [List.getD_eq_getElem?_getD]
  rw [List.getElem?_append_right (by omega), show A.length + k - A.length = k by omega]
theorem writeL_app (a b : List UInt8) : writeL (a ++ b) = writeL a ++ writeL b := List.flatMap_append
theorem plain_no37 {c : UInt8} (h : plP c) : c ≠ 37 := by
  rintro rfl
  revert h
  decide
theorem read_write (q : List UInt8) : ∀ q2 q1 : List UInt8, q = q1 ++ q2 → readP (writeL q) (writeL q1).length = some q2
  | [], q1, h => by
    rw [h, List.append_nil]
    exact readP_end (Nat.le_refl _)
  | c :: r, q1, h => by
    have hr : q = (q1 ++ [c]) ++ r := by rw [h, List.append_assoc]; rfl
    have ih := read_write q r (q1 ++ [c]) hr
    have hw : writeL q = writeL q1 ++ (putB c ++ writeL r) := by rw [h, writeL_app]; rfl
    have hlen : (writeL (q1 ++ [c])).length = (writeL q1).length + (putB c).length := by rw [writeL_app, List.length_append]; simp [writeL]
    rw [hlen] at ih
    by_cases hc : plP c
    · have hp : putB c = [c] := if_pos hc
      rw [hp] at ih hw
      have h0 : (writeL q).getD (writeL q1).length 0 = c := by
        have := getD_app (writeL q1) ([c] ++ writeL r) 0
        rw [hw]
        simp
      rw [readP_at (by rw [hw]; simp) (by rw [h0]; exact plain_no37 hc), h0]
      show Option.map _ (readP (writeL q) ((writeL q1).length + 1)) = _
      rw [show (writeL q1).length + 1 = (writeL q1).length + [c].length from rfl, ih]
      rfl
    · have hp : putB c = [37, hexB (c.toNat / 16), hexB (c.toNat % 16)] := if_neg hc
      rw [hp] at ih hw
      have hx := UInt8.toNat_lt c
      have h0 : (writeL q).getD (writeL q1).length 0 = 37 := by
        have := getD_app (writeL q1) ([37, hexB (c.toNat / 16), hexB (c.toNat % 16)] ++ writeL r) 0
        rw [hw]
        simp
      have h1 : (writeL q).getD ((writeL q1).length + 1) 0 = hexB (c.toNat / 16) := by
        have := getD_app (writeL q1) ([37, hexB (c.toNat / 16), hexB (c.toNat % 16)] ++ writeL r) 1
        rw [hw]
        simp
      have h2 : (writeL q).getD ((writeL q1).length + 2) 0 = hexB (c.toNat % 16) := by
        have := getD_app (writeL q1) ([37, hexB (c.toNat / 16), hexB (c.toNat % 16)] ++ writeL r) 2
        rw [hw]
        simp
      rw [readP_hex (by rw [hw]; simp) h0 (by rw [h1, hex_dig _ (by omega)]; omega) (by rw [h2, hex_dig _ (by omega)]; omega), h1, h2, hex_pair]
      rw [show (writeL q1).length + 3 = (writeL q1).length + [37, hexB (c.toNat / 16), hexB (c.toNat % 16)].length from rfl, ih]
      rfl
theorem part_write {q : List UInt8} (h : okL q) : partL (writeL q) = some q := by
  have := read_write q q [] rfl
  exact partL_ok this h
abbrev goodL (q : List UInt8) : Prop := okL q ∧ q ≠ [] ∧ q ≠ [46] ∧ q ≠ [46, 46]
theorem partsL_good : ∀ {ps out l : List (List UInt8)}, (∀ q ∈ out, goodL q) → partsL out ps = some l → ∀ q ∈ l, goodL q
  | [], out, l, ho, h => by
    rw [partsL_nil] at h
    cases h
    exact ho
  | p :: ps, out, l, ho, h => by
    rcases hp : partL p with _ | o
    · rw [partsL_bad hp] at h; cases h
    · have hk : okL o := by
        unfold partL at hp
        split at hp
        · cases hp
        · split at hp
          · cases hp; assumption
          · cases hp
      by_cases h1 : o = [] ∨ o = [46]
      · rw [partsL_skip hp h1] at h
        exact partsL_good ho h
      · by_cases h2 : o = [46, 46]
        · subst h2
          by_cases h3 : out = []
          · subst h3
            rw [partsL_none hp] at h
            cases h
          · rw [partsL_up hp h3] at h
            exact partsL_good (fun q hq => ho q (List.dropLast_subset _ hq)) h
        · rw [partsL_put hp (fun e => h1 (.inl e)) (fun e => h1 (.inr e)) h2] at h
          refine partsL_good (fun q hq => ?_) h
          rcases List.mem_append.1 hq with hq | hq
          · exact ho q hq
          · rw [List.mem_singleton.1 hq]
            exact ⟨hk, fun e => h1 (.inl e), fun e => h1 (.inr e), h2⟩
theorem parts_write : ∀ {l out : List (List UInt8)}, (∀ q ∈ l, goodL q) → partsL out (l.map writeL) = some (out ++ l)
  | [], out, _ => by rw [List.map_nil, partsL_nil, List.append_nil]
  | q :: l, out, h => by
    have hq := h q (by simp)
    rw [List.map_cons, partsL_put (part_write hq.1) hq.2.1 hq.2.2.1 hq.2.2.2, parts_write fun x hx => h x (by simp [hx]), List.append_assoc]
    rfl
theorem split_no {A : List UInt8} (h : ∀ x ∈ A, x ≠ 47) : splitL A = [A] := splitL_none fun k hk => h _ (by rw [List.getD_eq_getElem?_getD, List.getElem?_eq_getElem hk]; exact List.getElem_mem _)
theorem split_at {A B : List UInt8} (h : ∀ x ∈ A, x ≠ 47) : splitL (A ++ 47 :: B) = A :: splitL B := by
  have h1 : ∀ k, k < A.length → (A ++ 47 :: B).getD k 0 ≠ 47 := fun k hk => by
    rw [List.getD_eq_getElem?_getD, List.getElem?_append_left hk, List.getElem?_eq_getElem hk]
    exact h _ (List.getElem_mem _)
  have h2 : (A ++ 47 :: B).getD A.length 0 = 47 := getD_app A (47 :: B) 0
  rw [splitL_some (m := A.length) h1 (by simp) h2, List.take_left' rfl, show A.length + 1 = (A ++ [47]).length by simp, show A ++ 47 :: B = (A ++ [47]) ++ B by simp, List.drop_left' rfl]
theorem split_join : ∀ (l : List (List UInt8)) (q : List UInt8), splitL (writeL q ++ joinL l) = writeL q :: l.map writeL
  | [], q => by
    rw [show joinL [] = [] from rfl, List.append_nil]
    exact split_no (write_no47 q)
  | p :: l, q => by
    rw [show joinL (p :: l) = 47 :: (writeL p ++ joinL l) by simp [joinL], split_at (write_no47 q), split_join l p]
    rfl
theorem path_idem {s o : List UInt8} (h : pathL s = some o) : pathL o = some o := by
  have hlen := h
  unfold pathL at h
  split at h
  · cases h
  · split at h
    · cases h
    · rename_i l hl
      split at h
      · cases h
      · rename_i h60
        have he : fullL (joinL l) = o := Option.some.inj h
        have hg := partsL_good (by simp) hl
        cases l with
        | nil =>
          have : o = [47] := by rw [← he]; rfl
          subst this
          unfold pathL
          rw [if_neg (by decide), show splitL [47] = [[], []] by decide, partsL_skip (by rw [partL, readP_end (by simp)]; rfl) (.inl rfl), partsL_skip (by rw [partL, readP_end (by simp)]; rfl) (.inl rfl), partsL_nil]
          decide
        | cons q l =>
          have hj : joinL (q :: l) = 47 :: (writeL q ++ joinL l) := by simp [joinL]
          have ho : o = joinL (q :: l) := by rw [← he, fullL, if_neg (by rw [hj]; simp)]
          have hne : o ≠ [] := by rw [ho, hj]; simp
          have hol : ¬ 60 < o.length := by rw [← he]; exact h60
          have h47 : (o.getD 0 0).toNat = 47 := by rw [ho, hj]; rfl
          have hs : splitL o = [] :: (q :: l).map writeL := by
            rw [ho, hj]
            have := split_at (A := []) (B := writeL q ++ joinL l) (by simp)
            rw [List.nil_append] at this
            rw [this, split_join]
            rfl
          unfold pathL
          rw [if_neg (by rintro (h | h | h); exact hne h; exact hol h; exact h h47), hs, partsL_skip (by rw [partL, readP_end (by simp)]; rfl) (.inl rfl), parts_write hg, List.nil_append]
          dsimp only
          rw [he, if_neg (by rw [← he]; exact h60)]
theorem up_idem (c : UInt8) (h : isL c) : isL (upB c) ∧ upB (upB c) = upB c := by
  have hh : ∀ n : Nat, n < 256 → isL (UInt8.ofNat n) → isL (upB (UInt8.ofNat n)) ∧ upB (upB (UInt8.ofNat n)) = upB (UInt8.ofNat n) := by decide +kernel
  have := hh c.toNat (UInt8.toNat_lt c)
  rw [ofNat_toNat] at this
  exact this h
theorem met_idem {m : List UInt8} (h : metP m) : mNorm (m.map upB) := by
  refine ⟨⟨by rw [List.length_map]; exact h.1, fun c hc => ?_⟩, ?_⟩
  · obtain ⟨x, hx, rfl⟩ := List.mem_map.1 hc
    exact (up_idem x (h.2 x hx)).1
  · rw [List.map_map]
    exact List.map_congr_left fun x hx => (up_idem x (h.2 x hx)).2
end Go.Proofs.YtelgcaacaolgfaaGreatDoor

namespace Go.Proofs.YtelgcaacaolgfaaGreatDoor
open Go Go.CM
set_option maxRecDepth 100000
set_option maxHeartbeats 4000000

theorem plusI_ge (t s : Int) : 0 ≤ plusI t s ∧ plusI t s ≤ 1099511627776 := brI_ge (by decide)
theorem timI_ge (t : Int) : 0 ≤ timI t ∧ timI t ≤ 1099511627776 := brI_ge (by decide)
theorem can_run {e : Entry} (h : canP e) : noaP e ∧ askP e := by
  obtain ⟨s1, _, hT⟩ := h
  rcases hT with ⟨_, h, h2⟩ | ⟨h, _⟩ | ⟨h, _⟩
  · exact ⟨h, h2⟩
  · omega
  · omega
theorem may_small {e : Entry} (h : mayP e) : smallE e := by
  obtain ⟨_, hT⟩ := h
  have hno : norP e → smallE e := fun h => by
    have := congrArg List.length h.2
    simp only [List.length_append, List.length_nil] at this
    show _ + _ + _ ≤ _
    omega
  rcases hT with ⟨_, _, a, b, c⟩ | ⟨_, b, _⟩ | ⟨_, b, _⟩
  · have h1 := a.1.1.2
    have h2 := pathL_le b
    show _ + _ + _ ≤ _
    omega
  · exact hno b
  · exact hno b
theorem take_may {e : Entry} {now : Int} {c : Conf} (h : (takeL e now c).2 = 0) : mayP (takeL e now c).1 := by
  unfold takeL at h ⊢
  split at h
  · cases h
  · rename_i hc
    have hc : canP e := Classical.byContradiction hc
    split at h
    · cases h
    · rename_i hh
      split at h
      · cases h
      · rename_i ht
        rw [if_neg (fun h => h hc), if_neg hh, if_neg ht]
        obtain ⟨h1, h2⟩ := can_run hc
        obtain ⟨s1, ⟨c1, c2, c3, c4, c5, c6, c7⟩, _⟩ := hc
        have hp := plusI_ge now c.br.lease
        exact ⟨⟨c1, c2, ⟨by show 1 ≤ e.token + 1; omega, by show e.token + 1 ≤ _; omega⟩, c4, c5, hp, c7⟩, .inl ⟨s1, h1, h2⟩⟩
theorem pass_may {e : Entry} {token now : Int} {c : Conf} (h : (passL e token now c).2 = 0) : mayP (passL e token now c).1 := by
  unfold passL at h ⊢
  split at h
  · rename_i hk; exact absurd h hk
  · rename_i hk
    split at h
    · cases h
    · rename_i hp5
      rw [if_neg hk, if_neg hp5]
      have hc := (ownI_can (Classical.byContradiction hk)).1
      obtain ⟨h1, h2⟩ := can_run hc
      obtain ⟨s1, ⟨c1, c2, c3, c4, c5, c6, c7⟩, _⟩ := hc
      have hp := plusI_ge now c.br.lease
      exact ⟨⟨c1, c2, c3, ⟨by show 0 ≤ e.point + 1; omega, by show e.point + 1 ≤ 5; omega⟩, c5, hp, c7⟩, .inl ⟨s1, h1, h2⟩⟩
theorem fin_may {e : Entry} {token status now : Int} {text : List UInt8} {c : Conf} (h : (finL e token status text now c).2 = 0) : mayP (finL e token status text now c).1 := by
  unfold finL at h ⊢
  split at h
  · rename_i hk; exact absurd h hk
  · rename_i hk
    split at h
    · rename_i hm
      rw [if_neg hk, if_pos hm]
      exact hm
    · cases h
theorem fail_may {e : Entry} {token : Int} (h : (failL e token).2 = 0) : mayP (failL e token).1 := by
  unfold failL at h ⊢
  split at h
  · rename_i hk; exact absurd h hk
  · rename_i hk
    rw [if_neg hk]
    have hc := (ownI_can (Classical.byContradiction hk)).1
    obtain ⟨h1, h2⟩ := can_run hc
    obtain ⟨s1, ⟨c1, c2, c3, c4, c5, c6, c7⟩, _⟩ := hc
    exact ⟨⟨c1, c2, c3, c4, c5, ⟨Int.le_refl _, of_decide_eq_true rfl⟩, c7⟩, .inr (.inr ⟨rfl, ⟨rfl, rfl⟩, h1⟩)⟩
theorem rel_may {e : Entry} {token now : Int} (h : (relL e token now).2 = 0) : mayP (relL e token now).1 := by
  unfold relL at h ⊢
  split at h
  · rename_i hk; exact absurd h hk
  · rename_i hk
    rw [if_neg hk]
    have hc := (ownI_can (Classical.byContradiction hk)).1
    obtain ⟨h1, h2⟩ := can_run hc
    obtain ⟨s1, ⟨c1, c2, c3, c4, c5, c6, c7⟩, _⟩ := hc
    exact ⟨⟨c1, c2, c3, c4, c5, timI_ge now, c7⟩, .inl ⟨s1, h1, h2⟩⟩
theorem beg_may {r : Req} {epoch now : Int} {c : Conf} (h : (begL r epoch now c).2 = 0) : mayP (begL r epoch now c).1 := by
  unfold begL at h ⊢
  rcases hx : reqN r with _ | x
  · rw [hx] at h; cases h
  · rw [hx] at h
    dsimp only at h ⊢
    split at h
    · cases h
    · rename_i he
      rw [if_neg he]
      unfold reqN at hx
      split at hx
      · cases hx
      · rename_i o ho
        split at hx
        · rename_i hq
          cases hx
          have h1 := plusI_ge now c.br.lease
          have h2 := plusI_ge now c.br.ttl
          exact ⟨⟨⟨hq.2.1.1, hq.2.1.2.1, hq.2.2.1⟩, ⟨by show 1 ≤ epoch; omega, by show epoch ≤ _; omega⟩, ⟨Int.le_refl _, of_decide_eq_true rfl⟩, ⟨Int.le_refl _, of_decide_eq_true rfl⟩, shaL_len _, h1, h2⟩, .inl ⟨rfl, ⟨rfl, rfl⟩, met_idem hq.1, path_idem ho, hq.2.2.2⟩⟩
        · cases hx
theorem doL_may {e : Entry} {d : Deed} {c : Conf} (h : (doL e d c).2 = 0) : mayP (doL e d c).1 := by
  unfold doL at h ⊢
  split at h
  · rename_i k0
    rw [if_pos k0]; exact take_may h
  rename_i k0
  rw [if_neg k0]
  split at h
  · rename_i k1
    rw [if_pos k1]; exact pass_may h
  rename_i k1
  rw [if_neg k1]
  split at h
  · rename_i k2
    rw [if_pos k2]; exact fin_may h
  rename_i k2
  rw [if_neg k2]
  split at h
  · rename_i k3
    rw [if_pos k3]; exact fail_may h
  rename_i k3
  rw [if_neg k3]
  split at h
  · rename_i k4
    rw [if_pos k4]; exact rel_may h
  rename_i k4
  rw [if_neg k4]; exact beg_may h
end Go.Proofs.YtelgcaacaolgfaaGreatDoor

namespace Go.Proofs.YtelgcaacaolgfaaGreatDoor
open Go Go.CM
set_option maxRecDepth 100000
set_option maxHeartbeats 4000000

theorem deedOf {l : List V} (h : Fits [.i .u8, .b, .i .i64, .i .i64, .i .i64, .s, .i .i64, .i .i64, .i .i64, .s, .s, .s, .s] l) : ∃ d : Deed, l = d.enc ∧ 0 ≤ d.kind ∧ d.kind ≤ 255 := by
  obtain ⟨_, _, rfl, ⟨x0, rfl, w0⟩, h0⟩ := h.cons
  obtain ⟨_, _, rfl, ⟨x1, rfl⟩, h1⟩ := h0.cons
  obtain ⟨_, _, rfl, ⟨x2, rfl, w2⟩, h2⟩ := h1.cons
  obtain ⟨_, _, rfl, ⟨x3, rfl, w3⟩, h3⟩ := h2.cons
  obtain ⟨_, _, rfl, ⟨x4, rfl, w4⟩, h4⟩ := h3.cons
  obtain ⟨_, _, rfl, ⟨x5, rfl, w5⟩, h5⟩ := h4.cons
  obtain ⟨_, _, rfl, ⟨x6, rfl, w6⟩, h6⟩ := h5.cons
  obtain ⟨_, _, rfl, ⟨x7, rfl, w7⟩, h7⟩ := h6.cons
  obtain ⟨_, _, rfl, ⟨x8, rfl, w8⟩, h8⟩ := h7.cons
  obtain ⟨_, _, rfl, ⟨x9, rfl, w9⟩, h9⟩ := h8.cons
  obtain ⟨_, _, rfl, ⟨x10, rfl, w10⟩, h10⟩ := h9.cons
  obtain ⟨_, _, rfl, ⟨x11, rfl, w11⟩, h11⟩ := h10.cons
  obtain ⟨_, _, rfl, ⟨x12, rfl, w12⟩, h12⟩ := h11.cons
  obtain rfl := h12.nil
  have hw : 0 ≤ x0 ∧ x0 ≤ 255 := by
    simp [Lit.wf, IntKind.min, IntKind.max, IntKind.signed, IntKind.bits] at w0
    omega
  exact ⟨⟨x0, x1, x2, x3, x4, x5, ⟨x6, x7, x8, x9, x10, x11, x12⟩⟩, rfl, hw⟩
theorem confOf {l : List V} (h : Fits [.i .i64, .i .i64, .i .i64, .i .i64, .i .i64, .i .i64] l) : ∃ c : Conf, l = c.enc := by
  obtain ⟨_, _, rfl, ⟨x0, rfl, w0⟩, h0⟩ := h.cons
  obtain ⟨_, _, rfl, ⟨x1, rfl, w1⟩, h1⟩ := h0.cons
  obtain ⟨_, _, rfl, ⟨x2, rfl, w2⟩, h2⟩ := h1.cons
  obtain ⟨_, _, rfl, ⟨x3, rfl, w3⟩, h3⟩ := h2.cons
  obtain ⟨_, _, rfl, ⟨x4, rfl, w4⟩, h4⟩ := h3.cons
  obtain ⟨_, _, rfl, ⟨x5, rfl, w5⟩, h5⟩ := h4.cons
  obtain rfl := h5.nil
  exact ⟨⟨x0, x1, x2, x3, x4, x5⟩, rfl⟩
end Go.Proofs.YtelgcaacaolgfaaGreatDoor
