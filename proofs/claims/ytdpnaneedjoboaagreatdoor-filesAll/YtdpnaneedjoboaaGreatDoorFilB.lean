/-
  The names of files: the document; the law.
-/
import Derived.Test.YtdpnaneedjoboaaGreatDoorFilA
namespace Go.Proofs.YtdpnaneedjoboaaGreatDoor
open Go Go.CM
set_option maxRecDepth 100000
set_option maxHeartbeats 4000000

theorem dig_val (k : Nat) : (48 : Int) + (k : Int) % 10 = ((UInt8.ofNat (48 + k % 10)).toNat : Nat) := by
  have : (UInt8.ofNat (48 + k % 10)).toNat = 48 + k % 10 := by simp; omega
  rw [this]; omega
theorem dig_cells (k : Nat) : [V.int .u8 ((48 : Int) + (k : Int) % 10)] = [UInt8.ofNat (48 + k % 10)].flatMap byteC := by rw [dig_val]; rfl
def DigI (n k : Nat) (out : List UInt8) : Prop := (if k = 0 then [] else Lib.decDigits k) ++ out = Lib.decDigits n
theorem DigI.step {n k : Nat} {out : List UInt8} (h : DigI n k out) (hk : 0 < k) : DigI n (k / 10) (UInt8.ofNat (48 + k % 10) :: out) := by
  unfold DigI at h ⊢
  rw [if_neg (by omega), Lib.decDigits] at h
  split at h
  · rename_i h10
    rw [if_pos (by omega), ← h, Nat.mod_eq_of_lt h10]; rfl
  · rename_i h10
    rw [if_neg (by omega), ← h, List.append_assoc]; rfl
theorem digits_len {n : Nat} (h : n ≤ 99999999) : (Lib.decDigits n).length ≤ 8 := decDigits_len 8 n (by omega) (by decide)
theorem rdigits_prog (n : Nat) (hn : n ≤ 99999999) : CallsR Tryz.prog nref08_digits [.int .i64 (n : Nat)] [] fun v => v = .str (Lib.decDigits n) := by
  have hl := digits_len hn
  refine sref08_digits fun H hh => ?_
  dsimp only [cref08_digits]
  refine walk1 (k := ?_)
  repeat' first | refine And.intro ?_ ?_ | intro
  all_goals refine leaf ?_
  rename_i b _ hh
  rw [dig_cells] at hh
  refine wps_b2s (l := [UInt8.ofNat (48 + n % 10)]) hh rfl .here ?_
  refine walk1 (k := ?_)
  repeat' first | refine And.intro ?_ ?_ | intro
  all_goals refine leaf ?_
  refine loopM [0, 3] (fun m vs L => m ≤ 99999999 ∧ ∃ out, DigI n m out ∧ vs = [.int .i64 (m : Nat), .str out] ∧ L = []) (Nx.intro (i := n / 10) trivial ⟨by omega, [UInt8.ofNat (48 + n % 10)], ?_, by show [V.int _ _, _] = _; congr 2, rfl⟩) ?_
  · unfold DigI
    rw [Lib.decDigits.eq_1 n]
    split
    · rw [dif_pos (by omega), Nat.mod_eq_of_lt (by omega)]; rfl
    · rw [dif_neg (by omega)]
  clear hh
  rintro k _ _ env H ⟨hk, out, ho, rfl, rfl⟩ hh
  simp only [puts]
  have hol : out.length ≤ 8 := by
    unfold DigI at ho
    have := congrArg List.length ho
    rw [List.length_append] at this
    omega
  by_cases h0 : 0 < k
  · skip
    refine walk1 (k := ?_)
    repeat' first | refine And.intro ?_ ?_ | intro
    all_goals refine leaf ?_
    refine c_cond_t (congrArg V.bool (decide_eq_true (by omega))) ?_
    refine walk1 (k := ?_)
    repeat' first | refine And.intro ?_ ?_ | intro
    all_goals refine leaf ?_
    rename_i b _ hh
    rw [dig_cells] at hh
    refine wps_b2s (l := [UInt8.ofNat (48 + k % 10)]) hh rfl .here ?_
    refine walk1 (k := ?_)
    repeat' first | refine And.intro ?_ ?_ | intro
    all_goals refine leaf ?_
    refine wps_rd (v := .str (UInt8.ofNat (48 + k % 10) :: out)) (binV_cat (a := [UInt8.ofNat (48 + k % 10)]) (by show 1 + _ ≤ _; omega)) ?_
    refine walk1 (k := ?_)
    repeat' first | refine And.intro ?_ ?_ | intro
    all_goals refine leaf ?_
    exact Nx.intro (i := k / 10) (by omega) ⟨by omega, _, ho.step h0, by show [V.int _ _, _] = _; congr 2, rfl⟩
  · skip
    refine walk1 (k := ?_)
    repeat' first | refine And.intro ?_ ?_ | intro
    all_goals refine leaf ?_
    refine c_cond_f (congrArg V.bool (decide_eq_false (by omega))) ?_
    refine walk1 (k := ?_)
    repeat' first | refine And.intro ?_ ?_ | intro
    all_goals refine leaf ?_
    have : k = 0 := by omega
    subst this
    exact doneR (congrArg V.str (by simpa [DigI] using ho))
theorem getD_at {l : List UInt8} {i : Nat} (h : i < l.length) : l.getD i 0 = l[i] := by rw [List.getD_eq_getElem?_getD, List.getElem?_eq_getElem h]; rfl
theorem getD_in {l : List UInt8} {i : Nat} (h : i < l.length) : l.getD i 0 ∈ l := by rw [getD_at h]; exact List.getElem_mem _
theorem take_getD' {l : List UInt8} {i : Nat} (h : i < l.length) : l.take (i + 1) = l.take i ++ [l.getD i 0] := by rw [getD_at h]; simp [List.take_append_getElem]
theorem drop_getD' {l : List UInt8} {i : Nat} (h : i < l.length) : l.drop i = l.getD i 0 :: l.drop (i + 1) := by rw [getD_at h, List.drop_eq_getElem_cons h]
theorem rname_prog (w : List UInt8) (n : Int) (hw : w.length ≤ 1000000) : CallsR Tryz.prog nref08_Name [.str w, .int .i64 n] [] fun v => v = .str (nameL w n) := by
  refine sref08_Name fun H hh => ?_
  dsimp only [cref08_Name]
  refine walk (k := ?_)
  repeat' first | refine And.intro ?_ ?_ | intro
  all_goals refine leaf ?_
  · exact doneR (congrArg V.str (nameL_no fun h => by have := rightW_len h.1; have := List.length_pos_iff.2 this.1; omega).symm)
  · exact doneR (congrArg V.str (nameL_no fun h => by have := rightW_len h.1; omega).symm)
  · exact doneR (congrArg V.str (nameL_no fun h => by omega).symm)
  · exact doneR (congrArg V.str (nameL_no fun h => by omega).symm)
  refine loopN [0, 1, 5] w.length (fun i vs L => (∀ b ∈ w.take i, isLow b = true) ∧ vs = [.str w, .int .i64 n, .int .i64 (i : Nat)] ∧ L = []) (Nx.here ⟨by simp, rfl, rfl⟩) ?_
  clear hh
  rintro i _ _ env H hi ⟨ha, rfl, rfl⟩ hh
  simp only [puts]
  refine walk1 (k := ?_)
  repeat' first | refine And.intro ?_ ?_ | intro
  all_goals refine leaf ?_
  by_cases hn : i < w.length
  · refine c_cond_t (congrArg V.bool (decide_eq_true (by omega))) ?_
    have hm : w.getD i 0 ∈ w := getD_in hn
    have hno : isLow (w.getD i 0) = false → nameL w n = [] := fun h => nameL_no fun h1 => by
      have h2 := h1.1
      unfold rightW at h2
      simp only [Bool.and_eq_true, List.all_eq_true] at h2
      rw [h2.2 _ hm] at h; cases h
    refine walk (k := ?_)
    repeat' first | refine And.intro ?_ ?_ | intro
    all_goals refine leaf ?_
    · exact doneR (congrArg V.str (hno (by unfold isLow; rw [decide_eq_false (by omega), Bool.false_and])).symm)
    · exact doneR (congrArg V.str (hno (by unfold isLow; rw [decide_eq_false (p := _ ≤ 122) (by omega), Bool.and_false])).symm)
    · refine Nx.next hn ⟨fun b hb => ?_, rfl, rfl⟩
      rw [take_getD' hn] at hb
      rcases List.mem_append.1 hb with hb | hb
      · exact ha b hb
      · rw [List.mem_singleton.1 hb]
        unfold isLow
        rw [decide_eq_true (by omega), decide_eq_true (by omega)]; rfl
  · refine c_cond_f (congrArg V.bool (decide_eq_false (by omega))) ?_
    refine walk1 (k := ?_)
    repeat' first | refine And.intro ?_ ?_ | intro
    all_goals refine leaf ?_
    have hr : rightW w = true := by
      unfold rightW
      rw [List.take_of_length_le (by omega)] at ha
      simp only [Bool.and_eq_true, Bool.not_eq_true', List.isEmpty_eq_false_iff, decide_eq_true_eq, List.all_eq_true]
      exact ⟨⟨fun e => by subst e; simp at *, by omega⟩, ha⟩
    obtain ⟨u, rfl⟩ : ∃ u : Nat, n = u := ⟨n.toNat, by omega⟩
    have hd := decDigits_len 5 u (by omega) (by decide)
    refine wps_rd (v := .str (w ++ [46])) (binV_cat (by show _ + 1 ≤ _; omega)) ?_
    refine walk1 (k := ?_)
    repeat' first | refine And.intro ?_ ?_ | intro
    all_goals refine leaf ?_
    refine callE ((rdigits_prog u (by omega))) ?_
    refine walk1 (k := ?_)
    repeat' first | refine And.intro ?_ ?_ | intro
    all_goals refine leaf ?_
    refine wps_rd (v := .str (w ++ 46 :: Lib.decDigits u)) ((binV_cat (by rw [List.length_append]; show _ + 1 + _ ≤ _; omega)).trans (by rw [List.append_assoc]; rfl)) ?_
    refine walk1 (k := ?_)
    repeat' first | refine And.intro ?_ ?_ | intro
    all_goals refine leaf ?_
    exact doneR (by rw [nameL_yes hr (by omega) (by omega)]; rfl)
theorem rnumber_prog (w name : List UInt8) (hw : w.length ≤ 1000000) (hl : name.length ≤ 1000000) : CallsR Tryz.prog nref08_Number [.str w, .str name] [] fun v => v = .int .i64 (numOf w name) := by
  have no : (∀ n, ¬ IsNum w name n) → V.int .i64 0 = .int .i64 (numOf w name) := fun h => by rw [numOf_no h]
  refine sref08_Number fun H hh => ?_
  dsimp only [cref08_Number]
  refine walk1 (k := ?_)
  repeat' first | refine And.intro ?_ ?_ | intro
  all_goals refine leaf ?_
  refine loopM [0, 1, 5, 6] (fun m vs L => ∃ i k : Nat, m = name.length + w.length + 1 - i ∧ w.length + 1 ≤ i ∧ k ≤ 999999 ∧ (∀ n, IsNum w name n → Lib.decFrom k (name.drop i) = some n.toNat) ∧ vs = [.str w, .str name, .int .i64 (k : Nat), .int .i64 (i : Nat)] ∧ L = [])
    (Nx.intro (i := _) trivial ⟨w.length + 1, 0, rfl, Nat.le_refl _, by decide, fun n hn => by rw [hn.tail.2.1]; exact decFrom_digits _, rfl, rfl⟩) ?_
  clear hh
  rintro m _ _ env H ⟨i, k, rfl, hi, hk, hd, rfl, rfl⟩ hh
  simp only [puts]
  have fin : ¬ (i < name.length ∧ k < 100000) → (∀ n, IsNum w name n → n = k) := fun h n hn => by
    have h1 := hd n hn
    have h2 := hn.2.1
    have h3 := hn.2.2.1
    by_cases hin : i < name.length
    · have := decFrom_ge _ _ _ h1; omega
    · rw [List.drop_of_length_le (by omega)] at h1
      simp only [Lib.decFrom, Option.some.injEq] at h1
      omega
  by_cases hc : i < name.length ∧ k < 100000
  · skip
    refine walk1 (k := ?_)
    repeat' first | refine And.intro ?_ ?_ | intro
    all_goals refine leaf ?_
    refine wps_slot (s := 14) (v := .bool true) (congrArg V.bool (decide_eq_true (by omega))) ?_
    refine wps_gt rfl (wps_rd (v := .int .i64 (k : Nat)) rfl ?_)
    refine wps_gt rfl (wps_rd (v := .bool true) (congrArg some (congrArg V.bool (decide_eq_true (by omega : (k : Int) < 100000)))) ?_)
    refine walk1 (k := ?_)
    repeat' first | refine And.intro ?_ ?_ | intro
    all_goals refine leaf ?_
    have hb : (name.getD i 0).toNat < 256 := UInt8.toNat_lt _
    have hdr := drop_getD' hc.1
    refine walk1 (k := ?_)
    repeat' first | refine And.intro ?_ ?_ | intro
    all_goals refine leaf ?_
    refine walk (k := ?_)
    repeat' first | refine And.intro ?_ ?_ | intro
    all_goals refine leaf ?_
    · refine doneR (no fun n hn => ?_)
      have := hd n hn
      rw [hdr] at this
      simp only [Lib.decFrom, Lib.digitVal] at this
      rw [if_neg (by omega)] at this; cases this
    · refine doneR (no fun n hn => ?_)
      have := hd n hn
      rw [hdr] at this
      simp only [Lib.decFrom, Lib.digitVal] at this
      rw [if_neg (by omega)] at this; cases this
    · refine Nx.intro (i := name.length + w.length + 1 - (i + 1)) (by omega) ⟨i + 1, k * 10 + ((name.getD i 0).toNat - 48), rfl, by omega, by omega, fun n hn => ?_, ?_, rfl⟩
      have := hd n hn
      rw [hdr] at this
      simp only [Lib.decFrom, Lib.digitVal] at this
      rw [if_pos (by omega)] at this
      exact this
      show [V.str _, V.str _, V.int _ _, V.int _ _] = _
      have e1 : IntKind.i64.wrap ((name.getD i 0).toNat : Int) = ((name.getD i 0).toNat : Int) := by rw [IntKind.wrap_i64]; omega
      have e2 : IntKind.i64.wrap ((k : Int) * 10 + ((name.getD i 0).toNat : Int)) = (k : Int) * 10 + ((name.getD i 0).toNat : Int) := by rw [IntKind.wrap_i64]; omega
      have e3 : IntKind.i64.wrap ((k : Int) * 10 + ((name.getD i 0).toNat : Int) - 48) = ((k * 10 + ((name.getD i 0).toNat - 48) : Nat) : Int) := by rw [IntKind.wrap_i64]; omega
      rw [e1, e2, e3]
      rfl
  · have fin := fin hc
    refine walk1 (k := ?_)
    repeat' first | refine And.intro ?_ ?_ | intro
    all_goals refine leaf ?_
    by_cases hi2 : i < name.length
    · refine wps_slot (s := 14) (v := .bool true) (congrArg V.bool (decide_eq_true (by omega))) ?_
      refine wps_gt rfl (wps_rd (v := .int .i64 (k : Nat)) rfl ?_)
      refine wps_gt rfl (wps_rd (v := .bool false) (congrArg some (congrArg V.bool (decide_eq_false (by omega : ¬ (k : Int) < 100000)))) ?_)
      refine walk (k := ?_)
      repeat' first | refine And.intro ?_ ?_ | intro
      all_goals refine leaf ?_
      · rename_i h0
        exact doneR (no fun n hn => hn.name.2 (by simpa using h0))
      refine callE ((rname_prog w k hw)) ?_
      refine walk (k := ?_)
      repeat' first | refine And.intro ?_ ?_ | intro
      all_goals refine leaf ?_
      · rename_i h0 hne
        refine doneR (no fun n hn => hne ?_)
        have := hn.name.1
        rwa [fin n hn] at this
      · rename_i h0 hne
        exact doneR (by rw [numOf_is (isNum_of (by simpa using hne) (by simpa using h0))])
    · refine wps_slot (s := 14) (v := .bool false) (congrArg V.bool (decide_eq_false (by omega))) ?_
      refine walk (k := ?_)
      repeat' first | refine And.intro ?_ ?_ | intro
      all_goals refine leaf ?_
      · rename_i h0
        exact doneR (no fun n hn => hn.name.2 (by simpa using h0))
      refine callE ((rname_prog w k hw)) ?_
      refine walk (k := ?_)
      repeat' first | refine And.intro ?_ ?_ | intro
      all_goals refine leaf ?_
      · rename_i h0 hne
        refine doneR (no fun n hn => hne ?_)
        have := hn.name.1
        rwa [fin n hn] at this
      · rename_i h0 hne
        exact doneR (by rw [numOf_is (isNum_of (by simpa using hne) (by simpa using h0))])
end Go.Proofs.YtdpnaneedjoboaaGreatDoor
