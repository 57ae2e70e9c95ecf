/-
  The names of files: the code.
-/
import Derived.Test.YtkfhgpegnnokgaaGreatDoorC0
import Derived.Test.YtkfhgpegnnokgaaGreatDoorC1
import Derived.Test.YtkfhgpegnnokgaaGreatDoorC2
import Derived.Test.YtkfhgpegnnokgaaGreatDoorFilP
import Derived.Test.YtkfhgpegnnokgaaGreatDoorLaid
import Derived.Test.YtkfhgpegnnokgaaGreatDoorGlb
namespace Go.Proofs.YtkfhgpegnnokgaaGreatDoor
open Go Go.CM
set_option maxRecDepth 100000
set_option maxHeartbeats 4000000

theorem binV_cat {a b : List UInt8} (h : a.length + b.length ≤ 1000000000) : binV .add (.str a) (.str b) = some (.str (a ++ b)) := if_neg (show ¬ ((a.length + b.length : Nat) : Int) > 9223372036854775807 by omega)
theorem itoa_prog (e : Nat) (n : Int) (h0 : -9223372036854775808 ≤ n) (h1 : n ≤ 9223372036854775807) : CallsR Tryz.prog nstrconv_Itoa [.int .i64 n] (LO e) fun v => v = .str (Lib.itoa n) :=
  itoaR Tryz.itoaL ⟨_, Tryz.itoaL.f171, by kernel_rfl, by kernel_rfl⟩ (by kernel_rfl) n h0 h1
theorem trim_prog (s : List UInt8) (h0 : s ≠ []) (hs : s.length ≤ 1000) : CallsR Tryz.prog nstrings_Trim [.str s, .str lowSet] [] fun v => v = .str (Lib.trimS s lowSet) :=
  trimR Tryz.trimL ⟨_, Tryz.trimL.f160, by kernel_rfl, by kernel_rfl⟩ (by kernel_rfl) s lowSet (List.length_pos_iff.2 h0) (by omega) (by decide) (by decide) (Go.Proofs.ascii_of_all (by decide))
theorem atoi1_prog (s : List UInt8) (hl : s.length ≤ 18) : CallsR Tryz.prog nstrconv_Atoi_v1 [.str s] [] fun v => v = match Lib.atoi s with | some n => .tup [.int .i64 n, .nili] | none => .tup [.int .i64 0, .iface tstrconv_Error (.int .i64 2)] :=
  atoiR Tryz.atoiL ⟨_, Tryz.atoiL.f244, by kernel_rfl, by kernel_rfl⟩ s hl

/- strings.CutPrefix -/
theorem pre_take (s p : List UInt8) : (s.take p.length == p) = p.isPrefixOf s := by
  rw [Bool.eq_iff_iff, beq_iff_eq, List.isPrefixOf_iff_prefix, List.prefix_iff_eq_take]
  exact eq_comm
theorem hasPre_prog (s p : List UInt8) : CallsR Tryz.prog nstringslite_HasPrefix [.str s, .str p] [] fun v => v = .bool (p.isPrefixOf s) := by
  refine sstringslite_HasPrefix fun H hh => ?_
  dsimp only [cstringslite_HasPrefix]
  refine walk (k := ?_)
  repeat' first | refine And.intro ?_ ?_ | intro
  all_goals refine leaf ?_
  · exact doneR (congrArg V.bool (pre_take s p))
  · refine doneR (congrArg V.bool ?_)
    rw [← pre_take]
    exact (beq_eq_false_iff_ne.2 fun h => by have := congrArg List.length h; rw [List.length_take] at this; omega).symm
theorem cutPre_prog (s p : List UInt8) : CallsR Tryz.prog nstrings_CutPrefix [.str s, .str p] [] fun v => v = if p.isPrefixOf s = true then .tup [.str (s.drop p.length), .bool true] else .tup [.str s, .bool false] := by
  have hc : CallsR Tryz.prog nstringslite_CutPrefix [.str s, .str p] [] fun v => v = if p.isPrefixOf s = true then .tup [.str (s.drop p.length), .bool true] else .tup [.str s, .bool false] := by
    refine sstringslite_CutPrefix fun H hh => ?_
    dsimp only [cstringslite_CutPrefix]
    refine walk1 (k := ?_)
    repeat' first | refine And.intro ?_ ?_ | intro
    all_goals refine leaf ?_
    refine callE ((hasPre_prog s p)) ?_
    refine walk (k := ?_)
    repeat' first | refine And.intro ?_ ?_ | intro
    all_goals refine leaf ?_
    · rename_i h; exact doneR (by rw [if_neg (by intro hp; rw [hp] at h; cases h)])
    · rename_i h
      have hp : p.isPrefixOf s = true := by simpa using h
      have hle : p.length ≤ s.length := (List.isPrefixOf_iff_prefix.1 hp).length_le
      refine walk1 (k := ?_)
      repeat' first | refine And.intro ?_ ?_ | intro
      all_goals refine leaf ?_
      exact doneR (by rw [if_pos hp]; rfl)
  by_cases hp : p.isPrefixOf s = true
  · rw [if_pos hp] at hc ⊢
    refine sstrings_CutPrefix fun H hh => ?_
    dsimp only [cstrings_CutPrefix]
    refine walk1 (k := ?_)
    repeat' first | refine And.intro ?_ ?_ | intro
    all_goals refine leaf ?_
    refine callE (hc) ?_
    refine walk1 (k := ?_)
    repeat' first | refine And.intro ?_ ?_ | intro
    all_goals refine leaf ?_
    exact doneR rfl
  · rw [if_neg hp] at hc ⊢
    refine sstrings_CutPrefix fun H hh => ?_
    dsimp only [cstrings_CutPrefix]
    refine walk1 (k := ?_)
    repeat' first | refine And.intro ?_ ?_ | intro
    all_goals refine leaf ?_
    refine callE (hc) ?_
    refine walk1 (k := ?_)
    repeat' first | refine And.intro ?_ ?_ | intro
    all_goals refine leaf ?_
    exact doneR rfl
/- right -/
theorem fright_prog (w : List UInt8) : CallsR Tryz.prog nfiles_right [.str w] [] fun v => v = .bool (rightW w) := by
  refine sfiles_right fun H hh => ?_
  dsimp only [cfiles_right]
  refine walk (k := ?_)
  repeat' first | refine And.intro ?_ ?_ | intro
  all_goals refine leaf ?_
  · skip
    refine callE ((trim_prog w (by assumption) (by omega))) ?_
    refine walk1 (k := ?_)
    repeat' first | refine And.intro ?_ ?_ | intro
    all_goals refine leaf ?_
    refine doneR (congrArg V.bool ?_)
    unfold rightW
    rw [Bool.eq_iff_iff]
    simp only [beq_iff_eq, trimS_nil, lowSet_is, Bool.and_eq_true, Bool.not_eq_true', List.isEmpty_eq_false_iff, decide_eq_true_eq]
    exact ⟨fun h => ⟨⟨by assumption, by omega⟩, h⟩, fun h => h.2⟩
  · refine doneR (congrArg V.bool ?_)
    unfold rightW
    rw [decide_eq_false (by omega), Bool.and_false, Bool.false_and]
  · subst w
    exact doneR rfl
/- strconv.Atoi of a short text -/
theorem clone_prog (s : List UInt8) (hs : s.length ≤ 1000000) : CallsR Tryz.prog nstringslite_Clone [.str s] [] fun v => v = .str s := by
  refine sstringslite_Clone fun H hh => ?_
  dsimp only [cstringslite_Clone]
  refine walk (k := ?_)
  repeat' first | refine And.intro ?_ ?_ | intro
  all_goals refine leaf ?_
  · rename_i h
    have : s = [] := List.eq_nil_of_length_eq_zero (by omega)
    subst this
    exact doneR (by rfl)
  · rename_i h
    have hl : (s.length : Int).toNat = s.length := by omega
    have hne : s ≠ [] := fun e => by subst e; exact h rfl
    refine wps_mkSlT hh rfl rfl (by omega) fun b H' hh => ?_
    rw [hl] at hh ⊢
    refine walk1 (k := ?_)
    repeat' first | refine And.intro ?_ ?_ | intro
    all_goals refine leaf ?_
    refine wps_copyT hh (vs := bytesV s) (cs' := bytesV s) (m := s.length) rfl (by
      show (if 1 = 1 then some (s.length, (s.take s.length).map fun b => V.int .u8 b.toNat) else none) = _
      rw [if_pos rfl, List.take_length, bytesV_eq]) (Nat.zero_le _) (fun e => by have := congrArg List.length e; rw [rep_length' (k := 1) rfl] at this; simp at this; exact hne this) (splice_all (by rw [rep_length' (k := 1) rfl, bytesV_eq]; simp)) .here1 fun H' hh => ?_
    refine walk1 (k := ?_)
    repeat' first | refine And.intro ?_ ?_ | intro
    all_goals refine leaf ?_
    refine wps_rd (v := .ty tuint8 0 b (.ptr b 0)) (if_pos ⟨Int.le_refl 0, by omega, rfl⟩) ?_
    refine walk1 (k := ?_)
    repeat' first | refine And.intro ?_ ?_ | intro
    all_goals refine leaf ?_
    refine wps_ustrA hh (k := 0) (id := b) (l := s) rfl rfl hne (by omega) .here fun H' hh => ?_
    refine walk1 (k := ?_)
    repeat' first | refine And.intro ?_ ?_ | intro
    all_goals refine leaf ?_
    exact doneR rfl
theorem atoi_ok (s : List UInt8) (hl : s.length ≤ 18) {n : Int} (h : Lib.atoi s = some n) : CallsR Tryz.prog nstrconv_Atoi [.str s] [] fun v => v = .tup [.int .i64 n, .nili] := by
  have h1 := atoi1_prog s hl
  rw [h] at h1
  refine sstrconv_Atoi fun H hh => ?_
  dsimp only [cstrconv_Atoi]
  refine walk1 (k := ?_)
  repeat' first | refine And.intro ?_ ?_ | intro
  all_goals refine leaf ?_
  refine callE (h1) ?_
  refine walk1 (k := ?_)
  repeat' first | refine And.intro ?_ ?_ | intro
  all_goals refine leaf ?_
  exact doneR rfl
theorem syntaxE_prog (f s : List UInt8) (hs : s.length ≤ 1000000) (e : Nat) : CallsN Tryz.prog nstrconv_syntaxError [.str f, .str s] (LO e) fun v _ => ∃ id, v = .ptr id 0 := by
  refine sstrconv_syntaxError fun H hh => ?_
  dsimp only [cstrconv_syntaxError]
  refine walk1 (k := ?_)
  repeat' first | refine And.intro ?_ ?_ | intro
  all_goals refine leaf ?_
  refine callE ((clone_prog s hs)) ?_
  refine walk1 (k := ?_)
  repeat' first | refine And.intro ?_ ?_ | intro
  all_goals refine leaf ?_
  exact doneN (Lo := []) ⟨_, rfl⟩
theorem toError_prog (f s : List UInt8) (hs : s.length ≤ 1000000) (e : Nat) : CallsR Tryz.prog nstrconv_toError [.str f, .str s, .int .i64 0, .int .i64 0, .iface tstrconv_Error (.int .i64 2)] (LO e) fun v => ∃ id, v = .iface tP_strconv_NumError (.ptr id 0) := by
  refine sstrconv_toError fun H hh => ?_
  dsimp only [cstrconv_toError]
  refine walk1 (k := ?_)
  repeat' first | refine And.intro ?_ ?_ | intro
  all_goals refine leaf ?_
  refine callR ((syntaxE_prog f s hs e).drop) ?_
  rintro v ⟨_, id, rfl⟩
  refine walk1 (k := ?_)
  repeat' first | refine And.intro ?_ ?_ | intro
  all_goals refine leaf ?_
  exact doneR ⟨_, rfl⟩
theorem atoi_no (s : List UInt8) (hl : s.length ≤ 18) (h : Lib.atoi s = none) (e : Nat) : CallsR Tryz.prog nstrconv_Atoi [.str s] (LO e) fun v => ∃ id, v = .tup [.int .i64 0, .iface tP_strconv_NumError (.ptr id 0)] := by
  have h1 := atoi1_prog s hl
  rw [h] at h1
  refine sstrconv_Atoi fun H hh => ?_
  dsimp only [cstrconv_Atoi]
  refine walk1 (k := ?_)
  repeat' first | refine And.intro ?_ ?_ | intro
  all_goals refine leaf ?_
  refine callE (h1) ?_
  refine walk1 (k := ?_)
  repeat' first | refine And.intro ?_ ?_ | intro
  all_goals refine leaf ?_
  refine callR ((toError_prog [65, 116, 111, 105] s (by omega) e)) ?_
  rintro v ⟨id, rfl⟩
  refine walk1 (k := ?_)
  repeat' first | refine And.intro ?_ ?_ | intro
  all_goals refine leaf ?_
  exact doneR ⟨_, rfl⟩
/- Name, Number -/
theorem itoa_nat {n : Int} (h : 0 ≤ n) : Lib.itoa n = Lib.decDigits n.toNat := if_neg (by omega)
theorem nameL_no {w : List UInt8} {n : Int} (h : ¬ (rightW w = true ∧ 1 ≤ n ∧ n ≤ 99999)) : nameL w n = [] := if_neg h
theorem nameL_yes {w : List UInt8} {n : Int} (h0 : rightW w = true) (h1 : 1 ≤ n) (h2 : n ≤ 99999) : nameL w n = w ++ 46 :: Lib.decDigits n.toNat := if_pos ⟨h0, h1, h2⟩
theorem rightW_len {w : List UInt8} (h : rightW w = true) : w ≠ [] ∧ w.length ≤ 5 := by
  unfold rightW at h
  simp only [Bool.and_eq_true, Bool.not_eq_true', List.isEmpty_eq_false_iff, decide_eq_true_eq] at h
  exact h.1
theorem fname_prog (w : List UInt8) (n : Int) (e : Nat) : CallsR Tryz.prog nfiles_Name [.str w, .int .i64 n] (LO e) fun v => v = .str (nameL w n) := by
  refine sfiles_Name fun H hh => ?_
  dsimp only [cfiles_Name]
  refine walk1 (k := ?_)
  repeat' first | refine And.intro ?_ ?_ | intro
  all_goals refine leaf ?_
  refine callE ((fright_prog w)) ?_
  refine walk (k := ?_)
  repeat' first | refine And.intro ?_ ?_ | intro
  all_goals refine leaf ?_
  · rename_i h; exact doneR (congrArg V.str (nameL_no fun h1 => by rw [h1.1] at h; cases h).symm)
  · exact doneR (congrArg V.str (nameL_no fun h1 => by omega).symm)
  · exact doneR (congrArg V.str (nameL_no fun h1 => by omega).symm)
  · rename_i h h1 h2
    have hr : rightW w = true := by simpa using h
    have hw := (rightW_len hr).2
    have hd := decDigits_len 5 n.toNat (by omega) (by decide)
    rw [nameL_yes hr (by omega) (by omega)]
    refine wps_rd (v := .str (w ++ [46])) (binV_cat (by show _ + 1 ≤ _; omega)) ?_
    refine walk1 (k := ?_)
    repeat' first | refine And.intro ?_ ?_ | intro
    all_goals refine leaf ?_
    refine callE ((itoa_prog e n (by omega) (by omega))) ?_
    refine walk1 (k := ?_)
    repeat' first | refine And.intro ?_ ?_ | intro
    all_goals refine leaf ?_
    rw [itoa_nat (by omega)]
    refine wps_rd (v := .str (w ++ 46 :: Lib.decDigits n.toNat)) ((binV_cat (by rw [List.length_append]; show _ + 1 + _ ≤ _; omega)).trans (by rw [List.append_assoc]; rfl)) ?_
    refine walk1 (k := ?_)
    repeat' first | refine And.intro ?_ ?_ | intro
    all_goals refine leaf ?_
    exact doneR rfl
theorem fnumber_prog (w name : List UInt8) (hw : w.length ≤ 1000000) (e : Nat) : CallsR Tryz.prog nfiles_Number [.str w, .str name] (LO e) fun v => v = .tup [.int .i64 (numOf w name), .bool (decide (0 < numOf w name))] := by
  have no : (∀ n, ¬ IsNum w name n) → (V.tup [.int .i64 0, .bool false]) = .tup [.int .i64 (numOf w name), .bool (decide (0 < numOf w name))] := fun h => by rw [numOf_no h]; rfl
  have h1 := cutPre_prog name (w ++ [46])
  have hlen : (w ++ [46]).length = w.length + 1 := by simp
  rw [hlen] at h1
  refine sfiles_Number fun H hh => ?_
  dsimp only [cfiles_Number]
  refine walk1 (k := ?_)
  repeat' first | refine And.intro ?_ ?_ | intro
  all_goals refine leaf ?_
  refine wps_rd (v := .str (w ++ [46])) (binV_cat (by show _ + 1 ≤ _; omega)) ?_
  refine walk1 (k := ?_)
  repeat' first | refine And.intro ?_ ?_ | intro
  all_goals refine leaf ?_
  by_cases hp : (w ++ [46]).isPrefixOf name = true
  · rw [if_pos hp] at h1
    refine callE (h1) ?_
    refine walk1 (k := ?_)
    repeat' first | refine And.intro ?_ ?_ | intro
    all_goals refine leaf ?_
    refine walk (k := ?_)
    repeat' first | refine And.intro ?_ ?_ | intro
    all_goals refine leaf ?_
    · refine doneR (no fun n hn => ?_)
      have h2 := congrArg List.length hn.tail.2.1
      have h3 := hn.tail.2.2.1
      omega
    rename_i hl
    cases ha : Lib.atoi (name.drop (w.length + 1)) with
    | none =>
      refine callR ((atoi_no (name.drop (w.length + 1)) (by omega) ha e)) ?_
      rintro v ⟨id, rfl⟩
      refine walk1 (k := ?_)
      repeat' first | refine And.intro ?_ ?_ | intro
      all_goals refine leaf ?_
      refine doneR (no fun n hn => ?_)
      rw [hn.tail.2.2.2] at ha; cases ha
    | some n =>
      refine callE ((atoi_ok (name.drop (w.length + 1)) (by omega) ha)) ?_
      refine walk1 (k := ?_)
      repeat' first | refine And.intro ?_ ?_ | intro
      all_goals refine leaf ?_
      refine callE ((fname_prog w n e)) ?_
      refine walk (k := ?_)
      repeat' first | refine And.intro ?_ ?_ | intro
      all_goals refine leaf ?_
      · rename_i hne
        refine doneR (no fun m hm => ?_)
        have := hm.tail.2.2.2
        rw [ha] at this; cases this
        exact hne hm.name.1
      · rename_i hne h0
        refine doneR (no fun m hm => hm.name.2 ?_)
        simpa using h0
      · rename_i hne h0
        have hn : IsNum w name n := isNum_of (by simpa using hne) (by simpa using h0)
        rw [numOf_is hn, decide_eq_true (by have := hn.2.1; omega)]
        exact doneR rfl
  · rw [if_neg hp] at h1
    refine callE (h1) ?_
    refine walk1 (k := ?_)
    repeat' first | refine And.intro ?_ ?_ | intro
    all_goals refine leaf ?_
    refine doneR (no fun n hn => hp hn.tail.1)
end Go.Proofs.YtkfhgpegnnokgaaGreatDoor
