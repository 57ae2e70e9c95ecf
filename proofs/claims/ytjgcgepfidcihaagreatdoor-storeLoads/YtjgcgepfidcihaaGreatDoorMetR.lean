/-
  Texts joined: A method: the reference. A method: the code. The byte at which a text is cut: strings.IndexByte, strings.Index and strings.Count at one byte. Paths, in plain words. Digits and bytes that stay: the code.
-/
import Derived.Test.YtjgcgepfidcihaaGreatDoorKeyR
import Derived.Test.YtjgcgepfidcihaaGreatDoorCmG
namespace Go.Proofs.YtjgcgepfidcihaaGreatDoor
open Go Go.CM
set_option maxRecDepth 100000
set_option maxHeartbeats 4000000

abbrev isL (c : UInt8) : Prop := 65 ≤ c.toNat ∧ c.toNat ≤ 90 ∨ 97 ≤ c.toNat ∧ c.toNat ≤ 122
def upB (c : UInt8) : UInt8 := if 97 ≤ c.toNat ∧ c.toNat ≤ 122 then c - 32 else c
abbrev metP (s : List UInt8) : Prop := (1 ≤ s.length ∧ s.length ≤ 8) ∧ ∀ c ∈ s, isL c
theorem up_sub {c : UInt8} (h : 97 ≤ c.toNat ∧ c.toNat ≤ 122) : [V.int .u8 ((c.toNat : Int) - 32)] = [upB c].flatMap byteC := by
  unfold upB
  rw [if_pos h]
  show _ = [V.int .u8 ((c - 32).toNat : Nat)]
  rw [UInt8.toNat_sub_of_le _ _ (UInt8.le_iff_toNat_le.2 (by show 32 ≤ _; omega))]
  show [V.int .u8 _] = [V.int .u8 ((c.toNat - 32 : Nat) : Int)]
  rw [Int.ofNat_sub (by omega)]
  rfl
theorem up_same {c : UInt8} (h : ¬(97 ≤ c.toNat ∧ c.toNat ≤ 122)) : [V.int .u8 (c.toNat : Int)] = [upB c].flatMap byteC := by
  unfold upB
  rw [if_neg h]
  rfl
theorem binV_cat {a b : List UInt8} (h : a.length + b.length ≤ 1000000000) : binV .add (.str a) (.str b) = some (.str (a ++ b)) := if_neg (show ¬ ((a.length + b.length : Nat) : Int) > 9223372036854775807 by omega)
def metV (s : List UInt8) : V := if metP s then .tup [.str (s.map upB), .bool true] else .tup [.str [], .bool false]
theorem rmethod_prog (s : List UInt8) : CallsR Tryz.prog nref05_Method [.str s] [] fun v => v = metV s := by
  refine sref05_Method fun H hh => ?_
  dsimp only [cref05_Method]
  refine walk (k := ?_)
  repeat' first | refine And.intro ?_ ?_ | intro
  all_goals refine leaf ?_
  · exact doneR (if_neg (by omega)).symm
  · exact doneR (if_neg (by omega)).symm
  refine loopM [0, 4, 5] (fun m vs L => ∃ i : Nat, (∀ c ∈ s.take i, isL c) ∧ i ≤ s.length ∧ m = s.length - i ∧ vs = [.str s, .str ((s.take i).map upB), .int .i64 i] ∧ L = [])
    (Nx.intro (i := s.length) trivial ⟨0, by simp, Nat.zero_le _, rfl, rfl, rfl⟩) ?_
  clear hh
  rintro m _ _ e H ⟨i, ha, hi, rfl, rfl, rfl⟩ hh
  simp only [puts]
  refine walk (k := ?_)
  repeat' first | refine And.intro ?_ ?_ | intro
  all_goals refine leaf ?_
  all_goals try
    refine doneR (if_neg ?_).symm
    rintro ⟨_, h⟩
    have : isL (s.getD i 0) := h _ (by rw [List.getD_eq_getElem?_getD, List.getElem?_eq_getElem (by omega)]; exact List.getElem_mem _)
    omega
  rotate_right 1
  focus
    have ht : s.take i = s := List.take_of_length_le (by omega)
    rw [ht] at ha ⊢
    exact doneR (if_pos ⟨by omega, ha⟩).symm
  all_goals
    rename_i o H' hh
    have hl : i < s.length := by omega
    have hc : isL (s.getD i 0) := by omega
    first
      | rw [up_sub (c := s.getD i 0) (by omega)] at hh
      | rw [up_same (c := s.getD i 0) (by omega)] at hh
    refine wps_b2s (l := [upB (s.getD i 0)]) hh rfl .here ?_
    have et : s.take (i + 1) = s.take i ++ [s.getD i 0] := by rw [List.take_add_one, List.getD_eq_getElem?_getD, List.getElem?_eq_getElem hl]; rfl
    have em : (s.take i).map upB ++ [upB (s.getD i 0)] = (s.take (i + 1)).map upB := by rw [et, List.map_append]; rfl
    refine wps_rd (v := .str ((s.take (i + 1)).map upB)) (by rw [← em]; exact binV_cat (by rw [List.length_map, List.length_take]; show _ + 1 ≤ _; omega)) ?_
    refine walk1 (k := ?_)
    repeat' first | refine And.intro ?_ ?_ | intro
    all_goals refine leaf ?_
    refine Nx.intro (i := s.length - (i + 1)) (by omega) ⟨i + 1, ?_, by omega, rfl, rfl, rfl⟩
    intro c h
    rw [et, List.mem_append, List.mem_singleton] at h
    rcases h with h | rfl
    · exact ha c h
    · exact hc
end Go.Proofs.YtjgcgepfidcihaaGreatDoor

namespace Go.Proofs.YtjgcgepfidcihaaGreatDoor
open Go Go.CM
set_option maxRecDepth 100000
set_option maxHeartbeats 4000000

theorem upB_int (c : UInt8) : (if 97 ≤ (c.toNat : Int) ∧ (c.toNat : Int) ≤ 122 then (c.toNat : Int) - 32 else (c.toNat : Int)) = ((upB c).toNat : Int) := by
  by_cases h : 97 ≤ c.toNat ∧ c.toNat ≤ 122
  · rw [if_pos (by omega)]
    have := up_sub h
    simp only [List.flatMap_cons, List.flatMap_nil, byteC, List.append_nil, List.cons.injEq, V.int.injEq] at this
    exact this.1.2
  · rw [if_neg (by omega), upB, if_neg h]
theorem letterB_prog (c : UInt8) : CallsR Tryz.prog ncanon_letter [.int .u8 c.toNat] [] fun v => v = .tup [.int .u8 (upB c).toNat, .bool (decide (isL c))] := by
  have h := letter_prog c.toNat (by omega) (by have := UInt8.toNat_lt c; omega)
  rw [upB_int] at h
  have e : decide (65 ≤ (c.toNat : Int) ∧ (c.toNat : Int) ≤ 90 ∨ 97 ≤ (c.toNat : Int) ∧ (c.toNat : Int) ≤ 122) = decide (isL c) := by
    rw [decide_eq_decide]; omega
  rw [e] at h
  exact h
theorem method_prog (s : List UInt8) : CallsR Tryz.prog ncanon_Method [.str s] [] fun v => v = metV s := by
  refine scanon_Method fun H hh => ?_
  dsimp only [ccanon_Method]
  refine walk (k := ?_)
  repeat' first | refine And.intro ?_ ?_ | intro
  all_goals refine leaf ?_
  · rename_i he
    subst he
    exact doneR rfl
  · exact doneR (if_neg (by omega)).symm
  rename_i hne hle b _ hh
  have hp : 0 < s.length := List.length_pos_iff.2 hne
  refine loopM [0, 4, 16, 17] (fun m vs L => ∃ i : Nat, (∀ c ∈ s.take i, isL c) ∧ i ≤ s.length ∧ m = s.length - i ∧ vs = [.str s, BldV b, .int .i64 (s.length : Nat), .int .i64 i] ∧ BldO b ((s.take i).map upB) L)
    (Nx.intro (i := s.length) trivial ⟨0, by simp, Nat.zero_le _, rfl, rfl, .inl ⟨rfl, _, .inl rfl, rfl⟩⟩) ?_
  clear hh
  rintro m _ L e H ⟨i, ha, hi, rfl, rfl, hb⟩ hh
  simp only [puts]
  have hl := letterB_prog (s.getD i 0)
  have et : i < s.length → s.take (i + 1) = s.take i ++ [s.getD i 0] := fun h => by rw [List.take_add_one, List.getD_eq_getElem?_getD, List.getElem?_eq_getElem h]; rfl
  refine walk (k := ?_)
  repeat' first | refine And.intro ?_ ?_ | intro
  all_goals refine leaf ?_
  · by_cases hc : isL (s.getD i 0)
    · rw [decide_eq_true hc] at hl
      refine callE (hl) ?_
      refine walk1 (k := ?_)
      repeat' first | refine And.intro ?_ ?_ | intro
      all_goals refine leaf ?_
      refine callL (wb_prog b _ L (upB (s.getD i 0)) hb (by rw [List.length_map, List.length_take]; omega)) ?_
      rintro v L' H' ⟨rfl, hb'⟩ hh
      have et := et (by omega)
      have em : (s.take i).map upB ++ [upB (s.getD i 0)] = (s.take (i + 1)).map upB := by rw [et, List.map_append]; rfl
      rw [em] at hb'
      refine walk1 (k := ?_)
      repeat' first | refine And.intro ?_ ?_ | intro
      all_goals refine leaf ?_
      refine Nx.intro (i := s.length - (i + 1)) (by omega) ⟨i + 1, ?_, by omega, rfl, rfl, hb'⟩
      intro c h
      rw [et, List.mem_append, List.mem_singleton] at h
      rcases h with h | rfl
      · exact ha c h
      · exact hc
    · rw [decide_eq_false hc] at hl
      refine callE (hl) ?_
      refine walk1 (k := ?_)
      repeat' first | refine And.intro ?_ ?_ | intro
      all_goals refine leaf ?_
      refine doneR (if_neg ?_).symm
      rintro ⟨_, h⟩
      exact hc (h _ (by rw [List.getD_eq_getElem?_getD, List.getElem?_eq_getElem (by omega)]; exact List.getElem_mem _))
  · have ht : s.take i = s := List.take_of_length_le (by omega)
    rw [ht] at ha hb
    refine callL (str_prog b _ L hb (by rw [List.length_map]; omega)) ?_
    rintro v L' H' ⟨rfl, rfl⟩ hh
    refine walk1 (k := ?_)
    repeat' first | refine And.intro ?_ ?_ | intro
    all_goals refine leaf ?_
    exact doneR (if_pos ⟨by omega, ha⟩).symm
end Go.Proofs.YtjgcgepfidcihaaGreatDoor

namespace Go.Proofs.YtjgcgepfidcihaaGreatDoor
open Go Go.CM
set_option maxRecDepth 100000
set_option maxHeartbeats 4000000

theorem slibyte_prog (s : List UInt8) (c : Int) : CallsR Tryz.prog nstringslite_IndexByte [.str s, .int .u8 c] [] fun v => v = .int .i64 (Lib.indexByte s c.toNat.toUInt8) := by
  refine sstringslite_IndexByte fun H hh => ?_
  dsimp only [cstringslite_IndexByte]
  refine walk1 (k := ?_)
  repeat' first | refine And.intro ?_ ?_ | intro
  all_goals refine leaf ?_
  refine wps_ext rfl (indexByte_at hfbytealg_IndexByteString (by kernel_rfl) (by kernel_rfl) (by kernel_rfl) (by kernel_rfl) s c) ?_
  refine walk1 (k := ?_)
  repeat' first | refine And.intro ?_ ?_ | intro
  all_goals refine leaf ?_
  exact doneR rfl
theorem idxbyte_prog (s : List UInt8) (c : Int) : CallsR Tryz.prog nstrings_IndexByte [.str s, .int .u8 c] [] fun v => v = .int .i64 (Lib.indexByte s c.toNat.toUInt8) := by
  have h1 := slibyte_prog s c
  refine sstrings_IndexByte fun H hh => ?_
  dsimp only [cstrings_IndexByte]
  refine walk1 (k := ?_)
  repeat' first | refine And.intro ?_ ?_ | intro
  all_goals refine leaf ?_
  refine callE (h1) ?_
  refine walk1 (k := ?_)
  repeat' first | refine And.intro ?_ ?_ | intro
  all_goals refine leaf ?_
  exact doneR rfl
theorem slindex_prog (s : List UInt8) (c : UInt8) : CallsR Tryz.prog nstringslite_Index [.str s, .str [c]] [] fun v => v = .int .i64 (Lib.indexByte s c) := by
  have h1 := slibyte_prog s (([c].getD 0 0).toNat : Nat)
  rw [show ((([c].getD 0 0).toNat : Nat) : Int).toNat.toUInt8 = c by show (c.toNat : Int).toNat.toUInt8 = c; simp] at h1
  refine sstringslite_Index fun H hh => ?_
  dsimp only [cstringslite_Index]
  refine walk (k := ?_)
  repeat' first | refine And.intro ?_ ?_ | intro
  all_goals refine leaf ?_
  · rename_i he
    subst he
    exact doneR (by simp [Lib.indexByte])
  refine callE (h1) ?_
  refine walk1 (k := ?_)
  repeat' first | refine And.intro ?_ ?_ | intro
  all_goals refine leaf ?_
  exact doneR rfl
theorem index_prog (s : List UInt8) (c : UInt8) : CallsR Tryz.prog nstrings_Index [.str s, .str [c]] [] fun v => v = .int .i64 (Lib.indexByte s c) := by
  have h1 := slindex_prog s c
  refine sstrings_Index fun H hh => ?_
  dsimp only [cstrings_Index]
  refine walk1 (k := ?_)
  repeat' first | refine And.intro ?_ ?_ | intro
  all_goals refine leaf ?_
  refine callE (h1) ?_
  refine walk1 (k := ?_)
  repeat' first | refine And.intro ?_ ?_ | intro
  all_goals refine leaf ?_
  exact doneR rfl
theorem count_prog (s : List UInt8) (c : UInt8) : CallsR Tryz.prog nstrings_Count [.str s, .str [c]] [] fun v => v = .int .i64 (Lib.countByte s c : Nat) := by
  have e : (c.toNat : Int).toNat.toUInt8 = c := by simp
  refine sstrings_Count fun H hh => ?_
  dsimp only [cstrings_Count]
  refine walk1 (k := ?_)
  repeat' first | refine And.intro ?_ ?_ | intro
  all_goals refine leaf ?_
  refine wps_ext (vs := [.str s, .int .u8 (([c].getD 0 0).toNat : Nat)]) rfl (countByte_at hfbytealg_CountString (by kernel_rfl) (by kernel_rfl) (by kernel_rfl) (by kernel_rfl) s (([c].getD 0 0).toNat : Nat)) ?_
  rw [show ((([c].getD 0 0).toNat : Nat) : Int).toNat.toUInt8 = c from e]
  refine walk1 (k := ?_)
  repeat' first | refine And.intro ?_ ?_ | intro
  all_goals refine leaf ?_
  exact doneR rfl
end Go.Proofs.YtjgcgepfidcihaaGreatDoor

namespace Go.Proofs.YtjgcgepfidcihaaGreatDoor
open Go Go.CM
set_option maxRecDepth 100000
set_option maxHeartbeats 4000000

def pairB (a b : UInt8) : UInt8 := UInt8.ofNat ((digI a.toNat).toNat * 16 + (digI b.toNat).toNat)
def readP (s : List UInt8) (p : Nat) : Option (List UInt8) :=
  if p < s.length then
    if s.getD p 0 ≠ 37 then (readP s (p + 1)).map (s.getD p 0 :: ·)
    else if p + 2 < s.length ∧ 0 ≤ digI (s.getD (p + 1) 0).toNat ∧ 0 ≤ digI (s.getD (p + 2) 0).toNat then (readP s (p + 3)).map (pairB (s.getD (p + 1) 0) (s.getD (p + 2) 0) :: ·)
    else none
  else some []
termination_by s.length - p
abbrev rightP (n most : Nat) (l : List Nat) : Prop := (1 ≤ n ∧ n ≤ most) ∧ ∀ x ∈ l, srtI x ≠ 0
abbrev okL (o : List UInt8) : Prop := o = [] ∨ rightP o.length 60 ((sgs o 0).map (·.1))
def readV (s : List UInt8) : V := match readP s 0 with
  | none => .tup [.str [], .bool false]
  | some o => .tup [.str o, .bool (decide (okL o))]
def partL (s : List UInt8) : Option (List UInt8) := match readP s 0 with
  | none => none
  | some o => if okL o then some o else none
abbrev plP (c : UInt8) : Prop := isL c ∨ (48 ≤ c.toNat ∧ c.toNat ≤ 57) ∨ c.toNat = 45 ∨ c.toNat = 46 ∨ c.toNat = 95 ∨ c.toNat = 126
def hexB (n : Nat) : UInt8 := if n < 10 then UInt8.ofNat (48 + n) else UInt8.ofNat (55 + n)
def putB (c : UInt8) : List UInt8 := if plP c then [c] else [37, hexB (c.toNat / 16), hexB (c.toNat % 16)]
def writeL (s : List UInt8) : List UInt8 := s.flatMap putB
def splitL : List UInt8 → List (List UInt8)
  | [] => [[]]
  | c :: r => if c = 47 then [] :: splitL r else match splitL r with
    | [] => [[c]]
    | q :: qs => (c :: q) :: qs
def partsL (out : List (List UInt8)) : List (List UInt8) → Option (List (List UInt8))
  | [] => some out
  | p :: ps => match partL p with
    | none => none
    | some q => if q = [] ∨ q = [46] then partsL out ps else if q = [46, 46] then (if out = [] then none else partsL out.dropLast ps) else partsL (out ++ [q]) ps
def joinL (l : List (List UInt8)) : List UInt8 := l.flatMap fun p => 47 :: writeL p
def fullL (o : List UInt8) : List UInt8 := if o = [] then [47] else o
def pathL (s : List UInt8) : Option (List UInt8) :=
  if s = [] ∨ 60 < s.length ∨ (s.getD 0 0).toNat ≠ 47 then none else match partsL [] (splitL s) with
  | none => none
  | some l => if 60 < (fullL (joinL l)).length then none else some (fullL (joinL l))
def pathV (s : List UInt8) : V := match pathL s with
  | none => .tup [.str [], .bool false]
  | some o => .tup [.str o, .bool true]
theorem splitL_ne (s : List UInt8) : splitL s ≠ [] := by
  cases s with
  | nil => simp [splitL]
  | cons c r =>
    rw [splitL]
    split
    · simp
    · split <;> simp
theorem splitL_none : ∀ {s : List UInt8}, (∀ k < s.length, s.getD k 0 ≠ 47) → splitL s = [s]
  | [], _ => rfl
  | c :: r, h => by
    have h0 : c ≠ 47 := h 0 (by simp)
    rw [splitL, if_neg h0, splitL_none (s := r) fun k hk => by have := h (k + 1) (by simpa using hk); simpa using this]
theorem splitL_some : ∀ {s : List UInt8} {m : Nat}, (∀ k < m, s.getD k 0 ≠ 47) → m < s.length → s.getD m 0 = 47 → splitL s = s.take m :: splitL (s.drop (m + 1))
  | [], m, _, hm, _ => by simp at hm
  | c :: r, 0, _, _, h => by rw [splitL, if_pos (by simpa using h)]; simp
  | c :: r, m + 1, h, hm, he => by
    have h0 : c ≠ 47 := h 0 (by simp)
    rw [splitL, if_neg h0, splitL_some (s := r) (m := m) (fun k hk => by have := h (k + 1) (by omega); simpa using this) (by simpa using hm) (by simpa using he)]
    simp
theorem index_none {s : List UInt8} {c : UInt8} : Lib.indexByte s c = -1 → ∀ k < s.length, s.getD k 0 ≠ c := by
  induction s with
  | nil => intro _ k hk; simp at hk
  | cons b l ih =>
    intro h k hk
    rw [Lib.indexByte] at h
    split at h
    · omega
    · rename_i hb
      split at h
      · rename_i hi
        cases k with
        | zero => simpa using hb
        | succ k => have := ih (by simpa using hi) k (by simpa using hk); simpa using this
      · have := Lib.indexByte_ge l c; omega
theorem index_some {s : List UInt8} {c : UInt8} : Lib.indexByte s c ≠ -1 → ∃ m : Nat, Lib.indexByte s c = m ∧ m < s.length ∧ s.getD m 0 = c ∧ ∀ k < m, s.getD k 0 ≠ c := by
  induction s with
  | nil => intro h; exact absurd rfl h
  | cons b l ih =>
    intro h
    rw [Lib.indexByte] at h ⊢
    by_cases hb : (b == c) = true
    · rw [if_pos hb]
      exact ⟨0, rfl, by simp, by simpa using hb, fun k hk => by omega⟩
    · rw [if_neg hb] at h ⊢
      by_cases hi : (Lib.indexByte l c == -1) = true
      · rw [if_pos hi] at h; exact absurd rfl h
      · rw [if_neg hi]
        obtain ⟨m, h1, h2, h3, h4⟩ := ih (by simpa using hi)
        refine ⟨m + 1, by rw [h1]; rfl, by simp; omega, by simpa using h3, fun k hk => ?_⟩
        cases k with
        | zero => simpa using hb
        | succ k => have := h4 k (by omega); simpa using this
theorem splitL_len : ∀ s : List UInt8, (splitL s).length = Lib.countByte s 47 + 1
  | [] => rfl
  | c :: r => by
    have ih := splitL_len r
    unfold Lib.countByte at *
    rw [splitL, List.count_cons]
    split
    · rename_i h
      rw [List.length_cons, ih, if_pos (by simpa using h)]
    · rename_i h
      rw [if_neg (by simpa using h)]
      have := splitL_ne r
      cases hq : splitL r with
      | nil => exact absurd hq this
      | cons q qs => rw [hq] at ih; simpa using ih
theorem count_le (s : List UInt8) (c : UInt8) : Lib.countByte s c ≤ s.length := List.count_le_length
theorem readP_at {s : List UInt8} {p : Nat} (h : p < s.length) (h37 : s.getD p 0 ≠ 37) : readP s p = (readP s (p + 1)).map (s.getD p 0 :: ·) := by rw [readP, if_pos h, if_pos h37]
theorem readP_hex {s : List UInt8} {p : Nat} (h : p + 2 < s.length) (h37 : s.getD p 0 = 37) (h1 : 0 ≤ digI (s.getD (p + 1) 0).toNat) (h2 : 0 ≤ digI (s.getD (p + 2) 0).toNat) : readP s p = (readP s (p + 3)).map (pairB (s.getD (p + 1) 0) (s.getD (p + 2) 0) :: ·) := by
  rw [readP, if_pos (by omega), if_neg (fun h => h h37), if_pos ⟨h, h1, h2⟩]
theorem readP_bad {s : List UInt8} {p : Nat} (h : p < s.length) (h37 : s.getD p 0 = 37) (h2 : ¬ (p + 2 < s.length ∧ 0 ≤ digI (s.getD (p + 1) 0).toNat ∧ 0 ≤ digI (s.getD (p + 2) 0).toNat)) : readP s p = none := by
  rw [readP, if_pos h, if_neg (fun h => h h37), if_neg h2]
theorem readP_end {s : List UInt8} {p : Nat} (h : s.length ≤ p) : readP s p = some [] := by rw [readP, if_neg (by omega)]
theorem map_cat {o : Option (List UInt8)} (out : List UInt8) (c : UInt8) : (o.map (c :: ·)).map (out ++ ·) = o.map ((out ++ [c]) ++ ·) := by cases o <;> simp
theorem digI_le (c : Int) : digI c ≤ 15 := by
  unfold digI
  repeat' split
  all_goals omega
end Go.Proofs.YtjgcgepfidcihaaGreatDoor

namespace Go.Proofs.YtjgcgepfidcihaaGreatDoor
open Go Go.CM
set_option maxRecDepth 100000
set_option maxHeartbeats 4000000

abbrev great : List UInt8 := [48, 49, 50, 51, 52, 53, 54, 55, 56, 57, 65, 66, 67, 68, 69, 70]
theorem great_dig (c : UInt8) : Lib.indexByte great (upB c) = digI c.toNat := by
  have h : ∀ n < 256, Lib.indexByte great (upB (UInt8.ofNat n)) = digI (UInt8.ofNat n).toNat := by decide +kernel
  have := h c.toNat (UInt8.toNat_lt c)
  rwa [show UInt8.ofNat c.toNat = c by simp] at this
theorem marks_ix (c : UInt8) : decide (0 ≤ Lib.indexByte [45, 46, 95, 126] c) = decide (c.toNat = 45 ∨ c.toNat = 46 ∨ c.toNat = 95 ∨ c.toNat = 126) := by
  have h : ∀ n < 256, decide (0 ≤ Lib.indexByte [45, 46, 95, 126] (UInt8.ofNat n)) = decide ((UInt8.ofNat n).toNat = 45 ∨ (UInt8.ofNat n).toNat = 46 ∨ (UInt8.ofNat n).toNat = 95 ∨ (UInt8.ofNat n).toNat = 126) := by decide +kernel
  have := h c.toNat (UInt8.toNat_lt c)
  rwa [show UInt8.ofNat c.toNat = c by simp] at this
theorem upB_not {c : UInt8} (h : ¬ isL c) : upB c = c := by rw [upB, if_neg (by omega)]
theorem cdigit_prog (c : UInt8) : CallsR Tryz.prog ncanon_digit [.int .u8 c.toNat] [] fun v => v = .int .i64 (digI c.toNat) := by
  have h1 := letterB_prog c
  have h2 := idxbyte_prog great ((upB c).toNat : Nat)
  rw [show (((upB c).toNat : Nat) : Int).toNat.toUInt8 = upB c by simp, great_dig] at h2
  refine scanon_digit fun H hh => ?_
  dsimp only [ccanon_digit]
  refine walk1 (k := ?_)
  repeat' first | refine And.intro ?_ ?_ | intro
  all_goals refine leaf ?_
  by_cases hc : isL c
  · rw [decide_eq_true hc] at h1
    refine callE (h1) ?_
    refine walk1 (k := ?_)
    repeat' first | refine And.intro ?_ ?_ | intro
    all_goals refine leaf ?_
    refine callE (h2) ?_
    refine walk1 (k := ?_)
    repeat' first | refine And.intro ?_ ?_ | intro
    all_goals refine leaf ?_
    exact doneR rfl
  · rw [decide_eq_false hc] at h1
    rw [upB_not hc] at h2
    refine callE (h1) ?_
    refine walk1 (k := ?_)
    repeat' first | refine And.intro ?_ ?_ | intro
    all_goals refine leaf ?_
    refine callE (h2) ?_
    refine walk1 (k := ?_)
    repeat' first | refine And.intro ?_ ?_ | intro
    all_goals refine leaf ?_
    exact doneR rfl
theorem plain_prog (c : UInt8) : CallsR Tryz.prog ncanon_plain [.int .u8 c.toNat] [] fun v => v = .bool (decide (plP c)) := by
  have h1 := letterB_prog c
  have h2 := idxbyte_prog [45, 46, 95, 126] (c.toNat : Nat)
  rw [show ((c.toNat : Nat) : Int).toNat.toUInt8 = c by simp] at h2
  have hm := marks_ix c
  refine scanon_plain fun H hh => ?_
  dsimp only [ccanon_plain]
  refine walk (k := ?_)
  repeat' first | refine And.intro ?_ ?_ | intro
  all_goals refine leaf ?_
  by_cases hc : isL c
  · rw [decide_eq_true hc] at h1
    refine callE (h1) ?_
    refine walk (k := ?_)
    repeat' first | refine And.intro ?_ ?_ | intro
    all_goals refine leaf ?_
    exact doneR (congrArg V.bool (decide_eq_true (Or.inl hc)).symm)
  · rw [decide_eq_false hc] at h1
    refine callE (h1) ?_
    refine walk (k := ?_)
    repeat' first | refine And.intro ?_ ?_ | intro
    all_goals refine leaf ?_
    all_goals first
      | exact doneR (congrArg V.bool (decide_eq_true (Or.inr (Or.inl (by omega)))).symm)
      | skip
    all_goals
      refine callE (h2) ?_
      refine walk (k := ?_)
      repeat' first | refine And.intro ?_ ?_ | intro
      all_goals refine leaf ?_
      refine doneR (congrArg V.bool ?_)
      rw [hm, Bool.eq_iff_iff, decide_eq_true_iff, decide_eq_true_iff]
      omega
end Go.Proofs.YtjgcgepfidcihaaGreatDoor
