/-
  Texts joined: Texts, sign by sign. The document's signs. All signs of a text; keys.
-/
import Derived.Test.YtjgcgepfidcihaaGreatDoorSignA
namespace Go.Proofs.YtjgcgepfidcihaaGreatDoor
open Go Go.CM
set_option maxRecDepth 100000
set_option maxHeartbeats 4000000

def b8 (l : List UInt8) (k : Nat) : Nat := (l.getD k 0).toNat
abbrev tlP (l : List UInt8) (k : Nat) : Prop := k < l.length ∧ 128 ≤ b8 l k ∧ b8 l k < 192
def n2 (l : List UInt8) : Nat := (b8 l 0 - 192) * 64 + (b8 l 1 - 128)
def n3 (l : List UInt8) : Nat := (b8 l 0 - 224) * 4096 + (b8 l 1 - 128) * 64 + (b8 l 2 - 128)
def n4 (l : List UInt8) : Nat := (b8 l 0 - 240) * 262144 + (b8 l 1 - 128) * 4096 + (b8 l 2 - 128) * 64 + (b8 l 3 - 128)
def firstS (l : List UInt8) : Nat × Nat :=
  if b8 l 0 < 128 then (b8 l 0, 1)
  else if 194 ≤ b8 l 0 ∧ b8 l 0 < 224 ∧ tlP l 1 then (n2 l, 2)
  else if (224 ≤ b8 l 0 ∧ b8 l 0 < 240 ∧ tlP l 1 ∧ tlP l 2) ∧ 2048 ≤ n3 l ∧ (n3 l < 55296 ∨ 57343 < n3 l) then (n3 l, 3)
  else if (240 ≤ b8 l 0 ∧ b8 l 0 < 245 ∧ tlP l 1 ∧ tlP l 2 ∧ tlP l 3) ∧ 65536 ≤ n4 l ∧ n4 l ≤ 1114111 then (n4 l, 4)
  else (65533, 1)
theorem b8_lt (l : List UInt8) (k : Nat) : b8 l k < 256 := UInt8.toNat_lt _
theorem get_b8 (s : List UInt8) (pos k : Nat) : ((⟨s.toArray⟩ : ByteArray).get! (pos + k)).toNat = b8 (s.drop pos) k := by
  unfold b8
  congr 1
  show (s.toArray)[pos + k]! = _
  simp only [List.getD_eq_getElem?_getD, getElem!_def, List.getElem?_drop, List.getElem?_toArray]
  cases s[pos + k]? <;> rfl
theorem valid_iff (c : Nat) : Utf8.valid (c : Int) = true ↔ c < 55296 ∨ (57344 ≤ c ∧ c ≤ 1114111) := by
  unfold Utf8.valid
  rw [Bool.or_eq_true, Bool.and_eq_true, Bool.and_eq_true, decide_eq_true_iff, decide_eq_true_iff, decide_eq_true_iff, decide_eq_true_iff]
  omega
theorem decS_first {s : List UInt8} {pos : Nat} (h : pos < s.length) : decS s pos = firstS (s.drop pos) := by
  have hl : (s.drop pos).length = s.length - pos := List.length_drop
  have hsz : (⟨s.toArray⟩ : ByteArray).size = s.length := by show s.toArray.size = _; simp
  have h0 := b8_lt (s.drop pos) 0
  have h1 := b8_lt (s.drop pos) 1
  have h2 := b8_lt (s.drop pos) 2
  have h3 := b8_lt (s.drop pos) 3
  have hd : decS s pos = (if b8 (s.drop pos) 0 < 128 then (b8 (s.drop pos) 0, 1)
    else if (b8 (s.drop pos) 0 / 32 = 6) ∧ (pos + 1 < s.length ∧ b8 (s.drop pos) 1 / 64 = 2) then
      (if (b8 (s.drop pos) 0 % 32) * 64 + b8 (s.drop pos) 1 % 64 ≥ 128 then ((b8 (s.drop pos) 0 % 32) * 64 + b8 (s.drop pos) 1 % 64, 2) else (65533, 1))
    else if ((b8 (s.drop pos) 0 / 16 = 14) ∧ (pos + 1 < s.length ∧ b8 (s.drop pos) 1 / 64 = 2)) ∧ (pos + 2 < s.length ∧ b8 (s.drop pos) 2 / 64 = 2) then
      (if (b8 (s.drop pos) 0 % 16) * 4096 + (b8 (s.drop pos) 1 % 64) * 64 + b8 (s.drop pos) 2 % 64 ≥ 2048 ∧ Utf8.valid (((b8 (s.drop pos) 0 % 16) * 4096 + (b8 (s.drop pos) 1 % 64) * 64 + b8 (s.drop pos) 2 % 64 : Nat) : Int) = true then ((b8 (s.drop pos) 0 % 16) * 4096 + (b8 (s.drop pos) 1 % 64) * 64 + b8 (s.drop pos) 2 % 64, 3) else (65533, 1))
    else if (((b8 (s.drop pos) 0 / 8 = 30) ∧ (pos + 1 < s.length ∧ b8 (s.drop pos) 1 / 64 = 2)) ∧ (pos + 2 < s.length ∧ b8 (s.drop pos) 2 / 64 = 2)) ∧ (pos + 3 < s.length ∧ b8 (s.drop pos) 3 / 64 = 2) then
      (if (b8 (s.drop pos) 0 % 8) * 262144 + (b8 (s.drop pos) 1 % 64) * 4096 + (b8 (s.drop pos) 2 % 64) * 64 + b8 (s.drop pos) 3 % 64 ≥ 65536 ∧ Utf8.valid (((b8 (s.drop pos) 0 % 8) * 262144 + (b8 (s.drop pos) 1 % 64) * 4096 + (b8 (s.drop pos) 2 % 64) * 64 + b8 (s.drop pos) 3 % 64 : Nat) : Int) = true then ((b8 (s.drop pos) 0 % 8) * 262144 + (b8 (s.drop pos) 1 % 64) * 4096 + (b8 (s.drop pos) 2 % 64) * 64 + b8 (s.drop pos) 3 % 64, 4) else (65533, 1))
    else (65533, 1)) := by
    unfold decS Utf8.decode
    simp only [get_b8, hsz, Bool.and_eq_true, decide_eq_true_eq, beq_iff_eq, Utf8.runeError]
  rw [hd]
  simp only [valid_iff]
  unfold firstS n2 n3 n4 tlP
  rw [hl]
  generalize b8 (s.drop pos) 0 = a at *
  generalize b8 (s.drop pos) 1 = b at *
  generalize b8 (s.drop pos) 2 = c at *
  generalize b8 (s.drop pos) 3 = d at *
  clear hd
  have et1 : (pos + 1 < s.length ∧ b / 64 = 2) ↔ (1 < s.length - pos ∧ 128 ≤ b ∧ b < 192) := by omega
  have et2 : (pos + 2 < s.length ∧ c / 64 = 2) ↔ (2 < s.length - pos ∧ 128 ≤ c ∧ c < 192) := by omega
  have et3 : (pos + 3 < s.length ∧ d / 64 = 2) ↔ (3 < s.length - pos ∧ 128 ≤ d ∧ d < 192) := by omega
  simp only [et1, et2, et3]
  clear et1 et2 et3
  by_cases c0 : a < 128
  · rw [if_pos c0, if_pos c0]
  rw [if_neg c0, if_neg c0]
  by_cases k1 : 1 < s.length - pos ∧ 128 ≤ b ∧ b < 192
  · have q1 := k1.2
    by_cases c1 : a / 32 = 6
    · conv => lhs; rw [if_pos ⟨c1, k1⟩]
      by_cases c2 : 194 ≤ a
      · conv => lhs; rw [if_pos (by omega)]
        conv => rhs; rw [if_pos ⟨c2, by omega, k1⟩]
        exact congrArg (·, 2) (by omega)
      · conv => lhs; rw [if_neg (by omega)]
        conv => rhs; rw [if_neg (fun h => c2 h.1), if_neg (fun h => by omega), if_neg (fun h => by omega)]
    · conv => lhs; rw [if_neg (fun h => c1 h.1)]
      conv => rhs; rw [if_neg (fun h => c1 (by omega))]
      by_cases k2 : 2 < s.length - pos ∧ 128 ≤ c ∧ c < 192
      · have q2 := k2.2
        by_cases c3 : a / 16 = 14
        · conv => lhs; rw [if_pos ⟨⟨c3, k1⟩, k2⟩]
          have e : a % 16 * 4096 + b % 64 * 64 + c % 64 = (a - 224) * 4096 + (b - 128) * 64 + (c - 128) := by omega
          rw [e]
          by_cases c4 : 2048 ≤ (a - 224) * 4096 + (b - 128) * 64 + (c - 128) ∧ ((a - 224) * 4096 + (b - 128) * 64 + (c - 128) < 55296 ∨ 57343 < (a - 224) * 4096 + (b - 128) * 64 + (c - 128))
          · conv => lhs; rw [if_pos ⟨c4.1, by omega⟩]
            conv => rhs; rw [if_pos ⟨⟨by omega, by omega, k1, k2⟩, c4⟩]
          · conv => lhs; rw [if_neg (fun h => c4 ⟨h.1, by omega⟩)]
            conv => rhs; rw [if_neg (fun h => c4 h.2), if_neg (fun h => by omega)]
        · conv => lhs; rw [if_neg (fun h => c3 h.1.1)]
          conv => rhs; rw [if_neg (fun h => c3 (by omega))]
          by_cases k3 : 3 < s.length - pos ∧ 128 ≤ d ∧ d < 192
          · have q3 := k3.2
            by_cases c5 : a / 8 = 30
            · conv => lhs; rw [if_pos ⟨⟨⟨c5, k1⟩, k2⟩, k3⟩]
              have e : a % 8 * 262144 + b % 64 * 4096 + c % 64 * 64 + d % 64 = (a - 240) * 262144 + (b - 128) * 4096 + (c - 128) * 64 + (d - 128) := by omega
              rw [e]
              by_cases c4 : 65536 ≤ (a - 240) * 262144 + (b - 128) * 4096 + (c - 128) * 64 + (d - 128) ∧ (a - 240) * 262144 + (b - 128) * 4096 + (c - 128) * 64 + (d - 128) ≤ 1114111
              · conv => lhs; rw [if_pos ⟨c4.1, by omega⟩]
                conv => rhs; rw [if_pos ⟨⟨by omega, by omega, k1, k2, k3⟩, c4⟩]
              · conv => lhs; rw [if_neg (fun h => c4 ⟨h.1, by omega⟩)]
                conv => rhs; rw [if_neg (fun h => c4 h.2)]
            · conv => lhs; rw [if_neg (fun h => c5 h.1.1.1)]
              conv => rhs; rw [if_neg (fun h => c5 (by omega))]
          · conv => lhs; rw [if_neg (fun h => k3 h.2)]
            conv => rhs; rw [if_neg (fun h => k3 h.1.2.2.2.2)]
      · conv => lhs; rw [if_neg (fun h => k2 h.2), if_neg (fun h => k2 h.1.2)]
        conv => rhs; rw [if_neg (fun h => k2 h.1.2.2.2), if_neg (fun h => k2 h.1.2.2.2.1)]
  · conv => lhs; rw [if_neg (fun h => k1 h.2), if_neg (fun h => k1 h.1.2), if_neg (fun h => k1 h.1.1.2)]
    conv => rhs; rw [if_neg (fun h => k1 h.2.2), if_neg (fun h => k1 h.1.2.2.1), if_neg (fun h => k1 h.1.2.2.1)]
end Go.Proofs.YtjgcgepfidcihaaGreatDoor

namespace Go.Proofs.YtjgcgepfidcihaaGreatDoor
open Go Go.CM
set_option maxRecDepth 100000
set_option maxHeartbeats 4000000

theorem tail_prog (s : List UInt8) (k : Nat) : CallsR Tryz.prog nref04_tail [.str s, .int .i64 (k : Nat)] [] fun v => v = .bool (decide (tlP s k)) := by
  have hb : b8 s k = (s.getD k 0).toNat := rfl
  refine sref04_tail fun H hh => ?_
  dsimp only [cref04_tail]
  refine walk (k := ?_)
  repeat' first | refine And.intro ?_ ?_ | intro
  all_goals refine leaf ?_
  all_goals refine doneR (congrArg V.bool ?_)
  all_goals rw [Bool.eq_iff_iff]
  all_goals simp [hb, -List.getD_eq_getElem?_getD]
  all_goals omega
theorem first_prog (s : List UInt8) (hs : s ≠ []) : CallsR Tryz.prog nref04_First [.str s] [] fun v => v = .tup [.int .i64 ((firstS s).1 : Nat), .int .i64 ((firstS s).2 : Nat)] := by
  have hl : 0 < s.length := List.length_pos_iff.2 hs
  have t1 := tail_prog s 1
  have t2 := tail_prog s 2
  have t3 := tail_prog s 3
  have g0 : b8 s 0 = (s.getD 0 0).toNat := rfl
  have g1 : b8 s 1 = (s.getD 1 0).toNat := rfl
  have g2 : b8 s 2 = (s.getD 2 0).toNat := rfl
  have g3 : b8 s 3 = (s.getD 3 0).toNat := rfl
  have h0 := b8_lt s 0
  have h1 := b8_lt s 1
  have h2 := b8_lt s 2
  have h3 := b8_lt s 3
  obtain ⟨F, hF⟩ : ∃ F, F = firstS s := ⟨_, rfl⟩
  rw [← hF]
  unfold firstS at hF
  refine sref04_First fun H hh => ?_
  dsimp only [cref04_First]
  refine walk1 (k := ?_)
  repeat' first | refine And.intro ?_ ?_ | intro
  all_goals refine leaf ?_
  by_cases c0 : b8 s 0 < 128
  · refine c_cond_t (congrArg V.bool (decide_eq_true (by omega))) ?_
    rw [if_pos c0] at hF
    subst hF
    refine walk1 (k := ?_)
    repeat' first | refine And.intro ?_ ?_ | intro
    all_goals refine leaf ?_
    exact doneR rfl
  rw [if_neg c0] at hF
  refine c_cond_f (congrArg V.bool (decide_eq_false (by omega))) ?_
  refine c_skip ?_
  repeat (first | refine c_seq ?_ | refine c_block ?_ | refine c_ops (wps_rd rfl (wps_nil ?_)) | refine k_seq_n ?_ | refine c_skip ?_)
  refine condP 22 [0, 4] (194 ≤ b8 s 0 ∧ b8 s 0 < 224 ∧ tlP s 1) [.str s, .int .i64 (b8 s 0 : Nat)] [] ?_ ?_ ?_
  · skip
    refine walk (k := ?_)
    repeat' first | refine And.intro ?_ ?_ | intro
    all_goals refine leaf ?_
    · skip
      refine callE (t1) ?_
      refine walk (k := ?_)
      repeat' first | refine And.intro ?_ ?_ | intro
      all_goals refine leaf ?_
      exact Nx.cnd rfl rfl (by rw [decide_eq_true_iff]; omega) (by assumption) Tk.nil
    all_goals exact Nx.cnd rfl rfl (by simp [-List.getD_eq_getElem?_getD]; omega) (by assumption) Tk.nil
  · intro e H hh hp
    rw [if_pos hp] at hF
    subst hF
    simp only [puts]
    refine walk1 (k := ?_)
    repeat' first | refine And.intro ?_ ?_ | intro
    all_goals refine leaf ?_
    refine doneR ?_
    have e2 : (n2 s : Int) = ((b8 s 0 : Nat) - 192) * 64 + (s.getD 1 0).toNat - 128 := by unfold n2; omega
    show V.tup [.int .i64 _, _] = V.tup [.int .i64 (n2 s : Nat), _]
    rw [e2]
    rfl
  intro e H hh n2'
  rw [if_neg n2'] at hF
  simp only [puts]
  repeat (first | refine c_seq ?_ | refine c_block ?_ | refine c_ops (wps_rd rfl (wps_nil ?_)) | refine k_seq_n ?_ | refine c_skip ?_)
  refine condP 44 [0, 4] (224 ≤ b8 s 0 ∧ b8 s 0 < 240 ∧ tlP s 1 ∧ tlP s 2) [.str s, .int .i64 (b8 s 0 : Nat)] [] ?_ ?_ ?_
  · skip
    refine walk (k := ?_)
    repeat' first | refine And.intro ?_ ?_ | intro
    all_goals refine leaf ?_
    · skip
      refine callE (t1) ?_
      refine walk (k := ?_)
      repeat' first | refine And.intro ?_ ?_ | intro
      all_goals refine leaf ?_
      · skip
        refine callE (t2) ?_
        refine walk (k := ?_)
        repeat' first | refine And.intro ?_ ?_ | intro
        all_goals refine leaf ?_
        exact Nx.cnd rfl rfl (by rw [decide_eq_true_iff]; omega) (by assumption) Tk.nil
      · exact Nx.cnd rfl rfl (by simp [-List.getD_eq_getElem?_getD]; omega) (by assumption) Tk.nil
    all_goals exact Nx.cnd rfl rfl (by simp [-List.getD_eq_getElem?_getD]; omega) (by assumption) Tk.nil
  · intro e H hh hp
    simp only [puts]
    have e3 : ((b8 s 0 : Nat) - 224) * 4096 + ((s.getD 1 0).toNat - 128) * 64 + (s.getD 2 0).toNat - 128 = ((n3 s : Nat) : Int) := by unfold n3; omega
    generalize hN : n3 s = N at *
    have hF' : F = if 2048 ≤ N ∧ (N < 55296 ∨ 57343 < N) then (N, 3) else (65533, 1) := by
      by_cases c3 : 2048 ≤ N ∧ (N < 55296 ∨ 57343 < N)
      · rw [if_pos ⟨hp, c3⟩] at hF
        rw [hF, if_pos c3]
      · rw [if_neg (fun h => c3 h.2), if_neg (fun h => by omega)] at hF
        rw [hF, if_neg c3]
    clear hF
    have h4 : (¬ 2048 ≤ N) ∨ (2048 ≤ N ∧ N < 55296) ∨ (2048 ≤ N ∧ ¬ N < 55296 ∧ 57343 < N) ∨ (2048 ≤ N ∧ ¬ N < 55296 ∧ ¬ 57343 < N) := by omega
    refine h4.elim (fun d1 => ?_) fun h4 => h4.elim (fun d => ?_) fun h4 => h4.elim (fun d => ?_) (fun d => ?_)
    · rw [if_neg (fun h => d1 h.1)] at hF'
      subst hF'
      refine walk1 (k := ?_)
      repeat' first | refine And.intro ?_ ?_ | intro
      all_goals refine leaf ?_
      refine wps_slot (s := 5) (v := .int .i64 (N : Nat)) (congrArg (V.int .i64) e3) ?_
      refine wps_slot (s := 61) (v := .bool false) (congrArg V.bool (decide_eq_false (by omega))) ?_
      refine walk1 (k := ?_)
      repeat' first | refine And.intro ?_ ?_ | intro
      all_goals refine leaf ?_
      refine wps_slot (s := 72) (v := .bool false) (congrArg V.bool (decide_eq_false (by omega))) ?_
      refine walk1 (k := ?_)
      repeat' first | refine And.intro ?_ ?_ | intro
      all_goals refine leaf ?_
      exact doneR rfl
    · rw [if_pos ⟨d.1, .inl d.2⟩] at hF'
      subst hF'
      refine walk1 (k := ?_)
      repeat' first | refine And.intro ?_ ?_ | intro
      all_goals refine leaf ?_
      refine wps_slot (s := 5) (v := .int .i64 (N : Nat)) (congrArg (V.int .i64) e3) ?_
      refine wps_slot (s := 61) (v := .bool true) (congrArg V.bool (decide_eq_true (by omega))) ?_
      refine wps_gt rfl (wps_rd rfl ?_)
      refine wps_gt rfl (wps_rd (v := .bool true) (congrArg (fun b => some (V.bool b)) (decide_eq_true (show ((N : Nat) : Int) < 55296 by omega))) ?_)
      refine walk1 (k := ?_)
      repeat' first | refine And.intro ?_ ?_ | intro
      all_goals refine leaf ?_
      exact doneR rfl
    · rw [if_pos ⟨d.1, .inr d.2.2⟩] at hF'
      subst hF'
      refine walk1 (k := ?_)
      repeat' first | refine And.intro ?_ ?_ | intro
      all_goals refine leaf ?_
      refine wps_slot (s := 5) (v := .int .i64 (N : Nat)) (congrArg (V.int .i64) e3) ?_
      refine wps_slot (s := 61) (v := .bool true) (congrArg V.bool (decide_eq_true (by omega))) ?_
      refine wps_gt rfl (wps_rd rfl ?_)
      refine wps_gt rfl (wps_rd (v := .bool false) (congrArg (fun b => some (V.bool b)) (decide_eq_false (show ¬ ((N : Nat) : Int) < 55296 by omega))) ?_)
      refine wps_gt rfl (wps_rd rfl ?_)
      refine wps_gt rfl (wps_rd rfl ?_)
      refine wps_gt rfl (wps_rd (v := .bool true) (congrArg (fun b => some (V.bool b)) (decide_eq_true (show (57343 : Int) < ((N : Nat) : Int) by omega))) ?_)
      refine walk1 (k := ?_)
      repeat' first | refine And.intro ?_ ?_ | intro
      all_goals refine leaf ?_
      exact doneR rfl
    · rw [if_neg (fun h => by omega)] at hF'
      subst hF'
      refine walk1 (k := ?_)
      repeat' first | refine And.intro ?_ ?_ | intro
      all_goals refine leaf ?_
      refine wps_slot (s := 5) (v := .int .i64 (N : Nat)) (congrArg (V.int .i64) e3) ?_
      refine wps_slot (s := 61) (v := .bool true) (congrArg V.bool (decide_eq_true (by omega))) ?_
      refine wps_gt rfl (wps_rd rfl ?_)
      refine wps_gt rfl (wps_rd (v := .bool false) (congrArg (fun b => some (V.bool b)) (decide_eq_false (show ¬ ((N : Nat) : Int) < 55296 by omega))) ?_)
      refine wps_gt rfl (wps_rd rfl ?_)
      refine wps_gt rfl (wps_rd rfl ?_)
      refine wps_gt rfl (wps_rd (v := .bool false) (congrArg (fun b => some (V.bool b)) (decide_eq_false (show ¬ (57343 : Int) < ((N : Nat) : Int) by omega))) ?_)
      refine walk1 (k := ?_)
      repeat' first | refine And.intro ?_ ?_ | intro
      all_goals refine leaf ?_
      refine wps_slot (s := 72) (v := .bool false) (congrArg V.bool (decide_eq_false (by omega))) ?_
      refine walk1 (k := ?_)
      repeat' first | refine And.intro ?_ ?_ | intro
      all_goals refine leaf ?_
      exact doneR rfl
  · intro e H hh n3'
    rw [if_neg (fun h => n3' h.1)] at hF
    simp only [puts]
    repeat (first | refine c_seq ?_ | refine c_block ?_ | refine c_ops (wps_rd rfl (wps_nil ?_)) | refine k_seq_n ?_ | refine c_skip ?_)
    refine condP 87 [0, 4] (240 ≤ b8 s 0 ∧ b8 s 0 < 245 ∧ tlP s 1 ∧ tlP s 2 ∧ tlP s 3) [.str s, .int .i64 (b8 s 0 : Nat)] [] ?_ ?_ ?_
    · skip
      refine walk (k := ?_)
      repeat' first | refine And.intro ?_ ?_ | intro
      all_goals refine leaf ?_
      · skip
        refine callE (t1) ?_
        refine walk (k := ?_)
        repeat' first | refine And.intro ?_ ?_ | intro
        all_goals refine leaf ?_
        · skip
          refine callE (t2) ?_
          refine walk (k := ?_)
          repeat' first | refine And.intro ?_ ?_ | intro
          all_goals refine leaf ?_
          · skip
            refine callE (t3) ?_
            refine walk (k := ?_)
            repeat' first | refine And.intro ?_ ?_ | intro
            all_goals refine leaf ?_
            exact Nx.cnd rfl rfl (by rw [decide_eq_true_iff]; omega) (by assumption) Tk.nil
          · exact Nx.cnd rfl rfl (by simp [-List.getD_eq_getElem?_getD]; omega) (by assumption) Tk.nil
        · exact Nx.cnd rfl rfl (by simp [-List.getD_eq_getElem?_getD]; omega) (by assumption) Tk.nil
      all_goals exact Nx.cnd rfl rfl (by simp [-List.getD_eq_getElem?_getD]; omega) (by assumption) Tk.nil
    · intro e H hh hp
      simp only [puts]
      have e4 : ((b8 s 0 : Nat) - 240) * 262144 + ((s.getD 1 0).toNat - 128) * 4096 + ((s.getD 2 0).toNat - 128) * 64 + (s.getD 3 0).toNat - 128 = ((n4 s : Nat) : Int) := by unfold n4; omega
      generalize hN : n4 s = N at *
      refine walk1 (k := ?_)
      repeat' first | refine And.intro ?_ ?_ | intro
      all_goals refine leaf ?_
      refine wps_slot (s := 6) (v := .int .i64 (N : Nat)) (congrArg (V.int .i64) e4) ?_
      refine wps_slot (s := 110) (v := .bool (decide (65536 ≤ ((N : Nat) : Int)))) (by rw [← e4]; rfl) ?_
      by_cases c4 : 65536 ≤ N ∧ N ≤ 1114111
      · rw [if_pos ⟨hp, c4⟩] at hF
        subst hF
        refine walk (k := ?_)
        repeat' first | refine And.intro ?_ ?_ | intro
        all_goals refine leaf ?_
        all_goals first
          | exact doneR rfl
          | (exfalso; omega)
      · rw [if_neg (fun h => c4 h.2)] at hF
        subst hF
        refine walk (k := ?_)
        repeat' first | refine And.intro ?_ ?_ | intro
        all_goals refine leaf ?_
        all_goals first
          | exact doneR rfl
          | (exfalso; omega)
    · intro e H hh n4'
      rw [if_neg (fun h => n4' h.1)] at hF
      subst hF
      simp only [puts]
      refine walk1 (k := ?_)
      repeat' first | refine And.intro ?_ ?_ | intro
      all_goals refine leaf ?_
      exact doneR rfl
theorem firstS_pos (l : List UInt8) : 1 ≤ (firstS l).2 := by
  unfold firstS
  repeat' split
  all_goals (simp only; omega)
theorem firstS_le {l : List UInt8} (h : l ≠ []) : (firstS l).2 ≤ l.length := by
  have := List.length_pos_iff.2 h
  unfold firstS
  repeat' split
  all_goals (simp only; omega)
end Go.Proofs.YtjgcgepfidcihaaGreatDoor

namespace Go.Proofs.YtjgcgepfidcihaaGreatDoor
open Go Go.CM
set_option maxRecDepth 100000
set_option maxHeartbeats 4000000

def sgs (s : List UInt8) (p : Nat) : List (Nat × Nat) := if p < s.length then ((firstS (s.drop p)).1, p) :: sgs s (p + (firstS (s.drop p)).2) else []
termination_by s.length - p
decreasing_by (have := firstS_pos (s.drop p); omega)
theorem sgs_lt {s : List UInt8} {p : Nat} (h : p < s.length) : sgs s p = ((firstS (s.drop p)).1, p) :: sgs s (p + (firstS (s.drop p)).2) := by rw [sgs, if_pos h]
theorem sgs_ge {s : List UInt8} {p : Nat} (h : s.length ≤ p) : sgs s p = [] := by rw [sgs, if_neg (by omega)]
def natC (n : Nat) : List V := [.int .i64 (n : Nat)]
theorem l4 {a b c d a' b' c' d' : V} (h1 : a = a') (h2 : b = b') (h3 : c = c') (h4 : d = d') : [a, b, c, d] = [a', b', c', d'] := by rw [h1, h2, h3, h4]
theorem signs_prog (s : List UInt8) (hs : s.length ≤ 1000000) : CallsN Tryz.prog nref04_Signs [.str s] [] fun v Lo => ∃ a b, v = .tup [.slice a 0 ((sgs s 0).map (·.1)).length 1, .slice b 0 ((sgs s 0).map (·.2)).length 1] ∧ Lo = [(a, .cells true (((sgs s 0).map (·.1)).flatMap natC)), (b, .cells true (((sgs s 0).map (·.2)).flatMap natC))] := by
  refine sref04_Signs fun H hh => ?_
  dsimp only [cref04_Signs]
  refine walk (k := ?_)
  repeat' first | refine And.intro ?_ ?_ | intro
  all_goals refine leaf ?_
  refine loopM [0, 4, 5, 6] (fun m vs L => ∃ (a b p : Nat) (out : List (Nat × Nat)), out ++ sgs s p = sgs s 0 ∧ out.length ≤ p ∧ p ≤ s.length ∧ m = s.length - p ∧ vs = [.str s, .slice a 0 (out.map (·.1)).length 1, .slice b 0 (out.map (·.2)).length 1, .int .i64 (p : Nat)] ∧ L = [(a, .cells true ((out.map (·.1)).flatMap natC)), (b, .cells true ((out.map (·.2)).flatMap natC))])
    (Nx.weak (i := s.length) (vs := [.str s, .slice 0 0 0 1, .slice 0 0 0 1, .int .i64 (0 : Nat)]) trivial (.cons (Wk.refl _) (.cons (Wk.nils 0 1) (.cons (Wk.nils 0 1) (.cons (Wk.refl _) .nil)))) ⟨0, 0, 0, [], rfl, Nat.le_refl _, Nat.zero_le _, rfl, rfl, rfl⟩ ((hh.ghost true).ghost true)) ?_
  clear hh
  rintro m _ _ e H ⟨a, b, p, out, ho, hop, hp, rfl, rfl, rfl⟩ hh
  simp only [puts]
  by_cases hn : p < s.length
  · have hne : s.drop p ≠ [] := fun e => by have := congrArg List.length e; rw [List.length_drop] at this; simp only [List.length_nil] at this; omega
    have h1 := first_prog (s.drop p) hne
    have h2 := firstS_pos (s.drop p)
    have h3 := firstS_le hne
    rw [List.length_drop] at h3
    rw [sgs_lt hn] at ho
    generalize hF : firstS (s.drop p) = F at *
    have l1 : (out.map (·.1)).length ≤ p := by rw [List.length_map]; exact hop
    have l2 : (out.map (·.2)).length ≤ p := by rw [List.length_map]; exact hop
    refine walk1 (k := ?_)
    repeat' first | refine And.intro ?_ ?_ | intro
    all_goals refine leaf ?_
    refine c_cond_t (by show V.bool _ = _; simp; omega) ?_
    refine walk1 (k := ?_)
    repeat' first | refine And.intro ?_ ?_ | intro
    all_goals refine leaf ?_
    refine callE (h1) ?_
    refine walk1 (k := ?_)
    repeat' first | refine And.intro ?_ ?_ | intro
    all_goals refine leaf ?_
    rename_i a2 _ _ _ b2 _ hh
    have e1 : out.map (·.1) ++ [F.1] = (out ++ [(F.1, p)]).map (·.1) := by rw [List.map_append]; rfl
    have e2 : out.map (·.2) ++ [p] = (out ++ [(F.1, p)]).map (·.2) := by rw [List.map_append]; rfl
    rw [e1, e2] at hh ⊢
    exact Nx.intro (i := s.length - (p + F.2)) (by omega) ⟨a2, b2, p + F.2, out ++ [(F.1, p)], by rw [List.append_assoc]; exact ho, by rw [List.length_append, List.length_singleton]; omega, by omega, rfl, l4 rfl rfl rfl (by show V.int .i64 ((p : Int) + (F.2 : Int)) = V.int .i64 ((p + F.2 : Nat) : Int); rw [Int.natCast_add]), rfl⟩
  · skip
    refine walk1 (k := ?_)
    repeat' first | refine And.intro ?_ ?_ | intro
    all_goals refine leaf ?_
    refine c_cond_f (by show V.bool _ = _; simp; omega) ?_
    rw [sgs_ge (by omega), List.append_nil] at ho
    subst ho
    refine walk1 (k := ?_)
    repeat' first | refine And.intro ?_ ?_ | intro
    all_goals refine leaf ?_
    exact doneN ⟨a, b, rfl, rfl⟩
end Go.Proofs.YtjgcgepfidcihaaGreatDoor
