/-
  Texts joined: Texts in order; whole numbers and texts compared. Entries: their cells, their names; the document's lists of them. Lists in order, as what they have of each name.
-/
import Derived.Test.YtjgcgepfidcihaaGreatDoorC0
import Derived.Test.YtjgcgepfidcihaaGreatDoorC1
import Derived.Test.YtjgcgepfidcihaaGreatDoorC2
import Derived.Test.YtjgcgepfidcihaaGreatDoorCmG
import Derived.Test.YtjgcgepfidcihaaGreatDoorEntD
namespace Go.Proofs.YtjgcgepfidcihaaGreatDoor
open Go Go.CM
set_option maxRecDepth 100000
set_option maxHeartbeats 4000000

theorem u8_lt {a b : UInt8} : a < b ↔ a.toNat < b.toNat := UInt8.lt_iff_toNat_lt
theorem bl_irrefl : ∀ a : List UInt8, Op.bytesLess a a = false
  | [] => rfl
  | a :: x => by
    simp only [Op.bytesLess, bl_irrefl x, Bool.and_false, Bool.or_false]
    exact decide_eq_false (by rw [u8_lt]; omega)
theorem bl_cons {a b : UInt8} {x y : List UInt8} : Op.bytesLess (a :: x) (b :: y) = true ↔ a.toNat < b.toNat ∨ (a = b ∧ Op.bytesLess x y = true) := by
  simp only [Op.bytesLess, Bool.or_eq_true, Bool.and_eq_true, decide_eq_true_eq, beq_iff_eq, u8_lt]
theorem bl_trans : ∀ {a b c : List UInt8}, Op.bytesLess a b = true → Op.bytesLess b c = true → Op.bytesLess a c = true
  | _, [], _, h, _ => by simp [Op.bytesLess] at h
  | _, _ :: _, [], _, h => by simp [Op.bytesLess] at h
  | [], _ :: _, _ :: _, _, _ => rfl
  | a :: x, b :: y, c :: z, h, h' => by
    rw [bl_cons] at h h' ⊢
    rcases h with h | ⟨rfl, h⟩
    · rcases h' with h' | ⟨rfl, h'⟩
      · exact .inl (by omega)
      · exact .inl h
    · rcases h' with h' | ⟨rfl, h'⟩
      · exact .inl h'
      · exact .inr ⟨rfl, bl_trans h h'⟩
theorem bl_tri : ∀ {a b : List UInt8}, Op.bytesLess a b = false → Op.bytesLess b a = false → a = b
  | [], [], _, _ => rfl
  | [], _ :: _, h, _ => by simp [Op.bytesLess] at h
  | _ :: _, [], _, h => by simp [Op.bytesLess] at h
  | a :: x, b :: y, h, h' => by
    have h1 : ¬ (a.toNat < b.toNat ∨ (a = b ∧ Op.bytesLess x y = true)) := fun k => by rw [bl_cons.2 k] at h; cases h
    have h2 : ¬ (b.toNat < a.toNat ∨ (b = a ∧ Op.bytesLess y x = true)) := fun k => by rw [bl_cons.2 k] at h'; cases h'
    have e : a = b := UInt8.toNat_inj.1 (by omega)
    subst e
    have e1 : Op.bytesLess x y = false := Bool.eq_false_iff.2 fun k => h1 (.inr ⟨rfl, k⟩)
    have e2 : Op.bytesLess y x = false := Bool.eq_false_iff.2 fun k => h2 (.inr ⟨rfl, k⟩)
    rw [bl_tri e1 e2]
def cmpI (a b : Int) : Int := if a < b then -1 else if b < a then 1 else 0
def cmpS (a b : List UInt8) : Int := if Op.bytesLess a b then -1 else if Op.bytesLess b a then 1 else 0
theorem isnanI_prog (a : Int) : CallsR Tryz.prog ncmp_isNaN_int [.int .i64 a] [] fun v => v = .bool false := by
  refine scmp_isNaN_int fun H hh => ?_
  dsimp only [ccmp_isNaN_int]
  refine walk (k := ?_)
  repeat' first | refine And.intro ?_ ?_ | intro
  all_goals refine leaf ?_
  exact doneR (by show V.bool _ = _; simp)
theorem isnanS_prog (a : List UInt8) : CallsR Tryz.prog ncmp_isNaN_string [.str a] [] fun v => v = .bool false := by
  refine scmp_isNaN_string fun H hh => ?_
  dsimp only [ccmp_isNaN_string]
  refine walk (k := ?_)
  repeat' first | refine And.intro ?_ ?_ | intro
  all_goals refine leaf ?_
  exact doneR (by show V.bool _ = _; simp)
theorem cmpI_prog (a b : Int) : CallsR Tryz.prog ncmp_Compare_int [.int .i64 a, .int .i64 b] [] fun v => v = .int .i64 (cmpI a b) := by
  refine scmp_Compare_int fun H hh => ?_
  dsimp only [ccmp_Compare_int]
  refine walk (k := ?_)
  repeat' first | refine And.intro ?_ ?_ | intro
  all_goals refine leaf ?_
  refine callE (isnanI_prog a) ?_
  refine walk (k := ?_)
  repeat' first | refine And.intro ?_ ?_ | intro
  all_goals refine leaf ?_
  refine callE (isnanI_prog b) ?_
  refine walk (k := ?_)
  repeat' first | refine And.intro ?_ ?_ | intro
  all_goals refine leaf ?_
  · exact doneR (by rw [cmpI, if_pos ‹_›])
  · exact doneR (by rw [cmpI, if_neg ‹_›, if_pos ‹_›])
  · exact doneR (by rw [cmpI, if_neg ‹_›, if_neg ‹_›])
theorem cmpS_prog (a b : List UInt8) : CallsR Tryz.prog ncmp_Compare_string [.str a, .str b] [] fun v => v = .int .i64 (cmpS a b) := by
  refine scmp_Compare_string fun H hh => ?_
  dsimp only [ccmp_Compare_string]
  refine walk (k := ?_)
  repeat' first | refine And.intro ?_ ?_ | intro
  all_goals refine leaf ?_
  refine callE (isnanS_prog a) ?_
  refine walk (k := ?_)
  repeat' first | refine And.intro ?_ ?_ | intro
  all_goals refine leaf ?_
  refine callE (isnanS_prog b) ?_
  refine walk (k := ?_)
  repeat' first | refine And.intro ?_ ?_ | intro
  all_goals refine leaf ?_
  · rename_i h
    exact doneR (by rw [cmpS, if_pos (show Op.bytesLess a b = true from h)])
  · rename_i h h'
    replace h : Op.bytesLess a b = false := h
    replace h' : (!(Op.bytesLess a b || a == b)) = true := h'
    refine doneR ?_
    rw [h] at h'
    simp at h'
    rw [cmpS, h, if_neg (by simp), if_pos]
    cases hb : Op.bytesLess b a with
    | true => rfl
    | false => exact absurd (bl_tri h hb) h'
  · rename_i h h'
    replace h : Op.bytesLess a b = false := h
    replace h' : (!(Op.bytesLess a b || a == b)) = false := h'
    refine doneR ?_
    rw [h] at h'
    simp at h'
    subst h'
    rw [cmpS, h]; rfl

def orI : List Int → Int
  | [] => 0
  | x :: xs => if x ≠ 0 then x else orI xs
def intC (n : Int) : List V := [.int .i64 n]
theorem or_prog (t : Nat) (b : Bool) (l : List Int) (hl : l.length ≤ 1000) : CallsR Tryz.prog ncmp_Or_int [.slice t 0 l.length 1] [(t, .cells b (l.flatMap intC))] fun v => v = .int .i64 (orI l) := by
  refine scmp_Or_int fun H hh => ?_
  dsimp only [ccmp_Or_int]
  refine walk (k := ?_)
  repeat' first | refine And.intro ?_ ?_ | intro
  all_goals refine leaf ?_
  refine loopN [3, 6, 7, 8] l.length (fun i vs L => orI l = orI (l.drop i) ∧ vs = [.int .i64 0, .slice t 0 l.length 1, .int .i64 l.length, .int .i64 i] ∧ L = [(t, .cells b (l.flatMap intC))]) (Nx.here ⟨rfl, rfl, rfl⟩) ?_
  clear hh
  rintro i _ _ e H hi ⟨ho, rfl, rfl⟩ hh
  simp only [puts]
  refine walk (k := ?_)
  repeat' first | refine And.intro ?_ ?_ | intro
  all_goals refine leaf ?_
  · rename_i hc hne
    refine doneR ?_
    rw [ho, drop_getD (by omega), orI, if_pos hne]
  · rename_i hc hne
    rw [drop_getD (by omega), orI, if_neg (by simpa using hne)] at ho
    exact Nx.next (by omega) ⟨ho, rfl, rfl⟩
  · rename_i hc
    refine doneR ?_
    rw [ho, List.drop_of_length_le (by omega)]; rfl

abbrev Nm := Int × List UInt8
def nmC (n : Nm) : List V := [.int .i64 n.1, .str n.2]
def ahd (a b : Nm) : Bool := decide (a.1 < b.1) || (a.1 == b.1 && Op.bytesLess a.2 b.2)
def ordN (a b : Nm) : Int := orI [cmpI a.1 b.1, cmpS a.2 b.2]
theorem ahd_iff {a b : Nm} : ahd a b = true ↔ a.1 < b.1 ∨ (a.1 = b.1 ∧ Op.bytesLess a.2 b.2 = true) := by
  simp only [ahd, Bool.or_eq_true, Bool.and_eq_true, decide_eq_true_eq, beq_iff_eq]
theorem ahd_irrefl (a : Nm) : ahd a a = false := Bool.eq_false_iff.2 fun h => by
  rw [ahd_iff, bl_irrefl] at h
  rcases h with h | ⟨_, h⟩
  · omega
  · cases h
theorem ahd_trans {a b c : Nm} (h : ahd a b = true) (h' : ahd b c = true) : ahd a c = true := by
  rw [ahd_iff] at *
  rcases h with h | ⟨h, h1⟩
  · rcases h' with h' | ⟨h', _⟩ <;> exact .inl (by omega)
  · rcases h' with h' | ⟨h', h2⟩
    · exact .inl (by omega)
    · exact .inr ⟨by omega, bl_trans h1 h2⟩
theorem ahd_tri {a b : Nm} (h : ahd a b = false) (h' : ahd b a = false) : a = b := by
  have h1 : ¬ _ := fun k => Bool.eq_false_iff.1 h (ahd_iff.2 k)
  have h2 : ¬ _ := fun k => Bool.eq_false_iff.1 h' (ahd_iff.2 k)
  have e1 : a.1 = b.1 := by omega
  have e2 : a.2 = b.2 := bl_tri (Bool.eq_false_iff.2 fun k => h1 (.inr ⟨e1, k⟩)) (Bool.eq_false_iff.2 fun k => h2 (.inr ⟨e1.symm, k⟩))
  exact Prod.ext e1 e2
theorem ahd_asymm {a b : Nm} (h : ahd a b = true) : ahd b a = false :=
  Bool.eq_false_iff.2 fun k => by have := ahd_trans h k; rw [ahd_irrefl] at this; cases this
theorem ahd_ne {a b : Nm} (h : ahd a b = true) : a ≠ b := fun e => by rw [e, ahd_irrefl] at h; cases h
theorem ordN_neg (a b : Nm) : ordN a b < 0 ↔ ahd a b = true := by
  rw [ahd_iff]
  unfold ordN orI orI orI cmpI cmpS
  by_cases h3 : a.1 < b.1
  · simp [h3]
  · by_cases h4 : b.1 < a.1
    · simp [h3, h4]; omega
    · have e2 : a.1 = b.1 := by omega
      cases h5 : Op.bytesLess a.2 b.2 with
      | true => simp [e2]
      | false => cases h6 : Op.bytesLess b.2 a.2 <;> simp [e2]
theorem ordN_zero (a b : Nm) : ordN a b = 0 ↔ a = b := by
  constructor
  · intro h
    unfold ordN orI orI orI cmpI cmpS at h
    by_cases h3 : a.1 < b.1
    · simp [h3] at h
    · by_cases h4 : b.1 < a.1
      · simp [h3, h4] at h
      · have e2 : a.1 = b.1 := by omega
        refine Prod.ext e2 ?_
        cases h5 : Op.bytesLess a.2 b.2 with
        | true => simp [e2, h5] at h
        | false =>
          cases h6 : Op.bytesLess b.2 a.2 with
          | true => simp [e2, h5, h6] at h
          | false => exact bl_tri h5 h6
  · rintro rfl
    unfold ordN orI orI orI cmpI cmpS
    simp [bl_irrefl]
end Go.Proofs.YtjgcgepfidcihaaGreatDoor

namespace Go.Proofs.YtjgcgepfidcihaaGreatDoor
open Go Go.CM
set_option maxRecDepth 100000
set_option maxHeartbeats 4000000

def enm (e : Entry) : Nm := (e.tenant, e.key)
theorem rahead_prog (a b : Nm) : CallsR Tryz.prog nref15_Ahead [.int .i64 a.1, .str a.2, .int .i64 b.1, .str b.2] [] fun v => v = .bool (ahd a b) := by
  refine sref15_Ahead fun H hh => ?_
  dsimp only [cref15_Ahead]
  refine walk (k := ?_)
  repeat' first | refine And.intro ?_ ?_ | intro
  all_goals refine leaf ?_
  all_goals refine doneR (congrArg V.bool ?_)
  all_goals rw [eq_comm]
  all_goals simp_all [ahd, strLess]
def plN (l : List Entry) (n : Nm) : Nat := (l.takeWhile fun e => ahd (enm e) n).length
def isN (l : List Entry) (n : Nm) : Bool := decide (plN l n < l.length) && decide (enm (nth l (plN l n)) = n)
theorem plN_le (l : List Entry) (n : Nm) : plN l n ≤ l.length := (List.takeWhile_sublist _).length_le
theorem whileE_at {p : Entry → Bool} : ∀ {l : List Entry} {i : Nat}, i ≤ l.length → (l.take i).all p = true → (i = l.length ∨ p (nth l i) = false) → l.takeWhile p = l.take i
  | [], i, _, _, _ => by simp
  | a :: l, 0, _, _, h => by
    rcases h with h | h
    · simp at h
    · rw [nth_zero] at h; simp [h]
  | a :: l, i + 1, hi, ha, h => by
    rw [List.take_succ_cons, List.all_cons, Bool.and_eq_true] at ha
    have := whileE_at (l := l) (i := i) (by simpa using hi) ha.2 (by rw [nth_succ] at h; simpa using h)
    simp [ha.1, this]
theorem plN_at {l : List Entry} {n : Nm} {i : Nat} (hi : i ≤ l.length) (ha : (l.take i).all (fun e => ahd (enm e) n) = true) (h : i = l.length ∨ ahd (enm (nth l i)) n = false) : plN l n = i := by
  unfold plN
  rw [whileE_at hi ha h, List.length_take, Nat.min_eq_left hi]
theorem allE_step {q : Entry → Bool} {l : List Entry} {i : Nat} (hi : i < l.length) (hall : (l.take i).all q = true) (hq : q (nth l i) = true) : (l.take (i + 1)).all q = true := by
  rw [take_getD hi, List.all_append, hall]; simp [hq]
theorem rplace_prog (s : Nat) (b : Bool) (l : List Entry) (n : Nm) (hl : l.length ≤ 100000) : CallsR Tryz.prog nref15_place [.slice s 0 l.length 14, .int .i64 n.1, .str n.2] [EL s b l] fun v => v = .tup [.int .i64 (plN l n), .bool (isN l n)] := by
  refine sref15_place fun H hh => ?_
  dsimp only [cref15_place]
  refine walk (k := ?_)
  repeat' first | refine And.intro ?_ ?_ | intro
  all_goals refine leaf ?_
  refine loopN [0, 1, 2, 8] l.length (fun i vs L => (l.take i).all (fun e => ahd (enm e) n) = true ∧ vs = [.slice s 0 l.length 14, .int .i64 n.1, .str n.2, .int .i64 i] ∧ L = [EL s b l]) (Nx.here ⟨by simp, rfl, rfl⟩) ?_
  clear hh
  rintro i _ _ e H hi ⟨hall, rfl, rfl⟩ hh
  simp only [puts]
  by_cases hn : i < l.length
  · skip
    refine walk1 (k := ?_)
    repeat' first | refine And.intro ?_ ?_ | intro
    all_goals refine leaf ?_
    refine c_cond_t (by show V.bool _ = _; simp; omega) ?_
    refine walk1 (k := ?_)
    repeat' first | refine And.intro ?_ ?_ | intro
    all_goals refine leaf ?_
    have hra := rahead_prog (enm (nth l i)) n
    cases ha : ahd (enm (nth l i)) n with
    | true =>
      rw [ha] at hra
      refine callE (hra) ?_
      refine walk1 (k := ?_)
      repeat' first | refine And.intro ?_ ?_ | intro
      all_goals refine leaf ?_
      exact Nx.next hn ⟨allE_step hn hall ha, rfl, rfl⟩
    | false =>
      rw [ha] at hra
      have hp := plN_at (n := n) hi hall (.inr ha)
      have hb : isN l n = decide (enm (nth l i) = n) := by rw [isN, hp, decide_eq_true hn, Bool.true_and]
      refine callE (hra) ?_
      refine walk1 (k := ?_)
      repeat' first | refine And.intro ?_ ?_ | intro
      all_goals refine leaf ?_
      by_cases ht : (nth l i).tenant = n.1
      · refine wps_slot (s := 37) (v := .bool true) (by show V.bool _ = _; simp [ht]) ?_
        refine walk1 (k := ?_)
        repeat' first | refine And.intro ?_ ?_ | intro
        all_goals refine leaf ?_
        refine doneR ?_
        rw [hp, hb]
        rw [show decide (enm (nth l i) = n) = ((nth l i).key == n.2) from by rw [Bool.eq_iff_iff, decide_eq_true_iff, beq_iff_eq]; exact ⟨fun h => congrArg Prod.snd h, fun h => Prod.ext ht h⟩]
      · refine wps_slot (s := 37) (v := .bool false) (by show V.bool _ = _; simp [ht]) ?_
        refine walk1 (k := ?_)
        repeat' first | refine And.intro ?_ ?_ | intro
        all_goals refine leaf ?_
        refine doneR ?_
        rw [hp, hb, decide_eq_false (fun h => ht (congrArg Prod.fst h))]
  · skip
    refine walk1 (k := ?_)
    repeat' first | refine And.intro ?_ ?_ | intro
    all_goals refine leaf ?_
    refine c_cond_f (by show V.bool _ = _; simp; omega) ?_
    refine walk1 (k := ?_)
    repeat' first | refine And.intro ?_ ?_ | intro
    all_goals refine leaf ?_
    have hil : i = l.length := by omega
    have hp := plN_at (n := n) hi hall (.inl hil)
    refine doneR ?_
    rw [isN, hp, hil, decide_eq_false (by omega), Bool.false_and]
def putL (l : List Entry) (e : Entry) : List Entry := l.take (plN l (enm e)) ++ e :: l.drop (if isN l (enm e) then plN l (enm e) + 1 else plN l (enm e))
def dropL (l : List Entry) (n : Nm) : List Entry := l.take (plN l n) ++ l.drop (if isN l n then plN l n + 1 else plN l n)
theorem isN_lt {l : List Entry} {n : Nm} (h : isN l n = true) : plN l n < l.length := by
  simp only [isN, Bool.and_eq_true, decide_eq_true_eq] at h; exact h.1
theorem putL_le (l : List Entry) (e : Entry) : (putL l e).length ≤ l.length + 1 := by
  have := plN_le l (enm e)
  unfold putL
  rw [List.length_append, List.length_take, List.length_cons, List.length_drop]
  split <;> omega
theorem rput_prog (s : Nat) (b : Bool) (l : List Entry) (x : Entry) (hl : l.length ≤ 100000) : CallsN Tryz.prog nref15_Put [.slice s 0 l.length 14, .agg x.enc] [EL s b l] fun v Lo => ∃ o, v = .slice o 0 (putL l x).length 14 ∧ Lo = [EL o true (putL l x)] := by
  have hpl := rplace_prog s b l (enm x) hl
  have hle := plN_le l (enm x)
  refine sref15_Put fun H hh => ?_
  dsimp only [cref15_Put]
  refine walk (k := ?_)
  repeat' first | refine And.intro ?_ ?_ | intro
  all_goals refine leaf ?_
  refine callE (hpl) ?_
  refine walk1 (k := ?_)
  repeat' first | refine And.intro ?_ ?_ | intro
  all_goals refine leaf ?_
  rename_i xid _ _ lid _ hh
  refine wps_apppart hh l (l := []) (enc := Entry.enc) (m := 13) (n := plN l (enm x)) (i := 0) (L' := fun o3 => [EL o3 true ([] ++ (l.drop 0).take (plN l (enm x))), (xid, .cells true x.enc), EL s b l]) rfl rfl (.there (.there .here)) (fun _ => rfl) (by omega) (fun o3 => .here1) (by simp; omega) fun o3 _ hh => ?_
  rw [List.nil_append, List.drop_zero] at hh ⊢
  have htk : (l.take (plN l (enm x))).length = plN l (enm x) := by simp; omega
  refine walk1 (k := ?_)
  repeat' first | refine And.intro ?_ ?_ | intro
  all_goals refine leaf ?_
  rename_i t2 o4 _ hh
  cases hb : isN l (enm x) with
  | true =>
    have hlt := isN_lt hb
    refine walk1 (k := ?_)
    repeat' first | refine And.intro ?_ ?_ | intro
    all_goals refine leaf ?_
    refine wps_apppart hh l (l := l.take (plN l (enm x)) ++ [x]) (enc := Entry.enc) (m := 13) (n := l.length - (plN l (enm x) + 1)) (i := plN l (enm x) + 1) (L' := fun o5 => [EL o5 true (l.take (plN l (enm x)) ++ [x] ++ (l.drop (plN l (enm x) + 1)).take (l.length - (plN l (enm x) + 1))), (xid, .cells true x.enc), EL s b l]) rfl rfl (.there (.there .here)) (fun _ => rfl) (by omega) (fun o5 => .here1) (by simp; omega) fun o5 _ hh => ?_
    rw [show l.take (plN l (enm x)) ++ [x] ++ (l.drop (plN l (enm x) + 1)).take (l.length - (plN l (enm x) + 1)) = putL l x by rw [putL, if_pos hb, List.take_of_length_le (l := l.drop (plN l (enm x) + 1)) (by simp), List.append_assoc]; rfl] at hh ⊢
    refine walk (k := ?_)
    repeat' first | refine And.intro ?_ ?_ | intro
    all_goals refine leaf ?_
    exact doneN ⟨o5, rfl, rfl⟩
  | false =>
    refine walk1 (k := ?_)
    repeat' first | refine And.intro ?_ ?_ | intro
    all_goals refine leaf ?_
    refine wps_apppart hh l (l := l.take (plN l (enm x)) ++ [x]) (enc := Entry.enc) (m := 13) (n := l.length - plN l (enm x)) (i := plN l (enm x)) (L' := fun o5 => [EL o5 true (l.take (plN l (enm x)) ++ [x] ++ (l.drop (plN l (enm x))).take (l.length - plN l (enm x))), (xid, .cells true x.enc), EL s b l]) rfl rfl (.there (.there .here)) (fun _ => rfl) (by omega) (fun o5 => .here1) (by simp; omega) fun o5 _ hh => ?_
    rw [show l.take (plN l (enm x)) ++ [x] ++ (l.drop (plN l (enm x))).take (l.length - plN l (enm x)) = putL l x by rw [putL, if_neg (by rw [hb]; simp), List.take_of_length_le (l := l.drop (plN l (enm x))) (by simp), List.append_assoc]; rfl] at hh ⊢
    refine walk (k := ?_)
    repeat' first | refine And.intro ?_ ?_ | intro
    all_goals refine leaf ?_
    exact doneN ⟨o5, rfl, rfl⟩
theorem rdrop_prog (s : Nat) (b : Bool) (l : List Entry) (n : Nm) (hl : l.length ≤ 100000) : CallsN Tryz.prog nref15_Drop [.slice s 0 l.length 14, .int .i64 n.1, .str n.2] [EL s b l] fun v Lo => ∃ o, v = .slice o 0 (dropL l n).length 14 ∧ Lo = [EL o true (dropL l n)] := by
  have hpl := rplace_prog s b l n hl
  have hle := plN_le l n
  refine sref15_Drop fun H hh => ?_
  dsimp only [cref15_Drop]
  refine walk (k := ?_)
  repeat' first | refine And.intro ?_ ?_ | intro
  all_goals refine leaf ?_
  refine callE (hpl) ?_
  refine walk1 (k := ?_)
  repeat' first | refine And.intro ?_ ?_ | intro
  all_goals refine leaf ?_
  rename_i lid _ hh
  refine wps_apppart hh l (l := []) (enc := Entry.enc) (m := 13) (n := plN l n) (i := 0) (L' := fun o3 => [EL o3 true ([] ++ (l.drop 0).take (plN l n)), EL s b l]) rfl rfl (.there .here) (fun _ => rfl) (by omega) (fun o3 => .here1) (by simp; omega) fun o3 _ hh => ?_
  rw [List.nil_append, List.drop_zero] at hh ⊢
  have htk : (l.take (plN l n)).length = plN l n := by simp; omega
  cases hb : isN l n with
  | true =>
    have hlt := isN_lt hb
    refine walk1 (k := ?_)
    repeat' first | refine And.intro ?_ ?_ | intro
    all_goals refine leaf ?_
    refine wps_apppart hh l (l := l.take (plN l n)) (enc := Entry.enc) (m := 13) (n := l.length - (plN l n + 1)) (i := plN l n + 1) (L' := fun o5 => [EL o5 true (l.take (plN l n) ++ (l.drop (plN l n + 1)).take (l.length - (plN l n + 1))), EL s b l]) rfl rfl (.there .here) (fun _ => rfl) (by omega) (fun o5 => .here1) (by simp; omega) fun o5 _ hh => ?_
    rw [show l.take (plN l n) ++ (l.drop (plN l n + 1)).take (l.length - (plN l n + 1)) = dropL l n by rw [dropL, if_pos hb, List.take_of_length_le (l := l.drop (plN l n + 1)) (by simp)]] at hh ⊢
    refine walk (k := ?_)
    repeat' first | refine And.intro ?_ ?_ | intro
    all_goals refine leaf ?_
    exact doneN ⟨o5, rfl, rfl⟩
  | false =>
    refine walk1 (k := ?_)
    repeat' first | refine And.intro ?_ ?_ | intro
    all_goals refine leaf ?_
    refine wps_apppart hh l (l := l.take (plN l n)) (enc := Entry.enc) (m := 13) (n := l.length - plN l n) (i := plN l n) (L' := fun o5 => [EL o5 true (l.take (plN l n) ++ (l.drop (plN l n)).take (l.length - plN l n)), EL s b l]) rfl rfl (.there .here) (fun _ => rfl) (by omega) (fun o5 => .here1) (by simp; omega) fun o5 _ hh => ?_
    rw [show l.take (plN l n) ++ (l.drop (plN l n)).take (l.length - plN l n) = dropL l n by rw [dropL, if_neg (by rw [hb]; simp), List.take_of_length_le (l := l.drop (plN l n)) (by simp)]] at hh ⊢
    refine walk (k := ?_)
    repeat' first | refine And.intro ?_ ?_ | intro
    all_goals refine leaf ?_
    exact doneN ⟨o5, rfl, rfl⟩
theorem rsameE_prog (x w : Nat) (a b : Bool) (l r : List Entry) (hl : l.length ≤ 100000) : CallsR Tryz.prog nref15_Same [.slice x 0 l.length 14, .slice w 0 r.length 14] [EL x a l, EL w b r] fun v => v = .bool (decide (l = r)) := by
  refine sref15_Same fun H hh => ?_
  dsimp only [cref15_Same]
  refine walk (k := ?_)
  repeat' first | refine And.intro ?_ ?_ | intro
  all_goals refine leaf ?_
  · rename_i h
    refine doneR (congrArg V.bool ?_)
    rw [eq_comm, decide_eq_false_iff_not]
    rintro rfl
    exact h rfl
  rename_i h
  have hlm : l.length = r.length := by omega
  clear h
  refine loopN [0, 1, 5] l.length (fun i vs L => l.take i = r.take i ∧ vs = [.slice x 0 l.length 14, .slice w 0 r.length 14, .int .i64 i] ∧ L = [EL x a l, EL w b r]) (Nx.here ⟨by simp, rfl, rfl⟩) ?_
  clear hh
  rintro i _ _ e H hi ⟨hall, rfl, rfl⟩ hh
  simp only [puts]
  by_cases hn : i < l.length
  · skip
    refine walk1 (k := ?_)
    repeat' first | refine And.intro ?_ ?_ | intro
    all_goals refine leaf ?_
    refine c_cond_t (by show V.bool _ = _; simp; omega) ?_
    refine walk1 (k := ?_)
    repeat' first | refine And.intro ?_ ?_ | intro
    all_goals refine leaf ?_
    have t1 := take_getD hn
    have t2 := take_getD (l := r) (i := i) (by omega)
    by_cases heq : nth l i = nth r i
    · refine c_cond_f (by show V.bool (!entB (nth l i) (nth r i)) = _; rw [entB_eq, decide_eq_true heq]; rfl) ?_
      refine walk1 (k := ?_)
      repeat' first | refine And.intro ?_ ?_ | intro
      all_goals refine leaf ?_
      exact Nx.next hn ⟨by rw [t1, t2, hall, heq], rfl, rfl⟩
    · refine c_cond_t (by show V.bool (!entB (nth l i) (nth r i)) = _; rw [entB_eq, decide_eq_false heq]; rfl) ?_
      refine walk1 (k := ?_)
      repeat' first | refine And.intro ?_ ?_ | intro
      all_goals refine leaf ?_
      refine doneR (congrArg V.bool ?_)
      rw [eq_comm, decide_eq_false_iff_not]
      rintro rfl
      exact heq rfl
  · skip
    refine walk1 (k := ?_)
    repeat' first | refine And.intro ?_ ?_ | intro
    all_goals refine leaf ?_
    refine c_cond_f (by show V.bool _ = _; simp; omega) ?_
    refine walk1 (k := ?_)
    repeat' first | refine And.intro ?_ ?_ | intro
    all_goals refine leaf ?_
    have : i = l.length := by omega
    subst this
    refine doneR (congrArg V.bool ?_)
    rw [eq_comm, decide_eq_true_iff]
    rw [List.take_length, hlm, List.take_length] at hall
    exact hall
end Go.Proofs.YtjgcgepfidcihaaGreatDoor

namespace Go.Proofs.YtjgcgepfidcihaaGreatDoor
open Go Go.CM
set_option maxRecDepth 100000
set_option maxHeartbeats 4000000

def Srt (l : List Entry) : Prop := l.Pairwise fun a b => ahd (enm a) (enm b) = true
theorem Srt.nil : Srt [] := List.Pairwise.nil
theorem Srt.at {l : List Entry} (h : Srt l) (n : Nm) : ∃ A B, (∀ a ∈ A, ahd (enm a) n = true) ∧ (∀ b ∈ B, ahd n (enm b) = true) ∧ plN l n = A.length ∧ ((l = A ++ B ∧ isN l n = false) ∨ ∃ x, enm x = n ∧ l = A ++ x :: B ∧ isN l n = true) := by
  induction l with
  | nil => exact ⟨[], [], by simp, by simp, rfl, .inl ⟨rfl, rfl⟩⟩
  | cons y l ih =>
    have hy := (List.pairwise_cons.1 h).1
    have hl := (List.pairwise_cons.1 h).2
    cases ha : ahd (enm y) n with
    | true =>
      obtain ⟨A, B, h1, h2, h3, h4⟩ := ih hl
      have hp : plN (y :: l) n = plN l n + 1 := by unfold plN; rw [List.takeWhile_cons_of_pos (by exact ha)]; rfl
      have hb : isN (y :: l) n = isN l n := by
        unfold isN
        rw [hp, nth_succ]
        congr 1
        rw [List.length_cons]; simp
      refine ⟨y :: A, B, ?_, h2, by rw [hp, h3]; rfl, ?_⟩
      · intro a h; rcases List.mem_cons.1 h with rfl | h
        · exact ha
        · exact h1 a h
      · rw [hb]
        rcases h4 with ⟨e, k⟩ | ⟨x, e1, e2, k⟩
        · exact .inl ⟨by rw [e]; rfl, k⟩
        · exact .inr ⟨x, e1, by rw [e2]; rfl, k⟩
    | false =>
      have hp : plN (y :: l) n = 0 := by unfold plN; rw [List.takeWhile_cons_of_neg (by rw [ha]; simp)]; rfl
      have hb : isN (y :: l) n = decide (enm y = n) := by unfold isN; rw [hp, nth_zero]; simp
      by_cases he : enm y = n
      · exact ⟨[], l, by simp, fun b h => by rw [← he]; exact hy b h, hp, .inr ⟨y, he, rfl, by rw [hb]; exact decide_eq_true he⟩⟩
      · have hn : ahd n (enm y) = true := by
          cases h : ahd n (enm y) with
          | true => rfl
          | false => exact absurd (ahd_tri ha h) he
        refine ⟨[], y :: l, by simp, ?_, hp, .inl ⟨rfl, by rw [hb]; exact decide_eq_false he⟩⟩
        intro b h; rcases List.mem_cons.1 h with rfl | h
        · exact hn
        · exact ahd_trans hn (hy b h)
def getL (l : List Entry) (n : Nm) : Option Entry := l.find? fun e => decide (enm e = n)
theorem getL_mem {l : List Entry} {n : Nm} {e : Entry} (h : getL l n = some e) : e ∈ l := List.mem_of_find?_eq_some h
theorem getL_none {l : List Entry} {n : Nm} : getL l n = none ↔ ∀ e ∈ l, enm e ≠ n := by simp [getL]
theorem getL_app {A B : List Entry} {n : Nm} (h : ∀ a ∈ A, enm a ≠ n) : getL (A ++ B) n = getL B n := by
  unfold getL
  rw [List.find?_append, List.find?_eq_none.2 (by simpa using h)]; rfl
theorem getL_cons (e : Entry) (l : List Entry) (n : Nm) : getL (e :: l) n = if enm e = n then some e else getL l n := by
  unfold getL
  by_cases h : enm e = n <;> simp [h]
theorem Srt.getL_pl {l : List Entry} (h : Srt l) (n : Nm) : getL l n = if isN l n then some (nth l (plN l n)) else none := by
  obtain ⟨A, B, h1, h2, h3, ⟨rfl, k⟩ | ⟨x, e, rfl, k⟩⟩ := h.at n
  · rw [k, if_neg (by simp)]
    rw [getL_none]
    intro e he
    rcases List.mem_append.1 he with he | he
    · exact ahd_ne (h1 e he)
    · exact (ahd_ne (h2 e he)).symm
  · rw [k, if_pos rfl, h3, getL_app fun a ha => ahd_ne (h1 a ha), getL_cons, if_pos e]
    rw [nth_eq, List.getD_eq_getElem?_getD, List.getElem?_append_right (Nat.le_refl _)]
    simp
theorem Srt.app {A B : List Entry} : Srt (A ++ B) ↔ Srt A ∧ Srt B ∧ ∀ a ∈ A, ∀ b ∈ B, ahd (enm a) (enm b) = true := List.pairwise_append
theorem Srt.cons {x : Entry} {B : List Entry} : Srt (x :: B) ↔ (∀ b ∈ B, ahd (enm x) (enm b) = true) ∧ Srt B := List.pairwise_cons
theorem putL_at {l : List Entry} (h : Srt l) (e : Entry) : ∃ A B, (∀ a ∈ A, ahd (enm a) (enm e) = true) ∧ (∀ b ∈ B, ahd (enm e) (enm b) = true) ∧ putL l e = A ++ e :: B ∧ ((l = A ++ B) ∨ ∃ x, enm x = enm e ∧ l = A ++ x :: B) := by
  obtain ⟨A, B, h1, h2, h3, ⟨rfl, k⟩ | ⟨x, e', rfl, k⟩⟩ := h.at (enm e)
  · refine ⟨A, B, h1, h2, ?_, .inl rfl⟩
    rw [putL, k, if_neg (by simp), h3, List.take_left', List.drop_left'] <;> rfl
  · refine ⟨A, B, h1, h2, ?_, .inr ⟨x, e', rfl⟩⟩
    rw [putL, k, if_pos rfl, h3, List.take_left' rfl, show A ++ x :: B = (A ++ [x]) ++ B by simp, List.drop_left' (by simp)]
theorem dropL_at {l : List Entry} (h : Srt l) (n : Nm) : ∃ A B, (∀ a ∈ A, ahd (enm a) n = true) ∧ (∀ b ∈ B, ahd n (enm b) = true) ∧ dropL l n = A ++ B ∧ ((l = A ++ B) ∨ ∃ x, enm x = n ∧ l = A ++ x :: B) := by
  obtain ⟨A, B, h1, h2, h3, ⟨rfl, k⟩ | ⟨x, e', rfl, k⟩⟩ := h.at n
  · refine ⟨A, B, h1, h2, ?_, .inl rfl⟩
    rw [dropL, k, if_neg (by simp), h3, List.take_left', List.drop_left'] <;> rfl
  · refine ⟨A, B, h1, h2, ?_, .inr ⟨x, e', rfl⟩⟩
    rw [dropL, k, if_pos rfl, h3, List.take_left' rfl, show A ++ x :: B = (A ++ [x]) ++ B by simp, List.drop_left' (by simp)]
theorem Srt.ends {l A B : List Entry} (h : Srt l) (hl : l = A ++ B ∨ ∃ x, l = A ++ x :: B) : Srt A ∧ Srt B := by
  rcases hl with rfl | ⟨x, rfl⟩
  · exact ⟨(Srt.app.1 h).1, (Srt.app.1 h).2.1⟩
  · exact ⟨(Srt.app.1 h).1, (Srt.cons.1 (Srt.app.1 h).2.1).2⟩
theorem Srt.put {l : List Entry} (h : Srt l) (e : Entry) : Srt (putL l e) := by
  obtain ⟨A, B, h1, h2, h3, h4⟩ := putL_at h e
  have hAB := h.ends (h4.imp id fun ⟨x, _, k⟩ => ⟨x, k⟩)
  rw [h3]
  refine Srt.app.2 ⟨hAB.1, Srt.cons.2 ⟨h2, hAB.2⟩, fun a ha b hb => ?_⟩
  rcases List.mem_cons.1 hb with rfl | hb
  · exact h1 a ha
  · exact ahd_trans (h1 a ha) (h2 b hb)
theorem Srt.drp {l : List Entry} (h : Srt l) (n : Nm) : Srt (dropL l n) := by
  obtain ⟨A, B, h1, h2, h3, h4⟩ := dropL_at h n
  have hAB := h.ends (h4.imp id fun ⟨x, _, k⟩ => ⟨x, k⟩)
  rw [h3]
  exact Srt.app.2 ⟨hAB.1, hAB.2, fun a ha b hb => ahd_trans (h1 a ha) (h2 b hb)⟩
theorem Srt.mem_get {l : List Entry} (h : Srt l) {e : Entry} (he : e ∈ l) : getL l (enm e) = some e := by
  obtain ⟨A, B, rfl⟩ := List.append_of_mem he
  rw [getL_app fun a ha => ahd_ne ((Srt.app.1 h).2.2 a ha e (by simp)), getL_cons, if_pos rfl]
theorem Srt.ext : ∀ {l r : List Entry}, Srt l → Srt r → (∀ n, getL l n = getL r n) → l = r
  | [], [], _, _, _ => rfl
  | [], b :: r, _, _, h => by have := h (enm b); rw [getL_cons, if_pos rfl] at this; cases this
  | a :: l, [], _, _, h => by have := h (enm a); rw [getL_cons, if_pos rfl] at this; cases this
  | a :: l, b :: r, ha, hb, h => by
    have ha' := Srt.cons.1 ha
    have hb' := Srt.cons.1 hb
    have key : ∀ {a b : Entry} {l r : List Entry}, (∀ x ∈ l, ahd (enm a) (enm x) = true) → (∀ n, getL (a :: l) n = getL (b :: r) n) → ahd (enm b) (enm a) = false := by
      intro a b l r hl h
      refine Bool.eq_false_iff.2 fun hc => ?_
      have e := h (enm b)
      rw [getL_cons b, if_pos rfl, getL_cons, if_neg (ahd_ne hc).symm] at e
      have := hl b (getL_mem e)
      rw [ahd_asymm this] at hc; cases hc
    have hn : enm a = enm b := ahd_tri (key hb'.1 fun n => (h n).symm) (key ha'.1 h)
    have hab : a = b := by
      have e := h (enm a)
      rw [getL_cons, if_pos rfl, getL_cons, if_pos hn.symm] at e
      exact Option.some.inj e
    subst hab
    congr 1
    refine Srt.ext ha'.2 hb'.2 fun n => ?_
    by_cases he : enm a = n
    · rw [getL_none.2 fun x hx => he ▸ (ahd_ne (ha'.1 x hx)).symm, getL_none.2 fun x hx => he ▸ (ahd_ne (hb'.1 x hx)).symm]
    · have e := h n
      rwa [getL_cons, if_neg he, getL_cons, if_neg he] at e
def putsL (l : List Entry) (es : List Entry) : List Entry := es.foldl putL l
theorem putsL_srt : ∀ {es l : List Entry}, Srt l → Srt (putsL l es)
  | [], _, h => h
  | e :: es, _, h => putsL_srt (es := es) (h.put e)
theorem putsL_le : ∀ (es l : List Entry), (putsL l es).length ≤ l.length + es.length
  | [], _ => Nat.le_refl _
  | e :: es, l => by
    have h1 := putsL_le es (putL l e)
    have h2 := putL_le l e
    show (putsL (putL l e) es).length ≤ _
    rw [List.length_cons]; omega
abbrev srtL (es : List Entry) : List Entry := putsL [] es
end Go.Proofs.YtjgcgepfidcihaaGreatDoor
