/-
  The disk: what its files and its waits have.
-/
import Derived.Test.YtkfhgpegnnokgaaGreatDoorDskP
import Derived.Test.YtkfhgpegnnokgaaGreatDoorCmG
namespace Go.Proofs.YtkfhgpegnnokgaaGreatDoor
open Go Go.CM
set_option maxRecDepth 100000
set_option maxHeartbeats 4000000

def wtC (w : Tx × Tx) : List V := [.str w.1, .str w.2]
def srV (x : Tx × Tx) : Tx × V := (x.1, .str x.2)
abbrev kS : KT := (false, [.s])
theorem find_tx {α : Type} (f : α → Tx × V) (key : α → Tx) (hk : ∀ x, (f x).1 = key x) (s : Tx) : ∀ l : List α, findI kS (.str s) ((l.map f).map nvE) = some (l.findIdx? fun x => s == key x)
  | [] => rfl
  | x :: l => by
    have ih := find_tx f key hk s l
    simp only [List.map_cons, findI, List.findIdx?_cons]
    have e : eqKey kS (.str s) (nvE (f x)).1 = some (s == key x) := by
      rw [← hk, ← Bool.and_true (s == _)]; rfl
    rw [e]
    cases h : s == key x with
    | true => rfl
    | false =>
      rw [ih]
      cases l.findIdx? fun x => s == key x <;> rfl
theorem find_sr (s : Tx) (l : List (Tx × Tx)) : findI kS (.str s) ((l.map srV).map nvE) = some (fat s l) := find_tx srV (·.1) (fun _ => rfl) s l
abbrev DO (d m ws n : Nat) (room fuse : Int) (down : Bool) : Ob := (d, .cells true [.map m, .slice ws 0 n 2, .int .i64 room, .int .i64 fuse, .bool down])
abbrev WO (ws : Nat) (l : List (Tx × Tx)) : Ob := (ws, .cells true (l.flatMap wtC))
abbrev MO (m : Nat) (l : List (Tx × Tx)) : Ob := (m, .map ((l.map srV).map nvE))
abbrev DL (d m ws : Nat) (D : Dsk) : List Ob := [DO d m ws D.waits.length D.room D.fuse D.down, MO m D.sure, WO ws D.waits]

theorem ddead_prog (d m ws n : Nat) (room fuse : Int) (down : Bool) (h0 : -1 ≤ fuse) (h1 : fuse ≤ 9223372036854775807) : CallsL Tryz.prog ndisk_Disk_dead [.ptr d 0] [DO d m ws n room fuse down] fun v L' => v = .bool (deadD fuse down) ∧ L' = [DO d m ws n room (deadF fuse) (deadD fuse down)] := by
  unfold deadD deadF
  by_cases hz : fuse = 0
  · subst hz
    rw [if_neg (by decide), show decide ((0 : Int) = 0) = true from rfl, Bool.or_true]
    refine sdisk_Disk_dead fun H hh => ?_
    dsimp only [cdisk_Disk_dead]
    refine walk1 (k := ?_)
    repeat' first | refine And.intro ?_ ?_ | intro
    all_goals refine leaf ?_
    exact done ⟨rfl, rfl⟩
  · rw [decide_eq_false hz, Bool.or_false]
    by_cases hp : 0 < fuse
    · rw [if_pos hp]
      refine sdisk_Disk_dead fun H hh => ?_
      dsimp only [cdisk_Disk_dead]
      refine walk1 (k := ?_)
      repeat' first | refine And.intro ?_ ?_ | intro
      all_goals refine leaf ?_
      refine c_cond_f (by show V.bool _ = _; simpa using hz) ?_
      refine walk1 (k := ?_)
      repeat' first | refine And.intro ?_ ?_ | intro
      all_goals refine leaf ?_
      refine c_cond_t (by show V.bool _ = _; simpa using hp) ?_
      refine walk1 (k := ?_)
      repeat' first | refine And.intro ?_ ?_ | intro
      all_goals refine leaf ?_
      exact done ⟨rfl, rfl⟩
    · rw [if_neg hp]
      refine sdisk_Disk_dead fun H hh => ?_
      dsimp only [cdisk_Disk_dead]
      refine walk1 (k := ?_)
      repeat' first | refine And.intro ?_ ?_ | intro
      all_goals refine leaf ?_
      refine c_cond_f (by show V.bool _ = _; simpa using hz) ?_
      refine walk1 (k := ?_)
      repeat' first | refine And.intro ?_ ?_ | intro
      all_goals refine leaf ?_
      refine c_cond_f (by show V.bool _ = _; simpa using hp) ?_
      refine walk1 (k := ?_)
      repeat' first | refine And.intro ?_ ?_ | intro
      all_goals refine leaf ?_
      exact done ⟨rfl, rfl⟩
def okP (n : Nat) : Prop := (97 ≤ n ∧ n ≤ 122) ∨ (48 ≤ n ∧ n ≤ 57) ∨ n = 46
theorem okB_iff (b : UInt8) : okB b = true ↔ okP b.toNat := by
  simp only [okB, okP, Bool.or_eq_true, Bool.and_eq_true, decide_eq_true_eq, or_assoc]
theorem getD_at0 {l : List UInt8} {i : Nat} (h : i < l.length) : l.getD i 0 = l[i] := by rw [List.getD_eq_getElem?_getD, List.getElem?_eq_getElem h]; rfl
theorem getD_in0 {l : List UInt8} {i : Nat} (h : i < l.length) : l.getD i 0 ∈ l := by rw [getD_at0 h]; exact List.getElem_mem _
theorem take_getD0 {l : List UInt8} {i : Nat} (h : i < l.length) : l.take (i + 1) = l.take i ++ [l.getD i 0] := by rw [getD_at0 h]; simp [List.take_append_getElem]
theorem dright_prog (s : Tx) : CallsR Tryz.prog ndisk_right [.str s] [] fun v => v = .bool (rightN s) := by
  unfold rightN
  refine sdisk_right fun H hh => ?_
  dsimp only [cdisk_right]
  refine walk (k := ?_)
  repeat' first | refine And.intro ?_ ?_ | intro
  all_goals refine leaf ?_
  · subst s; exact doneR rfl
  · refine doneR (congrArg V.bool ?_)
    rw [decide_eq_false (p := s.length ≤ 12) (by omega), Bool.and_false, Bool.false_and]
  · have h12 : s.length ≤ 12 := by omega
    rw [decide_eq_true (by assumption), decide_eq_true h12, Bool.true_and, Bool.true_and]
    refine loopN [0, 13, 14] s.length (fun i vs L => vs = [.str s, .int .i64 s.length, .int .i64 (i : Nat)] ∧ L = [] ∧ (s.take i).all okB = true) (Nx.here ⟨rfl, rfl, rfl⟩) ?_
    clear hh
    rintro i _ _ env H hi ⟨rfl, rfl, hall⟩ hh
    simp only [puts]
    by_cases hn : i < s.length
    · have hst := take_getD0 hn
      have no : ¬ okP (s.getD i 0).toNat → false = s.all okB := fun h => by
        rw [eq_comm, List.all_eq_false]
        exact ⟨_, getD_in0 hn, by rw [okB_iff]; exact h⟩
      have yes : okP (s.getD i 0).toNat → (s.take (i + 1)).all okB = true := fun h => by
        rw [hst, List.all_append, hall, Bool.true_and, List.all_cons, List.all_nil, Bool.and_true, okB_iff]; exact h
      unfold okP at no yes
      refine walk1 (k := ?_)
      repeat' first | refine And.intro ?_ ?_ | intro
      all_goals refine leaf ?_
      refine c_cond_t (by show V.bool _ = _; simp; omega) ?_
      refine walk (k := ?_)
      repeat' first | refine And.intro ?_ ?_ | intro
      all_goals refine leaf ?_
      all_goals first
        | exact doneR (congrArg V.bool (no (by omega)))
        | exact Nx.next hn ⟨rfl, rfl, yes (by omega)⟩
    · skip
      refine walk1 (k := ?_)
      repeat' first | refine And.intro ?_ ?_ | intro
      all_goals refine leaf ?_
      refine c_cond_f (by show V.bool _ = _; simp; omega) ?_
      refine walk1 (k := ?_)
      repeat' first | refine And.intro ?_ ?_ | intro
      all_goals refine leaf ?_
      rw [List.take_of_length_le (by omega)] at hall
      exact doneR (congrArg V.bool hall.symm)
theorem dthere_prog (d m ws n : Nat) (room fuse : Int) (down : Bool) (l : List (Tx × Tx)) (s : Tx) : CallsR Tryz.prog ndisk_Disk_there [.ptr d 0, .str s] [DO d m ws n room fuse down, MO m l] fun v => v = .bool (hasT s l) := by
  unfold hasT
  refine sdisk_Disk_there fun H hh => ?_
  dsimp only [cdisk_Disk_there]
  refine walk1 (k := ?_)
  repeat' first | refine And.intro ?_ ?_ | intro
  all_goals refine leaf ?_
  cases hf : fat s l with
  | none =>
    refine wps_lookN hh rfl (.there .here) (by have := find_sr s l; rw [hf] at this; exact this) ?_
    refine walk1 (k := ?_)
    repeat' first | refine And.intro ?_ ?_ | intro
    all_goals refine leaf ?_
    exact doneR rfl
  | some j =>
    refine wps_lookF hh rfl (.there .here) (by have := find_sr s l; rw [hf] at this; exact this) (e := nvE (srV (nth l j))) (by rw [List.getElem?_map, List.getElem?_map, getD_some (fat_some hf).1]; rfl) ?_
    refine walk1 (k := ?_)
    repeat' first | refine And.intro ?_ ?_ | intro
    all_goals refine leaf ?_
    exact doneR rfl
theorem dwaits_prog (d m ws : Nat) (room fuse : Int) (down : Bool) (l : List (Tx × Tx)) (hl : l.length ≤ 60000) (hs : sumL l ≤ 60000) : CallsR Tryz.prog ndisk_Disk_Waits [.ptr d 0] [DO d m ws l.length room fuse down, WO ws l] fun v => v = .int .i64 (sumL l : Nat) := by
  refine sdisk_Disk_Waits fun H hh => ?_
  dsimp only [cdisk_Disk_Waits]
  refine walk1 (k := ?_)
  repeat' first | refine And.intro ?_ ?_ | intro
  all_goals refine leaf ?_
  refine loopN [3, 11, 12, 13] l.length (fun i vs L => vs = [.int .i64 (sumL (l.take i) : Nat), .slice ws 0 l.length 2, .int .i64 l.length, .int .i64 (i : Nat)] ∧ L = [DO d m ws l.length room fuse down, WO ws l]) (Nx.here ⟨rfl, rfl⟩) ?_
  clear hh
  rintro i _ _ env H hi ⟨rfl, rfl⟩ hh
  simp only [puts]
  have hle := sumL_take l i
  by_cases hn : i < l.length
  · have hst := sumL_snoc (l.take i) (nth l i)
    rw [← take_getD hn] at hst
    have hle2 := sumL_take l (i + 1)
    refine walk1 (k := ?_)
    repeat' first | refine And.intro ?_ ?_ | intro
    all_goals refine leaf ?_
    refine c_cond_t (by show V.bool _ = _; simp; omega) ?_
    refine walk1 (k := ?_)
    repeat' first | refine And.intro ?_ ?_ | intro
    all_goals refine leaf ?_
    exact Nx.next hn ⟨by rw [hst]; rfl, rfl⟩
  · skip
    refine walk1 (k := ?_)
    repeat' first | refine And.intro ?_ ?_ | intro
    all_goals refine leaf ?_
    refine c_cond_f (by show V.bool _ = _; simp; omega) ?_
    refine walk1 (k := ?_)
    repeat' first | refine And.intro ?_ ?_ | intro
    all_goals refine leaf ?_
    rw [List.take_of_length_le (by omega)] at *
    exact doneR rfl
end Go.Proofs.YtkfhgpegnnokgaaGreatDoor
