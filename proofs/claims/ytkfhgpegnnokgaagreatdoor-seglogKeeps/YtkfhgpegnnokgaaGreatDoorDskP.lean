/-
  The disk, in plain words: files that are sure, what waits, the room, the power.
-/
import Derived.Test.YtkfhgpegnnokgaaGreatDoorKeyS
namespace Go.Proofs.YtkfhgpegnnokgaaGreatDoor
open Go Go.CM
set_option maxRecDepth 100000
set_option maxHeartbeats 4000000

structure Dsk where
  sure : List (Tx × Tx)
  waits : List (Tx × Tx)
  room : Int
  fuse : Int
  down : Bool

def sumL (l : List (Tx × Tx)) : Nat := (l.map fun x => x.2.length).sum
def lateL (s : Tx) (ws : List (Tx × Tx)) : Tx := ws.flatMap fun w => if w.1 = s then w.2 else []
def fat {α : Type} (s : Tx) (l : List (Tx × α)) : Option Nat := l.findIdx? fun x => s == x.1
def getT (s : Tx) (l : List (Tx × Tx)) : Tx := match fat s l with | none => [] | some i => (nth l i).2
def hasT {α : Type} (s : Tx) (l : List (Tx × α)) : Bool := (fat s l).isSome
def okB (b : UInt8) : Bool := (decide (97 ≤ b.toNat) && decide (b.toNat ≤ 122)) || (decide (48 ≤ b.toNat) && decide (b.toNat ≤ 57)) || decide (b.toNat = 46)
def rightN (s : Tx) : Bool := decide (s ≠ []) && decide (s.length ≤ 12) && s.all okB
def deadF (f : Int) : Int := if 0 < f then f - 1 else f
def deadD (f : Int) (b : Bool) : Bool := b || decide (f = 0)
def Dsk.dead (D : Dsk) : Dsk := ⟨D.sure, D.waits, D.room, deadF D.fuse, deadD D.fuse D.down⟩
def Dsk.used (D : Dsk) : Nat := sumL D.waits + sumL D.sure
def putD (D : Dsk) (n s : Tx) : Dsk := ⟨if hasT n D.sure then D.sure else D.sure ++ [(n, [])], if s = [] then D.waits else D.waits ++ [(n, s)], D.room, D.fuse, D.down⟩
def Full (D : Dsk) (n s : Tx) : Prop := (hasT n D.sure = false ∧ 16 ≤ D.sure.length) ∨ D.room < D.used + s.length
def butW (n : Tx) (ws : List (Tx × Tx)) : List (Tx × Tx) := ws.filter fun w => decide (w.1 ≠ n)
def dropT {α : Type} (n : Tx) (l : List (Tx × α)) : List (Tx × α) := match fat n l with | none => l | some i => l.eraseIdx i
def remD (D : Dsk) (n : Tx) : Dsk := ⟨dropT n D.sure, butW n D.waits, D.room, D.fuse, D.down⟩

structure DOk (D : Dsk) : Prop where
  used : D.used ≤ 60000
  files : D.sure.length ≤ 16
  nd : (D.sure.map (·.1)).Nodup
  ne : ∀ w ∈ D.waits, w.2 ≠ []
  inn : ∀ w ∈ D.waits, w.1 ∈ D.sure.map (·.1)
  room0 : 0 ≤ D.room
  room1 : D.room ≤ 60000
  fuse0 : -1 ≤ D.fuse
  fuse1 : D.fuse ≤ 9223372036854775807

theorem sumL_nil : sumL [] = 0 := rfl
theorem sumL_cons (x : Tx × Tx) (l : List (Tx × Tx)) : sumL (x :: l) = x.2.length + sumL l := by simp [sumL]
theorem sumL_app (a b : List (Tx × Tx)) : sumL (a ++ b) = sumL a + sumL b := by simp [sumL]
theorem sumL_snoc (a : List (Tx × Tx)) (x : Tx × Tx) : sumL (a ++ [x]) = sumL a + x.2.length := by rw [sumL_app, sumL_cons, sumL_nil, Nat.add_zero]
theorem sumL_sub {a b : List (Tx × Tx)} (h : a.Sublist b) : sumL a ≤ sumL b := by
  induction h with
  | slnil => exact Nat.le_refl _
  | cons x h ih => rw [sumL_cons]; omega
  | cons_cons x h ih => rw [sumL_cons, sumL_cons]; omega
theorem sumL_perm {a b : List (Tx × Tx)} (h : a.Perm b) : sumL a = sumL b := (h.map _).sum_nat
theorem sumL_take (l : List (Tx × Tx)) (i : Nat) : sumL (l.take i) ≤ sumL l := sumL_sub (List.take_sublist i l)
theorem late_app (s : Tx) (a b : List (Tx × Tx)) : lateL s (a ++ b) = lateL s a ++ lateL s b := List.flatMap_append
theorem late_one (s : Tx) (x : Tx × Tx) : lateL s [x] = if x.1 = s then x.2 else [] := by simp [lateL]
theorem late_cons (s : Tx) (x : Tx × Tx) (l : List (Tx × Tx)) : lateL s (x :: l) = (if x.1 = s then x.2 else []) ++ lateL s l := by simp [lateL]
theorem late_le (s : Tx) : ∀ l : List (Tx × Tx), (lateL s l).length ≤ sumL l
  | [] => Nat.le_refl _
  | x :: l => by
    have := late_le s l
    rw [late_cons, sumL_cons, List.length_append]
    split
    · omega
    · simp; omega
theorem waits_le : ∀ {l : List (Tx × Tx)}, (∀ w ∈ l, w.2 ≠ []) → l.length ≤ sumL l
  | [], _ => Nat.le_refl _
  | x :: l, h => by
    have h1 := waits_le (l := l) fun w hw => h w (List.mem_cons_of_mem _ hw)
    have h2 := List.length_pos_iff.2 (h x (List.mem_cons_self ..))
    rw [sumL_cons, List.length_cons]; omega
theorem DOk.wl {D : Dsk} (h : DOk D) : D.waits.length ≤ 60000 := by
  have := waits_le h.ne
  have := h.used
  unfold Dsk.used at this; omega
theorem DOk.ws {D : Dsk} (h : DOk D) : sumL D.waits ≤ 60000 := by
  have := h.used
  unfold Dsk.used at this; omega
theorem DOk.ss {D : Dsk} (h : DOk D) : sumL D.sure ≤ 60000 := by
  have := h.used
  unfold Dsk.used at this; omega

theorem fat_some {α : Type} {s : Tx} {l : List (Tx × α)} {i : Nat} [Inhabited α] (h : fat s l = some i) : i < l.length ∧ (nth l i).1 = s := by
  obtain ⟨hi, hp, _⟩ := List.findIdx?_eq_some_iff_getElem.1 h
  refine ⟨hi, ?_⟩
  rw [nth_getElem hi]
  exact (by simpa using hp : s = _).symm
theorem fat_none {α : Type} {s : Tx} {l : List (Tx × α)} : fat s l = none ↔ s ∉ l.map (·.1) := by
  rw [fat, List.findIdx?_eq_none_iff]
  constructor
  · rintro h hm
    obtain ⟨x, hx, e⟩ := List.mem_map.1 hm
    have := h x hx
    simp [e] at this
  · intro h x hx
    cases hb : s == x.1 with
    | false => rfl
    | true => exact absurd (List.mem_map.2 ⟨x, hx, ((by simpa using hb : s = x.1)).symm⟩) h
theorem hasT_iff {α : Type} {s : Tx} {l : List (Tx × α)} : hasT s l = true ↔ s ∈ l.map (·.1) := by
  unfold hasT
  cases h : fat s l with
  | none => simpa using fat_none.1 h
  | some i =>
    simp only [Option.isSome_some, true_iff]
    refine Classical.byContradiction fun k => ?_
    rw [fat_none.2 k] at h; cases h
theorem hasT_no {α : Type} {s : Tx} {l : List (Tx × α)} : hasT s l = false ↔ s ∉ l.map (·.1) := by
  rw [← hasT_iff]; simp
theorem dropT_sub {α : Type} (n : Tx) (l : List (Tx × α)) : (dropT n l).Sublist l := by
  unfold dropT
  split
  · exact List.Sublist.refl _
  · exact List.eraseIdx_sublist _ _
theorem nodup_but {α : Type} [Inhabited α] {l : List (Tx × α)} {n : Tx} (h : (l.map (·.1)).Nodup) : dropT n l = l.filter fun x => decide (x.1 ≠ n) := by
  induction l with
  | nil => rfl
  | cons x l ih =>
    rw [List.map_cons, List.nodup_cons] at h
    by_cases hx : n = x.1
    · have h1 : fat n (x :: l) = some 0 := by simp [fat, List.findIdx?_cons, hx]
      unfold dropT
      rw [h1, List.filter_cons_of_neg (by simp [hx])]
      show l = _
      rw [List.filter_eq_self.2]
      intro y hy
      exact decide_eq_true fun e => h.1 (by rw [← hx, ← e]; exact List.mem_map_of_mem hy)
    · have hx' : x.1 ≠ n := fun e => hx e.symm
      have ih := ih h.2
      rw [List.filter_cons_of_pos (by simpa using hx'), ← ih]
      have h1 : fat n (x :: l) = (fat n l).map (· + 1) := by simp [fat, List.findIdx?_cons, hx]
      unfold dropT
      rw [h1]
      cases fat n l with
      | none => rfl
      | some i => rfl
theorem DOk.rem {D : Dsk} (h : DOk D) (n : Tx) : DOk (remD D n) := by
  have hs := dropT_sub n D.sure
  have hw : (butW n D.waits).Sublist D.waits := List.filter_sublist
  refine ⟨?_, Nat.le_trans hs.length_le h.files, (hs.map _).nodup h.nd, fun w hw' => h.ne w (hw.subset hw'), fun w hw' => ?_, h.room0, h.room1, h.fuse0, h.fuse1⟩
  · have h1 := sumL_sub hs
    have h2 := sumL_sub hw
    have := h.used
    show sumL (butW n D.waits) + sumL (dropT n D.sure) ≤ _
    unfold Dsk.used at this; omega
  · have hm := h.inn w (hw.subset hw')
    have hn : w.1 ≠ n := by simpa using (List.mem_filter.1 hw').2
    obtain ⟨x, hx, e⟩ := List.mem_map.1 hm
    show w.1 ∈ (dropT n D.sure).map (·.1)
    rw [nodup_but h.nd]
    exact List.mem_map.2 ⟨x, List.mem_filter.2 ⟨hx, by rw [e]; simpa using hn⟩, e⟩
theorem DOk.put {D : Dsk} (h : DOk D) {n s : Tx} (hf : ¬ Full D n s) : DOk (putD D n s) := by
  unfold Full at hf
  have hf1 : ¬ (hasT n D.sure = false ∧ 16 ≤ D.sure.length) := fun k => hf (.inl k)
  have hf2 : ¬ D.room < D.used + s.length := fun k => hf (.inr k)
  have hr := h.room1
  have hin : n ∈ (putD D n s).sure.map (·.1) ∧ ∀ x, x ∈ D.sure.map (·.1) → x ∈ (putD D n s).sure.map (·.1) := by
    unfold putD
    cases hh : hasT n D.sure with
    | true => exact ⟨hasT_iff.1 hh, fun _ h => h⟩
    | false => exact ⟨by simp, fun x hx => by rw [if_neg (by simp)]; simp only [List.map_append, List.mem_append]; exact .inl hx⟩
  refine ⟨?_, ?_, ?_, ?_, ?_, h.room0, h.room1, h.fuse0, h.fuse1⟩
  · have e1 : sumL (putD D n s).sure = sumL D.sure := by
      unfold putD
      cases hasT n D.sure with
      | true => rfl
      | false => show sumL (D.sure ++ [(n, [])]) = _; rw [sumL_snoc]; rfl
    have e2 : sumL (putD D n s).waits = sumL D.waits + s.length := by
      show sumL (if s = [] then D.waits else D.waits ++ [(n, s)]) = _
      split
      · subst s; rfl
      · rw [sumL_snoc]
    unfold Dsk.used at *
    omega
  · unfold putD
    have := h.files
    cases hh : hasT n D.sure with
    | true => exact h.files
    | false =>
      show (D.sure ++ [(n, [])]).length ≤ 16
      rw [List.length_append, List.length_singleton]
      have : ¬ 16 ≤ D.sure.length := fun k => hf1 ⟨hh, k⟩
      omega
  · unfold putD
    cases hh : hasT n D.sure with
    | true => exact h.nd
    | false =>
      show ((D.sure ++ [((n, []) : Tx × Tx)]).map (·.1)).Nodup
      rw [List.map_append]
      exact List.nodup_append.2 ⟨h.nd, by simp, fun a ha b hb => by simp at hb; subst hb; exact fun e => hasT_no.1 hh (e ▸ ha)⟩
  · intro w hw
    have hw' : w ∈ (if s = [] then D.waits else D.waits ++ [(n, s)]) := hw
    split at hw'
    · exact h.ne w hw'
    · rcases List.mem_append.1 hw' with k | k
      · exact h.ne w k
      · simp at k; subst k; assumption
  · intro w hw
    have hw' : w ∈ (if s = [] then D.waits else D.waits ++ [(n, s)]) := hw
    split at hw'
    · exact hin.2 _ (h.inn w hw')
    · rcases List.mem_append.1 hw' with k | k
      · exact hin.2 _ (h.inn w k)
      · simp at k; subst k; exact hin.1
theorem DOk.dead {D : Dsk} (h : DOk D) : DOk D.dead := by
  refine ⟨h.used, h.files, h.nd, h.ne, h.inn, h.room0, h.room1, ?_, ?_⟩
  · have := h.fuse0
    show -1 ≤ deadF D.fuse
    unfold deadF; split <;> omega
  · have := h.fuse1
    show deadF D.fuse ≤ _
    unfold deadF; split <;> omega
end Go.Proofs.YtkfhgpegnnokgaaGreatDoor
