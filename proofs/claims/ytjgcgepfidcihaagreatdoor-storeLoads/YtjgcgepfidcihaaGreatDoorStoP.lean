/-
  The store: what it has, and what a record makes of it; plain.
-/
import Derived.Test.YtjgcgepfidcihaaGreatDoorBaseA
import Derived.Test.YtjgcgepfidcihaaGreatDoorLayB
import Derived.Test.YtjgcgepfidcihaaGreatDoorQuoA
namespace Go.Proofs.YtjgcgepfidcihaaGreatDoor
open Go Go.CM
set_option maxRecDepth 100000
set_option maxHeartbeats 4000000

def cnt (l : List Entry) (t : Int) : Nat := (l.filter fun e => decide (e.tenant = t)).length
abbrev butN (l : List Entry) (n : Nm) : List Entry := l.filter fun e => decide (enm e ≠ n)
theorem but_app {A B : List Entry} {n : Nm} (h1 : ∀ a ∈ A, ahd (enm a) n = true) (h2 : ∀ b ∈ B, ahd n (enm b) = true) : butN (A ++ B) n = A ++ B := by
  refine List.filter_eq_self.2 fun a ha => decide_eq_true ?_
  rcases List.mem_append.1 ha with ha | ha
  · exact ahd_ne (h1 a ha)
  · exact (ahd_ne (h2 a ha)).symm
theorem but_mid {A B : List Entry} {n : Nm} {x : Entry} (h1 : ∀ a ∈ A, ahd (enm a) n = true) (h2 : ∀ b ∈ B, ahd n (enm b) = true) (hx : enm x = n) : butN (A ++ x :: B) n = A ++ B := by
  have h := but_app h1 h2
  rw [butN, List.filter_append] at h ⊢
  rw [List.filter_cons_of_neg (by simp [hx])]
  exact h
theorem dropL_eq {l : List Entry} (h : Srt l) (n : Nm) : dropL l n = butN l n := by
  obtain ⟨A, B, h1, h2, h3, rfl | ⟨x, hx, rfl⟩⟩ := dropL_at h n
  · rw [h3, but_app h1 h2]
  · rw [h3, but_mid h1 h2 hx]
theorem putL_perm {l : List Entry} (h : Srt l) (e : Entry) : (putL l e).Perm (e :: butN l (enm e)) := by
  obtain ⟨A, B, h1, h2, h3, rfl | ⟨x, hx, rfl⟩⟩ := putL_at h e
  · rw [h3, but_app h1 h2]; exact List.perm_middle
  · rw [h3, but_mid h1 h2 hx]; exact List.perm_middle
theorem Srt.isN_get {l : List Entry} (h : Srt l) (n : Nm) : isN l n = (getL l n).isSome := by
  rw [h.getL_pl]
  cases isN l n <;> rfl
theorem cnt_perm {l r : List Entry} (h : l.Perm r) (t : Int) : cnt l t = cnt r t := (h.filter _).length_eq
theorem cnt_cons (e : Entry) (l : List Entry) (t : Int) : cnt (e :: l) t = cnt l t + if e.tenant = t then 1 else 0 := by
  unfold cnt
  by_cases h : e.tenant = t <;> simp [h]
theorem cnt_app (l r : List Entry) (t : Int) : cnt (l ++ r) t = cnt l t + cnt r t := by
  rw [cnt, List.filter_append, List.length_append]; rfl
theorem cnt_le (l : List Entry) (t : Int) : cnt l t ≤ l.length := List.length_filter_le _ _
theorem cnt_but {l : List Entry} (h : Srt l) (n : Nm) (t : Int) : cnt l t = cnt (butN l n) t + if (getL l n).isSome = true ∧ n.1 = t then 1 else 0 := by
  obtain ⟨A, B, h1, h2, h3, rfl | ⟨x, rfl, rfl⟩⟩ := dropL_at h n
  · have hg : getL (A ++ B) n = none := by
      rw [getL_none]
      intro e he
      rcases List.mem_append.1 he with he | he
      · exact ahd_ne (h1 e he)
      · exact (ahd_ne (h2 e he)).symm
    rw [but_app h1 h2, hg]; simp
  · have hg : getL (A ++ x :: B) (enm x) = some x := h.mem_get (by simp)
    rw [but_mid h1 h2 rfl, hg, cnt_app, cnt_app, cnt_cons]
    show cnt A t + (cnt B t + if x.tenant = t then 1 else 0) = _
    have : ((enm x).1 = t) ↔ (x.tenant = t) := Iff.rfl
    by_cases hx : x.tenant = t
    · rw [if_pos hx, if_pos ⟨rfl, hx⟩]; omega
    · rw [if_neg hx, if_neg fun k => hx k.2]; omega
theorem cnt_put {l : List Entry} (h : Srt l) (e : Entry) (t : Int) : cnt (putL l e) t = cnt l t + if (getL l (enm e)).isSome = false ∧ e.tenant = t then 1 else 0 := by
  have h1 := cnt_but h (enm e) t
  rw [cnt_perm (putL_perm h e), cnt_cons, h1]
  show _ = cnt (butN l (enm e)) t + (if _ ∧ e.tenant = t then 1 else 0) + _
  cases (getL l (enm e)).isSome <;> by_cases ht : e.tenant = t <;> simp [ht]
theorem cnt_drop {l : List Entry} (h : Srt l) (n : Nm) (t : Int) : cnt (dropL l n) t = cnt l t - if (getL l n).isSome = true ∧ n.1 = t then 1 else 0 := by
  have h1 := cnt_but h n t
  rw [dropL_eq h, h1]; omega
theorem len_put {l : List Entry} (h : Srt l) (e : Entry) : (putL l e).length = l.length + if (getL l (enm e)).isSome = false then 1 else 0 := by
  obtain ⟨A, B, h1, h2, h3, rfl | ⟨x, hx, rfl⟩⟩ := putL_at h e
  · have hg : getL (A ++ B) (enm e) = none := by
      rw [getL_none]
      intro e he
      rcases List.mem_append.1 he with he | he
      · exact ahd_ne (h1 e he)
      · exact (ahd_ne (h2 e he)).symm
    rw [h3, hg]
    simp; omega
  · have hg : getL (A ++ x :: B) (enm e) = some x := by rw [← hx]; exact h.mem_get (by simp)
    rw [h3, hg]
    simp
theorem mem_but {l : List Entry} {n : Nm} {e : Entry} : e ∈ butN l n ↔ e ∈ l ∧ enm e ≠ n := by
  rw [List.mem_filter, decide_eq_true_iff]
theorem mem_put {l : List Entry} (h : Srt l) {e x : Entry} : x ∈ putL l e ↔ x = e ∨ x ∈ l ∧ enm x ≠ enm e := by
  rw [(putL_perm h e).mem_iff, List.mem_cons, mem_but]
theorem mem_drop {l : List Entry} (h : Srt l) {n : Nm} {x : Entry} : x ∈ dropL l n ↔ x ∈ l ∧ enm x ≠ n := by
  rw [dropL_eq h, mem_but]

structure Sto where
  most : Int
  l : List Entry
  top : Int
def folI (s : Sto) (e : Entry) : Int := match getL s.l (enm e) with
  | some old => if old.epoch = e.epoch then (if old.state ≠ 1 ∨ e.token < old.token ∨ e.point < old.point then 9 else 0) else if e.epoch ≤ s.top then 9 else 0
  | none => if e.epoch ≤ s.top then 9 else if 200 ≤ s.l.length ∨ quoI s.most ≤ cnt s.l e.tenant then 2 else 0
def chkI (s : Sto) (r : Rec) : Int := if ¬ recP r then 1 else if r.kind = 1 then folI s r.e else if (getL s.l (enm r.e)).isSome then 0 else 6
def putS (s : Sto) (e : Entry) : Sto := ⟨s.most, putL s.l e, if s.top < e.epoch then e.epoch else s.top⟩
def appS (s : Sto) (r : Rec) : Sto := if chkI s r ≠ 0 then s else if r.kind = 1 then putS s r.e else ⟨s.most, dropL s.l (enm r.e), s.top⟩
structure SOk (s : Sto) : Prop where
  srt : Srt s.l
  may : ∀ e ∈ s.l, mayP e
  len : s.l.length ≤ 200
  quo : ∀ t, (cnt s.l t : Int) ≤ quoI s.most
  low : ∀ e ∈ s.l, e.epoch ≤ s.top
  top0 : 0 ≤ s.top
  top1 : s.top ≤ 1073741824
theorem SOk.new (m : Int) : SOk ⟨m, [], 0⟩ := ⟨Srt.nil, by simp, by simp, fun t => by show ((0 : Nat) : Int) ≤ min (max m 0) 200; omega, by simp, by simp, by simp⟩
theorem SOk.put {s : Sto} (h : SOk s) {e : Entry} (hm : mayP e) (h1 : (getL s.l (enm e)).isSome = false → s.l.length < 200 ∧ (cnt s.l e.tenant : Int) < quoI s.most) : SOk (putS s e) := by
  refine ⟨h.srt.put e, ?_, ?_, ?_, ?_, ?_, ?_⟩
  · intro x hx
    rcases (mem_put h.srt).1 hx with rfl | ⟨hx, _⟩
    · exact hm
    · exact h.may x hx
  · show (putL s.l e).length ≤ 200
    rw [len_put h.srt]
    have := h.len
    split
    · have := (h1 ‹_›).1; omega
    · omega
  · intro t
    show ((cnt (putL s.l e) t : Nat) : Int) ≤ quoI s.most
    rw [cnt_put h.srt]
    have := h.quo t
    split
    · rename_i k
      have := (h1 k.1).2
      rw [k.2] at this; omega
    · omega
  · intro x hx
    show x.epoch ≤ if s.top < e.epoch then e.epoch else s.top
    rcases (mem_put h.srt).1 hx with rfl | ⟨hx, _⟩
    · split <;> omega
    · have := h.low x hx; split <;> omega
  · show 0 ≤ if s.top < e.epoch then e.epoch else s.top
    have := h.top0; split <;> omega
  · show (if s.top < e.epoch then e.epoch else s.top) ≤ 1073741824
    have := h.top1
    have := hm.1.2.1.2; split <;> omega
theorem SOk.drp {s : Sto} (h : SOk s) (n : Nm) : SOk ⟨s.most, dropL s.l n, s.top⟩ := by
  refine ⟨h.srt.drp n, fun x hx => h.may x ((mem_drop h.srt).1 hx).1, ?_, fun t => ?_, fun x hx => h.low x ((mem_drop h.srt).1 hx).1, h.top0, h.top1⟩
  · show (dropL s.l n).length ≤ 200
    rw [dropL_eq h.srt]
    exact Nat.le_trans (List.length_filter_le _ _) h.len
  · show ((cnt (dropL s.l n) t : Nat) : Int) ≤ quoI s.most
    rw [cnt_drop h.srt]
    have := h.quo t; omega
theorem chk_put {s : Sto} {r : Rec} (h : chkI s r = 0) (h1 : r.kind = 1) : mayP r.e ∧ folI s r.e = 0 := by
  rw [chkI] at h
  split at h
  · cases h
  · rename_i k
    refine ⟨?_, h⟩
    rcases Classical.not_not.1 k with k | k
    · exact k.2
    · have := k.1; omega
theorem chk_drop {s : Sto} {r : Rec} (h : chkI s r = 0) (h1 : r.kind ≠ 1) : r.kind = 2 ∧ namP r.e ∧ r.e = dropE' r.e.key r.e.tenant ∧ (getL s.l (enm r.e)).isSome = true := by
  rw [chkI] at h
  split at h
  · cases h
  · rename_i k
    rcases Classical.not_not.1 k with k | k
    · exact absurd k.1 h1
    · split at h
      · exact ⟨k.1, k.2.1, k.2.2, ‹_›⟩
      · cases h
theorem fol_room {s : Sto} {e : Entry} (h : folI s e = 0) (h1 : (getL s.l (enm e)).isSome = false) : s.l.length < 200 ∧ (cnt s.l e.tenant : Int) < quoI s.most := by
  rw [folI] at h
  split at h
  · rename_i k; rw [k] at h1; cases h1
  · split at h
    · cases h
    · split at h
      · cases h
      · rename_i k; omega
theorem SOk.app {s : Sto} (h : SOk s) (r : Rec) : SOk (appS s r) := by
  rw [appS]
  split
  · exact h
  · rename_i k
    have k := Classical.not_not.1 k
    split
    · rename_i h1
      have := chk_put k h1
      exact h.put this.1 fun hg => fol_room this.2 hg
    · exact h.drp _
theorem folI_none {s : Sto} {e : Entry} (h : getL s.l (enm e) = none) : folI s e = if e.epoch ≤ s.top then 9 else if 200 ≤ s.l.length ∨ quoI s.most ≤ cnt s.l e.tenant then 2 else 0 := by rw [folI, h]
theorem folI_some {s : Sto} {e old : Entry} (h : getL s.l (enm e) = some old) : folI s e = if old.epoch = e.epoch then (if old.state ≠ 1 ∨ e.token < old.token ∨ e.point < old.point then 9 else 0) else if e.epoch ≤ s.top then 9 else 0 := by rw [folI, h]
theorem chkI_put {s : Sto} {e : Entry} (hm : mayP e) : chkI s ⟨1, e⟩ = folI s e := by rw [chkI, if_neg (fun h => h (.inl ⟨rfl, hm⟩)), if_pos rfl]
theorem appS_put {s : Sto} {e : Entry} (h : chkI s ⟨1, e⟩ = 0) : appS s ⟨1, e⟩ = putS s e := by rw [appS, if_neg (fun k => k h), if_pos rfl]
end Go.Proofs.YtjgcgepfidcihaaGreatDoor
