/-
  A program logic over the model's calls: its texts CmUse CmUse2 CmUse3, joined.
-/
import Derived.Test.YtkfhgpegnnokgaaGreatDoorCmE
namespace Go.CM

abbrev Ob := Nat × HObj
def ids (L : List Ob) : List Nat := (L.map (·.1)).filter fun i => !Nat.beq i 0

theorem mem_ids {L : List Ob} {i : Nat} : i ∈ ids L ↔ i ≠ 0 ∧ ∃ x ∈ L, x.1 = i := by
  simp only [ids, List.mem_filter, List.mem_map]
  constructor
  · rintro ⟨⟨x, hx, rfl⟩, h⟩
    exact ⟨fun e => by rw [e] at h; simp at h, x, hx, rfl⟩
  · rintro ⟨h, x, hx, rfl⟩
    refine ⟨⟨x, hx, rfl⟩, ?_⟩
    cases hb : Nat.beq x.1 0 with
    | true => exact absurd (Nat.eq_of_beq_eq_true hb) h
    | false => rfl
theorem ids_append (A B : List Ob) : ids (A ++ B) = ids A ++ ids B := by simp [ids]

structure Has (H : Heap) (L : List Ob) : Prop where
  look : ∀ x ∈ L, x.1 ≠ 0 → H x.1 = some x.2
  zero : ∀ x ∈ L, x.1 = 0 → ∃ b, x.2 = .cells b []
  nd : (ids L).Nodup

theorem Has.perm {H : Heap} {L L' : List Ob} (h : Has H L) (p : L.Perm L') : Has H L' :=
  ⟨fun x hx => h.look x (p.mem_iff.2 hx), fun x hx => h.zero x (p.mem_iff.2 hx), (((p.map _).filter _).nodup_iff).1 h.nd⟩
theorem Has.nil (H : Heap) : Has H [] := ⟨fun _ h => (by cases h), fun _ h => (by cases h), .nil⟩
theorem Has.sub {H : Heap} {L L' : List Ob} (h : Has H L) (p : L'.Sublist L) : Has H L' :=
  ⟨fun x hx => h.look x (p.subset hx), fun x hx => h.zero x (p.subset hx), ((p.map _).filter _).nodup h.nd⟩
theorem Has.left {H : Heap} {L R : List Ob} (h : Has H (L ++ R)) : Has H L := h.sub (List.sublist_append_left _ _)
theorem Has.right {H : Heap} {L R : List Ob} (h : Has H (L ++ R)) : Has H R := h.sub (List.sublist_append_right _ _)
theorem Has.tail {H : Heap} {x : Ob} {R : List Ob} (h : Has H (x :: R)) : Has H R := h.sub (List.sublist_cons_self _ _)

theorem Has.cons {H : Heap} {L : List Ob} (h : Has H L) {id : Nat} {o : HObj} (h0 : id ≠ 0) (ho : H id = some o) (hn : id ∉ ids L) : Has H ((id, o) :: L) := by
  refine ⟨fun x hx => ?_, fun x hx => ?_, ?_⟩
  · rcases List.mem_cons.1 hx with rfl | hx
    · exact fun _ => ho
    · exact h.look x hx
  · rcases List.mem_cons.1 hx with rfl | hx
    · exact fun e => absurd e h0
    · exact h.zero x hx
  · have : Nat.beq id 0 = false := Bool.eq_false_iff.2 fun e => h0 (Nat.eq_of_beq_eq_true e)
    simp only [ids, List.map_cons, List.filter_cons, this, Bool.not_false, if_true]
    exact List.nodup_cons.2 ⟨hn, h.nd⟩

theorem Has.heap {H H' : Heap} {L : List Ob} (h : Has H L) (hk : ∀ x ∈ L, x.1 ≠ 0 → H' x.1 = H x.1) : Has H' L :=
  ⟨fun x hx h0 => (hk x hx h0).trans (h.look x hx h0), h.zero, h.nd⟩

theorem Has.ghost {H : Heap} {L : List Ob} (h : Has H L) (b : Bool) : Has H ((0, .cells b []) :: L) := by
  refine ⟨fun x hx => ?_, fun x hx => ?_, ?_⟩
  · rcases List.mem_cons.1 hx with rfl | hx
    · exact fun h => absurd rfl h
    · exact h.look x hx
  · rcases List.mem_cons.1 hx with rfl | hx
    · exact fun _ => ⟨b, rfl⟩
    · exact h.zero x hx
  · simpa [ids] using h.nd

theorem Has.new {H : Heap} {L : List Ob} (h : Has H L) {id : Nat} {o : HObj} (h0 : id ≠ 0) (hid : H id = none) : Has (H.set id o) ((id, o) :: L) := by
  have hne : ∀ x ∈ L, x.1 ≠ 0 → x.1 ≠ id := fun x hx hx0 e => by have := h.look x hx hx0; rw [e, hid] at this; cases this
  refine Has.cons (h.heap fun x hx hx0 => Heap.set_ne _ _ (hne x hx hx0)) h0 (Heap.set_same _ _ _) fun hm => ?_
  obtain ⟨_, x, hx, rfl⟩ := mem_ids.1 hm
  exact hne x hx h0 rfl

inductive At (x : Ob) : List Ob → Prop
  | here {R : List Ob} : At x (x :: R)
  | there {y : Ob} {R : List Ob} (h : At x R) : At x (y :: R)
  | skip {A R : List Ob} (h : At x R) : At x (A ++ R)
theorem At.mem {x : Ob} {L : List Ob} (h : At x L) : x ∈ L := by
  induction h with
  | here => exact List.mem_cons_self
  | there _ ih => exact List.mem_cons_of_mem _ ih
  | skip _ ih => exact List.mem_append_right _ ih
inductive Upd (x : Ob) (N : List Ob) : List Ob → List Ob → Prop
  | here {R : List Ob} : Upd x N (x :: R) (N ++ R)
  | there {y : Ob} {R R' : List Ob} (h : Upd x N R R') : Upd x N (y :: R) (y :: R')
  | skip {A R R' : List Ob} (h : Upd x N R R') : Upd x N (A ++ R) (A ++ R')
theorem Upd.here1 {x x' : Ob} {R : List Ob} : Upd x [x'] (x :: R) (x' :: R) := Upd.here
theorem Upd.split {x : Ob} {N L L' : List Ob} (h : Upd x N L L') : ∃ A B, L = A ++ x :: B ∧ L' = A ++ (N ++ B) := by
  induction h with
  | here => exact ⟨[], _, rfl, rfl⟩
  | @there y _ _ _ ih => obtain ⟨A, B, h1, h2⟩ := ih; exact ⟨y :: A, B, by simp [h1], by simp [h2]⟩
  | @skip C _ _ _ ih => obtain ⟨A, B, h1, h2⟩ := ih; exact ⟨C ++ A, B, by simp [h1], by simp [h2]⟩
theorem Upd.at {x : Ob} {N L L' : List Ob} (h : Upd x N L L') : x ∈ L := by
  obtain ⟨A, B, rfl, _⟩ := h.split; simp
theorem Upd.front {H : Heap} {x : Ob} {N L L' : List Ob} (h : Upd x N L L') (hh : Has H L) : ∃ R, Has H (x :: R) ∧ L'.Perm (N ++ R) := by
  obtain ⟨A, B, rfl, rfl⟩ := h.split
  refine ⟨A ++ B, hh.perm List.perm_middle, ?_⟩
  rw [← List.append_assoc, ← List.append_assoc]
  exact List.perm_append_comm.append_right B

theorem Has.get {H : Heap} {L : List Ob} (h : Has H L) {id : Nat} {o : HObj} (hm : (id, o) ∈ L) (h0 : id ≠ 0) : H id = some o := h.look (id, o) hm h0
theorem Has.ne0 {H : Heap} {L : List Ob} (h : Has H L) {id : Nat} {b : Bool} {cs : List V} (hm : (id, .cells b cs) ∈ L) (hc : cs ≠ []) : id ≠ 0 := fun e => by
  obtain ⟨b', h1⟩ := h.zero _ hm e
  cases h1; exact hc rfl
theorem Has.getc {H : Heap} {L : List Ob} (h : Has H L) {id : Nat} {b : Bool} {cs : List V} (hm : (id, .cells b cs) ∈ L) (hc : cs ≠ []) : H id = some (.cells b cs) := h.get hm (h.ne0 hm hc)
theorem Has.getm {H : Heap} {L : List Ob} (h : Has H L) {id : Nat} {es : List (V × V)} (hm : (id, .map es) ∈ L) : H id = some (.map es) :=
  h.get hm fun e => by obtain ⟨b', h1⟩ := h.zero _ hm e; cases h1
theorem Has.head_ne {H : Heap} {x : Ob} {R : List Ob} (h : Has H (x :: R)) (h0 : x.1 ≠ 0) : ∀ y ∈ R, y.1 ≠ 0 → y.1 ≠ x.1 := fun y hy _ e => by
  have hb : Nat.beq x.1 0 = false := Bool.eq_false_iff.2 fun e => h0 (Nat.eq_of_beq_eq_true e)
  have := h.nd
  simp only [ids, List.map_cons, List.filter_cons, hb, Bool.not_false, if_true] at this
  exact (List.nodup_cons.1 this).1 (mem_ids.2 ⟨h0, y, hy, e⟩)

theorem Has.set {H : Heap} {L L' : List Ob} (h : Has H L) {id : Nat} {o o' : HObj} (h0 : id ≠ 0) (hu : Upd (id, o) [(id, o')] L L') : Has (H.set id o') L' := by
  obtain ⟨R, h1, h2⟩ := hu.front h
  have hne := h1.head_ne h0
  refine Has.perm (L := (id, o') :: R) (Has.cons (h1.tail.heap fun y hy hy0 => Heap.set_ne _ _ (hne y hy hy0)) h0 (Heap.set_same _ _ _) fun hm => ?_) h2.symm
  obtain ⟨_, y, hy, e⟩ := mem_ids.1 hm
  exact hne y hy (by rw [e]; exact h0) e

theorem Has.move {H : Heap} {L L' : List Ob} (h : Has H L) {id id' : Nat} {o o' : HObj} (h0 : id ≠ 0) (h0' : id' ≠ 0) (hu : Upd (id, o) [(id', o')] L L') (hid : (H.del id) id' = none) : Has ((H.del id).set id' o') L' := by
  obtain ⟨R, h1, h2⟩ := hu.front h
  have hne := h1.head_ne h0
  have h3 : Has (H.del id) R := h1.tail.heap fun y hy hy0 => Heap.del_ne _ (hne y hy hy0)
  exact Has.perm (h3.new h0' hid) h2.symm

theorem Has.born {H : Heap} {L L' : List Ob} (h : Has H L) {x : Ob} {id' : Nat} {o' : HObj} (h0' : id' ≠ 0) (hu : Upd x [(id', o')] L L') (hid : H id' = none) : Has (H.set id' o') L' := by
  obtain ⟨R, h1, h2⟩ := hu.front h
  exact Has.perm (h1.tail.new h0' hid) h2.symm
theorem Has.upd {H : Heap} {L L' : List Ob} (h : Has H L) {x : Ob} {N : List Ob} (hu : Upd x N L L') (hN : ∀ R, Has H (x :: R) → Has H (N ++ R)) : Has H L' := by
  obtain ⟨R, h1, h2⟩ := hu.front h
  exact (hN R h1).perm h2.symm

inductive Rm (x : Ob) : List Ob → List Ob → Prop
  | here {R : List Ob} : Rm x (x :: R) R
  | there {y : Ob} {R R' : List Ob} (h : Rm x R R') : Rm x (y :: R) (y :: R')
  | skip {A R R' : List Ob} (h : Rm x R R') : Rm x (A ++ R) (A ++ R')
inductive Rc (C : List Ob) : List Ob → List Ob → Prop
  | all : Rc C C []
  | here {R : List Ob} : Rc C (C ++ R) R
  | there {y : Ob} {R R' : List Ob} (h : Rc C R R') : Rc C (y :: R) (y :: R')
  | skip {A R R' : List Ob} (h : Rc C R R') : Rc C (A ++ R) (A ++ R')
inductive Tk : List Ob → List Ob → List Ob → Prop
  | nil {L : List Ob} : Tk [] L L
  | cons {x : Ob} {N L L1 R : List Ob} (h : Rm x L L1) (t : Tk N L1 R) : Tk (x :: N) L R
  | app {A B L L1 R : List Ob} (h : Rc A L L1) (t : Tk B L1 R) : Tk (A ++ B) L R
  | one {A L R : List Ob} (h : Rc A L R) : Tk A L R
section
variable {x y : Ob} {A B C N R L' : List Ob}
theorem At.asc (h : At x (A ++ (B ++ R))) : At x ((A ++ B) ++ R) := by rwa [List.append_assoc]
theorem At.cns (h : At x (y :: (A ++ R))) : At x ((y :: A) ++ R) := h
theorem At.nl (h : At x R) : At x ([] ++ R) := h
theorem At.inl (h : At x (A ++ [])) : At x A := by rwa [List.append_nil] at h
theorem Upd.asc (h : Upd x N (A ++ (B ++ R)) L') : Upd x N ((A ++ B) ++ R) L' := by rwa [List.append_assoc]
theorem Upd.cns (h : Upd x N (y :: (A ++ R)) L') : Upd x N ((y :: A) ++ R) L' := h
theorem Upd.nl (h : Upd x N R L') : Upd x N ([] ++ R) L' := h
theorem Rm.asc (h : Rm x (A ++ (B ++ R)) L') : Rm x ((A ++ B) ++ R) L' := by rwa [List.append_assoc]
theorem Rm.cns (h : Rm x (y :: (A ++ R)) L') : Rm x ((y :: A) ++ R) L' := h
theorem Rm.nl (h : Rm x R L') : Rm x ([] ++ R) L' := h
theorem Rc.asc (h : Rc C (A ++ (B ++ R)) L') : Rc C ((A ++ B) ++ R) L' := by rwa [List.append_assoc]
theorem Rc.cns (h : Rc C (y :: (A ++ R)) L') : Rc C ((y :: A) ++ R) L' := h
theorem Rc.nl (h : Rc C R L') : Rc C ([] ++ R) L' := h
theorem Tk.asc {L : List Ob} (h : Tk (A ++ (B ++ C)) L R) : Tk ((A ++ B) ++ C) L R := by rwa [List.append_assoc]
theorem Tk.cns {L : List Ob} (h : Tk (y :: (A ++ B)) L R) : Tk ((y :: A) ++ B) L R := h
theorem Tk.nl {L : List Ob} (h : Tk A L R) : Tk ([] ++ A) L R := h
end
theorem Rm.perm {x : Ob} {L R : List Ob} (h : Rm x L R) : L.Perm (x :: R) := by
  induction h with
  | here => exact .refl _
  | there _ ih => exact (ih.cons _).trans (List.Perm.swap _ _ _)
  | skip _ ih => exact (ih.append_left _).trans List.perm_middle
theorem Rc.perm {C L R : List Ob} (h : Rc C L R) : L.Perm (C ++ R) := by
  induction h with
  | all => simp
  | here => exact .refl _
  | there _ ih => exact (ih.cons _).trans List.perm_middle.symm
  | @skip A _ R' _ ih =>
    refine (ih.append_left A).trans ?_
    rw [← List.append_assoc, ← List.append_assoc]
    exact List.perm_append_comm.append_right R'
theorem Tk.perm {N L R : List Ob} (h : Tk N L R) : L.Perm (N ++ R) := by
  induction h with
  | nil => exact .refl _
  | cons h _ ih => exact h.perm.trans (ih.cons _)
  | app h _ ih => rw [List.append_assoc]; exact h.perm.trans (ih.append_left _)
  | one h => exact h.perm
theorem Has.tk {H : Heap} {N L R : List Ob} (hh : Has H L) (h : Tk N L R) : Has H (N ++ R) := hh.perm h.perm
theorem Has.ord {H : Heap} {N L R : List Ob} (hh : Has H L) (h : Tk N L R) : Has H N := (hh.tk h).left

def CallsL (P : Program) (f : FuncId) (args : List V) (L : List Ob) (Q : V → List Ob → Prop) : Prop :=
  ∀ H, Has H L → CallsC P f args H fun v H' => ∃ L', Q v L' ∧ Has H' L'

theorem CallsL.mono {P : Program} {f : FuncId} {args : List V} {L : List Ob} {Q Q' : V → List Ob → Prop} (h : CallsL P f args L Q) (hq : ∀ v L', Q v L' → Q' v L') : CallsL P f args L Q' :=
  fun H hh => (h H hh).mono fun _ _ ⟨L', a, b⟩ => ⟨L', hq _ _ a, b⟩

theorem CallsL.frame {P : Program} {f : FuncId} {args : List V} {L : List Ob} {Q : V → List Ob → Prop} (h : CallsL P f args L Q) {H : Heap} {R : List Ob} (hh : Has H (L ++ R)) :
    CallsC P f args H fun v H' => ∃ L', Q v L' ∧ Has H' (L' ++ R) ∧ ∀ id o, H id = some o → id ∉ ids L → H' id = some o := by
  classical
  let H1 : Heap := fun id => if id ∈ ids L then H id else none
  have le1 : H1.le H := fun id o hi => by
    simp only [H1] at hi
    split at hi
    · exact hi
    · cases hi
  have has1 : Has H1 L := hh.left.heap fun x hx h0 => by
    simp only [H1]
    rw [if_pos (mem_ids.2 ⟨h0, x, hx, rfl⟩)]
  obtain ⟨hE, hc⟩ := h H1 has1
  refine ⟨hE, fun ι w us hR hv => (hc ι w us (hR.weaken le1) hv).mono ?_⟩
  rintro e w' ⟨ι', H1', v, u, rfl, hvu, hR', hX, L', hQ, hL'⟩
  have out : ∀ id o, H id = some o → id ∉ ids L → H1' id = none := by
    intro id o ho hn
    cases hx : H1' id with
    | none => rfl
    | some o' =>
      have := hX.ids id o' hx (by simp only [H1]; rw [if_neg hn])
      obtain ⟨b, off, hb, _⟩ := hR.obj id o ho
      rw [this] at hb; cases hb
  let H' : Heap := fun id => match H1' id with
    | some o => some o
    | none => if id ∈ ids L then none else H id
  have in1 : ∀ id o, H1' id = some o → H' id = some o := fun id o ho => by simp only [H', ho]
  have in2 : ∀ id o, H id = some o → id ∉ ids L → H' id = some o := fun id o ho hn => by simp only [H', out id o ho hn, if_neg hn, ho]
  have cas : ∀ id o, H' id = some o → H1' id = some o ∨ (H id = some o ∧ id ∉ ids L) := by
    intro id o ho
    simp only [H'] at ho
    split at ho
    · rename_i h1; cases ho; exact .inl h1
    · split at ho
      · cases ho
      · rename_i hn; exact .inr ⟨ho, hn⟩
  have notOwned : ∀ id o b off, H id = some o → id ∉ ids L → ι id = some (b, off) → ¬ Owns ι H1 b := by
    rintro id o b off ho hn hb ⟨id1, o1, off1, h1, h2, h3⟩
    have := hR.inj id1 id o1 o b off1 off (le1 _ _ h1) ho h2 h3 hb
    subst this
    simp only [H1] at h1
    rw [if_neg hn] at h1; cases h1
  have blk : ∀ id o b off, H id = some o → ι id = some (b, off) → b < w.heap.size := by
    intro id o b off ho hb
    obtain ⟨b', off', h1, h2⟩ := hR.obj id o ho
    rw [hb] at h1; cases h1
    exact h2.lt
  have apart : ∀ y ∈ R, y.1 ≠ 0 → y.1 ∉ ids L := by
    intro y hy h0 hm
    have hnd := hh.nd
    rw [ids_append, List.nodup_append] at hnd
    exact hnd.2.2 _ hm _ (mem_ids.2 ⟨h0, y, hy, rfl⟩) rfl
  refine ⟨ι', H', v, u, rfl, hvu, ⟨?_, ?_, hR'.fin, hR'.zero, hR'.glob⟩, ⟨hX.pl, hX.os, hX.tape, hX.output, hX.size, hX.shp, ?_, ?_, ?_, ?_⟩, L', hQ, ⟨?_, ?_, ?_⟩, in2⟩
  · intro id o ho
    rcases cas id o ho with h1 | ⟨h1, h2⟩
    · exact hR'.obj id o h1
    · obtain ⟨b, off, h3, h4⟩ := hR.obj id o h1
      exact ⟨b, off, hX.pl _ _ h3, h4.keep hX.pl hX.shp (hX.frame b h4.lt (notOwned id o b off h1 h2 h3))⟩
  · intro id id' o o' b off off' ho ho' hrw hb hb'
    rcases cas id o ho with h1 | ⟨h1, h2⟩
    · rcases cas id' o' ho' with k1 | ⟨k1, k2⟩
      · exact hR'.inj id id' o o' b off off' h1 k1 hrw hb hb'
      · exfalso
        obtain ⟨b2, off2, h3, _⟩ := hR.obj id' o' k1
        have := hX.pl _ _ h3
        rw [hb'] at this; cases this
        rcases hX.owns b ⟨id, o, off, h1, hrw, hb⟩ with h5 | h5
        · exact notOwned id' o' b off' k1 k2 h3 h5
        · have := blk id' o' b off' k1 h3; omega
    · obtain ⟨b2, off2, h3, _⟩ := hR.obj id o h1
      have := hX.pl _ _ h3
      rw [hb] at this; cases this
      rcases cas id' o' ho' with k1 | ⟨k1, k2⟩
      · cases hr' : o'.rw with
        | true =>
          exfalso
          rcases hX.owns b ⟨id', o', off', k1, hr', hb'⟩ with h5 | h5
          · exact notOwned id o b off h1 h2 h3 h5
          · have := blk id o b off h1 h3; omega
        | false =>
          have k2 := le1 _ _ (hX.ro id' o' k1 hr')
          obtain ⟨b3, off3, h5, _⟩ := hR.obj id' o' k2
          have := hX.pl _ _ h5
          rw [hb'] at this; cases this
          exact hR.inj id id' o o' b off off' h1 k2 hrw h3 h5
      · obtain ⟨b3, off3, h5, _⟩ := hR.obj id' o' k1
        have := hX.pl _ _ h5
        rw [hb'] at this; cases this
        exact hR.inj id id' o o' b off off' h1 k1 hrw h3 h5
  · intro b hb hn
    exact hX.frame b hb fun ⟨id, o, off, h1, h2, h3⟩ => hn ⟨id, o, off, le1 _ _ h1, h2, h3⟩
  · rintro b ⟨id, o, off, h1, h2, h3⟩
    rcases cas id o h1 with k1 | ⟨k1, k2⟩
    · rcases hX.owns b ⟨id, o, off, k1, h2, h3⟩ with ⟨id, o, off, h1, h2, h3⟩ | h5
      · exact .inl ⟨id, o, off, le1 _ _ h1, h2, h3⟩
      · exact .inr h5
    · obtain ⟨b2, off2, h4, _⟩ := hR.obj id o k1
      have := hX.pl _ _ h4
      rw [h3] at this; cases this
      exact .inl ⟨id, o, off, k1, h2, h4⟩
  · intro id o h1 h2
    rcases cas id o h1 with k1 | ⟨k1, _⟩
    · refine hX.ids id o k1 ?_
      simp only [H1, h2]; split <;> rfl
    · rw [h2] at k1; cases k1
  · intro id o h1 h2
    rcases cas id o h1 with k1 | ⟨k1, _⟩
    · exact le1 _ _ (hX.ro id o k1 h2)
    · exact k1
  · intro x hx h0
    rcases List.mem_append.1 hx with hx | hx
    · exact in1 _ _ (hL'.look x hx h0)
    · exact in2 _ _ (hh.right.look x hx h0) (apart x hx h0)
  · intro x hx h0
    rcases List.mem_append.1 hx with hx | hx
    · exact hL'.zero x hx h0
    · exact hh.right.zero x hx h0
  · rw [ids_append, List.nodup_append]
    refine ⟨hL'.nd, hh.right.nd, ?_⟩
    rintro _ h1 _ h2 rfl
    obtain ⟨h0, x, hx, e⟩ := mem_ids.1 h1
    obtain ⟨_, y, hy, e'⟩ := mem_ids.1 h2
    have g1 := hL'.look x hx (by rw [e]; exact h0)
    have g2 := out _ _ (hh.right.look y hy (by rw [e']; exact h0)) (apart y hy (by rw [e']; exact h0))
    rw [e, ← e', g2] at g1; cases g1

theorem CallsC.forget {P : Program} {f : FuncId} {args : List V} {H : Heap} {Q : V → Prop} (h : CallsC P f args H fun v H' => Q v ∧ H.le H') : CallsC P f args H fun v H' => Q v ∧ H' = H :=
  ⟨h.1, fun ι w us hR hv => (h.2 ι w us hR hv).mono fun _ _ ⟨ι', _, v, u, a, b, c, d, e, g⟩ => ⟨ι', H, v, u, a, b, c.weaken g, d.forget g, e, rfl⟩⟩

theorem CallsC.wkArgs {P : Program} {f : FuncId} {args args' : List V} {H : Heap} {Q : V → Heap → Prop} (hw : Wks args args') (h : CallsC P f args' H Q) : CallsC P f args H Q :=
  ⟨h.1, fun ι w us hR hv => h.2 ι w us hR (hw.vrs hv)⟩
theorem CallsC.wkHeap {P : Program} {f : FuncId} {args : List V} {H H' : Heap} {Q : V → Heap → Prop} (hw : HWk H H') (h : CallsC P f args H' Q) : CallsC P f args H Q :=
  ⟨h.1, fun ι w us hR hv => (h.2 ι w us (hw.rel hR) hv).mono fun _ _ ⟨ι', H', v, u, a, b, c, d, e⟩ => ⟨ι', H', v, u, a, b, c, d.wkl hw, e⟩⟩
theorem CallsC.wkRes {P : Program} {f : FuncId} {args : List V} {H : Heap} {Q : V → Heap → Prop} (h : CallsC P f args H fun v H' => ∃ v' H2, Wk v v' ∧ HWk H' H2 ∧ Q v' H2) : CallsC P f args H Q :=
  ⟨h.1, fun ι w us hR hv => (h.2 ι w us hR hv).mono fun _ _ ⟨ι', _, _, u, a, b, c, d, v', H2, e1, e2, e3⟩ => ⟨ι', H2, v', u, a, e1 _ _ _ b, e2.rel c, d.wkr e2, e3⟩⟩

def CEnds (Q : V → List Ob → Prop) (v : V) (H : Heap) : Prop := ∃ v' L' H2, Wk v v' ∧ HWk H H2 ∧ Q v' L' ∧ Has H2 L'
theorem CEnds.mk {Q : V → List Ob → Prop} {v : V} {H : Heap} {L : List Ob} (hh : Has H L) (hq : Q v L) : CEnds Q v H := ⟨v, L, H, Wk.refl v, HWk.refl H, hq, hh⟩
theorem CEnds.wk {Q : V → List Ob → Prop} {v v' : V} {H : Heap} (hw : Wk v v') (h : CEnds Q v' H) : CEnds Q v H := by
  obtain ⟨v2, L, H2, h1, h2, h3, h4⟩ := h
  exact ⟨v2, L, H2, hw.trans h1, h2, h3, h4⟩
theorem CEnds.tk {Q : V → List Ob → Prop} {v : V} {H : Heap} {N L R : List Ob} (hh : Has H L) (ht : Tk N L R) (hq : Q v N) : CEnds Q v H := .mk (hh.ord ht) hq

def CallsR (P : Program) (f : FuncId) (args : List V) (L : List Ob) (Q : V → Prop) : Prop := CallsL P f args L fun v L' => Q v ∧ L' = L
def CallsN (P : Program) (f : FuncId) (args : List V) (L : List Ob) (Q : V → List Ob → Prop) : Prop := CallsL P f args L fun v L' => ∃ Lo, Q v Lo ∧ L' = Lo ++ L

theorem CallsL.keeps {P : Program} {f : FuncId} {args : List V} {L : List Ob} {Q : V → List Ob → Prop} (h : CallsL P f args L Q) (hL : ∀ v L', Q v L' → ∀ y ∈ L, y ∈ L') {H : Heap} {R : List Ob} (hh : Has H (L ++ R)) :
    CallsC P f args H fun v H' => ∃ L', Q v L' ∧ Has H' (L' ++ R) ∧ H.le H' := by
  refine (CallsL.frame h hh).mono ?_
  rintro v H' ⟨L', hq, h1, h2⟩
  refine ⟨L', hq, h1, fun id o ho => ?_⟩
  by_cases hm : id ∈ ids L
  · obtain ⟨h0, y, hy, rfl⟩ := mem_ids.1 hm
    have g2 := hh.left.look y hy h0
    rw [ho] at g2; cases g2
    exact h1.left.look y (hL v L' hq y hy) h0
  · exact h2 id o ho hm
theorem CallsR.reads {P : Program} {f : FuncId} {args : List V} {L : List Ob} {Q : V → Prop} (h : CallsR P f args L Q) {H : Heap} {R : List Ob} (hh : Has H (L ++ R)) :
    CallsC P f args H fun v H' => Q v ∧ H' = H :=
  CallsC.forget ((CallsL.keeps h (by rintro v L' ⟨_, rfl⟩ y hy; exact hy) hh).mono fun _ _ ⟨_, ⟨hq, _⟩, _, hl⟩ => ⟨hq, hl⟩)

end Go.CM

namespace Go.CM

theorem C.mono {P : Program} : ∀ {c : C} {Q Q' : Ex → Env → Heap → Prop} {env : Env} {H : Heap}, (∀ x env H, Q x env H → Q' x env H) → c.wp P Q env H → c.wp P Q' env H := by
  intro c
  induction c with
  | skip => intro Q Q' env H hq h; exact Wkn.mono h (hq _)
  | ops l => intro Q Q' env H hq h; exact Wkn.mono h fun _ _ h => wpOps_mono (fun e H' hk => hq _ _ _ hk) h
  | seq a b iha ihb =>
    intro Q Q' env H hq h
    refine Wkn.mono h fun env H h => iha (Q := fun x env H => match x with | .normal => b.wp P Q env H | x => Q x env H) ?_ h
    intro x env H hx
    cases x with
    | normal => exact ihb hq hx
    | exit j => exact hq _ _ _ hx
    | ret => exact hq _ _ _ hx
  | cond x a b iha ihb =>
    intro Q Q' env H hq h
    refine Wkn.mono h fun env H h => ?_
    unfold bcond at h ⊢
    split at h
    · exact iha hq h
    · exact ihb hq h
    · exact h
  | block id a iha =>
    intro Q Q' env H hq h
    refine Wkn.mono h fun env H h => iha (Q := fun x env H => match x with | .exit j => (bif Nat.beq j id then Q .normal env H else Q (.exit j) env H) | x => Q x env H) ?_ h
    intro x env H hx
    cases x with
    | normal => exact hq _ _ _ hx
    | exit j =>
      simp only at hx ⊢
      cases hb : Nat.beq j id with
      | true => rw [hb] at hx; exact hq _ _ _ hx
      | false => rw [hb] at hx; exact hq _ _ _ hx
    | ret => exact hq _ _ _ hx
  | loop a iha =>
    intro Q Q' env H hq h
    refine Wkn.mono h fun env H h J hJ => ?_
    refine h J fun env H hx => hJ env H (iha (Q := fun x env H => match x with | .normal => Wkn env H J | x => Q x env H) ?_ hx)
    intro x env H hx
    cases x with
    | normal => exact hx
    | exit j => exact hq _ _ _ hx
    | ret => exact hq _ _ _ hx
  | exit id => intro Q Q' env H hq h; exact Wkn.mono h (hq _)
  | ret => intro Q Q' env H hq h; exact Wkn.mono h (hq _)

theorem HWk.trans {A B C : Heap} (h : HWk A B) (k : HWk B C) : HWk A C := fun id => by
  rcases h id with ⟨h1, h2⟩ | ⟨o, o', h1, h2, h3⟩
  · rcases k id with ⟨k1, k2⟩ | ⟨p, p', k1, k2, k3⟩
    · exact .inl ⟨h1, k2⟩
    · rw [h2] at k1; cases k1
  · rcases k id with ⟨k1, k2⟩ | ⟨p, p', k1, k2, k3⟩
    · rw [h2] at k1; cases k1
    · rw [h2] at k1; cases k1
      refine .inr ⟨o, p', h1, k2, ?_⟩
      cases h3 with
      | same => exact k3
      | cells cs cs' h =>
        cases k3 with
        | same => exact .cells _ _ h
        | cells _ cs2 h' =>
          refine .cells _ _ ⟨Nat.le_trans h'.1 h.1, fun i v v2 g1 g2 => ?_⟩
          have hlt : i < cs'.length := Nat.lt_of_lt_of_le (List.getElem?_eq_some_iff.1 g2).1 h'.1
          exact (h.2 i v cs'[i] g1 (by simp [hlt])).trans (h'.2 i cs'[i] v2 (by simp [hlt]) g2)
      | map es es' hk hv =>
        cases k3 with
        | same => exact .map _ _ hk hv
        | map _ es2 hk' hv' =>
          refine .map _ _ (hk.trans hk') ⟨hv.1.trans hv'.1, fun i v v2 g1 g2 => ?_⟩
          have hlt : i < (es'.map (·.2)).length := by rw [← hv.1]; exact (List.getElem?_eq_some_iff.1 g1).1
          exact (hv.2 i v _ g1 (List.getElem?_eq_getElem hlt)).trans (hv'.2 i _ v2 (List.getElem?_eq_getElem hlt) g2)
      | mapS es es' bs clk hk hv =>
        cases k3 with
        | same => exact .mapS _ _ _ _ hk hv
        | map _ es2 hk' hv' =>
          refine .mapS _ _ _ _ (hk.trans hk') ⟨hv.1.trans hv'.1, fun i v v2 g1 g2 => ?_⟩
          have hlt : i < (es'.map (·.2)).length := by rw [← hv.1]; exact (List.getElem?_eq_some_iff.1 g1).1
          exact (hv.2 i v _ g1 (List.getElem?_eq_getElem hlt)).trans (hv'.2 i _ v2 (List.getElem?_eq_getElem hlt) g2)
theorem Wkn.trans {env env' : Env} {H H' : Heap} {K : Env → Heap → Prop} (h1 : ∀ t, Wk (env t) (env' t)) (h2 : HWk H H') (h : Wkn env' H' K) : Wkn env H K := .weak h1 h2 h
theorem Wkn.bind {env : Env} {H : Heap} {K K' : Env → Heap → Prop} (h : Wkn env H K) (hk : ∀ e H, K e H → Wkn e H K') : Wkn env H K' := by
  induction h with
  | here h => exact hk _ _ h
  | weak h1 h2 _ ih => exact .weak h1 h2 (ih hk)
  | base hs hH ho _ ih => exact .base hs hH ho fun id' h0 hn => ih id' h0 hn hk
  | nilx hs _ _ ih1 ih2 => exact .nilx hs (ih1 hk) (ih2 hk)
  | capx hs _ ih => exact .capx hs fun cap hc => ih cap hc hk
theorem Has.wk {H : Heap} {L L' : List Ob} (h : Has H L) {id : Nat} {o o' : HObj} (h0 : id ≠ 0) (hu : Upd (id, o) [(id, o')] L L') (hw : OWk o o') : ∃ H', HWk H H' ∧ Has H' L' :=
  ⟨H.set id o', HWk.set (h.get hu.at h0) hw, h.set h0 hu⟩
theorem CEnds.obj {Q : V → List Ob → Prop} {v : V} {H : Heap} {L L' : List Ob} (hh : Has H L) {id : Nat} {cs cs' : List V} (hu : Upd (id, .cells true cs) [(id, .cells true cs')] L L') (hw : Wkp cs cs') (hc : cs ≠ [])
    (k : ∀ H', Has H' L' → CEnds Q v H') : CEnds Q v H := by
  obtain ⟨H', h1, h2⟩ := hh.wk (hh.ne0 hu.at hc) hu (.cells _ _ hw)
  obtain ⟨v2, L2, H2, g1, g2, g3, g4⟩ := k H' h2
  exact ⟨v2, L2, H2, g1, h1.trans g2, g3, g4⟩

theorem Wkp.pre (cs cs' : List V) : Wkp (cs ++ cs') cs := ⟨by simp, fun k v v' h h' => by
  have := (List.getElem?_eq_some_iff.1 h').1
  rw [List.getElem?_append_left this] at h
  rw [h] at h'; cases h'; exact Wk.refl v⟩
theorem Wks.wkp {cs cs' : List V} (h : Wks cs cs') : Wkp cs cs' := ⟨Nat.le_of_eq h.1.symm, h.2⟩
theorem CEnds.cut {Q : V → List Ob → Prop} {v : V} {H : Heap} {L L' : List Ob} (hh : Has H L) {id : Nat} {cs cs' : List V} (hu : Upd (id, .cells true (cs ++ cs')) [(id, .cells true cs)] L L') (hc : cs ++ cs' ≠ []) (k : ∀ H', Has H' L' → CEnds Q v H') : CEnds Q v H :=
  CEnds.obj hh hu (Wkp.pre cs cs') hc k
theorem C.wk {P : Program} {c : C} {Q : Ex → Env → Heap → Prop} {env env' : Env} {H H' : Heap} (h1 : ∀ t, Wk (env t) (env' t)) (h2 : HWk H H') (h : c.wp P Q env' H') : c.wp P Q env H := by
  cases c <;> exact Wkn.trans h1 h2 h

theorem F.mono {P : Program} {cf : F} {args : List V} {H : Heap} {Q Q' : V → Heap → Prop} (hq : ∀ v H, Q v H → Q' v H) (h : cf.wp P args H Q) : cf.wp P args H Q' :=
  C.mono (fun _ _ _ ⟨h1, vs, h2, h3⟩ => ⟨h1, vs, h2, hq _ _ h3⟩) h

theorem CallsL.intro {P : Program} (hm : P.follows .mixedOrders = true) {f : FuncId} {fn : Func} (hf : P.funcs[f]? = some fn) {cf : F} (hc : compF P fn = some cf) {args : List V} (hlen : args.length ≤ cf.n) {L : List Ob} {Q : V → List Ob → Prop}
    (hk : ∀ H, Has H L → cf.wp P args H (CEnds Q)) : CallsL P f args L Q :=
  fun H hh => CallsC.wkRes (F.sound hm hf hc hlen (F.mono (fun _ _ ⟨v', L', H2, h1, h2, h3, h4⟩ => ⟨v', H2, h1, h2, L', h3, h4⟩) (hk H hh)))

def kSeq (P : Program) (b : C) (Q : Ex → Env → Heap → Prop) : Ex → Env → Heap → Prop := fun x env H => match x with
  | .normal => b.wp P Q env H
  | x => Q x env H
def kBlk (id : Nat) (Q : Ex → Env → Heap → Prop) : Ex → Env → Heap → Prop := fun x env H => match x with
  | .exit j => (bif Nat.beq j id then Q .normal env H else Q (.exit j) env H)
  | x => Q x env H
def kLoop (J : Env → Heap → Prop) (Q : Ex → Env → Heap → Prop) : Ex → Env → Heap → Prop := fun x env H => match x with
  | .normal => Wkn env H J
  | x => Q x env H
def kEnd (res : List Res) (Q : V → Heap → Prop) : Ex → Env → Heap → Prop := fun x env H => (x = .normal ∨ x = .ret) ∧ ∃ vs, res.mapM (Res.ev env H) = some vs ∧ Q (retV vs) H

section
variable {P : Program} {env : Env} {H : Heap} {Q : Ex → Env → Heap → Prop} {L : List Ob}

theorem f_start {f : F} {args : List V} {Q : V → Heap → Prop} {res : List Res} (hr : f.res = res) {c : C} (hb : f.body = c) (h : c.wp P (kEnd res Q) (env0 args) H) : f.wp P args H Q := by
  subst hr hb; exact h
theorem f_ret1 {n : Nat} {Q : V → Heap → Prop} {v : V} (hv : env n = v) (hq : Q v H) : kEnd [.t n] Q .ret env H := ⟨.inr rfl, [v], by subst hv; rfl, hq⟩
theorem f_ret2 {n m : Nat} {Q : V → Heap → Prop} {v v' : V} (hv : env n = v) (hv' : env m = v') (hq : Q (.tup [v, v']) H) : kEnd [.t n, .t m] Q .ret env H := ⟨.inr rfl, [v, v'], by subst hv hv'; rfl, hq⟩
theorem res_nil : ([] : List Res).mapM (Res.ev env H) = some [] := rfl
theorem res_cons {r : Res} {rs : List Res} {v : V} {vs : List V} (h : r.ev env H = some v) (t : rs.mapM (Res.ev env H) = some vs) : (r :: rs).mapM (Res.ev env H) = some (v :: vs) := by
  simp [List.mapM_cons, h, t]

theorem c_skip (h : Q .normal env H) : C.wp P .skip Q env H := .here h
theorem c_ops {l : List I} (h : wpOps P l env H (Q .normal)) : C.wp P (.ops l) Q env H := .here h
theorem c_seq {a b : C} (h : a.wp P (kSeq P b Q) env H) : C.wp P (.seq a b) Q env H := .here h
theorem c_block {id : Nat} {a : C} (h : a.wp P (kBlk id Q) env H) : C.wp P (.block id a) Q env H := .here h
theorem c_exit {id : Nat} (h : Q (.exit id) env H) : C.wp P (.exit id) Q env H := .here h
theorem c_ret (h : Q .ret env H) : C.wp P .ret Q env H := .here h
theorem c_cond_t {x : X} {a b : C} (hx : x.ev env = .bool true) (h : a.wp P Q env H) : C.wp P (.cond x a b) Q env H := .here (by simp only [hx, bcond]; exact h)
theorem c_cond_f {x : X} {a b : C} (hx : x.ev env = .bool false) (h : b.wp P Q env H) : C.wp P (.cond x a b) Q env H := .here (by simp only [hx, bcond]; exact h)
theorem c_cond {x : X} {a b : C} {c : Bool} (hx : x.ev env = .bool c) (ht : c = true → a.wp P Q env H) (hf : c = false → b.wp P Q env H) : C.wp P (.cond x a b) Q env H := by
  cases c with
  | true => exact c_cond_t hx (ht rfl)
  | false => exact c_cond_f hx (hf rfl)

theorem k_seq_n {b : C} (h : b.wp P Q env H) : kSeq P b Q .normal env H := h
theorem k_seq_e {b : C} {j : Nat} (h : Q (.exit j) env H) : kSeq P b Q (.exit j) env H := h
theorem k_seq_r {b : C} (h : Q .ret env H) : kSeq P b Q .ret env H := h
theorem k_blk_n {id : Nat} (h : Q .normal env H) : kBlk id Q .normal env H := h
theorem k_blk_x {id : Nat} (h : Q .normal env H) : kBlk id Q (.exit id) env H := by
  simp only [kBlk, Nat.beq_refl, cond_true]; exact h
theorem k_blk_e {id j : Nat} (hne : Nat.beq j id = false) (h : Q (.exit j) env H) : kBlk id Q (.exit j) env H := by
  simp only [kBlk, hne, cond_false]; exact h
theorem k_blk_r {id : Nat} (h : Q .ret env H) : kBlk id Q .ret env H := h
theorem k_loop_n {J : Env → Heap → Prop} (h : J env H) : kLoop J Q .normal env H := .here h
theorem k_loop_e {J : Env → Heap → Prop} {j : Nat} (h : Q (.exit j) env H) : kLoop J Q (.exit j) env H := h
theorem k_loop_r {J : Env → Heap → Prop} (h : Q .ret env H) : kLoop J Q .ret env H := h

def puts : List Nat → List V → Env → Env
  | s :: ss, v :: vs, e => Env.put (puts ss vs e) (some s) v
  | _, _, e => e

theorem puts_wk : ∀ {sl : List Nat} {vs : List V} {env : Env}, Wks (sl.map env) vs → ∀ t, Wk (env t) (puts sl vs env t)
  | [], vs, env, _, t => by cases vs <;> exact Wk.refl _
  | s :: ss, [], env, h, t => by simp [Wks] at h
  | s :: ss, v :: vs, env, h, t => by
    have h1 : Wk (env s) v := h.2 0 _ _ rfl rfl
    have h2 : Wks (ss.map env) vs := ⟨by have := h.1; simpa using this, fun k a b ha hb => h.2 (k + 1) a b (by simpa using ha) (by simpa using hb)⟩
    simp only [puts, Env.put]
    cases ht : Nat.beq t s with
    | true => rw [Nat.eq_of_beq_eq_true ht]; exact h1
    | false => exact puts_wk h2 t

theorem c_loop {a : C} (sl : List Nat) (I : Nat → List V → Heap → Prop) (n : Nat) (h0 : ∃ vs H', Wks (sl.map env) vs ∧ HWk H H' ∧ I n vs H')
    (step : ∀ (n : Nat) (vs : List V) (e : Env) (H : Heap), I n vs H → a.wp P (kLoop (fun env' H' => ∃ m vs' H2, m < n ∧ Wks (sl.map env') vs' ∧ HWk H' H2 ∧ I m vs' H2) Q) (puts sl vs e) H) : C.wp P (.loop a) Q env H := by
  obtain ⟨vs, H', hw, hh, h0⟩ := h0
  refine .weak (puts_wk hw) hh (.here ?_)
  intro J hJ
  have key : ∀ (n : Nat) (vs : List V) (e : Env) (H : Heap), I n vs H → J (puts sl vs e) H := by
    intro n
    induction n using Nat.strongRecOn with
    | _ n ih =>
      intro vs e H h0
      refine hJ _ H (C.mono ?_ (step n vs e H h0))
      intro x env' H' hk
      cases x with
      | normal =>
        exact Wkn.bind hk fun e1 H1 ⟨m, vs', H2, hm, g3, g4, g5⟩ => .weak (puts_wk g3) g4 (.here (ih m hm vs' e1 H2 g5))
      | exit j => exact hk
      | ret => exact hk
  exact key n vs env H' h0

theorem c_slot {c : C} {s : Nat} {v : V} (hs : env s = v) (h : c.wp P Q (env.put (some s) v) H) : c.wp P Q env H := by
  have : env.put (some s) v = env := by
    funext t
    simp only [Env.put]
    cases ht : Nat.beq t s with
    | true => rw [Nat.eq_of_beq_eq_true ht, hs]; rfl
    | false => rfl
  rwa [this] at h

variable {K : Env → Heap → Prop} {d : Option Nat} {x : Kx} {is : List I}

theorem wps_nil (h : K env H) : wpOps P [] env H K := h
theorem wps_slot {l : List I} {s : Nat} {v : V} (hs : env s = v) (h : wpOps P l (env.put (some s) v) H K) : wpOps P l env H K := by
  have : env.put (some s) v = env := by
    funext t
    simp only [Env.put]
    cases ht : Nat.beq t s with
    | true => rw [Nat.eq_of_beq_eq_true ht, hs]; rfl
    | false => rfl
  rwa [this] at h
theorem wps_rd {r : R} {v : V} (h : r.ev env H = some v) (k : wpOps P is (env.put d v) H K) : wpOps P (⟨d, .rd r, none, x⟩ :: is) env H K :=
  ⟨v, h, Kx.refl, k⟩
theorem wps_rda {r : R} {l l' : List V} (h : r.ev env H = some (.agg l)) (hl : l = l') (k : wpOps P is (env.put d (.agg l')) H K) : wpOps P (⟨d, .rd r, none, x⟩ :: is) env H K :=
  wps_rd h (hl ▸ k)
theorem wps_gt {o : O} {s : Nat} {b : Bool} (h : env s = .bool b) (k : wpOps P (⟨d, o, none, x⟩ :: is) env H K) : wpOps P (⟨d, o, some (s, b), x⟩ :: is) env H K := by
  simp only [wpOps, I.wp, h, gcond, beq_self_eq_true, cond_true]; exact k
theorem wps_gf {o : O} {s : Nat} {b : Bool} (h : env s = .bool (!b)) (k : wpOps P is (env.put d V.undef) H K) : wpOps P (⟨d, o, some (s, b), x⟩ :: is) env H K := by
  simp only [wpOps, I.wp, h, gcond]
  cases b <;> exact k
theorem wps_gu {o : O} {s : Nat} {b : Bool} (h : env s = V.undef) (k : wpOps P is (env.put d V.undef) H K) : wpOps P (⟨d, o, some (s, b), x⟩ :: is) env H K := by
  simp only [wpOps, I.wp, h, V.undef, gcond]; exact k
theorem wps_split {l : List I} (s : Nat) {c : Bool} (h : env s = .bool c) (ht : c = true → wpOps P l (env.put (some s) (.bool true)) H K) (hf : c = false → wpOps P l (env.put (some s) (.bool false)) H K) : wpOps P l env H K := by
  cases c with
  | true => exact wps_slot h (ht rfl)
  | false => exact wps_slot h (hf rfl)
theorem wps_gs {o : O} {s : Nat} {b c : Bool} (h : env s = .bool c) (ht : c = true → wpOps P (⟨d, o, some (s, b), x⟩ :: is) (env.put (some s) (.bool true)) H K)
    (hf : c = false → wpOps P (⟨d, o, some (s, b), x⟩ :: is) (env.put (some s) (.bool false)) H K) : wpOps P (⟨d, o, some (s, b), x⟩ :: is) env H K := wps_split s h ht hf
theorem wps_pk {s : Nat} {a b : X} {c : Bool} (h : env s = .bool c) (ht : c = true → wpOps P (⟨d, .rd (.pick (.t s) a b), none, x⟩ :: is) (env.put (some s) (.bool true)) H K)
    (hf : c = false → wpOps P (⟨d, .rd (.pick (.t s) a b), none, x⟩ :: is) (env.put (some s) (.bool false)) H K) : wpOps P (⟨d, .rd (.pick (.t s) a b), none, x⟩ :: is) env H K := wps_split s h ht hf
theorem cells_ne {cs : List V} {off : Nat} {v : V} (h : cs[off]? = some v) : cs ≠ [] := fun e => by subst e; simp at h
theorem getCells_ne {cs vs : List V} {off n : Nat} (h : getCells cs off (n + 1) = some vs) : cs ≠ [] := fun e => by
  subst e
  have : Nat.ble (off + (n + 1)) ([] : List V).length = false := Bool.eq_false_iff.2 fun hb => by have := Nat.le_of_ble_eq_true hb; simp at this
  simp only [getCells, this, cond_false] at h; cases h
theorem wps_ld (hh : Has H L) {a : X} {id off : Nat} {b : Bool} {cs : List V} {v : V} (ha : a.ev env = .ptr id off) (hi : At (id, .cells b cs) L) (hv : cs[off]? = some v) (k : wpOps P is (env.put d v) H K) :
    wpOps P (⟨d, .rd (.load1 a), none, x⟩ :: is) env H K :=
  wps_rd (by simp only [R.ev, ha, hh.getc hi.mem (cells_ne hv)]; exact hv) k
theorem wps_ldn (hh : Has H L) {a : X} {id off n : Nat} {b : Bool} {cs vs vs' : List V} (ha : a.ev env = .ptr id off) (hi : At (id, .cells b cs) L) (hv : getCells cs off (n + 1) = some vs) (hl : vs = vs') (k : wpOps P is (env.put d (.agg vs')) H K) :
    wpOps P (⟨d, .rd (.loadn (n + 1) a), none, x⟩ :: is) env H K :=
  wps_rd (by simp only [R.ev, ha, hh.getc hi.mem (getCells_ne hv), hv, hl]) k
theorem getCells_all {cs : List V} {n : Nat} (h : cs.length = n) : getCells cs 0 n = some cs := by
  subst h
  have : Nat.ble (0 + cs.length) cs.length = true := Nat.ble_eq_true_of_le (by omega)
  simp only [getCells, this, cond_true, List.drop_zero, List.take_length]
theorem wps_lda (hh : Has H L) {a : X} {id n : Nat} {b : Bool} {cs : List V} (ha : a.ev env = .ptr id 0) (hi : At (id, .cells b cs) L) (hv : cs.length = n + 1) (k : wpOps P is (env.put d (.agg cs)) H K) :
    wpOps P (⟨d, .rd (.loadn (n + 1) a), none, x⟩ :: is) env H K :=
  wps_ldn hh ha hi (getCells_all hv) rfl k
theorem wps_lenMap (hh : Has H L) {a : X} {id : Nat} {es : List (V × V)} (ha : a.ev env = .map id) (hi : At (id, .map es) L) (k : wpOps P is (env.put d (.int .i64 es.length)) H K) :
    wpOps P (⟨d, .rd (.lenMap a), none, x⟩ :: is) env H K :=
  wps_rd (by simp only [R.ev, ha, hh.getm hi.mem]) k
theorem wps_alloc (hh : Has H L) {z : List V} (k : ∀ id H', Has H' ((id, .cells true z) :: L) → wpOps P is (env.put d (.ptr id 0)) H' K) : wpOps P (⟨d, .ef (.alloc z), none, x⟩ :: is) env H K :=
  fun id h0 hid => ⟨Kx.le (Heap.le_set _ hid), k id _ (hh.new h0 hid)⟩
theorem wps_box (hh : Has H L) {y : X} {v : V} (hy : y.ev env = v) (ht : v.isTup = false) {cs : List V} (hc : v.cells = cs) (k : ∀ id H', Has H' ((id, .cells true cs) :: L) → wpOps P is (env.put d (.ptr id 0)) H' K) : wpOps P (⟨d, .ef (.box y), none, x⟩ :: is) env H K := by
  subst hy hc
  exact ⟨ht, fun id h0 hid => ⟨Kx.le (Heap.le_set _ hid), k id _ (hh.new h0 hid)⟩⟩
theorem wps_lit (hh : Has H L) {esz len : Nat} {z cs cs' : List V} {ps : List (Nat × Nat × X)} (hf : fillV env z ps = some cs) (hl : cs = cs') (k : ∀ id H', Has H' ((id, .cells true cs') :: L) → wpOps P is (env.put d (.slice id 0 len esz)) H' K) : wpOps P (⟨d, .ef (.lit esz len z ps), none, x⟩ :: is) env H K := by
  subst hl
  exact ⟨cs, hf, .inl fun id h0 hid => ⟨Kx.le (Heap.le_set _ hid), k id _ (hh.new h0 hid)⟩⟩
theorem splice_all {cs vs : List V} (h : cs.length = vs.length) : splice cs 0 vs = vs := by
  simp [splice, ← h]
theorem fill1 {sz : Nat} {z cs : List V} {y : X} {v : V} (hy : y.ev env = v) (ht : v.isTup = false) (hc : v.cells = cs) (hn : cs.length = sz) (hz : z.length = sz) : fillV env z [(0, sz, y)] = some cs := by
  subst hy hc
  have h1 : Nat.beq (y.ev env).cells.length sz = true := by rw [hn]; exact Nat.beq_refl _
  have h2 : Nat.ble (0 + sz) z.length = true := Nat.ble_eq_true_of_le (by omega)
  simp only [fillV, ht, h1, h2, Bool.not_true, Bool.or_false, cond_false]
  rw [splice_all (by omega)]
theorem wps_lit1 (hh : Has H L) {esz sz : Nat} {z cs : List V} {y : X} {v : V} (hy : y.ev env = v) (ht : v.isTup = false) (hc : v.cells = cs) (hn : cs.length = sz) (hz : z.length = sz)
    (k : ∀ id H', Has H' ((id, .cells true cs) :: L) → wpOps P is (env.put d (.slice id 0 1 esz)) H' K) : wpOps P (⟨d, .ef (.lit esz 1 z [(0, sz, y)]), none, x⟩ :: is) env H K :=
  wps_lit hh (fill1 hy ht hc hn hz) rfl k
theorem wps_mkMap (hh : Has H L) (k : ∀ id H', Has H' ((id, .map []) :: L) → wpOps P is (env.put d (.map id)) H' K) : wpOps P (⟨d, .ef .mkMap, none, x⟩ :: is) env H K :=
  fun id h0 hid => ⟨Kx.le (Heap.le_set _ hid), k id _ (hh.new h0 hid)⟩
theorem wps_store (hh : Has H L) {n : Nat} {a y : X} {id off : Nat} {cs cs' vs : List V} {v : V} {L' : List Ob} (ha : a.ev env = .ptr id off) (hy : y.ev env = v) (ht : v.isTup = false) (hc : v.cells = vs) (hn : vs.length = n + 1)
    (hu : Upd (id, .cells true cs) [(id, .cells true cs')] L L') (hb : off + (n + 1) ≤ cs.length) (hs : splice cs off vs = cs') (k : ∀ H', Has H' L' → wpOps P is (env.put d V.undef) H' K) : wpOps P (⟨d, .ef (.store (n + 1) a y), none, .no⟩ :: is) env H K := by
  subst hy hc hs
  have hne : cs ≠ [] := fun e => by subst e; simp at hb
  exact ⟨id, off, cs, ha, hh.getc hu.at hne, ht, hn, hb, ⟨trivial, k _ (hh.set (hh.ne0 hu.at hne) hu)⟩⟩
theorem sp_nil {α : Type} {l : List α} (h : l = []) : l = [] := h
theorem sp_cons {α : Type} {l l1 l1' : List α} {a a' : α} (h : l = a :: l1) (ha : a = a') (t : l1 = l1') : l = a' :: l1' := by
  subst ha t; exact h
theorem src_slice (hh : Has H L) {id off len esz : Nat} {b : Bool} {cs vs : List V} (hj : At (id, .cells b cs) L) (hg : getCells cs off (len * (esz + 1)) = some vs) : srcCells H (esz + 1) (.slice id off len (esz + 1)) = some (len, vs) := by
  cases len with
  | zero =>
    have := (getCells_some hg).2
    simp [srcCells, this]
  | succ len =>
    refine srcCells_slice (hh.getc hj.mem fun e => ?_) hg
    subst e
    have : (len + 1) * (esz + 1) = (len * (esz + 1) + esz) + 1 := by rw [Nat.succ_mul]; omega
    rw [this] at hg
    exact getCells_ne hg rfl
theorem srcCells_zero {esz : Nat} {v : V} {vs : List V} (hs : srcCells H esz v = some (0, vs)) : vs = [] := by
  cases v with
  | nils => cases hs; rfl
  | slice id off len e =>
    cases hz : Nat.beq len 0 with
    | true => simp only [srcCells, hz, cond_true] at hs; cases hs; rfl
    | false =>
      simp only [srcCells, hz, cond_false] at hs
      split at hs
      · split at hs
        · split at hs
          · cases hs; cases hz
          · cases hs
        · cases hs
      · cases hs
  | sliceC id off len cap e =>
    cases hz : Nat.beq len 0 with
    | true => simp only [srcCells, hz, cond_true] at hs; cases hs; rfl
    | false =>
      simp only [srcCells, hz, cond_false] at hs
      split at hs
      · split at hs
        · split at hs
          · cases hs; cases hz
          · cases hs
        · cases hs
      · cases hs
  | str s =>
    simp only [srcCells] at hs
    split at hs
    · cases s with
      | nil => cases hs; rfl
      | cons => simp at hs
    · cases hs
  | _ => cases hs
theorem wps_app (hh : Has H L) {esz bytes m id len : Nat} {a y : X} {cs vs : List V} {L' : Nat → List Ob} (ha : a.ev env = .slice id 0 len (esz + 1)) (hu : ∀ id', Upd (id, .cells true cs) [(id', .cells true (cs ++ vs))] L (L' id')) (hs : srcCells H (esz + 1) (y.ev env) = some (m, vs))
    (hl : cs.length = len * (esz + 1)) (hb : (len + m) * bytes ≤ 140737488355328)
    (k : ∀ id' H', Has H' (L' id') → wpOps P is (env.put d (.slice id' 0 (len + m) (esz + 1))) H' K) : wpOps P (⟨d, .ef (.app (esz + 1) bytes a y), none, .no⟩ :: is) env H K := by
  refine ⟨m, vs, hs, .inr ?_⟩
  by_cases h0 : id = 0
  · subst h0
    obtain ⟨b, hz⟩ := hh.zero _ (hu 0).at rfl
    cases hz
    have hlen : len = 0 := by
      cases len with
      | zero => rfl
      | succ n => rw [Nat.succ_mul] at hl; simp at hl
    subst hlen
    simp only [Nat.zero_add, List.nil_append] at *
    refine .inl ⟨0, esz + 1, ha, hb, ?_⟩
    cases hm : Nat.beq m 0 with
    | false => exact fun id' h0' hid => ⟨trivial, k id' _ (hh.born h0' (hu id') hid)⟩
    | true =>
      have := Nat.eq_of_beq_eq_true hm
      subst this
      refine ⟨trivial, k 0 H ?_⟩
      have hvs : vs = [] := srcCells_zero hs
      subst hvs
      exact hh.upd (hu 0) fun R h => h
  · have hset : (cs.drop 0).take (len * (esz + 1)) ++ vs = cs ++ vs := by rw [← hl]; simp
    by_cases hne : cs = []
    · subst hne
      have hlen : len = 0 := by
        cases len with
        | zero => rfl
        | succ n => rw [Nat.succ_mul] at hl; simp at hl
      subst hlen
      refine .inr (.inl ⟨id, 0, 0, [], ha, hh.get (hu id).at h0, by simp, hb, fun id' h0' hid => ⟨trivial, k id' _ ?_⟩⟩)
      simpa using hh.move h0 h0' (hu id') hid
    · refine .inr (.inl ⟨id, 0, len, cs, ha, hh.get (hu id).at h0, by omega, hb, fun id' h0' hid => ⟨trivial, k id' _ ?_⟩⟩)
      rw [hset]
      exact hh.move h0 h0' (hu id') hid
theorem wps_lookF (hh : Has H L) {kt : KT} {z : V} {ok : Bool} {m y : X} {id i : Nat} {es : List (V × V)} {e : V × V} (hm : m.ev env = .map id) (hi : At (id, .map es) L) (hf : findI kt (y.ev env) es = some (some i)) (he : es[i]? = some e) (k : wpOps P is (env.put d (bif ok then .tup [e.2, .bool true] else e.2)) H K) :
    wpOps P (⟨d, .rd (.lookup kt z ok m y), none, x⟩ :: is) env H K :=
  wps_rd (by simp only [R.ev, hm, hh.getm hi.mem, hf, he]) k
theorem wps_lookN (hh : Has H L) {kt : KT} {z : V} {ok : Bool} {m y : X} {id : Nat} {es : List (V × V)} (hm : m.ev env = .map id) (hi : At (id, .map es) L) (hf : findI kt (y.ev env) es = some none) (k : wpOps P is (env.put d (bif ok then .tup [z, .bool false] else z)) H K) :
    wpOps P (⟨d, .rd (.lookup kt z ok m y), none, x⟩ :: is) env H K :=
  wps_rd (by simp only [R.ev, hm, hh.getm hi.mem, hf]) k
theorem wps_put (hh : Has H L) {kt : KT} {m y v : X} {id : Nat} {es es' : List (V × V)} {r : Option Nat} {L' : List Ob} (hm : m.ev env = .map id) (ht : (v.ev env).isTup = false) (hf : findI kt (y.ev env) es = some r) (he : putE (y.ev env) (v.ev env) es r = es') (hu : Upd (id, .map es) [(id, .map es')] L L')
    (k : ∀ H', Has H' L' → wpOps P is (env.put d V.undef) H' K) : wpOps P (⟨d, .ef (.put kt m y v), none, .no⟩ :: is) env H K := by
  subst he
  have h1 := hh.getm hu.at
  have h0 : id ≠ 0 := fun e => by obtain ⟨b', h1⟩ := hh.zero _ hu.at e; cases h1
  exact ⟨id, es, r, hm, h1, ht, hf, ⟨trivial, k _ (hh.set h0 hu)⟩⟩
theorem wps_callR {f : FuncId} {args : List X} {N R : List Ob} {vs : List V} {φ : V → Prop} (hs : CallsR P f vs N φ) (hh : Has H L) (ht : Tk N L R) (ha : args.map (X.ev env) = vs) (k : ∀ v, φ v → wpOps P is (env.put d v) H K) :
    wpOps P (⟨d, .ef (.call f args), none, x⟩ :: is) env H K := by
  subst ha
  refine .inl ((CallsR.reads hs (hh.tk ht)).mono ?_)
  rintro v H' ⟨hq, rfl⟩
  exact ⟨Kx.refl, k v hq⟩
theorem wps_callE {f : FuncId} {args : List X} {N R : List Ob} {vs : List V} {v : V} (hs : CallsR P f vs N fun u => u = v) (hh : Has H L) (ht : Tk N L R) (ha : args.map (X.ev env) = vs) (k : wpOps P is (env.put d v) H K) :
    wpOps P (⟨d, .ef (.call f args), none, x⟩ :: is) env H K :=
  wps_callR hs hh ht ha fun _ h => h ▸ k
theorem wps_call {f : FuncId} {args : List X} {N R : List Ob} {vs : List V} {φ : V → List Ob → Prop} (hs : CallsL P f vs N φ) (hh : Has H L) (ht : Tk N L R) (ha : args.map (X.ev env) = vs)
    (k : ∀ v L' H', φ v L' → Has H' (L' ++ R) → wpOps P is (env.put d v) H' K) : wpOps P (⟨d, .ef (.call f args), none, .no⟩ :: is) env H K := by
  subst ha
  refine .inl ((CallsL.frame hs (hh.tk ht)).mono ?_)
  rintro v H' ⟨L', hq, h1, _⟩
  exact ⟨trivial, k v L' H' hq h1⟩
inductive KpL (env : Env) (R : List Ob) : List (Nat × Nat) → Prop
  | nil : KpL env R []
  | cons {n k id off : Nat} {o : HObj} {l : List (Nat × Nat)} (h : env n = .ptr id off) (ha : At (id, o) R) (t : KpL env R l) : KpL env R ((n, k) :: l)
theorem kR_keep {p : Nat × Nat} {id off : Nat} {H' : Heap} (h : env p.1 = .ptr id off) (hl : ∀ o, H id = some o → H' id = some o) {v : V} (hv : (kR p).ev env H = some v) : (kR p).ev env H' = some v := by
  obtain ⟨n, k⟩ := p
  simp only at h
  cases k with
  | zero =>
    simp only [kR, R.ev, X.ev, h] at hv ⊢
    cases ho : H id with
    | none => rw [ho] at hv; cases hv
    | some o => rw [ho] at hv; rw [hl o ho]; exact hv
  | succ k =>
    simp only [kR, R.ev, X.ev, h] at hv ⊢
    cases ho : H id with
    | none => rw [ho] at hv; cases hv
    | some o => rw [ho] at hv; rw [hl o ho]; exact hv
theorem KpL.keep {N R : List Ob} {H' : Heap} {l : List (Nat × Nat)} (hk : KpL env R l) (hh : Has H (N ++ R)) (h2 : ∀ id o, H id = some o → id ∉ ids N → H' id = some o) : ∀ p ∈ l, ∀ v, (kR p).ev env H = some v → (kR p).ev env H' = some v := by
  induction hk with
  | nil => intro p hp; cases hp
  | @cons n k id off o l h ha t ih =>
    intro p hp v hv
    rcases List.mem_cons.1 hp with rfl | hp
    · refine kR_keep h (fun o ho => h2 id o ho fun hm => ?_) hv
      have hnd := hh.nd
      rw [ids_append, List.nodup_append] at hnd
      exact hnd.2.2 _ hm _ (mem_ids.2 ⟨(mem_ids.1 hm).1, (id, _), ha.mem, rfl⟩) rfl
    · exact ih p hp v hv
theorem wps_callN {f : FuncId} {args : List X} {N R : List Ob} {vs : List V} {φ : V → List Ob → Prop} (hs : CallsN P f vs N φ) (hh : Has H L) (ht : Tk N L R) (ha : args.map (X.ev env) = vs)
    (k : ∀ v Lo H', φ v Lo → Has H' (Lo ++ L) → wpOps P is (env.put d v) H' K) : wpOps P (⟨d, .ef (.call f args), none, x⟩ :: is) env H K := by
  subst ha
  refine .inl ((CallsL.keeps hs (by rintro v L' ⟨Lo, _, rfl⟩ y hy; exact List.mem_append_right _ hy) (hh.tk ht)).mono ?_)
  rintro v H' ⟨_, ⟨Lo, hq, rfl⟩, h1, h2⟩
  refine ⟨Kx.le h2, k v Lo H' hq ?_⟩
  rw [List.append_assoc] at h1
  exact h1.perm (ht.perm.symm.append_left Lo)
theorem wps_vcallE {y : X} {f : FuncId} {cap : List V} {args : List X} {N R : List Ob} {vs : List V} {v : V} (hy : y.ev env = .func f cap) (hs : CallsR P f vs N fun u => u = v) (hh : Has H L) (ht : Tk N L R) (ha : args.map (X.ev env) ++ cap = vs) (k : wpOps P is (env.put d v) H K) :
    wpOps P (⟨d, .ef (.callv y args), none, x⟩ :: is) env H K := by
  subst ha
  refine .inl ⟨f, cap, hy, (CallsR.reads hs (hh.tk ht)).mono ?_⟩
  rintro v H' ⟨rfl, rfl⟩
  exact ⟨Kx.refl, k⟩
theorem wps_ia {esz : Nat} {y i : X} {id len : Nat} {ki : IntKind} {n : Int} (hx : y.ev env = .slice id 0 len esz) (hi : i.ev env = .int ki n) (hb : 0 ≤ n ∧ n < (len : Int)) (k : wpOps P is (env.put d (.ptr id (n.toNat * esz))) H K) :
    wpOps P (⟨d, .rd (.iaddrS esz y i), none, x⟩ :: is) env H K :=
  wps_rd (by simp only [R.ev, hx, hi]; rw [if_pos ⟨hb.1, hb.2, trivial⟩, Nat.zero_add]) k
theorem wps_iac {esz : Nat} {y i : X} {id off len : Nat} {ki : IntKind} {n : Int} (hx : y.ev env = .slice id off len esz) (hi : i.ev env = .int ki n) (hb : 0 ≤ n ∧ n < (len : Int)) (k : wpOps P is (env.put d (.ptr id (off + n.toNat * esz))) H K) :
    wpOps P (⟨d, .rd (.iaddrS esz y i), none, x⟩ :: is) env H K :=
  wps_rd (by simp only [R.ev, hx, hi]; rw [if_pos ⟨hb.1, hb.2, trivial⟩]) k
theorem wps_iaa {len esz : Nat} {y i : X} {id off : Nat} {ki : IntKind} {n : Int} (hx : y.ev env = .ptr id off) (hi : i.ev env = .int ki n) (hb : 0 ≤ n ∧ n < (len : Int)) (k : wpOps P is (env.put d (.ptr id (off + n.toNat * esz))) H K) :
    wpOps P (⟨d, .rd (.iaddrA len esz y i), none, x⟩ :: is) env H K :=
  wps_rd (by simp only [R.ev, hx, hi]; rw [if_pos ⟨hb.1, hb.2⟩]) k
theorem wrap64 {n : Int} (h : -9223372036854775808 ≤ n ∧ n ≤ 9223372036854775807) : IntKind.i64.wrap n = n := by
  simp only [IntKind.wrap, IntKind.signed, IntKind.bits]
  simp
  omega
theorem wps_add {y z : X} {a b : Int} (hy : y.ev env = .int .i64 a) (hz : z.ev env = .int .i64 b) (hb : -9223372036854775808 ≤ a + b ∧ a + b ≤ 9223372036854775807) (k : wpOps P is (env.put d (.int .i64 (a + b))) H K) : wpOps P (⟨d, .rd (.bin .add y z), none, x⟩ :: is) env H K :=
  wps_rd (by simp only [R.ev, hy, hz, binV, wrap64 hb, if_true]) k
theorem wps_sub {y z : X} {a b : Int} (hy : y.ev env = .int .i64 a) (hz : z.ev env = .int .i64 b) (hb : -9223372036854775808 ≤ a - b ∧ a - b ≤ 9223372036854775807) (k : wpOps P is (env.put d (.int .i64 (a - b))) H K) : wpOps P (⟨d, .rd (.bin .sub y z), none, x⟩ :: is) env H K :=
  wps_rd (by simp only [R.ev, hy, hz, binV, wrap64 hb, if_true]) k
theorem wps_mul {y z : X} {a b : Int} (hy : y.ev env = .int .i64 a) (hz : z.ev env = .int .i64 b) (hb : -9223372036854775808 ≤ a * b ∧ a * b ≤ 9223372036854775807) (k : wpOps P is (env.put d (.int .i64 (a * b))) H K) : wpOps P (⟨d, .rd (.bin .mul y z), none, x⟩ :: is) env H K :=
  wps_rd (by simp only [R.ev, hy, hz, binV, wrap64 hb, if_true]) k
theorem wps_quo {y z : X} {a b : Int} (hy : y.ev env = .int .i64 a) (hz : z.ev env = .int .i64 b) (hb : 0 ≤ a ∧ a ≤ 9223372036854775807 ∧ 0 < b) (k : wpOps P is (env.put d (.int .i64 (a / b))) H K) : wpOps P (⟨d, .rd (.bin .quo y z), none, x⟩ :: is) env H K := by
  refine wps_rd ?_ k
  have h1 : ¬ b = 0 := by omega
  have h2 : a / b ≤ a := Int.ediv_le_self b hb.1
  have h3 : 0 ≤ a / b := Int.ediv_nonneg hb.1 (by omega)
  simp only [R.ev, hy, hz, binV, if_true, if_neg h1, Int.tdiv_eq_ediv_of_nonneg hb.1, wrap64 (show -9223372036854775808 ≤ a / b ∧ a / b ≤ 9223372036854775807 by omega)]
theorem wps_rem {y z : X} {k' : IntKind} {a b : Int} (hy : y.ev env = .int k' a) (hz : z.ev env = .int k' b) (hb : 0 ≤ a ∧ 0 < b) (k : wpOps P is (env.put d (.int k' (a % b))) H K) : wpOps P (⟨d, .rd (.bin .rem y z), none, x⟩ :: is) env H K := by
  refine wps_rd ?_ k
  have h1 : ¬ b = 0 := by omega
  simp only [R.ev, hy, hz, binV, if_true, if_neg h1, Int.tmod_eq_emod_of_nonneg hb.1]
theorem wps_eq {c : EqC} {y z : X} {b : Bool} (h : eqV c (y.ev env) (z.ev env) = some b) (k : wpOps P is (env.put d (.bool b)) H K) : wpOps P (⟨d, .rd (.eq c false y z), none, x⟩ :: is) env H K :=
  wps_rd (by simp only [R.ev, h, cond_false]) k
theorem wps_ne {c : EqC} {y z : X} {b : Bool} (h : eqV c (y.ev env) (z.ev env) = some b) (k : wpOps P is (env.put d (.bool (!b))) H K) : wpOps P (⟨d, .rd (.eq c true y z), none, x⟩ :: is) env H K :=
  wps_rd (by simp only [R.ev, h, cond_true]) k
theorem wps_is {y i : X} {s : List UInt8} {ki : IntKind} {n : Int} (hx : y.ev env = .str s) (hi : i.ev env = .int ki n) (hb : 0 ≤ n ∧ n < (s.length : Int)) (k : wpOps P is (env.put d (.int .u8 (s.getD n.toNat 0).toNat)) H K) :
    wpOps P (⟨d, .rd (.idxStr y i), none, x⟩ :: is) env H K := by
  refine wps_rd ?_ k
  have : n.toNat < s.length := by omega
  simp only [R.ev, hx, hi, if_pos hb.1, List.getElem?_eq_getElem this, List.getD_eq_getElem?_getD, Option.getD_some]
theorem bndn {y z : Nat} : boundV none z y = some z := rfl
theorem bnd {v : Option V} {y z : Nat} {k : IntKind} {n : Int} (hv : v = some (.int k n)) (h : 0 ≤ n ∧ n ≤ (y : Int)) : boundV v z y = some n.toNat := by
  subst hv
  simp only [boundV]; rw [if_pos h]
theorem wps_cs00 {y : X} {s : List UInt8} (hx : y.ev env = .str s) (k : wpOps P is (env.put d (.str s)) H K) : wpOps P (⟨d, .rd (.cutStr y none none), none, x⟩ :: is) env H K :=
  wps_rd (by simp [R.ev, hx, boundV]) k
theorem wps_cs01 {y h : X} {s : List UInt8} {kh : IntKind} {n : Int} (hx : y.ev env = .str s) (hh : h.ev env = .int kh n) (hb : 0 ≤ n ∧ n ≤ (s.length : Int)) (k : wpOps P is (env.put d (.str (s.take n.toNat))) H K) : wpOps P (⟨d, .rd (.cutStr y none (some h)), none, x⟩ :: is) env H K :=
  wps_rd (by simp only [R.ev, hx, Option.map_some, bnd (congrArg some hh) hb]; simp [boundV]) k
theorem wps_cs10 {y l : X} {s : List UInt8} {kl : IntKind} {n : Int} (hx : y.ev env = .str s) (hl : l.ev env = .int kl n) (hb : 0 ≤ n ∧ n ≤ (s.length : Int)) (k : wpOps P is (env.put d (.str (s.drop n.toNat))) H K) : wpOps P (⟨d, .rd (.cutStr y (some l) none), none, x⟩ :: is) env H K :=
  wps_rd (by simp only [R.ev, hx, Option.map_some, Option.map_none, bndn, bnd (congrArg some hl) hb]; simp) k
theorem wps_cs11 {y l h : X} {s : List UInt8} {kl kh : IntKind} {n m : Int} (hx : y.ev env = .str s) (hl : l.ev env = .int kl n) (hh : h.ev env = .int kh m) (hb : 0 ≤ n ∧ n ≤ m ∧ m ≤ (s.length : Int)) (k : wpOps P is (env.put d (.str ((s.take m.toNat).drop n.toNat))) H K) : wpOps P (⟨d, .rd (.cutStr y (some l) (some h)), none, x⟩ :: is) env H K :=
  wps_rd (by simp only [R.ev, hx, Option.map_some, bnd (congrArg some hh) (show 0 ≤ m ∧ m ≤ ((s.length : Nat) : Int) by omega), bnd (congrArg some hl) (show 0 ≤ n ∧ n ≤ ((m.toNat : Nat) : Int) by omega)]) k
theorem wps_cl00 {y : X} {id off len esz : Nat} (hx : y.ev env = .slice id off len esz) (k : wpOps P is (env.put d (.slice id off len esz)) H K) : wpOps P (⟨d, .rd (.cutSl esz y none none), none, x⟩ :: is) env H K :=
  wps_rd (by simp [R.ev, hx, boundV]) k
theorem wps_cl01 {y h : X} {id off len esz : Nat} {kh : IntKind} {n : Int} (hx : y.ev env = .slice id off len esz) (hh : h.ev env = .int kh n) (hb : 0 ≤ n ∧ n ≤ (len : Int)) (k : wpOps P is (env.put d (.slice id off n.toNat esz)) H K) : wpOps P (⟨d, .rd (.cutSl esz y none (some h)), none, x⟩ :: is) env H K :=
  wps_rd (by simp only [R.ev, hx, Option.map_some, bnd (congrArg some hh) hb]; simp [boundV]) k
theorem wps_cl10 {y l : X} {id off len esz : Nat} {kl : IntKind} {n : Int} (hx : y.ev env = .slice id off len esz) (hl : l.ev env = .int kl n) (hb : 0 ≤ n ∧ n ≤ (len : Int)) (k : wpOps P is (env.put d (.slice id (off + n.toNat * esz) (len - n.toNat) esz)) H K) : wpOps P (⟨d, .rd (.cutSl esz y (some l) none), none, x⟩ :: is) env H K :=
  wps_rd (by simp only [R.ev, hx, Option.map_some, Option.map_none, bndn, bnd (congrArg some hl) hb]; simp) k
theorem wps_cl11 {y l h : X} {id off len esz : Nat} {kl kh : IntKind} {n m : Int} (hx : y.ev env = .slice id off len esz) (hl : l.ev env = .int kl n) (hh : h.ev env = .int kh m) (hb : 0 ≤ n ∧ n ≤ m ∧ m ≤ (len : Int)) (k : wpOps P is (env.put d (.slice id (off + n.toNat * esz) (m.toNat - n.toNat) esz)) H K) : wpOps P (⟨d, .rd (.cutSl esz y (some l) (some h)), none, x⟩ :: is) env H K :=
  wps_rd (by simp only [R.ev, hx, Option.map_some, bnd (congrArg some hh) (show 0 ≤ m ∧ m ≤ ((len : Nat) : Int) by omega), bnd (congrArg some hl) (show 0 ≤ n ∧ n ≤ ((m.toNat : Nat) : Int) by omega), if_true]) k
theorem c_cond_d {y : X} {a b : C} {p : Prop} {_ : Decidable p} (hx : y.ev env = .bool (decide p)) (ht : p → a.wp P Q env H) (hf : ¬p → b.wp P Q env H) : C.wp P (.cond y a b) Q env H :=
  c_cond hx (fun h => ht (of_decide_eq_true h)) (fun h => hf (of_decide_eq_false h))
theorem wps_split_d {l : List I} (s : Nat) {p : Prop} {_ : Decidable p} (h : env s = .bool (decide p)) (ht : p → wpOps P l (env.put (some s) (.bool true)) H K) (hf : ¬p → wpOps P l (env.put (some s) (.bool false)) H K) : wpOps P l env H K :=
  wps_split s h (fun h => ht (of_decide_eq_true h)) (fun h => hf (of_decide_eq_false h))
theorem wps_gs_d {o : O} {s : Nat} {b : Bool} {p : Prop} {_ : Decidable p} (h : env s = .bool (decide p)) (ht : p → wpOps P (⟨d, o, some (s, b), x⟩ :: is) (env.put (some s) (.bool true)) H K) (hf : ¬p → wpOps P (⟨d, o, some (s, b), x⟩ :: is) (env.put (some s) (.bool false)) H K) :
    wpOps P (⟨d, o, some (s, b), x⟩ :: is) env H K := wps_split_d s h ht hf
theorem wps_pk_d {s : Nat} {a b : X} {p : Prop} {_ : Decidable p} (h : env s = .bool (decide p)) (ht : p → wpOps P (⟨d, .rd (.pick (.t s) a b), none, x⟩ :: is) (env.put (some s) (.bool true)) H K) (hf : ¬p → wpOps P (⟨d, .rd (.pick (.t s) a b), none, x⟩ :: is) (env.put (some s) (.bool false)) H K) :
    wpOps P (⟨d, .rd (.pick (.t s) a b), none, x⟩ :: is) env H K := wps_split_d s h ht hf
theorem c_cond_nd {y : X} {a b : C} {p : Prop} {_ : Decidable p} (hx : y.ev env = .bool (!decide p)) (ht : ¬p → a.wp P Q env H) (hf : p → b.wp P Q env H) : C.wp P (.cond y a b) Q env H :=
  c_cond hx (fun h => ht (by simpa using h)) (fun h => hf (by simpa using h))
theorem wps_split_nd {l : List I} (s : Nat) {p : Prop} {_ : Decidable p} (h : env s = .bool (!decide p)) (ht : ¬p → wpOps P l (env.put (some s) (.bool true)) H K) (hf : p → wpOps P l (env.put (some s) (.bool false)) H K) : wpOps P l env H K :=
  wps_split s h (fun h => ht (by simpa using h)) (fun h => hf (by simpa using h))
theorem wps_gs_nd {o : O} {s : Nat} {b : Bool} {p : Prop} {_ : Decidable p} (h : env s = .bool (!decide p)) (ht : ¬p → wpOps P (⟨d, o, some (s, b), x⟩ :: is) (env.put (some s) (.bool true)) H K) (hf : p → wpOps P (⟨d, o, some (s, b), x⟩ :: is) (env.put (some s) (.bool false)) H K) :
    wpOps P (⟨d, o, some (s, b), x⟩ :: is) env H K := wps_split_nd s h ht hf
theorem wps_pk_nd {s : Nat} {a b : X} {p : Prop} {_ : Decidable p} (h : env s = .bool (!decide p)) (ht : ¬p → wpOps P (⟨d, .rd (.pick (.t s) a b), none, x⟩ :: is) (env.put (some s) (.bool true)) H K) (hf : p → wpOps P (⟨d, .rd (.pick (.t s) a b), none, x⟩ :: is) (env.put (some s) (.bool false)) H K) :
    wpOps P (⟨d, .rd (.pick (.t s) a b), none, x⟩ :: is) env H K := wps_split_nd s h ht hf
theorem c_cond_e {y : X} {a b : C} {u v : Int} (hx : y.ev env = .bool (u == v)) (ht : u = v → a.wp P Q env H) (hf : u ≠ v → b.wp P Q env H) : C.wp P (.cond y a b) Q env H :=
  c_cond hx (fun h => ht (eq_of_beq h)) (fun h => hf (by simpa using h))
theorem wps_split_e {l : List I} (s : Nat) {u v : Int} (h : env s = .bool (u == v)) (ht : u = v → wpOps P l (env.put (some s) (.bool true)) H K) (hf : u ≠ v → wpOps P l (env.put (some s) (.bool false)) H K) : wpOps P l env H K :=
  wps_split s h (fun h => ht (eq_of_beq h)) (fun h => hf (by simpa using h))
theorem wps_gs_e {o : O} {s : Nat} {b : Bool} {u v : Int} (h : env s = .bool (u == v)) (ht : u = v → wpOps P (⟨d, o, some (s, b), x⟩ :: is) (env.put (some s) (.bool true)) H K) (hf : u ≠ v → wpOps P (⟨d, o, some (s, b), x⟩ :: is) (env.put (some s) (.bool false)) H K) :
    wpOps P (⟨d, o, some (s, b), x⟩ :: is) env H K := wps_split_e s h ht hf
theorem wps_pk_e {s : Nat} {a b : X} {u v : Int} (h : env s = .bool (u == v)) (ht : u = v → wpOps P (⟨d, .rd (.pick (.t s) a b), none, x⟩ :: is) (env.put (some s) (.bool true)) H K) (hf : u ≠ v → wpOps P (⟨d, .rd (.pick (.t s) a b), none, x⟩ :: is) (env.put (some s) (.bool false)) H K) :
    wpOps P (⟨d, .rd (.pick (.t s) a b), none, x⟩ :: is) env H K := wps_split_e s h ht hf
theorem c_cond_n {y : X} {a b : C} {u v : Int} (hx : y.ev env = .bool (u != v)) (ht : u ≠ v → a.wp P Q env H) (hf : u = v → b.wp P Q env H) : C.wp P (.cond y a b) Q env H :=
  c_cond hx (fun h => ht (by simpa using h)) (fun h => hf (by simpa using h))
theorem wps_split_n {l : List I} (s : Nat) {u v : Int} (h : env s = .bool (u != v)) (ht : u ≠ v → wpOps P l (env.put (some s) (.bool true)) H K) (hf : u = v → wpOps P l (env.put (some s) (.bool false)) H K) : wpOps P l env H K :=
  wps_split s h (fun h => ht (by simpa using h)) (fun h => hf (by simpa using h))
theorem wps_gs_n {o : O} {s : Nat} {b : Bool} {u v : Int} (h : env s = .bool (u != v)) (ht : u ≠ v → wpOps P (⟨d, o, some (s, b), x⟩ :: is) (env.put (some s) (.bool true)) H K) (hf : u = v → wpOps P (⟨d, o, some (s, b), x⟩ :: is) (env.put (some s) (.bool false)) H K) :
    wpOps P (⟨d, o, some (s, b), x⟩ :: is) env H K := wps_split_n s h ht hf
theorem wps_pk_n {s : Nat} {a b : X} {u v : Int} (h : env s = .bool (u != v)) (ht : u ≠ v → wpOps P (⟨d, .rd (.pick (.t s) a b), none, x⟩ :: is) (env.put (some s) (.bool true)) H K) (hf : u = v → wpOps P (⟨d, .rd (.pick (.t s) a b), none, x⟩ :: is) (env.put (some s) (.bool false)) H K) :
    wpOps P (⟨d, .rd (.pick (.t s) a b), none, x⟩ :: is) env H K := wps_split_n s h ht hf
theorem c_cond_s {y : X} {a b : C} {u v : List UInt8} (hx : y.ev env = .bool (u == v)) (ht : u = v → a.wp P Q env H) (hf : u ≠ v → b.wp P Q env H) : C.wp P (.cond y a b) Q env H :=
  c_cond hx (fun h => ht (eq_of_beq h)) (fun h => hf (by simpa using h))
theorem wps_split_s {l : List I} (s : Nat) {u v : List UInt8} (h : env s = .bool (u == v)) (ht : u = v → wpOps P l (env.put (some s) (.bool true)) H K) (hf : u ≠ v → wpOps P l (env.put (some s) (.bool false)) H K) : wpOps P l env H K :=
  wps_split s h (fun h => ht (eq_of_beq h)) (fun h => hf (by simpa using h))
theorem wps_gs_s {o : O} {s : Nat} {b : Bool} {u v : List UInt8} (h : env s = .bool (u == v)) (ht : u = v → wpOps P (⟨d, o, some (s, b), x⟩ :: is) (env.put (some s) (.bool true)) H K) (hf : u ≠ v → wpOps P (⟨d, o, some (s, b), x⟩ :: is) (env.put (some s) (.bool false)) H K) :
    wpOps P (⟨d, o, some (s, b), x⟩ :: is) env H K := wps_split_s s h ht hf
theorem wps_pk_s {s : Nat} {a b : X} {u v : List UInt8} (h : env s = .bool (u == v)) (ht : u = v → wpOps P (⟨d, .rd (.pick (.t s) a b), none, x⟩ :: is) (env.put (some s) (.bool true)) H K) (hf : u ≠ v → wpOps P (⟨d, .rd (.pick (.t s) a b), none, x⟩ :: is) (env.put (some s) (.bool false)) H K) :
    wpOps P (⟨d, .rd (.pick (.t s) a b), none, x⟩ :: is) env H K := wps_split_s s h ht hf
theorem c_cond_ns {y : X} {a b : C} {u v : List UInt8} (hx : y.ev env = .bool (!(u == v))) (ht : u ≠ v → a.wp P Q env H) (hf : u = v → b.wp P Q env H) : C.wp P (.cond y a b) Q env H :=
  c_cond hx (fun h => ht (by simpa using h)) (fun h => hf (by simpa using h))
theorem wps_split_ns {l : List I} (s : Nat) {u v : List UInt8} (h : env s = .bool (!(u == v))) (ht : u ≠ v → wpOps P l (env.put (some s) (.bool true)) H K) (hf : u = v → wpOps P l (env.put (some s) (.bool false)) H K) : wpOps P l env H K :=
  wps_split s h (fun h => ht (by simpa using h)) (fun h => hf (by simpa using h))
theorem wps_gs_ns {o : O} {s : Nat} {b : Bool} {u v : List UInt8} (h : env s = .bool (!(u == v))) (ht : u ≠ v → wpOps P (⟨d, o, some (s, b), x⟩ :: is) (env.put (some s) (.bool true)) H K) (hf : u = v → wpOps P (⟨d, o, some (s, b), x⟩ :: is) (env.put (some s) (.bool false)) H K) :
    wpOps P (⟨d, o, some (s, b), x⟩ :: is) env H K := wps_split_ns s h ht hf
theorem wps_pk_ns {s : Nat} {a b : X} {u v : List UInt8} (h : env s = .bool (!(u == v))) (ht : u ≠ v → wpOps P (⟨d, .rd (.pick (.t s) a b), none, x⟩ :: is) (env.put (some s) (.bool true)) H K) (hf : u = v → wpOps P (⟨d, .rd (.pick (.t s) a b), none, x⟩ :: is) (env.put (some s) (.bool false)) H K) :
    wpOps P (⟨d, .rd (.pick (.t s) a b), none, x⟩ :: is) env H K := wps_split_ns s h ht hf
end
end Go.CM

namespace Go.CM

section
variable {α : Type} {enc : α → List V} {sz : Nat}
theorem rows_length (hs : ∀ a, (enc a).length = sz) : ∀ (l : List α), (l.flatMap enc).length = l.length * sz
  | [] => by simp
  | a :: l => by simp [rows_length hs l, hs, Nat.succ_mul, Nat.add_comm]
theorem rows_split (hs : ∀ a, (enc a).length = sz) : ∀ {l : List α} {i : Nat} {a : α}, l[i]? = some a → ∃ A B, l.flatMap enc = A ++ enc a ++ B ∧ A.length = i * sz ∧ ∀ x, (l.set i x).flatMap enc = A ++ enc x ++ B
  | [], i, a, h => by simp at h
  | b :: l, 0, a, h => by
    simp at h; subst h
    exact ⟨[], l.flatMap enc, by simp, by simp, by simp⟩
  | b :: l, i + 1, a, h => by
    obtain ⟨A, B, h1, h2, h3⟩ := rows_split hs (l := l) (i := i) (a := a) (by simpa using h)
    refine ⟨enc b ++ A, B, by simp [h1], by simp [h2, hs, Nat.succ_mul, Nat.add_comm], fun x => ?_⟩
    have := h3 x
    simp only [List.set_cons_succ, List.flatMap_cons, this, List.append_assoc]
@[irreducible] def nth {α : Type} [Inhabited α] (l : List α) (i : Nat) : α := l.getD i default
theorem nth_eq {α : Type} [Inhabited α] (l : List α) (i : Nat) : nth l i = l.getD i default := by unfold nth; rfl
theorem nth_zero {α : Type} [Inhabited α] (a : α) (l : List α) : nth (a :: l) 0 = a := by simp [nth_eq]
theorem nth_succ {α : Type} [Inhabited α] (a : α) (l : List α) (i : Nat) : nth (a :: l) (i + 1) = nth l i := by simp [nth_eq]
theorem nth_getElem {α : Type} [Inhabited α] {l : List α} {i : Nat} (h : i < l.length) : nth l i = l[i] := by simp [nth_eq, List.getD_eq_getElem?_getD, h]
theorem nth_map {α β : Type} [Inhabited α] [Inhabited β] (f : α → β) {l : List α} {i : Nat} (h : i < l.length) : nth (l.map f) i = f (nth l i) := by
  rw [nth_getElem h, nth_getElem (by simpa using h), List.getElem_map]
theorem nth_set {α : Type} [Inhabited α] {l : List α} {i j : Nat} (x : α) (h : j < l.length) : nth (l.set i x) j = if i = j then x else nth l j := by
  rw [nth_getElem h, nth_getElem (by simpa using h), List.getElem_set]
theorem nth_mem {α : Type} [Inhabited α] {l : List α} {i : Nat} (h : i < l.length) : nth l i ∈ l := by rw [nth_getElem h]; exact List.getElem_mem h
theorem nth_of {α : Type} [Inhabited α] {l : List α} {i : Nat} {a : α} (h : l[i]? = some a) : nth l i = a := by simp [nth_eq, List.getD_eq_getElem?_getD, h]
theorem getD_some [Inhabited α] {l : List α} {i : Nat} (h : i < l.length) : l[i]? = some (nth l i) := by
  simp [nth_eq, List.getD_eq_getElem?_getD, h]
theorem drop_getD [Inhabited α] {l : List α} {i : Nat} (h : i < l.length) : l.drop i = nth l i :: l.drop (i + 1) := by
  rw [List.drop_eq_getElem_cons h, nth_eq, List.getD_eq_getElem?_getD, List.getElem?_eq_getElem h]; rfl
theorem take_getD [Inhabited α] {l : List α} {i : Nat} (h : i < l.length) : l.take (i + 1) = l.take i ++ [nth l i] := by
  rw [List.take_add_one, getD_some h]; rfl
theorem rows_load (hs : ∀ a, (enc a).length = sz) {l : List α} {i : Nat} {a : α} (h : l[i]? = some a) {off : Nat} {v : V} (hv : (enc a)[off]? = some v) : (l.flatMap enc)[i * sz + off]? = some v := by
  obtain ⟨A, B, h1, h2, _⟩ := rows_split hs h
  have hlt := (List.getElem?_eq_some_iff.1 hv).1
  rw [h1, ← h2, List.append_assoc, List.getElem?_append_right (by omega), Nat.add_sub_cancel_left, List.getElem?_append_left hlt]
  exact hv
theorem rows_loadn (hs : ∀ a, (enc a).length = sz) {l : List α} {i : Nat} {a : α} (h : l[i]? = some a) {off m : Nat} (hm : off + m ≤ sz) : getCells (l.flatMap enc) (i * sz + off) m = some (((enc a).drop off).take m) := by
  obtain ⟨A, B, h1, h2, _⟩ := rows_split hs h
  have hl : (enc a).length = sz := hs a
  have hb : Nat.ble (i * sz + off + m) (l.flatMap enc).length = true := Nat.ble_eq_true_of_le (by rw [h1]; simp; omega)
  simp only [getCells, hb, cond_true]
  rw [h1, ← h2, List.append_assoc, List.drop_append, List.drop_of_length_le (by omega), Nat.add_sub_cancel_left, List.nil_append, List.drop_append, List.take_append_of_le_length (by simp; omega)]
theorem rows_row (hs : ∀ a, (enc a).length = sz) {l : List α} {i : Nat} {a : α} (h : l[i]? = some a) : getCells (l.flatMap enc) (i * sz) sz = some (enc a) := by
  have := rows_loadn hs h (off := 0) (m := sz) (by omega)
  rw [Nat.add_zero] at this
  rw [this, List.drop_zero, ← hs a, List.take_length]
theorem rows_set (hs : ∀ a, (enc a).length = sz) {l : List α} {i : Nat} (hi : i < l.length) (x : α) : splice (l.flatMap enc) (i * sz) (enc x) = (l.set i x).flatMap enc := by
  obtain ⟨A, B, h1, h2, h3⟩ := rows_split hs (List.getElem?_eq_getElem hi)
  rw [h3, h1, ← h2]
  have hl : (enc x).length = (enc l[i]).length := by rw [hs, hs]
  simp [splice, hl]
theorem rows_take (hs : ∀ a, (enc a).length = sz) : ∀ (l : List α) (i : Nat), (l.flatMap enc).take (i * sz) = (l.take i).flatMap enc
  | [], i => by simp
  | a :: l, 0 => by simp
  | a :: l, i + 1 => by
    have : (i + 1) * sz = (enc a).length + i * sz := by rw [hs, Nat.succ_mul, Nat.add_comm]
    rw [List.flatMap_cons, this, List.take_append, List.take_of_length_le (by omega), Nat.add_sub_cancel_left, rows_take hs l i]; rfl
theorem rows_all (hs : ∀ a, (enc a).length = sz) (l : List α) : getCells (l.flatMap enc) 0 (l.length * sz) = some (l.flatMap enc) := getCells_all (rows_length hs l)
end

def swapL {α : Type} [Inhabited α] (l : List α) (i j : Nat) : List α := (l.set i (nth l j)).set j (nth l i)
theorem swapL_length {α : Type} [Inhabited α] (l : List α) (i j : Nat) : (swapL l i j).length = l.length := by simp [swapL]
theorem rowsOf {α : Type} (enc : α → List V) : ∀ {rs : List (List V)}, (∀ r ∈ rs, ∃ x, r = enc x) → ∃ l : List α, rs = l.map enc
  | [], _ => ⟨[], rfl⟩
  | r :: rs, h => by
    obtain ⟨x, rfl⟩ := h r (by simp)
    obtain ⟨l, rfl⟩ := rowsOf enc (rs := rs) fun r hr => h r (by simp [hr])
    exact ⟨x :: l, rfl⟩
section
variable {P : Program} {env : Env} {H : Heap} {Q : Ex → Env → Heap → Prop} {L : List Ob} {K : Env → Heap → Prop} {d : Option Nat} {x : Kx} {is : List I}
variable {α : Type} {enc : α → List V} {sz : Nat}

theorem wps_ian {esz : Nat} {y i : X} {id len n : Nat} {ki : IntKind} (hx : y.ev env = .slice id 0 len esz) (hi : i.ev env = .int ki (n : Int)) (hb : n < len) (k : wpOps P is (env.put d (.ptr id (n * esz))) H K) :
    wpOps P (⟨d, .rd (.iaddrS esz y i), none, x⟩ :: is) env H K :=
  wps_ia hx hi (by omega) (by simpa using k)
theorem wps_lr [Inhabited α] (hh : Has H L) {a : X} {id n off : Nat} {b : Bool} {l : List α} {v : V} (ha : a.ev env = .ptr id (n * sz + off)) (hi : At (id, .cells b (l.flatMap enc)) L) (hs : ∀ a, (enc a).length = sz) (hb : n < l.length) (hv : (enc (nth l n))[off]? = some v) (k : wpOps P is (env.put d v) H K) :
    wpOps P (⟨d, .rd (.load1 a), none, x⟩ :: is) env H K :=
  wps_ld hh ha hi (rows_load hs (getD_some hb) hv) k
theorem wps_lr0 [Inhabited α] (hh : Has H L) {a : X} {id n : Nat} {b : Bool} {l : List α} {v : V} (ha : a.ev env = .ptr id (n * sz)) (hi : At (id, .cells b (l.flatMap enc)) L) (hs : ∀ a, (enc a).length = sz) (hb : n < l.length) (hv : (enc (nth l n))[0]? = some v) (k : wpOps P is (env.put d v) H K) :
    wpOps P (⟨d, .rd (.load1 a), none, x⟩ :: is) env H K :=
  wps_ld hh (off := n * sz + 0) ha hi (rows_load hs (getD_some hb) hv) k
theorem wps_lrn [Inhabited α] (hh : Has H L) {a : X} {id n off m : Nat} {b : Bool} {l : List α} {vs : List V} (ha : a.ev env = .ptr id (n * sz + off)) (hi : At (id, .cells b (l.flatMap enc)) L) (hs : ∀ a, (enc a).length = sz) (hb : n < l.length) (hm : Nat.ble (off + (m + 1)) sz = true) (hv : ((enc (nth l n)).drop off).take (m + 1) = vs) (k : wpOps P is (env.put d (.agg vs)) H K) :
    wpOps P (⟨d, .rd (.loadn (m + 1) a), none, x⟩ :: is) env H K :=
  wps_ldn hh ha hi (rows_loadn hs (getD_some hb) (Nat.le_of_ble_eq_true hm)) hv k
theorem wps_lra [Inhabited α] (hh : Has H L) {a : X} {id n m : Nat} {b : Bool} {l : List α} (ha : a.ev env = .ptr id (n * (m + 1))) (hi : At (id, .cells b (l.flatMap enc)) L) (hs : ∀ a, (enc a).length = m + 1) (hb : n < l.length) (k : wpOps P is (env.put d (.agg (enc (nth l n)))) H K) :
    wpOps P (⟨d, .rd (.loadn (m + 1) a), none, x⟩ :: is) env H K :=
  wps_ldn hh ha hi (rows_row hs (getD_some hb)) rfl k
theorem wps_sr (hh : Has H L) {a y : X} {id n m : Nat} {l : List α} {u : α} {v : V} {L' : List Ob} (ha : a.ev env = .ptr id (n * (m + 1))) (hy : y.ev env = v) (ht : v.isTup = false) (hc : v.cells = enc u) (hs : ∀ a, (enc a).length = m + 1) (hb : n < l.length)
    (hu : Upd (id, .cells true (l.flatMap enc)) [(id, .cells true ((l.set n u).flatMap enc))] L L') (k : ∀ H', Has H' L' → wpOps P is (env.put d V.undef) H' K) : wpOps P (⟨d, .ef (.store (m + 1) a y), none, .no⟩ :: is) env H K :=
  wps_store hh ha hy ht hc (hs u) hu (by rw [rows_length hs, ← Nat.succ_mul]; exact Nat.mul_le_mul_right _ hb) (rows_set hs hb u) k
theorem wps_push (hh : Has H L) {ya : Nat} {y a : X} {id by_ m : Nat} {z : List V} {l : List α} {u : α} {v : V} {fa : Kx} {L' : Nat → List Ob} (ha : a.ev (env.put (some ya) (.slice 0 0 0 0)) = .slice id 0 l.length (m + 1)) (hn : ∀ v, a.ev (env.put (some ya) v) = a.ev (env.put (some ya) (.slice 0 0 0 0)))
    (hy : y.ev env = v) (ht : v.isTup = false) (hc : v.cells = enc u) (hs : ∀ a, (enc a).length = m + 1) (hz : z.length = m + 1) (hu : ∀ id', Upd (id, .cells true (l.flatMap enc)) [(id', .cells true ((l ++ [u]).flatMap enc))] L (L' id'))
    (hb : (l.length + 1) * by_ ≤ 140737488355328) (k : ∀ t id' H', Has H' (L' id') → wpOps P is ((env.put (some ya) (.slice t 0 1 (m + 1))).put d (.slice id' 0 (l ++ [u]).length (m + 1))) H' K) :
    wpOps P (⟨some ya, .ef (.lit (m + 1) 1 z [(0, m + 1, y)]), none, fa⟩ :: ⟨d, .ef (.app (m + 1) by_ a (.t ya)), none, .no⟩ :: is) env H K := by
  refine wps_lit1 hh hy ht hc (hs u) hz fun t H1 h1 => ?_
  refine wps_app h1 (cs := l.flatMap enc) (vs := enc u) (m := 1) (len := l.length) (id := id) (L' := fun id' => (t, .cells true (enc u)) :: L' id') ?_ (fun id' => ?_) ?_ (rows_length hs l) hb fun id' H' h' => ?_
  · rw [hn]; exact ha
  · have := hu id'
    rw [List.flatMap_append] at this
    simp only [List.flatMap_cons, List.flatMap_nil, List.append_nil] at this
    exact .there this
  · have e : (X.t ya).ev (env.put (some ya) (.slice t 0 1 (m + 1))) = .slice t 0 1 (m + 1) := by simp [X.ev, Env.put]
    rw [e]
    refine src_slice h1 (b := true) (cs := enc u) (vs := enc u) ?_ ?_
    · exact .here
    · exact getCells_all (by rw [hs u]; omega)
  · have := k t id' H' h'.tail
    rwa [List.length_append] at this

theorem wps_approw (hh : Has H L) (us : List α) {y a : X} {id t by_ m : Nat} {b : Bool} {l : List α} {L' : Nat → List Ob} (ha : a.ev env = .slice id 0 l.length (m + 1)) (hy : y.ev env = .slice t 0 us.length (m + 1)) (hj : At (t, .cells b (us.flatMap enc)) L) (hs : ∀ a, (enc a).length = m + 1)
    (hu : ∀ id', Upd (id, .cells true (l.flatMap enc)) [(id', .cells true ((l ++ us).flatMap enc))] L (L' id')) (hb : (l.length + us.length) * by_ ≤ 140737488355328) (k : ∀ id' H', Has H' (L' id') → wpOps P is (env.put d (.slice id' 0 (l ++ us).length (m + 1))) H' K) :
    wpOps P (⟨d, .ef (.app (m + 1) by_ a y), none, .no⟩ :: is) env H K := by
  refine wps_app hh (cs := l.flatMap enc) (vs := us.flatMap enc) (m := us.length) (len := l.length) (L' := L') ha (fun id' => ?_) ?_ (rows_length hs l) hb fun id' H' h' => ?_
  · have := hu id'
    rwa [List.flatMap_append] at this
  · rw [hy]; exact src_slice hh hj (rows_all hs us)
  · have := k id' H' h'
    rwa [List.length_append] at this

theorem f_ret0 {q : V → Heap → Prop} (hq : q (.tup []) H) : kEnd [] q .ret env H := ⟨.inr rfl, [], rfl, hq⟩
theorem f_nrm0 {q : V → Heap → Prop} (hq : q (.tup []) H) : kEnd [] q .normal env H := ⟨.inl rfl, [], rfl, hq⟩
theorem f_ret3 {n m k : Nat} {q : V → Heap → Prop} {v v' v'' : V} (hv : env n = v) (hv' : env m = v') (hv'' : env k = v'') (hq : q (.tup [v, v', v'']) H) : kEnd [.t n, .t m, .t k] q .ret env H := ⟨.inr rfl, [v, v', v''], by subst hv hv' hv''; rfl, hq⟩
theorem f_ret4 {n m k j : Nat} {q : V → Heap → Prop} {v v' v'' w : V} (hv : env n = v) (hv' : env m = v') (hv'' : env k = v'') (hw : env j = w) (hq : q (.tup [v, v', v'', w]) H) : kEnd [.t n, .t m, .t k, .t j] q .ret env H := ⟨.inr rfl, [v, v', v'', w], by subst hv hv' hv'' hw; rfl, hq⟩
theorem f_res {rs : List Res} {q : V → Heap → Prop} {vs : List V} (h : rs.mapM (Res.ev env H) = some vs) (hq : q (retV vs) H) : kEnd rs q .ret env H := ⟨.inr rfl, vs, h, hq⟩
theorem res_t {n : Nat} {v : V} (h : env n = v) : (Res.t n).ev env H = some v := by subst h; rfl
theorem res_cn (hh : Has H L) {n sz id : Nat} {b : Bool} {cs : List V} (ha : env n = .ptr id 0) (hi : At (id, .cells b cs) L) (hl : cs.length = sz + 1) : (Res.cn n (sz + 1)).ev env H = some (.agg cs) := by
  have hne : cs ≠ [] := fun e => by subst e; simp at hl
  simp only [Res.ev, R.ev, X.ev, ha, hh.getc hi.mem hne, getCells_all hl]
theorem res_c1 (hh : Has H L) {n id off : Nat} {b : Bool} {cs : List V} {v : V} (ha : env n = .ptr id off) (hi : At (id, .cells b cs) L) (hv : cs[off]? = some v) : (Res.c1 n).ev env H = some v := by
  simp only [Res.ev, R.ev, X.ev, ha, hh.getc hi.mem (cells_ne hv)]; exact hv
end
end Go.CM
