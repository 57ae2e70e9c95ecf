/-
  A program logic over the model's calls, part 21: known objects, calls with a frame.
-/
import Derived.Test.YtebhddpildfgcaaCmMeth
namespace Go.CM

abbrev Ob := Nat × HObj
/-- The ids of objects; 0 is nobody's (an empty slice that may be nil). -/
def ids (L : List Ob) : List Nat := (L.map (·.1)).filter fun i => !Nat.beq i 0

theorem mem_ids {L : List Ob} {i : Nat} : i ∈ ids L ↔ i ≠ 0 ∧ ∃ x ∈ L, x.1 = i := by
  simp only [ids, List.mem_filter, List.mem_map]
  constructor
  · rintro ⟨⟨x, hx, rfl⟩, h⟩
    exact ⟨fun e => by rw [e] at h; simp at h, x, hx, rfl⟩
  · rintro ⟨h, x, hx, rfl⟩
    refine ⟨⟨x, hx, rfl⟩, ?_⟩
    cases hb : Nat.beq x.1 0 with
    | true => exact absurd (Nat.eq_of_beq_eq_true hb) h
    | false => rfl
theorem ids_append (A B : List Ob) : ids (A ++ B) = ids A ++ ids B := by simp [ids]

/-- The objects that are known. -/
structure Has (H : Heap) (L : List Ob) : Prop where
  look : ∀ x ∈ L, x.1 ≠ 0 → H x.1 = some x.2
  zero : ∀ x ∈ L, x.1 = 0 → ∃ b, x.2 = .cells b []
  nd : (ids L).Nodup

theorem Has.perm {H : Heap} {L L' : List Ob} (h : Has H L) (p : L.Perm L') : Has H L' :=
  ⟨fun x hx => h.look x (p.mem_iff.2 hx), fun x hx => h.zero x (p.mem_iff.2 hx), (((p.map _).filter _).nodup_iff).1 h.nd⟩
theorem Has.nil (H : Heap) : Has H [] := ⟨fun _ h => (by cases h), fun _ h => (by cases h), .nil⟩
theorem Has.sub {H : Heap} {L L' : List Ob} (h : Has H L) (p : L'.Sublist L) : Has H L' :=
  ⟨fun x hx => h.look x (p.subset hx), fun x hx => h.zero x (p.subset hx), ((p.map _).filter _).nodup h.nd⟩
theorem Has.left {H : Heap} {L R : List Ob} (h : Has H (L ++ R)) : Has H L := h.sub (List.sublist_append_left _ _)
theorem Has.right {H : Heap} {L R : List Ob} (h : Has H (L ++ R)) : Has H R := h.sub (List.sublist_append_right _ _)
theorem Has.tail {H : Heap} {x : Ob} {R : List Ob} (h : Has H (x :: R)) : Has H R := h.sub (List.sublist_cons_self _ _)

theorem Has.cons {H : Heap} {L : List Ob} (h : Has H L) {id : Nat} {o : HObj} (h0 : id ≠ 0) (ho : H id = some o) (hn : id ∉ ids L) : Has H ((id, o) :: L) := by
  refine ⟨fun x hx => ?_, fun x hx => ?_, ?_⟩
  · rcases List.mem_cons.1 hx with rfl | hx
    · exact fun _ => ho
    · exact h.look x hx
  · rcases List.mem_cons.1 hx with rfl | hx
    · exact fun e => absurd e h0
    · exact h.zero x hx
  · have : Nat.beq id 0 = false := Bool.eq_false_iff.2 fun e => h0 (Nat.eq_of_beq_eq_true e)
    simp only [ids, List.map_cons, List.filter_cons, this, Bool.not_false, if_true]
    exact List.nodup_cons.2 ⟨hn, h.nd⟩

theorem Has.heap {H H' : Heap} {L : List Ob} (h : Has H L) (hk : ∀ x ∈ L, x.1 ≠ 0 → H' x.1 = H x.1) : Has H' L :=
  ⟨fun x hx h0 => (hk x hx h0).trans (h.look x hx h0), h.zero, h.nd⟩

/-- An empty row that may be nil. -/
theorem Has.ghost {H : Heap} {L : List Ob} (h : Has H L) (b : Bool) : Has H ((0, .cells b []) :: L) := by
  refine ⟨fun x hx => ?_, fun x hx => ?_, ?_⟩
  · rcases List.mem_cons.1 hx with rfl | hx
    · exact fun h => absurd rfl h
    · exact h.look x hx
  · rcases List.mem_cons.1 hx with rfl | hx
    · exact fun _ => ⟨b, rfl⟩
    · exact h.zero x hx
  · simpa [ids] using h.nd

theorem Has.new {H : Heap} {L : List Ob} (h : Has H L) {id : Nat} {o : HObj} (h0 : id ≠ 0) (hid : H id = none) : Has (H.set id o) ((id, o) :: L) := by
  have hne : ∀ x ∈ L, x.1 ≠ 0 → x.1 ≠ id := fun x hx hx0 e => by have := h.look x hx hx0; rw [e, hid] at this; cases this
  refine Has.cons (h.heap fun x hx hx0 => Heap.set_ne _ _ (hne x hx hx0)) h0 (Heap.set_same _ _ _) fun hm => ?_
  obtain ⟨_, x, hx, rfl⟩ := mem_ids.1 hm
  exact hne x hx h0 rfl

/-- An object among others. -/
inductive At (x : Ob) : List Ob → Prop
  | here {R : List Ob} : At x (x :: R)
  | there {y : Ob} {R : List Ob} (h : At x R) : At x (y :: R)
  | skip {A R : List Ob} (h : At x R) : At x (A ++ R)
theorem At.mem {x : Ob} {L : List Ob} (h : At x L) : x ∈ L := by
  induction h with
  | here => exact List.mem_cons_self
  | there _ ih => exact List.mem_cons_of_mem _ ih
  | skip _ ih => exact List.mem_append_right _ ih
/-- Others in the place of one. -/
inductive Upd (x : Ob) (N : List Ob) : List Ob → List Ob → Prop
  | here {R : List Ob} : Upd x N (x :: R) (N ++ R)
  | there {y : Ob} {R R' : List Ob} (h : Upd x N R R') : Upd x N (y :: R) (y :: R')
  | skip {A R R' : List Ob} (h : Upd x N R R') : Upd x N (A ++ R) (A ++ R')
theorem Upd.here1 {x x' : Ob} {R : List Ob} : Upd x [x'] (x :: R) (x' :: R) := Upd.here
theorem Upd.split {x : Ob} {N L L' : List Ob} (h : Upd x N L L') : ∃ A B, L = A ++ x :: B ∧ L' = A ++ (N ++ B) := by
  induction h with
  | here => exact ⟨[], _, rfl, rfl⟩
  | @there y _ _ _ ih => obtain ⟨A, B, h1, h2⟩ := ih; exact ⟨y :: A, B, by simp [h1], by simp [h2]⟩
  | @skip C _ _ _ ih => obtain ⟨A, B, h1, h2⟩ := ih; exact ⟨C ++ A, B, by simp [h1], by simp [h2]⟩
theorem Upd.at {x : Ob} {N L L' : List Ob} (h : Upd x N L L') : x ∈ L := by
  obtain ⟨A, B, rfl, _⟩ := h.split; simp
/-- One at the head. -/
theorem Upd.front {H : Heap} {x : Ob} {N L L' : List Ob} (h : Upd x N L L') (hh : Has H L) : ∃ R, Has H (x :: R) ∧ L'.Perm (N ++ R) := by
  obtain ⟨A, B, rfl, rfl⟩ := h.split
  refine ⟨A ++ B, hh.perm List.perm_middle, ?_⟩
  rw [← List.append_assoc, ← List.append_assoc]
  exact List.perm_append_comm.append_right B

theorem Has.get {H : Heap} {L : List Ob} (h : Has H L) {id : Nat} {o : HObj} (hm : (id, o) ∈ L) (h0 : id ≠ 0) : H id = some o := h.look (id, o) hm h0
theorem Has.ne0 {H : Heap} {L : List Ob} (h : Has H L) {id : Nat} {b : Bool} {cs : List V} (hm : (id, .cells b cs) ∈ L) (hc : cs ≠ []) : id ≠ 0 := fun e => by
  obtain ⟨b', h1⟩ := h.zero _ hm e
  cases h1; exact hc rfl
theorem Has.getc {H : Heap} {L : List Ob} (h : Has H L) {id : Nat} {b : Bool} {cs : List V} (hm : (id, .cells b cs) ∈ L) (hc : cs ≠ []) : H id = some (.cells b cs) := h.get hm (h.ne0 hm hc)
theorem Has.getm {H : Heap} {L : List Ob} (h : Has H L) {id : Nat} {es : List (V × V)} (hm : (id, .map es) ∈ L) : H id = some (.map es) :=
  h.get hm fun e => by obtain ⟨b', h1⟩ := h.zero _ hm e; cases h1
theorem Has.head_ne {H : Heap} {x : Ob} {R : List Ob} (h : Has H (x :: R)) (h0 : x.1 ≠ 0) : ∀ y ∈ R, y.1 ≠ 0 → y.1 ≠ x.1 := fun y hy _ e => by
  have hb : Nat.beq x.1 0 = false := Bool.eq_false_iff.2 fun e => h0 (Nat.eq_of_beq_eq_true e)
  have := h.nd
  simp only [ids, List.map_cons, List.filter_cons, hb, Bool.not_false, if_true] at this
  exact (List.nodup_cons.1 this).1 (mem_ids.2 ⟨h0, y, hy, e⟩)

theorem Has.set {H : Heap} {L L' : List Ob} (h : Has H L) {id : Nat} {o o' : HObj} (h0 : id ≠ 0) (hu : Upd (id, o) [(id, o')] L L') : Has (H.set id o') L' := by
  obtain ⟨R, h1, h2⟩ := hu.front h
  have hne := h1.head_ne h0
  refine Has.perm (L := (id, o') :: R) (Has.cons (h1.tail.heap fun y hy hy0 => Heap.set_ne _ _ (hne y hy hy0)) h0 (Heap.set_same _ _ _) fun hm => ?_) h2.symm
  obtain ⟨_, y, hy, e⟩ := mem_ids.1 hm
  exact hne y hy (by rw [e]; exact h0) e

theorem Has.move {H : Heap} {L L' : List Ob} (h : Has H L) {id id' : Nat} {o o' : HObj} (h0 : id ≠ 0) (h0' : id' ≠ 0) (hu : Upd (id, o) [(id', o')] L L') (hid : (H.del id) id' = none) : Has ((H.del id).set id' o') L' := by
  obtain ⟨R, h1, h2⟩ := hu.front h
  have hne := h1.head_ne h0
  have h3 : Has (H.del id) R := h1.tail.heap fun y hy hy0 => Heap.del_ne _ (hne y hy hy0)
  exact Has.perm (h3.new h0' hid) h2.symm

/-- A row that may be nil becomes a new one. -/
theorem Has.born {H : Heap} {L L' : List Ob} (h : Has H L) {x : Ob} {id' : Nat} {o' : HObj} (h0' : id' ≠ 0) (hu : Upd x [(id', o')] L L') (hid : H id' = none) : Has (H.set id' o') L' := by
  obtain ⟨R, h1, h2⟩ := hu.front h
  exact Has.perm (h1.tail.new h0' hid) h2.symm
theorem Has.upd {H : Heap} {L L' : List Ob} (h : Has H L) {x : Ob} {N : List Ob} (hu : Upd x N L L') (hN : ∀ R, Has H (x :: R) → Has H (N ++ R)) : Has H L' := by
  obtain ⟨R, h1, h2⟩ := hu.front h
  exact (hN R h1).perm h2.symm

/-- What is needed is among what there is, and what is left. -/
inductive Rm (x : Ob) : List Ob → List Ob → Prop
  | here {R : List Ob} : Rm x (x :: R) R
  | there {y : Ob} {R R' : List Ob} (h : Rm x R R') : Rm x (y :: R) (y :: R')
  | skip {A R R' : List Ob} (h : Rm x R R') : Rm x (A ++ R) (A ++ R')
inductive Rc (C : List Ob) : List Ob → List Ob → Prop
  | all : Rc C C []
  | here {R : List Ob} : Rc C (C ++ R) R
  | there {y : Ob} {R R' : List Ob} (h : Rc C R R') : Rc C (y :: R) (y :: R')
  | skip {A R R' : List Ob} (h : Rc C R R') : Rc C (A ++ R) (A ++ R')
inductive Tk : List Ob → List Ob → List Ob → Prop
  | nil {L : List Ob} : Tk [] L L
  | cons {x : Ob} {N L L1 R : List Ob} (h : Rm x L L1) (t : Tk N L1 R) : Tk (x :: N) L R
  | app {A B L L1 R : List Ob} (h : Rc A L L1) (t : Tk B L1 R) : Tk (A ++ B) L R
  | one {A L R : List Ob} (h : Rc A L R) : Tk A L R
section
variable {x y : Ob} {A B C N R L' : List Ob}
theorem At.asc (h : At x (A ++ (B ++ R))) : At x ((A ++ B) ++ R) := by rwa [List.append_assoc]
theorem At.cns (h : At x (y :: (A ++ R))) : At x ((y :: A) ++ R) := h
theorem At.nl (h : At x R) : At x ([] ++ R) := h
theorem At.inl (h : At x (A ++ [])) : At x A := by rwa [List.append_nil] at h
theorem Upd.asc (h : Upd x N (A ++ (B ++ R)) L') : Upd x N ((A ++ B) ++ R) L' := by rwa [List.append_assoc]
theorem Upd.cns (h : Upd x N (y :: (A ++ R)) L') : Upd x N ((y :: A) ++ R) L' := h
theorem Upd.nl (h : Upd x N R L') : Upd x N ([] ++ R) L' := h
theorem Rm.asc (h : Rm x (A ++ (B ++ R)) L') : Rm x ((A ++ B) ++ R) L' := by rwa [List.append_assoc]
theorem Rm.cns (h : Rm x (y :: (A ++ R)) L') : Rm x ((y :: A) ++ R) L' := h
theorem Rm.nl (h : Rm x R L') : Rm x ([] ++ R) L' := h
theorem Rc.asc (h : Rc C (A ++ (B ++ R)) L') : Rc C ((A ++ B) ++ R) L' := by rwa [List.append_assoc]
theorem Rc.cns (h : Rc C (y :: (A ++ R)) L') : Rc C ((y :: A) ++ R) L' := h
theorem Rc.nl (h : Rc C R L') : Rc C ([] ++ R) L' := h
theorem Tk.asc {L : List Ob} (h : Tk (A ++ (B ++ C)) L R) : Tk ((A ++ B) ++ C) L R := by rwa [List.append_assoc]
theorem Tk.cns {L : List Ob} (h : Tk (y :: (A ++ B)) L R) : Tk ((y :: A) ++ B) L R := h
theorem Tk.nl {L : List Ob} (h : Tk A L R) : Tk ([] ++ A) L R := h
end
theorem Rm.perm {x : Ob} {L R : List Ob} (h : Rm x L R) : L.Perm (x :: R) := by
  induction h with
  | here => exact .refl _
  | there _ ih => exact (ih.cons _).trans (List.Perm.swap _ _ _)
  | skip _ ih => exact (ih.append_left _).trans List.perm_middle
theorem Rc.perm {C L R : List Ob} (h : Rc C L R) : L.Perm (C ++ R) := by
  induction h with
  | all => simp
  | here => exact .refl _
  | there _ ih => exact (ih.cons _).trans List.perm_middle.symm
  | @skip A _ R' _ ih =>
    refine (ih.append_left A).trans ?_
    rw [← List.append_assoc, ← List.append_assoc]
    exact List.perm_append_comm.append_right R'
theorem Tk.perm {N L R : List Ob} (h : Tk N L R) : L.Perm (N ++ R) := by
  induction h with
  | nil => exact .refl _
  | cons h _ ih => exact h.perm.trans (ih.cons _)
  | app h _ ih => rw [List.append_assoc]; exact h.perm.trans (ih.append_left _)
  | one h => exact h.perm
theorem Has.tk {H : Heap} {N L R : List Ob} (hh : Has H L) (h : Tk N L R) : Has H (N ++ R) := hh.perm h.perm
/-- Objects in another order, or fewer. -/
theorem Has.ord {H : Heap} {N L R : List Ob} (hh : Has H L) (h : Tk N L R) : Has H N := (hh.tk h).left

/-- A CONTRACT: the objects that the call needs; what comes back, and which objects are there then. -/
def CallsL (P : Program) (f : FuncId) (args : List V) (L : List Ob) (Q : V → List Ob → Prop) : Prop :=
  ∀ H, Has H L → CallsC P f args H fun v H' => ∃ L', Q v L' ∧ Has H' L'

theorem CallsL.mono {P : Program} {f : FuncId} {args : List V} {L : List Ob} {Q Q' : V → List Ob → Prop} (h : CallsL P f args L Q) (hq : ∀ v L', Q v L' → Q' v L') : CallsL P f args L Q' :=
  fun H hh => (h H hh).mono fun _ _ ⟨L', a, b⟩ => ⟨L', hq _ _ a, b⟩

/-- THE FRAME: what a call doesn't need stays as it was. -/
theorem CallsL.frame {P : Program} {f : FuncId} {args : List V} {L : List Ob} {Q : V → List Ob → Prop} (h : CallsL P f args L Q) {H : Heap} {R : List Ob} (hh : Has H (L ++ R)) :
    CallsC P f args H fun v H' => ∃ L', Q v L' ∧ Has H' (L' ++ R) ∧ ∀ id o, H id = some o → id ∉ ids L → H' id = some o := by
  classical
  let H1 : Heap := fun id => if id ∈ ids L then H id else none
  have le1 : H1.le H := fun id o hi => by
    simp only [H1] at hi
    split at hi
    · exact hi
    · cases hi
  have has1 : Has H1 L := hh.left.heap fun x hx h0 => by
    simp only [H1]
    rw [if_pos (mem_ids.2 ⟨h0, x, hx, rfl⟩)]
  obtain ⟨hE, hc⟩ := h H1 has1
  refine ⟨hE, fun ι w us hR hv => (hc ι w us (hR.weaken le1) hv).mono ?_⟩
  rintro e w' ⟨ι', H1', v, u, rfl, hvu, hR', hX, L', hQ, hL'⟩
  have out : ∀ id o, H id = some o → id ∉ ids L → H1' id = none := by
    intro id o ho hn
    cases hx : H1' id with
    | none => rfl
    | some o' =>
      have := hX.ids id o' hx (by simp only [H1]; rw [if_neg hn])
      obtain ⟨b, off, hb, _⟩ := hR.obj id o ho
      rw [this] at hb; cases hb
  let H' : Heap := fun id => match H1' id with
    | some o => some o
    | none => if id ∈ ids L then none else H id
  have in1 : ∀ id o, H1' id = some o → H' id = some o := fun id o ho => by simp only [H', ho]
  have in2 : ∀ id o, H id = some o → id ∉ ids L → H' id = some o := fun id o ho hn => by simp only [H', out id o ho hn, if_neg hn, ho]
  have cas : ∀ id o, H' id = some o → H1' id = some o ∨ (H id = some o ∧ id ∉ ids L) := by
    intro id o ho
    simp only [H'] at ho
    split at ho
    · rename_i h1; cases ho; exact .inl h1
    · split at ho
      · cases ho
      · rename_i hn; exact .inr ⟨ho, hn⟩
  have notOwned : ∀ id o b off, H id = some o → id ∉ ids L → ι id = some (b, off) → ¬ Owns ι H1 b := by
    rintro id o b off ho hn hb ⟨id1, o1, off1, h1, h2, h3⟩
    have := hR.inj id1 id o1 o b off1 off (le1 _ _ h1) ho h2 h3 hb
    subst this
    simp only [H1] at h1
    rw [if_neg hn] at h1; cases h1
  have blk : ∀ id o b off, H id = some o → ι id = some (b, off) → b < w.heap.size := by
    intro id o b off ho hb
    obtain ⟨b', off', h1, h2⟩ := hR.obj id o ho
    rw [hb] at h1; cases h1
    exact h2.lt
  have apart : ∀ y ∈ R, y.1 ≠ 0 → y.1 ∉ ids L := by
    intro y hy h0 hm
    have hnd := hh.nd
    rw [ids_append, List.nodup_append] at hnd
    exact hnd.2.2 _ hm _ (mem_ids.2 ⟨h0, y, hy, rfl⟩) rfl
  refine ⟨ι', H', v, u, rfl, hvu, ⟨?_, ?_, hR'.fin, hR'.zero⟩, ⟨hX.pl, hX.os, hX.tape, hX.output, hX.size, hX.shp, ?_, ?_, ?_, ?_⟩, L', hQ, ⟨?_, ?_, ?_⟩, in2⟩
  · intro id o ho
    rcases cas id o ho with h1 | ⟨h1, h2⟩
    · exact hR'.obj id o h1
    · obtain ⟨b, off, h3, h4⟩ := hR.obj id o h1
      exact ⟨b, off, hX.pl _ _ h3, h4.keep hX.pl hX.shp (hX.frame b h4.lt (notOwned id o b off h1 h2 h3))⟩
  · intro id id' o o' b off off' ho ho' hrw hb hb'
    rcases cas id o ho with h1 | ⟨h1, h2⟩
    · rcases cas id' o' ho' with k1 | ⟨k1, k2⟩
      · exact hR'.inj id id' o o' b off off' h1 k1 hrw hb hb'
      · exfalso
        obtain ⟨b2, off2, h3, _⟩ := hR.obj id' o' k1
        have := hX.pl _ _ h3
        rw [hb'] at this; cases this
        rcases hX.owns b ⟨id, o, off, h1, hrw, hb⟩ with h5 | h5
        · exact notOwned id' o' b off' k1 k2 h3 h5
        · have := blk id' o' b off' k1 h3; omega
    · obtain ⟨b2, off2, h3, _⟩ := hR.obj id o h1
      have := hX.pl _ _ h3
      rw [hb] at this; cases this
      rcases cas id' o' ho' with k1 | ⟨k1, k2⟩
      · cases hr' : o'.rw with
        | true =>
          exfalso
          rcases hX.owns b ⟨id', o', off', k1, hr', hb'⟩ with h5 | h5
          · exact notOwned id o b off h1 h2 h3 h5
          · have := blk id o b off h1 h3; omega
        | false =>
          have k2 := le1 _ _ (hX.ro id' o' k1 hr')
          obtain ⟨b3, off3, h5, _⟩ := hR.obj id' o' k2
          have := hX.pl _ _ h5
          rw [hb'] at this; cases this
          exact hR.inj id id' o o' b off off' h1 k2 hrw h3 h5
      · obtain ⟨b3, off3, h5, _⟩ := hR.obj id' o' k1
        have := hX.pl _ _ h5
        rw [hb'] at this; cases this
        exact hR.inj id id' o o' b off off' h1 k1 hrw h3 h5
  · intro b hb hn
    exact hX.frame b hb fun ⟨id, o, off, h1, h2, h3⟩ => hn ⟨id, o, off, le1 _ _ h1, h2, h3⟩
  · rintro b ⟨id, o, off, h1, h2, h3⟩
    rcases cas id o h1 with k1 | ⟨k1, k2⟩
    · rcases hX.owns b ⟨id, o, off, k1, h2, h3⟩ with ⟨id, o, off, h1, h2, h3⟩ | h5
      · exact .inl ⟨id, o, off, le1 _ _ h1, h2, h3⟩
      · exact .inr h5
    · obtain ⟨b2, off2, h4, _⟩ := hR.obj id o k1
      have := hX.pl _ _ h4
      rw [h3] at this; cases this
      exact .inl ⟨id, o, off, k1, h2, h4⟩
  · intro id o h1 h2
    rcases cas id o h1 with k1 | ⟨k1, _⟩
    · refine hX.ids id o k1 ?_
      simp only [H1, h2]; split <;> rfl
    · rw [h2] at k1; cases k1
  · intro id o h1 h2
    rcases cas id o h1 with k1 | ⟨k1, _⟩
    · exact le1 _ _ (hX.ro id o k1 h2)
    · exact k1
  · intro x hx h0
    rcases List.mem_append.1 hx with hx | hx
    · exact in1 _ _ (hL'.look x hx h0)
    · exact in2 _ _ (hh.right.look x hx h0) (apart x hx h0)
  · intro x hx h0
    rcases List.mem_append.1 hx with hx | hx
    · exact hL'.zero x hx h0
    · exact hh.right.zero x hx h0
  · rw [ids_append, List.nodup_append]
    refine ⟨hL'.nd, hh.right.nd, ?_⟩
    rintro _ h1 _ h2 rfl
    obtain ⟨h0, x, hx, e⟩ := mem_ids.1 h1
    obtain ⟨_, y, hy, e'⟩ := mem_ids.1 h2
    have g1 := hL'.look x hx (by rw [e]; exact h0)
    have g2 := out _ _ (hh.right.look y hy (by rw [e']; exact h0)) (apart y hy (by rw [e']; exact h0))
    rw [e, ← e', g2] at g1; cases g1

/-- The caller forgets what is new. -/
theorem CallsC.forget {P : Program} {f : FuncId} {args : List V} {H : Heap} {Q : V → Prop} (h : CallsC P f args H fun v H' => Q v ∧ H.le H') : CallsC P f args H fun v H' => Q v ∧ H' = H :=
  ⟨h.1, fun ι w us hR hv => (h.2 ι w us hR hv).mono fun _ _ ⟨ι', _, v, u, a, b, c, d, e, g⟩ => ⟨ι', H, v, u, a, b, c.weaken g, d.forget g, e, rfl⟩⟩

/-- Said with less: of the arguments, of the objects, of what comes back. -/
theorem CallsC.wkArgs {P : Program} {f : FuncId} {args args' : List V} {H : Heap} {Q : V → Heap → Prop} (hw : Wks args args') (h : CallsC P f args' H Q) : CallsC P f args H Q :=
  ⟨h.1, fun ι w us hR hv => h.2 ι w us hR (hw.vrs hv)⟩
theorem CallsC.wkHeap {P : Program} {f : FuncId} {args : List V} {H H' : Heap} {Q : V → Heap → Prop} (hw : HWk H H') (h : CallsC P f args H' Q) : CallsC P f args H Q :=
  ⟨h.1, fun ι w us hR hv => (h.2 ι w us (hw.rel hR) hv).mono fun _ _ ⟨ι', H', v, u, a, b, c, d, e⟩ => ⟨ι', H', v, u, a, b, c, d.wkl hw, e⟩⟩
theorem CallsC.wkRes {P : Program} {f : FuncId} {args : List V} {H : Heap} {Q : V → Heap → Prop} (h : CallsC P f args H fun v H' => ∃ v' H2, Wk v v' ∧ HWk H' H2 ∧ Q v' H2) : CallsC P f args H Q :=
  ⟨h.1, fun ι w us hR hv => (h.2 ι w us hR hv).mono fun _ _ ⟨ι', _, _, u, a, b, c, d, v', H2, e1, e2, e3⟩ => ⟨ι', H2, v', u, a, e1 _ _ _ b, e2.rel c, d.wkr e2, e3⟩⟩

/-- What a function's end is to show. -/
def CEnds (Q : V → List Ob → Prop) (v : V) (H : Heap) : Prop := ∃ v' L' H2, Wk v v' ∧ HWk H H2 ∧ Q v' L' ∧ Has H2 L'
theorem CEnds.mk {Q : V → List Ob → Prop} {v : V} {H : Heap} {L : List Ob} (hh : Has H L) (hq : Q v L) : CEnds Q v H := ⟨v, L, H, Wk.refl v, HWk.refl H, hq, hh⟩
theorem CEnds.wk {Q : V → List Ob → Prop} {v v' : V} {H : Heap} (hw : Wk v v') (h : CEnds Q v' H) : CEnds Q v H := by
  obtain ⟨v2, L, H2, h1, h2, h3, h4⟩ := h
  exact ⟨v2, L, H2, hw.trans h1, h2, h3, h4⟩
theorem CEnds.tk {Q : V → List Ob → Prop} {v : V} {H : Heap} {N L R : List Ob} (hh : Has H L) (ht : Tk N L R) (hq : Q v N) : CEnds Q v H := .mk (hh.ord ht) hq

/-- A contract that only reads. -/
def CallsR (P : Program) (f : FuncId) (args : List V) (L : List Ob) (Q : V → Prop) : Prop := CallsL P f args L fun v L' => Q v ∧ L' = L
/-- A contract that keeps what it needs, and makes more. -/
def CallsN (P : Program) (f : FuncId) (args : List V) (L : List Ob) (Q : V → List Ob → Prop) : Prop := CallsL P f args L fun v L' => ∃ Lo, Q v Lo ∧ L' = Lo ++ L

theorem CallsL.keeps {P : Program} {f : FuncId} {args : List V} {L : List Ob} {Q : V → List Ob → Prop} (h : CallsL P f args L Q) (hL : ∀ v L', Q v L' → ∀ y ∈ L, y ∈ L') {H : Heap} {R : List Ob} (hh : Has H (L ++ R)) :
    CallsC P f args H fun v H' => ∃ L', Q v L' ∧ Has H' (L' ++ R) ∧ H.le H' := by
  refine (CallsL.frame h hh).mono ?_
  rintro v H' ⟨L', hq, h1, h2⟩
  refine ⟨L', hq, h1, fun id o ho => ?_⟩
  by_cases hm : id ∈ ids L
  · obtain ⟨h0, y, hy, rfl⟩ := mem_ids.1 hm
    have g2 := hh.left.look y hy h0
    rw [ho] at g2; cases g2
    exact h1.left.look y (hL v L' hq y hy) h0
  · exact h2 id o ho hm
theorem CallsR.reads {P : Program} {f : FuncId} {args : List V} {L : List Ob} {Q : V → Prop} (h : CallsR P f args L Q) {H : Heap} {R : List Ob} (hh : Has H (L ++ R)) :
    CallsC P f args H fun v H' => Q v ∧ H' = H :=
  CallsC.forget ((CallsL.keeps h (by rintro v L' ⟨_, rfl⟩ y hy; exact hy) hh).mono fun _ _ ⟨_, ⟨hq, _⟩, _, hl⟩ => ⟨hq, hl⟩)

end Go.CM
