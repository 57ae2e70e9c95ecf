/-
  A program logic over the model's calls, part 1: abstract values and heaps, and how they stand to the model's.
-/
import Derived.WalkKit
import Derived.Calls
import Derived.Orders
import Derived.OrdersIn
import Derived.RangeFuncIn
import Derived.RangeFuncLeaves
namespace Go.CM

/-- Abstract values: no block numbers, no capacities. A struct is the row of its cells. -/
inductive V where
  | bool (b : Bool)
  | int (k : IntKind) (n : Int)
  | str (s : List UInt8)
  | nilp
  | ptr (id off : Nat)
  | nils
  | slice (id off len esz : Nat)
  /-- a slice of known capacity -/
  | sliceC (id off len cap esz : Nat)
  | nilm
  | map (id : Nat)
  | func (f : FuncId) (cap : List V)
  | nilf
  | iface (t : TypeId) (v : V)
  | nili
  | agg (cs : List V)
  | tup (vs : List V)
  /-- what a loop over a function hands to it -/
  | yield (id : Nat)
  deriving Inhabited

def V.undef : V := .tup []

/-- A value that one cell holds. -/
def one : Value → Bool
  | .agg _ | .tuple _ => false
  | _ => true

/-- Where an object lies: its block and its first cell. -/
abbrev Pl := Nat → Option (Nat × Nat)

mutual
/-- What an abstract value is in a world. -/
inductive VR (ι : Pl) (w : World) : V → Value → Prop
  | bool (b : Bool) : VR ι w (.bool b) (.bool b)
  | int (k : IntKind) (n : Int) : VR ι w (.int k n) (.int k n)
  | str (s : ByteArray) : VR ι w (.str s.data.toList) (.string s)
  | nilp : VR ι w .nilp (.pointer none)
  | ptr (id off b o : Nat) (h : ι id = some (b, o)) : VR ι w (.ptr id off) (.pointer (some ⟨b, o + off, none⟩))
  | nils : VR ι w .nils (.slice none 0 0)
  | slice (id off len esz : Nat) (a : Addr) (cap : Nat) (hl : len ≤ cap)
      (h : 0 < cap → ∃ (b o : Nat) (c : Array Value) (e : TypeId) (f : Nat × Nat), ι id = some (b, o) ∧ a = ⟨b, o + off, none⟩ ∧ w.heap[b]? = some (.cells c e f) ∧ o + off + cap * esz ≤ c.size) :
      VR ι w (.slice id off len esz) (.slice (some a) len cap)
  | slice0 (off esz : Nat) : VR ι w (.slice 0 off 0 esz) (.slice none 0 0)
  | sliceC (id off len esz : Nat) (a : Addr) (cap : Nat) (hl : len ≤ cap)
      (h : 0 < cap → ∃ (b o : Nat) (c : Array Value) (e : TypeId) (f : Nat × Nat), ι id = some (b, o) ∧ a = ⟨b, o + off, none⟩ ∧ w.heap[b]? = some (.cells c e f) ∧ o + off + cap * esz ≤ c.size) :
      VR ι w (.sliceC id off len cap esz) (.slice (some a) len cap)
  | sliceC0 (off esz : Nat) : VR ι w (.sliceC 0 off 0 0 esz) (.slice none 0 0)
  | nilm : VR ι w .nilm (.map none)
  | map (id b o : Nat) (h : ι id = some (b, o)) : VR ι w (.map id) (.map (some b))
  | func (f : FuncId) (cap : List V) (vs : List Value) (h : VRs ι w cap vs) : VR ι w (.func f cap) (.func (.func f) #[] ⟨vs⟩)
  | nilf : VR ι w .nilf .nilFunc
  | iface (t : TypeId) (v : V) (u : Value) (h : VR ι w v u) : VR ι w (.iface t v) (.iface t u)
  | nili : VR ι w .nili .nilIface
  | agg (cs : List V) (us : List Value) (h : VRs ι w cs us) (ho : us.all one = true) : VR ι w (.agg cs) (.agg ⟨us⟩)
  | tup (vs : List V) (us : List Value) (h : VRs ι w vs us) : VR ι w (.tup vs) (.tuple ⟨us⟩)
  | yield (id b o : Nat) (h : ι id = some (b, o)) : VR ι w (.yield id) (.func (.yield b) #[] #[])
inductive VRs (ι : Pl) (w : World) : List V → List Value → Prop
  | nil : VRs ι w [] []
  | cons (v : V) (u : Value) (vs : List V) (us : List Value) (h : VR ι w v u) (t : VRs ι w vs us) : VRs ι w (v :: vs) (u :: us)
end

theorem VRs.length {ι : Pl} {w : World} {vs : List V} {us : List Value} (h : VRs ι w vs us) : vs.length = us.length := by
  induction vs generalizing us with
  | nil => cases h; rfl
  | cons v vs ih => cases h with | cons _ u _ us _ t => simp [ih t]

theorem VRs.get {ι : Pl} {w : World} {vs : List V} {us : List Value} (h : VRs ι w vs us) {i : Nat} {v : V} (hi : vs[i]? = some v) :
    ∃ u, us[i]? = some u ∧ VR ι w v u := by
  induction vs generalizing us i with
  | nil => simp at hi
  | cons x vs ih =>
    cases h with
    | cons _ u _ us hx t =>
      cases i with
      | zero => simp at hi; subst hi; exact ⟨u, rfl, hx⟩
      | succ i => simp at hi; obtain ⟨u', h1, h2⟩ := ih t hi; exact ⟨u', by simpa using h1, h2⟩

theorem VRs.of_get {ι : Pl} {w : World} : ∀ {vs : List V} {us : List Value}, vs.length = us.length →
    (∀ (i : Nat) (v : V), vs[i]? = some v → ∃ u, us[i]? = some u ∧ VR ι w v u) → VRs ι w vs us
  | [], [], _, _ => .nil
  | [], _ :: _, h, _ => by simp at h
  | _ :: _, [], h, _ => by simp at h
  | v :: vs, u :: us, h, hg => by
    refine .cons _ _ _ _ ?_ (VRs.of_get (by simpa using h) fun i x hx => ?_)
    · obtain ⟨u', h1, h2⟩ := hg 0 v rfl
      simp at h1; subst h1; exact h2
    · obtain ⟨u', h1, h2⟩ := hg (i + 1) x (by simpa using hx)
      exact ⟨u', by simpa using h1, h2⟩

theorem VRs.append {ι : Pl} {w : World} {vs vs' : List V} {us us' : List Value} (h : VRs ι w vs us) (h' : VRs ι w vs' us') : VRs ι w (vs ++ vs') (us ++ us') := by
  induction vs generalizing us with
  | nil => cases h; exact h'
  | cons v vs ih => cases h with | cons _ u _ us hx t => exact .cons _ _ _ _ hx (ih t)

theorem VRs.take {ι : Pl} {w : World} {vs : List V} {us : List Value} (h : VRs ι w vs us) (n : Nat) : VRs ι w (vs.take n) (us.take n) := by
  induction vs generalizing us n with
  | nil => cases h; simpa using VRs.nil
  | cons v vs ih =>
    cases h with
    | cons _ u _ us hx t =>
      cases n with
      | zero => exact .nil
      | succ n => exact .cons _ _ _ _ hx (ih t n)

theorem VRs.drop {ι : Pl} {w : World} {vs : List V} {us : List Value} (h : VRs ι w vs us) (n : Nat) : VRs ι w (vs.drop n) (us.drop n) := by
  induction vs generalizing us n with
  | nil => cases h; simpa using VRs.nil
  | cons v vs ih =>
    cases h with
    | cons _ u _ us hx t =>
      cases n with
      | zero => exact .cons _ _ _ _ hx t
      | succ n => exact ih t n

/-- The rows of cells keep their places and sizes. -/
def Shp (w w' : World) : Prop := ∀ (b : Nat) (c : Array Value) (e : TypeId) (f : Nat × Nat), w.heap[b]? = some (.cells c e f) →
    ∃ (c' : Array Value) (f' : Nat × Nat), w'.heap[b]? = some (.cells c' e f') ∧ c'.size = c.size

theorem Shp.refl (w : World) : Shp w w := fun _ c _ f h => ⟨c, f, h, rfl⟩
theorem Shp.trans {w w' w'' : World} (h : Shp w w') (h' : Shp w' w'') : Shp w w'' := fun b c e f hb => by
  obtain ⟨c', f', h1, h2⟩ := h b c e f hb
  obtain ⟨c'', f'', h3, h4⟩ := h' b c' e f' h1
  exact ⟨c'', f'', h3, by omega⟩

def Pl.le (ι ι' : Pl) : Prop := ∀ i x, ι i = some x → ι' i = some x

mutual
theorem VR.mono {ι ι' : Pl} {w w' : World} (hi : Pl.le ι ι') (hw : Shp w w') : ∀ {v : V} {u : Value}, VR ι w v u → VR ι' w' v u
  | _, _, .bool b => .bool b
  | _, _, .int k n => .int k n
  | _, _, .str s => .str s
  | _, _, .nilp => .nilp
  | _, _, .ptr id off b o h => .ptr id off b o (hi _ _ h)
  | _, _, .nils => .nils
  | _, _, .slice id off len esz a cap hl h => .slice id off len esz a cap hl fun hc => by
      obtain ⟨b, o, c, e, f, h1, h2, h3, h4⟩ := h hc
      obtain ⟨c', f', h5, h6⟩ := hw b c e f h3
      exact ⟨b, o, c', e, f', hi _ _ h1, h2, h5, by omega⟩
  | _, _, .slice0 off esz => .slice0 off esz
  | _, _, .sliceC id off len esz a cap hl h => .sliceC id off len esz a cap hl fun hc => by
      obtain ⟨b, o, c, e, f, h1, h2, h3, h4⟩ := h hc
      obtain ⟨c', f', h5, h6⟩ := hw b c e f h3
      exact ⟨b, o, c', e, f', hi _ _ h1, h2, h5, by omega⟩
  | _, _, .sliceC0 off esz => .sliceC0 off esz
  | _, _, .nilm => .nilm
  | _, _, .map id b o h => .map id b o (hi _ _ h)
  | _, _, .func f cap vs h => .func f cap vs (VRs.mono hi hw h)
  | _, _, .nilf => .nilf
  | _, _, .iface t v u h => .iface t v u (VR.mono hi hw h)
  | _, _, .nili => .nili
  | _, _, .agg cs us h ho => .agg cs us (VRs.mono hi hw h) ho
  | _, _, .tup vs us h => .tup vs us (VRs.mono hi hw h)
  | _, _, .yield id b o h => .yield id b o (hi _ _ h)
theorem VRs.mono {ι ι' : Pl} {w w' : World} (hi : Pl.le ι ι') (hw : Shp w w') : ∀ {vs : List V} {us : List Value}, VRs ι w vs us → VRs ι' w' vs us
  | _, _, .nil => .nil
  | _, _, .cons v u vs us h t => .cons v u vs us (VR.mono hi hw h) (VRs.mono hi hw t)
end

/-- Abstract objects. 'cells false': cells that are read alone (those of the inputs). -/
inductive HObj where
  | cells (rw : Bool) (cs : List V)
  | map (es : List (V × V))
  | siter (s : List UInt8) (pos : Nat)
  /-- a map of which one entry is being written: its place, its stamp -/
  | mapE (es : List (V × V)) (i : Nat) (n : Int)
  /-- a map whose stamps, and clock, are known -/
  | mapS (es : List (V × V)) (bs : List Nat) (clk : Nat)
  /-- an iterator over a map -/
  | miter (mid since : Nat) (seen : List Nat) (stepped : Nat)
  /-- a loop over a function, between two rounds -/
  | round (vs : List V) (D : Nat) (fn : FuncId) (ps : Array Tmp) (assign body : Code)
  deriving Inhabited

def HObj.rw : HObj → Bool
  | .cells b _ => b
  | _ => true

abbrev Heap := Nat → Option HObj
def Heap.set (H : Heap) (i : Nat) (o : HObj) : Heap := fun j => bif Nat.beq j i then some o else H j
def Heap.del (H : Heap) (i : Nat) : Heap := fun j => bif Nat.beq j i then none else H j
def Heap.le (H H' : Heap) : Prop := ∀ i o, H i = some o → H' i = some o

theorem Heap.set_same (H : Heap) (i : Nat) (o : HObj) : (H.set i o) i = some o := by simp [Heap.set]
theorem Heap.set_ne (H : Heap) {i j : Nat} (o : HObj) (h : j ≠ i) : (H.set i o) j = H j := by
  simp [Heap.set, show Nat.beq j i = false from Bool.eq_false_iff.2 fun e => h (Nat.eq_of_beq_eq_true e)]
theorem Heap.del_same (H : Heap) (i : Nat) : (H.del i) i = none := by simp [Heap.del]
theorem Heap.del_ne (H : Heap) {i j : Nat} (h : j ≠ i) : (H.del i) j = H j := by
  simp [Heap.del, show Nat.beq j i = false from Bool.eq_false_iff.2 fun e => h (Nat.eq_of_beq_eq_true e)]

theorem Heap.le_refl (H : Heap) : H.le H := fun _ _ h => h
theorem Heap.le_trans {A B C : Heap} (h : A.le B) (h' : B.le C) : A.le C := fun i o hi => h' i o (h i o hi)
theorem Heap.le_set {H : Heap} {i : Nat} (o : HObj) (h : H i = none) : H.le (H.set i o) := fun j x hj => by
  rw [Heap.set_ne]
  · exact hj
  · rintro rfl; rw [h] at hj; cases hj

/-- No cell of the row is frozen. -/
def Free (c : Array Value) (f : Nat × Nat) : Prop := ∀ k, k ≤ c.size → ¬(f.1 ≤ k ∧ k < f.2)

/-- Entries of a map. -/
structure EntR (ι : Pl) (w : World) (es : List (V × V)) (ms : List MapEntry) : Prop where
  keys : VRs ι w (es.map (·.1)) (ms.map (·.key))
  vals : VRs ι w (es.map (·.2)) (ms.map (·.val))

def ObjR (ι : Pl) (w : World) (b off : Nat) : HObj → Prop
  | .cells rw cs => ∃ (c : Array Value) (e : TypeId) (f : Nat × Nat), w.heap[b]? = some (.cells c e f) ∧ (∀ (k : Nat) (v : V), cs[k]? = some v → ∃ u, c[off + k]? = some u ∧ VR ι w v u ∧ one u = true) ∧ (rw = true → Free c f) ∧ off + cs.length ≤ c.size
  | .map es => ∃ ms clock, w.heap[b]? = some (.map ms clock) ∧ EntR ι w es ms.toList ∧ (∀ (i : Nat) (e : MapEntry), ms[i]? = some e → e.born < clock) ∧
      (∀ (i j : Nat) (e e' : MapEntry), ms[i]? = some e → ms[j]? = some e' → e.born = e'.born → i = j)
  | .siter s pos => ∃ bs : ByteArray, w.heap[b]? = some (.stringIter bs pos) ∧ bs.data.toList = s
  | .mapE es i n => ∃ ms clock, w.heap[b]? = some (.map ms clock) ∧ EntR ι w es ms.toList ∧ (∀ (i : Nat) (e : MapEntry), ms[i]? = some e → e.born < clock) ∧
      (∀ (i j : Nat) (e e' : MapEntry), ms[i]? = some e → ms[j]? = some e' → e.born = e'.born → i = j) ∧ ∃ e : MapEntry, ms[i]? = some e ∧ (e.born : Int) = n
  | .mapS es bs clk => ∃ ms, w.heap[b]? = some (.map ms clk) ∧ EntR ι w es ms.toList ∧ (∀ (i : Nat) (e : MapEntry), ms[i]? = some e → e.born < clk) ∧
      (∀ (i j : Nat) (e e' : MapEntry), ms[i]? = some e → ms[j]? = some e' → e.born = e'.born → i = j) ∧ ms.toList.map (·.born) = bs
  | .miter mid since seen stepped => off = 0 ∧ ∃ mb mo, ι mid = some (mb, mo) ∧ w.heap[b]? = some (.mapIter (some mb) since ⟨seen⟩ stepped)
  | .round vs D fn ps assign body => ∃ us, VRs ι w vs us ∧ w.heap[b]? = some (.loop { state := .ready, pending := none, fn, tmps := ⟨us⟩, params := ps, assign, body, defers := D })

theorem EntR.mono {ι ι' : Pl} {w w' : World} (hi : Pl.le ι ι') (hw : Shp w w') {es : List (V × V)} {ms : List MapEntry} (h : EntR ι w es ms) : EntR ι' w' es ms :=
  ⟨h.keys.mono hi hw, h.vals.mono hi hw⟩

/-- An object whose block is as it was. -/
theorem ObjR.keep {ι ι' : Pl} {w w' : World} (hi : Pl.le ι ι') (hw : Shp w w') {b off : Nat} {o : HObj} (hb : w'.heap[b]? = w.heap[b]?) (h : ObjR ι w b off o) : ObjR ι' w' b off o := by
  cases o with
  | cells rw cs =>
    obtain ⟨c, e, f, h1, h2, h3⟩ := h
    refine ⟨c, e, f, hb.trans h1, fun k v hk => ?_, h3⟩
    obtain ⟨u, h4, h5, h6⟩ := h2 k v hk
    exact ⟨u, h4, h5.mono hi hw, h6⟩
  | map es =>
    obtain ⟨ms, clock, h1, h2, h3⟩ := h
    exact ⟨ms, clock, hb.trans h1, h2.mono hi hw, h3⟩
  | mapE es i n =>
    obtain ⟨ms, clock, h1, h2, h3⟩ := h
    exact ⟨ms, clock, hb.trans h1, h2.mono hi hw, h3⟩
  | siter s pos =>
    obtain ⟨bs, h1, h2⟩ := h
    exact ⟨bs, hb.trans h1, h2⟩
  | mapS es bs clk =>
    obtain ⟨ms, h1, h2, h3⟩ := h
    exact ⟨ms, hb.trans h1, h2.mono hi hw, h3⟩
  | miter mid since seen stepped =>
    obtain ⟨h0, mb, mo, h1, h2⟩ := h
    exact ⟨h0, mb, mo, hi _ _ h1, hb.trans h2⟩
  | round vs D fn ps as bd =>
    obtain ⟨us, h1, h2⟩ := h
    exact ⟨us, h1.mono hi hw, hb.trans h2⟩

/-- The tape as it was; perhaps more of it is drawn. -/
structure Tape (w w' : World) : Prop where
  eq : w'.tape = w.tape
  drawn : w.drawn ≤ w'.drawn
theorem Tape.refl (w : World) : Tape w w := ⟨rfl, Nat.le_refl _⟩
theorem Tape.trans {w w1 w2 : World} (h : Tape w w1) (k : Tape w1 w2) : Tape w w2 := ⟨k.eq.trans h.eq, Nat.le_trans h.drawn k.drawn⟩

structure Rel (ι : Pl) (H : Heap) (w : World) : Prop where
  obj : ∀ id o, H id = some o → ∃ b off, ι id = some (b, off) ∧ ObjR ι w b off o
  inj : ∀ id id' o o' b off off', H id = some o → H id' = some o' → o.rw = true → ι id = some (b, off) → ι id' = some (b, off') → id = id'
  fin : ∃ N, ∀ id, N ≤ id → ι id = none
  zero : ι 0 = none

/-- The blocks that may be written: those of the objects that are not read alone. -/
def Owns (ι : Pl) (H : Heap) (b : Nat) : Prop := ∃ id o off, H id = some o ∧ o.rw = true ∧ ι id = some (b, off)

/-- What a piece of a run may do. -/
structure Ext (ι : Pl) (H : Heap) (w : World) (ι' : Pl) (H' : Heap) (w' : World) : Prop where
  pl : Pl.le ι ι'
  os : w'.os = w.os
  tape : Tape w w'
  output : w'.output = w.output
  size : w.heap.size ≤ w'.heap.size
  shp : Shp w w'
  frame : ∀ b, b < w.heap.size → ¬ Owns ι H b → w'.heap[b]? = w.heap[b]?
  owns : ∀ b, Owns ι' H' b → Owns ι H b ∨ w.heap.size ≤ b
  ids : ∀ id o, H' id = some o → H id = none → ι id = none
  ro : ∀ id o, H' id = some o → o.rw = false → H id = some o

theorem Ext.refl (ι : Pl) (H : Heap) (w : World) : Ext ι H w ι H w :=
  ⟨fun _ _ h => h, rfl, Tape.refl w, rfl, Nat.le_refl _, Shp.refl w, fun _ _ _ => rfl, fun _ h => .inl h, fun _ _ h h' => (by rw [h] at h'; cases h'), fun _ _ h _ => h⟩

theorem Ext.trans {ι ι1 ι2 : Pl} {H H1 H2 : Heap} {w w1 w2 : World} (h : Ext ι H w ι1 H1 w1) (k : Ext ι1 H1 w1 ι2 H2 w2) : Ext ι H w ι2 H2 w2 := by
  refine ⟨fun i x hx => k.pl _ _ (h.pl _ _ hx), k.os.trans h.os, h.tape.trans k.tape, k.output.trans h.output, Nat.le_trans h.size k.size, h.shp.trans k.shp, ?_, ?_, ?_, fun id o ho hr => h.ro id o (k.ro id o ho hr) hr⟩
  · intro b hb hn
    rw [k.frame b (Nat.lt_of_lt_of_le hb h.size) ?_, h.frame b hb hn]
    intro ho
    rcases h.owns b ho with h1 | h1
    · exact hn h1
    · omega
  · intro b hb
    rcases k.owns b hb with h1 | h1
    · exact h.owns b h1
    · have := h.size
      exact .inr (by omega)
  · intro id o ho hn
    cases h1 : H1 id with
    | some o1 => exact h.ids id o1 h1 hn
    | none =>
      have h2 := k.ids id o ho h1
      cases h3 : ι id with
      | none => rfl
      | some x => rw [h.pl _ _ h3] at h2; cases h2

/-- The caller knows less of the heap. -/
theorem Rel.weaken {ι : Pl} {H H' : Heap} {w : World} (h : Rel ι H w) (hl : H'.le H) : Rel ι H' w :=
  ⟨fun id o ho => h.obj id o (hl _ _ ho), fun id id' o o' b off off' h1 h2 => h.inj id id' o o' b off off' (hl _ _ h1) (hl _ _ h2), h.fin, h.zero⟩

/-- An object that is related lies in the heap. -/
theorem ObjR.lt {ι : Pl} {w : World} {b off : Nat} {o : HObj} (h : ObjR ι w b off o) : b < w.heap.size := by
  have : ∃ x, w.heap[b]? = some x := by
    cases o with
    | cells rw cs => obtain ⟨c, e, f, h1, _⟩ := h; exact ⟨_, h1⟩
    | map es => obtain ⟨ms, clock, h1, _⟩ := h; exact ⟨_, h1⟩
    | siter s pos => obtain ⟨bs, h1, _⟩ := h; exact ⟨_, h1⟩
    | mapE es i n => obtain ⟨ms, clock, h1, _⟩ := h; exact ⟨_, h1⟩
    | mapS es bs clk => obtain ⟨ms, h1, _⟩ := h; exact ⟨_, h1⟩
    | miter mid since seen stepped => obtain ⟨_, mb, mo, _, h2⟩ := h; exact ⟨_, h2⟩
    | round vs D fn ps as bd => obtain ⟨us, _, h2⟩ := h; exact ⟨_, h2⟩
  obtain ⟨x, hx⟩ := this
  exact (Array.getElem?_eq_some_iff.1 hx).1

/-- ONE OBJECT IS WRITTEN: its block turns, all else stays. -/
theorem Rel.write {ι : Pl} {H : Heap} {w w' : World} (h : Rel ι H w) {id : Nat} {o o' : HObj} {b off : Nat}
    (ho : H id = some o) (hrw : o.rw = true) (hι : ι id = some (b, off)) (hs : Shp w w') (hf : ∀ k, k ≠ b → w'.heap[k]? = w.heap[k]?)
    (hnew : ObjR ι w' b off o') : Rel ι (H.set id o') w' := by
  constructor
  · intro i x hx
    by_cases hi : i = id
    · subst hi
      rw [Heap.set_same] at hx; cases hx
      exact ⟨b, off, hι, hnew⟩
    · rw [Heap.set_ne _ _ hi] at hx
      obtain ⟨b', off', h1, h2⟩ := h.obj i x hx
      have hb : b' ≠ b := by
        rintro rfl
        exact hi (h.inj id i o x b' off off' ho hx hrw hι h1).symm
      exact ⟨b', off', h1, h2.keep (fun _ _ hx => hx) hs (hf b' hb)⟩
  · intro i i' x x' b1 off1 off1' h1 h2 hr h3 h4
    by_cases hi : i = id
    · subst hi
      by_cases hi' : i' = i
      · exact hi'.symm
      · rw [Heap.set_ne _ _ hi'] at h2
        exact h.inj i i' o x' b1 off1 off1' ho h2 hrw h3 h4
    · rw [Heap.set_ne _ _ hi] at h1
      by_cases hi' : i' = id
      · subst hi'
        exact h.inj i i' x o b1 off1 off1' h1 ho hr h3 h4
      · rw [Heap.set_ne _ _ hi'] at h2
        exact h.inj i i' x x' b1 off1 off1' h1 h2 hr h3 h4
  · exact h.fin
  · exact h.zero

theorem Ext.write {ι : Pl} {H : Heap} {w w' : World} {id : Nat} {o o' : HObj} {b off : Nat}
    (ho : H id = some o) (hrw : o.rw = true) (hι : ι id = some (b, off)) (hs : Shp w w') (hf : ∀ k, k ≠ b → w'.heap[k]? = w.heap[k]?)
    (hos : w'.os = w.os) (ht : Tape w w') (hout : w'.output = w.output) (hsz : w'.heap.size = w.heap.size) (hrw' : o'.rw = true) : Ext ι H w ι (H.set id o') w' := by
  refine ⟨fun _ _ h => h, hos, ht, hout, by omega, hs, ?_, ?_, ?_, ?_⟩
  · intro k _ hn
    refine hf k ?_
    rintro rfl
    exact hn ⟨id, o, off, ho, hrw, hι⟩
  · rintro k ⟨i, x, off', h1, h2, h3⟩
    by_cases hi : i = id
    · subst hi
      rw [hι] at h3; cases h3
      exact .inl ⟨i, o, off, ho, hrw, hι⟩
    · rw [Heap.set_ne _ _ hi] at h1
      exact .inl ⟨i, x, off', h1, h2, h3⟩
  · intro i x h1 h2
    by_cases hi : i = id
    · subst hi; rw [ho] at h2; cases h2
    · rw [Heap.set_ne _ _ hi] at h1; rw [h1] at h2; cases h2
  · intro i x h1 h2
    by_cases hi : i = id
    · subst hi; rw [Heap.set_same] at h1; cases h1; rw [hrw'] at h2; cases h2
    · rw [Heap.set_ne _ _ hi] at h1; exact h1

/-- Places, with one more. -/
def Pl.add (ι : Pl) (id : Nat) (x : Nat × Nat) : Pl := fun j => if j = id then some x else ι j
theorem Pl.add_same (ι : Pl) (id : Nat) (x : Nat × Nat) : (ι.add id x) id = some x := by simp [Pl.add]
theorem Pl.add_ne (ι : Pl) {id j : Nat} (x : Nat × Nat) (h : j ≠ id) : (ι.add id x) j = ι j := by simp [Pl.add, h]
theorem Pl.le_add {ι : Pl} {id : Nat} (x : Nat × Nat) (h : ι id = none) : Pl.le ι (ι.add id x) := fun j y hj => by
  rw [Pl.add_ne]
  · exact hj
  · rintro rfl; rw [h] at hj; cases hj

/-- A NEW OBJECT in a new block, at the heap's end. -/
theorem Rel.new {ι : Pl} {H : Heap} {w w' : World} (h : Rel ι H w) {id : Nat} {o : HObj} (h0 : id ≠ 0) (hid : H id = none) (hι : ι id = none)
    (hs : Shp w w') (hf : ∀ k, k < w.heap.size → w'.heap[k]? = w.heap[k]?) (hnew : ObjR (ι.add id (w.heap.size, 0)) w' w.heap.size 0 o) :
    Rel (ι.add id (w.heap.size, 0)) (H.set id o) w' := by
  have hle := Pl.le_add (ι := ι) (id := id) (w.heap.size, 0) hι
  have old : ∀ i x b off, H i = some x → (ι.add id (w.heap.size, 0)) i = some (b, off) → b < w.heap.size := by
    intro i x b off h1 h2
    obtain ⟨b', off', h3, h4⟩ := h.obj i x h1
    rw [hle _ _ h3] at h2; cases h2
    exact h4.lt
  constructor
  · intro i x hx
    by_cases hi : i = id
    · subst hi
      rw [Heap.set_same] at hx; cases hx
      exact ⟨_, _, Pl.add_same _ _ _, hnew⟩
    · rw [Heap.set_ne _ _ hi] at hx
      obtain ⟨b', off', h1, h2⟩ := h.obj i x hx
      exact ⟨b', off', hle _ _ h1, h2.keep hle hs (hf b' h2.lt)⟩
  · intro i i' x x' b1 off1 off1' h1 h2 hr h3 h4
    by_cases hi : i = id
    · subst hi
      by_cases hi' : i' = i
      · exact hi'.symm
      · rw [Heap.set_ne _ _ hi'] at h2
        rw [Pl.add_same] at h3; cases h3
        exact absurd (old i' x' _ _ h2 h4) (Nat.lt_irrefl _)
    · rw [Heap.set_ne _ _ hi] at h1
      by_cases hi' : i' = id
      · subst hi'
        rw [Pl.add_same] at h4; cases h4
        exact absurd (old i x _ _ h1 h3) (Nat.lt_irrefl _)
      · rw [Heap.set_ne _ _ hi'] at h2
        rw [Pl.add_ne _ _ hi] at h3
        rw [Pl.add_ne _ _ hi'] at h4
        exact h.inj i i' x x' b1 off1 off1' h1 h2 hr h3 h4
  · obtain ⟨N, hN⟩ := h.fin
    refine ⟨max N (id + 1), fun i hi => ?_⟩
    rw [Pl.add_ne _ _ (by omega)]
    exact hN i (by omega)
  · rw [Pl.add_ne _ _ (Ne.symm h0)]; exact h.zero

theorem Ext.new {ι : Pl} {H : Heap} {w w' : World} (_h : Rel ι H w) {id : Nat} {o : HObj} (_hid : H id = none) (hι : ι id = none)
    (hs : Shp w w') (hf : ∀ k, k < w.heap.size → w'.heap[k]? = w.heap[k]?)
    (hos : w'.os = w.os) (ht : Tape w w') (hout : w'.output = w.output) (hsz : w.heap.size ≤ w'.heap.size) (hrw : o.rw = true) :
    Ext ι H w (ι.add id (w.heap.size, 0)) (H.set id o) w' := by
  refine ⟨Pl.le_add _ hι, hos, ht, hout, hsz, hs, fun k hk _ => hf k hk, ?_, ?_, ?_⟩
  · rintro k ⟨i, x, off', h1, h2, h3⟩
    by_cases hi : i = id
    · subst hi
      rw [Pl.add_same] at h3; cases h3
      exact .inr (Nat.le_refl _)
    · rw [Heap.set_ne _ _ hi] at h1
      rw [Pl.add_ne _ _ hi] at h3
      exact .inl ⟨i, x, off', h1, h2, h3⟩
  · intro i x h1 h2
    by_cases hi : i = id
    · subst hi; exact hι
    · rw [Heap.set_ne _ _ hi] at h1; rw [h1] at h2; cases h2
  · intro i x h1 h2
    by_cases hi : i = id
    · subst hi; rw [Heap.set_same] at h1; cases h1; rw [hrw] at h2; cases h2
    · rw [Heap.set_ne _ _ hi] at h1; exact h1

/-- An object is forgotten. -/
theorem Ext.forget {ι ι' : Pl} {H H' H'' : Heap} {w w' : World} (h : Ext ι H w ι' H' w') (hl : H''.le H') : Ext ι H w ι' H'' w' :=
  { h with
    owns := fun b ⟨id, o, off, h1, h2, h3⟩ => h.owns b ⟨id, o, off, hl _ _ h1, h2, h3⟩
    ids := fun id o h1 h2 => h.ids id o (hl _ _ h1) h2
    ro := fun id o h1 h2 => h.ro id o (hl _ _ h1) h2 }

/-- A draw changes nothing of this. -/
theorem Shp.drawn {w : World} {n : Nat} : Shp w { w with drawn := n } := fun _ c _ f h => ⟨c, f, h, rfl⟩

end Go.CM
