/-
  A program logic over the model's calls: its texts CmBase CmOps CmComp, joined.
-/
import Derived.WalkKit
import Derived.Calls
import Derived.Orders
import Derived.OrdersIn
import Derived.RangeFuncIn
import Derived.RangeFuncLeaves
namespace Go.CM

inductive V where
  | bool (b : Bool)
  | int (k : IntKind) (n : Int)
  | str (s : List UInt8)
  | nilp
  | ptr (id off : Nat)
  | nils
  | slice (id off len esz : Nat)
  /-- a slice of known capacity -/
  | sliceC (id off len cap esz : Nat)
  | nilm
  | map (id : Nat)
  | func (f : FuncId) (cap : List V)
  | nilf
  | iface (t : TypeId) (v : V)
  | nili
  | agg (cs : List V)
  | tup (vs : List V)
  /-- what a loop over a function hands to it -/
  | yield (id : Nat)
  /-- a value at an object whose row of cells is of a type, and has so many cells (0: any number) -/
  | ty (t k id : Nat) (v : V)
  deriving Inhabited

def V.undef : V := .tup []

def one : Value → Bool
  | .agg _ | .tuple _ => false
  | _ => true

def ptrish : Value → Bool
  | .pointer _ | .slice .. => true
  | _ => false

abbrev Pl := Nat → Option (Nat × Nat)

mutual
inductive VR (ι : Pl) (w : World) : V → Value → Prop
  | bool (b : Bool) : VR ι w (.bool b) (.bool b)
  | int (k : IntKind) (n : Int) : VR ι w (.int k n) (.int k n)
  | str (s : ByteArray) : VR ι w (.str s.data.toList) (.string s)
  | nilp : VR ι w .nilp (.pointer none)
  | ptr (id off b o : Nat) (h : ι id = some (b, o)) : VR ι w (.ptr id off) (.pointer (some ⟨b, o + off, none⟩))
  | nils : VR ι w .nils (.slice none 0 0)
  | slice (id off len esz : Nat) (a : Addr) (cap : Nat) (hl : len ≤ cap)
      (h : 0 < cap → ∃ (b o : Nat) (c : Array Value) (e : TypeId) (f : Nat × Nat), ι id = some (b, o) ∧ a = ⟨b, o + off, none⟩ ∧ w.heap[b]? = some (.cells c e f) ∧ o + off + cap * esz ≤ c.size) :
      VR ι w (.slice id off len esz) (.slice (some a) len cap)
  | slice0 (off esz : Nat) : VR ι w (.slice 0 off 0 esz) (.slice none 0 0)
  | sliceC (id off len esz : Nat) (a : Addr) (cap : Nat) (hl : len ≤ cap)
      (h : 0 < cap → ∃ (b o : Nat) (c : Array Value) (e : TypeId) (f : Nat × Nat), ι id = some (b, o) ∧ a = ⟨b, o + off, none⟩ ∧ w.heap[b]? = some (.cells c e f) ∧ o + off + cap * esz ≤ c.size) :
      VR ι w (.sliceC id off len cap esz) (.slice (some a) len cap)
  | sliceC0 (off esz : Nat) : VR ι w (.sliceC 0 off 0 0 esz) (.slice none 0 0)
  | nilm : VR ι w .nilm (.map none)
  | map (id b o : Nat) (h : ι id = some (b, o)) : VR ι w (.map id) (.map (some b))
  | func (f : FuncId) (cap : List V) (vs : List Value) (h : VRs ι w cap vs) : VR ι w (.func f cap) (.func (.func f) #[] ⟨vs⟩)
  | nilf : VR ι w .nilf .nilFunc
  | iface (t : TypeId) (v : V) (u : Value) (h : VR ι w v u) : VR ι w (.iface t v) (.iface t u)
  | nili : VR ι w .nili .nilIface
  | agg (cs : List V) (us : List Value) (h : VRs ι w cs us) (ho : us.all one = true) : VR ι w (.agg cs) (.agg ⟨us⟩)
  | tup (vs : List V) (us : List Value) (h : VRs ι w vs us) : VR ι w (.tup vs) (.tuple ⟨us⟩)
  | yield (id b o : Nat) (h : ι id = some (b, o)) : VR ι w (.yield id) (.func (.yield b) #[] #[])
  | ty (t k id b : Nat) (v : V) (u : Value) (c : Array Value) (f : Nat × Nat) (h : ι id = some (b, 0)) (hb : w.heap[b]? = some (.cells c t f)) (hk : k = 0 ∨ c.size = k) (hf : f.2 ≤ c.size) (hv : VR ι w v u) (ho : ptrish u = true) : VR ι w (.ty t k id v) u
inductive VRs (ι : Pl) (w : World) : List V → List Value → Prop
  | nil : VRs ι w [] []
  | cons (v : V) (u : Value) (vs : List V) (us : List Value) (h : VR ι w v u) (t : VRs ι w vs us) : VRs ι w (v :: vs) (u :: us)
end

theorem VRs.length {ι : Pl} {w : World} {vs : List V} {us : List Value} (h : VRs ι w vs us) : vs.length = us.length := by
  induction vs generalizing us with
  | nil => cases h; rfl
  | cons v vs ih => cases h with | cons _ u _ us _ t => simp [ih t]

theorem VRs.get {ι : Pl} {w : World} {vs : List V} {us : List Value} (h : VRs ι w vs us) {i : Nat} {v : V} (hi : vs[i]? = some v) :
    ∃ u, us[i]? = some u ∧ VR ι w v u := by
  induction vs generalizing us i with
  | nil => simp at hi
  | cons x vs ih =>
    cases h with
    | cons _ u _ us hx t =>
      cases i with
      | zero => simp at hi; subst hi; exact ⟨u, rfl, hx⟩
      | succ i => simp at hi; obtain ⟨u', h1, h2⟩ := ih t hi; exact ⟨u', by simpa using h1, h2⟩

theorem VRs.of_get {ι : Pl} {w : World} : ∀ {vs : List V} {us : List Value}, vs.length = us.length →
    (∀ (i : Nat) (v : V), vs[i]? = some v → ∃ u, us[i]? = some u ∧ VR ι w v u) → VRs ι w vs us
  | [], [], _, _ => .nil
  | [], _ :: _, h, _ => by simp at h
  | _ :: _, [], h, _ => by simp at h
  | v :: vs, u :: us, h, hg => by
    refine .cons _ _ _ _ ?_ (VRs.of_get (by simpa using h) fun i x hx => ?_)
    · obtain ⟨u', h1, h2⟩ := hg 0 v rfl
      simp at h1; subst h1; exact h2
    · obtain ⟨u', h1, h2⟩ := hg (i + 1) x (by simpa using hx)
      exact ⟨u', by simpa using h1, h2⟩

theorem VRs.append {ι : Pl} {w : World} {vs vs' : List V} {us us' : List Value} (h : VRs ι w vs us) (h' : VRs ι w vs' us') : VRs ι w (vs ++ vs') (us ++ us') := by
  induction vs generalizing us with
  | nil => cases h; exact h'
  | cons v vs ih => cases h with | cons _ u _ us hx t => exact .cons _ _ _ _ hx (ih t)

theorem VRs.take {ι : Pl} {w : World} {vs : List V} {us : List Value} (h : VRs ι w vs us) (n : Nat) : VRs ι w (vs.take n) (us.take n) := by
  induction vs generalizing us n with
  | nil => cases h; simpa using VRs.nil
  | cons v vs ih =>
    cases h with
    | cons _ u _ us hx t =>
      cases n with
      | zero => exact .nil
      | succ n => exact .cons _ _ _ _ hx (ih t n)

theorem VRs.drop {ι : Pl} {w : World} {vs : List V} {us : List Value} (h : VRs ι w vs us) (n : Nat) : VRs ι w (vs.drop n) (us.drop n) := by
  induction vs generalizing us n with
  | nil => cases h; simpa using VRs.nil
  | cons v vs ih =>
    cases h with
    | cons _ u _ us hx t =>
      cases n with
      | zero => exact .cons _ _ _ _ hx t
      | succ n => exact ih t n

def Shp (w w' : World) : Prop := ∀ (b : Nat) (c : Array Value) (e : TypeId) (f : Nat × Nat), w.heap[b]? = some (.cells c e f) →
    ∃ (c' : Array Value) (f' : Nat × Nat), w'.heap[b]? = some (.cells c' e f') ∧ c'.size = c.size ∧ (f.2 ≤ c.size → f'.2 ≤ c'.size)
theorem keepF {f : Nat × Nat} {a b : Nat} (h : b = a) : b = a ∧ (f.2 ≤ a → f.2 ≤ b) := ⟨h, fun g => by omega⟩

theorem Shp.refl (w : World) : Shp w w := fun _ c _ f h => ⟨c, f, h, keepF rfl⟩
theorem Shp.trans {w w' w'' : World} (h : Shp w w') (h' : Shp w' w'') : Shp w w'' := fun b c e f hb => by
  obtain ⟨c', f', h1, h2, g2⟩ := h b c e f hb
  obtain ⟨c'', f'', h3, h4, g4⟩ := h' b c' e f' h1
  exact ⟨c'', f'', h3, by omega, fun h => g4 (g2 h)⟩

def Pl.le (ι ι' : Pl) : Prop := ∀ i x, ι i = some x → ι' i = some x

mutual
theorem VR.mono {ι ι' : Pl} {w w' : World} (hi : Pl.le ι ι') (hw : Shp w w') : ∀ {v : V} {u : Value}, VR ι w v u → VR ι' w' v u
  | _, _, .bool b => .bool b
  | _, _, .int k n => .int k n
  | _, _, .str s => .str s
  | _, _, .nilp => .nilp
  | _, _, .ptr id off b o h => .ptr id off b o (hi _ _ h)
  | _, _, .nils => .nils
  | _, _, .slice id off len esz a cap hl h => .slice id off len esz a cap hl fun hc => by
      obtain ⟨b, o, c, e, f, h1, h2, h3, h4⟩ := h hc
      obtain ⟨c', f', h5, h6, _⟩ := hw b c e f h3
      exact ⟨b, o, c', e, f', hi _ _ h1, h2, h5, by omega⟩
  | _, _, .slice0 off esz => .slice0 off esz
  | _, _, .sliceC id off len esz a cap hl h => .sliceC id off len esz a cap hl fun hc => by
      obtain ⟨b, o, c, e, f, h1, h2, h3, h4⟩ := h hc
      obtain ⟨c', f', h5, h6, _⟩ := hw b c e f h3
      exact ⟨b, o, c', e, f', hi _ _ h1, h2, h5, by omega⟩
  | _, _, .sliceC0 off esz => .sliceC0 off esz
  | _, _, .nilm => .nilm
  | _, _, .map id b o h => .map id b o (hi _ _ h)
  | _, _, .func f cap vs h => .func f cap vs (VRs.mono hi hw h)
  | _, _, .nilf => .nilf
  | _, _, .iface t v u h => .iface t v u (VR.mono hi hw h)
  | _, _, .nili => .nili
  | _, _, .agg cs us h ho => .agg cs us (VRs.mono hi hw h) ho
  | _, _, .tup vs us h => .tup vs us (VRs.mono hi hw h)
  | _, _, .yield id b o h => .yield id b o (hi _ _ h)
  | _, _, .ty t k id b v u c f h hb hk hf hv ho => by
      obtain ⟨c', f', h1, h2, h3⟩ := hw b c t f hb
      exact .ty t k id b v u c' f' (hi _ _ h) h1 (hk.imp_right fun h => h2.trans h) (h3 hf) (VR.mono hi hw hv) ho
theorem VRs.mono {ι ι' : Pl} {w w' : World} (hi : Pl.le ι ι') (hw : Shp w w') : ∀ {vs : List V} {us : List Value}, VRs ι w vs us → VRs ι' w' vs us
  | _, _, .nil => .nil
  | _, _, .cons v u vs us h t => .cons v u vs us (VR.mono hi hw h) (VRs.mono hi hw t)
end

inductive HObj where
  | cells (rw : Bool) (cs : List V)
  | map (es : List (V × V))
  | siter (s : List UInt8) (pos : Nat)
  /-- a map of which one entry is being written: its place, its stamp -/
  | mapE (es : List (V × V)) (i : Nat) (n : Int)
  /-- a map whose stamps, and clock, are known -/
  | mapS (es : List (V × V)) (bs : List Nat) (clk : Nat)
  /-- an iterator over a map -/
  | miter (mid since : Nat) (seen : List Nat) (stepped : Nat)
  /-- a loop over a function, between two rounds -/
  | round (vs : List V) (D : Nat) (fn : FuncId) (ps : Array Tmp) (assign body : Code)
  deriving Inhabited

def HObj.rw : HObj → Bool
  | .cells b _ => b
  | _ => true

abbrev Heap := Nat → Option HObj
def Heap.set (H : Heap) (i : Nat) (o : HObj) : Heap := fun j => bif Nat.beq j i then some o else H j
def Heap.del (H : Heap) (i : Nat) : Heap := fun j => bif Nat.beq j i then none else H j
def Heap.le (H H' : Heap) : Prop := ∀ i o, H i = some o → H' i = some o

theorem Heap.set_same (H : Heap) (i : Nat) (o : HObj) : (H.set i o) i = some o := by simp [Heap.set]
theorem Heap.set_ne (H : Heap) {i j : Nat} (o : HObj) (h : j ≠ i) : (H.set i o) j = H j := by
  simp [Heap.set, show Nat.beq j i = false from Bool.eq_false_iff.2 fun e => h (Nat.eq_of_beq_eq_true e)]
theorem Heap.del_same (H : Heap) (i : Nat) : (H.del i) i = none := by simp [Heap.del]
theorem Heap.del_ne (H : Heap) {i j : Nat} (h : j ≠ i) : (H.del i) j = H j := by
  simp [Heap.del, show Nat.beq j i = false from Bool.eq_false_iff.2 fun e => h (Nat.eq_of_beq_eq_true e)]

theorem Heap.le_refl (H : Heap) : H.le H := fun _ _ h => h
theorem Heap.le_trans {A B C : Heap} (h : A.le B) (h' : B.le C) : A.le C := fun i o hi => h' i o (h i o hi)
theorem Heap.le_set {H : Heap} {i : Nat} (o : HObj) (h : H i = none) : H.le (H.set i o) := fun j x hj => by
  rw [Heap.set_ne]
  · exact hj
  · rintro rfl; rw [h] at hj; cases hj

def Free (c : Array Value) (f : Nat × Nat) : Prop := ∀ k, k < c.size → ¬(f.1 ≤ k ∧ k < f.2)

structure EntR (ι : Pl) (w : World) (es : List (V × V)) (ms : List MapEntry) : Prop where
  keys : VRs ι w (es.map (·.1)) (ms.map (·.key))
  vals : VRs ι w (es.map (·.2)) (ms.map (·.val))

def ObjR (ι : Pl) (w : World) (b off : Nat) : HObj → Prop
  | .cells rw cs => ∃ (c : Array Value) (e : TypeId) (f : Nat × Nat), w.heap[b]? = some (.cells c e f) ∧ (∀ (k : Nat) (v : V), cs[k]? = some v → ∃ u, c[off + k]? = some u ∧ VR ι w v u ∧ one u = true) ∧ (rw = true → Free c f) ∧ off + cs.length ≤ c.size
  | .map es => ∃ ms clock, w.heap[b]? = some (.map ms clock) ∧ EntR ι w es ms.toList ∧ (∀ (i : Nat) (e : MapEntry), ms[i]? = some e → e.born < clock) ∧
      (∀ (i j : Nat) (e e' : MapEntry), ms[i]? = some e → ms[j]? = some e' → e.born = e'.born → i = j)
  | .siter s pos => off = 0 ∧ ∃ bs : ByteArray, w.heap[b]? = some (.stringIter bs pos) ∧ bs.data.toList = s
  | .mapE es i n => ∃ ms clock, w.heap[b]? = some (.map ms clock) ∧ EntR ι w es ms.toList ∧ (∀ (i : Nat) (e : MapEntry), ms[i]? = some e → e.born < clock) ∧
      (∀ (i j : Nat) (e e' : MapEntry), ms[i]? = some e → ms[j]? = some e' → e.born = e'.born → i = j) ∧ ∃ e : MapEntry, ms[i]? = some e ∧ (e.born : Int) = n
  | .mapS es bs clk => ∃ ms, w.heap[b]? = some (.map ms clk) ∧ EntR ι w es ms.toList ∧ (∀ (i : Nat) (e : MapEntry), ms[i]? = some e → e.born < clk) ∧
      (∀ (i j : Nat) (e e' : MapEntry), ms[i]? = some e → ms[j]? = some e' → e.born = e'.born → i = j) ∧ ms.toList.map (·.born) = bs
  | .miter mid since seen stepped => off = 0 ∧ ∃ mb mo, ι mid = some (mb, mo) ∧ w.heap[b]? = some (.mapIter (some mb) since ⟨seen⟩ stepped)
  | .round vs D fn ps assign body => ∃ us, VRs ι w vs us ∧ w.heap[b]? = some (.loop { state := .ready, pending := none, fn, tmps := ⟨us⟩, params := ps, assign, body, defers := D })

theorem EntR.mono {ι ι' : Pl} {w w' : World} (hi : Pl.le ι ι') (hw : Shp w w') {es : List (V × V)} {ms : List MapEntry} (h : EntR ι w es ms) : EntR ι' w' es ms :=
  ⟨h.keys.mono hi hw, h.vals.mono hi hw⟩

theorem ObjR.keep {ι ι' : Pl} {w w' : World} (hi : Pl.le ι ι') (hw : Shp w w') {b off : Nat} {o : HObj} (hb : w'.heap[b]? = w.heap[b]?) (h : ObjR ι w b off o) : ObjR ι' w' b off o := by
  cases o with
  | cells rw cs =>
    obtain ⟨c, e, f, h1, h2, h3⟩ := h
    refine ⟨c, e, f, hb.trans h1, fun k v hk => ?_, h3⟩
    obtain ⟨u, h4, h5, h6⟩ := h2 k v hk
    exact ⟨u, h4, h5.mono hi hw, h6⟩
  | map es =>
    obtain ⟨ms, clock, h1, h2, h3⟩ := h
    exact ⟨ms, clock, hb.trans h1, h2.mono hi hw, h3⟩
  | mapE es i n =>
    obtain ⟨ms, clock, h1, h2, h3⟩ := h
    exact ⟨ms, clock, hb.trans h1, h2.mono hi hw, h3⟩
  | siter s pos =>
    obtain ⟨h0, bs, h1, h2⟩ := h
    exact ⟨h0, bs, hb.trans h1, h2⟩
  | mapS es bs clk =>
    obtain ⟨ms, h1, h2, h3⟩ := h
    exact ⟨ms, hb.trans h1, h2.mono hi hw, h3⟩
  | miter mid since seen stepped =>
    obtain ⟨h0, mb, mo, h1, h2⟩ := h
    exact ⟨h0, mb, mo, hi _ _ h1, hb.trans h2⟩
  | round vs D fn ps as bd =>
    obtain ⟨us, h1, h2⟩ := h
    exact ⟨us, h1.mono hi hw, hb.trans h2⟩

structure Tape (w w' : World) : Prop where
  eq : w'.tape = w.tape
  drawn : w.drawn ≤ w'.drawn
theorem Tape.refl (w : World) : Tape w w := ⟨rfl, Nat.le_refl _⟩
theorem Tape.trans {w w1 w2 : World} (h : Tape w w1) (k : Tape w1 w2) : Tape w w2 := ⟨k.eq.trans h.eq, Nat.le_trans h.drawn k.drawn⟩

structure Rel (ι : Pl) (H : Heap) (w : World) : Prop where
  obj : ∀ id o, H id = some o → ∃ b off, ι id = some (b, off) ∧ ObjR ι w b off o
  inj : ∀ id id' o o' b off off', H id = some o → H id' = some o' → o.rw = true → ι id = some (b, off) → ι id' = some (b, off') → id = id'
  fin : ∃ N, ∀ id, N ≤ id → id % 2 = 0 → ι id = none
  zero : ι 0 = none
  glob : ∀ g, ι (2 * g + 1) = some (g, 0)

def Owns (ι : Pl) (H : Heap) (b : Nat) : Prop := ∃ id o off, H id = some o ∧ o.rw = true ∧ ι id = some (b, off)

structure Ext (ι : Pl) (H : Heap) (w : World) (ι' : Pl) (H' : Heap) (w' : World) : Prop where
  pl : Pl.le ι ι'
  os : w'.os = w.os
  tape : Tape w w'
  output : w'.output = w.output
  size : w.heap.size ≤ w'.heap.size
  shp : Shp w w'
  frame : ∀ b, b < w.heap.size → ¬ Owns ι H b → w'.heap[b]? = w.heap[b]?
  owns : ∀ b, Owns ι' H' b → Owns ι H b ∨ w.heap.size ≤ b
  ids : ∀ id o, H' id = some o → H id = none → ι id = none
  ro : ∀ id o, H' id = some o → o.rw = false → H id = some o

theorem Ext.refl (ι : Pl) (H : Heap) (w : World) : Ext ι H w ι H w :=
  ⟨fun _ _ h => h, rfl, Tape.refl w, rfl, Nat.le_refl _, Shp.refl w, fun _ _ _ => rfl, fun _ h => .inl h, fun _ _ h h' => (by rw [h] at h'; cases h'), fun _ _ h _ => h⟩

theorem Ext.trans {ι ι1 ι2 : Pl} {H H1 H2 : Heap} {w w1 w2 : World} (h : Ext ι H w ι1 H1 w1) (k : Ext ι1 H1 w1 ι2 H2 w2) : Ext ι H w ι2 H2 w2 := by
  refine ⟨fun i x hx => k.pl _ _ (h.pl _ _ hx), k.os.trans h.os, h.tape.trans k.tape, k.output.trans h.output, Nat.le_trans h.size k.size, h.shp.trans k.shp, ?_, ?_, ?_, fun id o ho hr => h.ro id o (k.ro id o ho hr) hr⟩
  · intro b hb hn
    rw [k.frame b (Nat.lt_of_lt_of_le hb h.size) ?_, h.frame b hb hn]
    intro ho
    rcases h.owns b ho with h1 | h1
    · exact hn h1
    · omega
  · intro b hb
    rcases k.owns b hb with h1 | h1
    · exact h.owns b h1
    · have := h.size
      exact .inr (by omega)
  · intro id o ho hn
    cases h1 : H1 id with
    | some o1 => exact h.ids id o1 h1 hn
    | none =>
      have h2 := k.ids id o ho h1
      cases h3 : ι id with
      | none => rfl
      | some x => rw [h.pl _ _ h3] at h2; cases h2

theorem Rel.weaken {ι : Pl} {H H' : Heap} {w : World} (h : Rel ι H w) (hl : H'.le H) : Rel ι H' w :=
  ⟨fun id o ho => h.obj id o (hl _ _ ho), fun id id' o o' b off off' h1 h2 => h.inj id id' o o' b off off' (hl _ _ h1) (hl _ _ h2), h.fin, h.zero, h.glob⟩

theorem ObjR.lt {ι : Pl} {w : World} {b off : Nat} {o : HObj} (h : ObjR ι w b off o) : b < w.heap.size := by
  have : ∃ x, w.heap[b]? = some x := by
    cases o with
    | cells rw cs => obtain ⟨c, e, f, h1, _⟩ := h; exact ⟨_, h1⟩
    | map es => obtain ⟨ms, clock, h1, _⟩ := h; exact ⟨_, h1⟩
    | siter s pos => obtain ⟨_, bs, h1, _⟩ := h; exact ⟨_, h1⟩
    | mapE es i n => obtain ⟨ms, clock, h1, _⟩ := h; exact ⟨_, h1⟩
    | mapS es bs clk => obtain ⟨ms, h1, _⟩ := h; exact ⟨_, h1⟩
    | miter mid since seen stepped => obtain ⟨_, mb, mo, _, h2⟩ := h; exact ⟨_, h2⟩
    | round vs D fn ps as bd => obtain ⟨us, _, h2⟩ := h; exact ⟨_, h2⟩
  obtain ⟨x, hx⟩ := this
  exact (Array.getElem?_eq_some_iff.1 hx).1

theorem Rel.write {ι : Pl} {H : Heap} {w w' : World} (h : Rel ι H w) {id : Nat} {o o' : HObj} {b off : Nat}
    (ho : H id = some o) (hrw : o.rw = true) (hι : ι id = some (b, off)) (hs : Shp w w') (hf : ∀ k, k ≠ b → w'.heap[k]? = w.heap[k]?)
    (hnew : ObjR ι w' b off o') : Rel ι (H.set id o') w' := by
  constructor
  · intro i x hx
    by_cases hi : i = id
    · subst hi
      rw [Heap.set_same] at hx; cases hx
      exact ⟨b, off, hι, hnew⟩
    · rw [Heap.set_ne _ _ hi] at hx
      obtain ⟨b', off', h1, h2⟩ := h.obj i x hx
      have hb : b' ≠ b := by
        rintro rfl
        exact hi (h.inj id i o x b' off off' ho hx hrw hι h1).symm
      exact ⟨b', off', h1, h2.keep (fun _ _ hx => hx) hs (hf b' hb)⟩
  · intro i i' x x' b1 off1 off1' h1 h2 hr h3 h4
    by_cases hi : i = id
    · subst hi
      by_cases hi' : i' = i
      · exact hi'.symm
      · rw [Heap.set_ne _ _ hi'] at h2
        exact h.inj i i' o x' b1 off1 off1' ho h2 hrw h3 h4
    · rw [Heap.set_ne _ _ hi] at h1
      by_cases hi' : i' = id
      · subst hi'
        exact h.inj i i' x o b1 off1 off1' h1 ho hr h3 h4
      · rw [Heap.set_ne _ _ hi'] at h2
        exact h.inj i i' x x' b1 off1 off1' h1 h2 hr h3 h4
  · exact h.fin
  · exact h.zero
  · exact h.glob

theorem Ext.write {ι : Pl} {H : Heap} {w w' : World} {id : Nat} {o o' : HObj} {b off : Nat}
    (ho : H id = some o) (hrw : o.rw = true) (hι : ι id = some (b, off)) (hs : Shp w w') (hf : ∀ k, k ≠ b → w'.heap[k]? = w.heap[k]?)
    (hos : w'.os = w.os) (ht : Tape w w') (hout : w'.output = w.output) (hsz : w'.heap.size = w.heap.size) (hrw' : o'.rw = true) : Ext ι H w ι (H.set id o') w' := by
  refine ⟨fun _ _ h => h, hos, ht, hout, by omega, hs, ?_, ?_, ?_, ?_⟩
  · intro k _ hn
    refine hf k ?_
    rintro rfl
    exact hn ⟨id, o, off, ho, hrw, hι⟩
  · rintro k ⟨i, x, off', h1, h2, h3⟩
    by_cases hi : i = id
    · subst hi
      rw [hι] at h3; cases h3
      exact .inl ⟨i, o, off, ho, hrw, hι⟩
    · rw [Heap.set_ne _ _ hi] at h1
      exact .inl ⟨i, x, off', h1, h2, h3⟩
  · intro i x h1 h2
    by_cases hi : i = id
    · subst hi; rw [ho] at h2; cases h2
    · rw [Heap.set_ne _ _ hi] at h1; rw [h1] at h2; cases h2
  · intro i x h1 h2
    by_cases hi : i = id
    · subst hi; rw [Heap.set_same] at h1; cases h1; rw [hrw'] at h2; cases h2
    · rw [Heap.set_ne _ _ hi] at h1; exact h1

def Pl.add (ι : Pl) (id : Nat) (x : Nat × Nat) : Pl := fun j => if j = id then some x else ι j
theorem Pl.add_same (ι : Pl) (id : Nat) (x : Nat × Nat) : (ι.add id x) id = some x := by simp [Pl.add]
theorem Pl.add_ne (ι : Pl) {id j : Nat} (x : Nat × Nat) (h : j ≠ id) : (ι.add id x) j = ι j := by simp [Pl.add, h]
theorem Pl.le_add {ι : Pl} {id : Nat} (x : Nat × Nat) (h : ι id = none) : Pl.le ι (ι.add id x) := fun j y hj => by
  rw [Pl.add_ne]
  · exact hj
  · rintro rfl; rw [h] at hj; cases hj

theorem Rel.new {ι : Pl} {H : Heap} {w w' : World} (h : Rel ι H w) {id : Nat} {o : HObj} (h0 : id ≠ 0) (hid : H id = none) (hι : ι id = none)
    (hs : Shp w w') (hf : ∀ k, k < w.heap.size → w'.heap[k]? = w.heap[k]?) (hnew : ObjR (ι.add id (w.heap.size, 0)) w' w.heap.size 0 o) :
    Rel (ι.add id (w.heap.size, 0)) (H.set id o) w' := by
  have hle := Pl.le_add (ι := ι) (id := id) (w.heap.size, 0) hι
  have old : ∀ i x b off, H i = some x → (ι.add id (w.heap.size, 0)) i = some (b, off) → b < w.heap.size := by
    intro i x b off h1 h2
    obtain ⟨b', off', h3, h4⟩ := h.obj i x h1
    rw [hle _ _ h3] at h2; cases h2
    exact h4.lt
  constructor
  · intro i x hx
    by_cases hi : i = id
    · subst hi
      rw [Heap.set_same] at hx; cases hx
      exact ⟨_, _, Pl.add_same _ _ _, hnew⟩
    · rw [Heap.set_ne _ _ hi] at hx
      obtain ⟨b', off', h1, h2⟩ := h.obj i x hx
      exact ⟨b', off', hle _ _ h1, h2.keep hle hs (hf b' h2.lt)⟩
  · intro i i' x x' b1 off1 off1' h1 h2 hr h3 h4
    by_cases hi : i = id
    · subst hi
      by_cases hi' : i' = i
      · exact hi'.symm
      · rw [Heap.set_ne _ _ hi'] at h2
        rw [Pl.add_same] at h3; cases h3
        exact absurd (old i' x' _ _ h2 h4) (Nat.lt_irrefl _)
    · rw [Heap.set_ne _ _ hi] at h1
      by_cases hi' : i' = id
      · subst hi'
        rw [Pl.add_same] at h4; cases h4
        exact absurd (old i x _ _ h1 h3) (Nat.lt_irrefl _)
      · rw [Heap.set_ne _ _ hi'] at h2
        rw [Pl.add_ne _ _ hi] at h3
        rw [Pl.add_ne _ _ hi'] at h4
        exact h.inj i i' x x' b1 off1 off1' h1 h2 hr h3 h4
  · obtain ⟨N, hN⟩ := h.fin
    refine ⟨max N (id + 1), fun i hi he => ?_⟩
    rw [Pl.add_ne _ _ (by omega)]
    exact hN i (by omega) he
  · rw [Pl.add_ne _ _ (Ne.symm h0)]; exact h.zero
  · exact fun g => hle _ _ (h.glob g)

theorem Ext.new {ι : Pl} {H : Heap} {w w' : World} (_h : Rel ι H w) {id : Nat} {o : HObj} (_hid : H id = none) (hι : ι id = none)
    (hs : Shp w w') (hf : ∀ k, k < w.heap.size → w'.heap[k]? = w.heap[k]?)
    (hos : w'.os = w.os) (ht : Tape w w') (hout : w'.output = w.output) (hsz : w.heap.size ≤ w'.heap.size) (hrw : o.rw = true) :
    Ext ι H w (ι.add id (w.heap.size, 0)) (H.set id o) w' := by
  refine ⟨Pl.le_add _ hι, hos, ht, hout, hsz, hs, fun k hk _ => hf k hk, ?_, ?_, ?_⟩
  · rintro k ⟨i, x, off', h1, h2, h3⟩
    by_cases hi : i = id
    · subst hi
      rw [Pl.add_same] at h3; cases h3
      exact .inr (Nat.le_refl _)
    · rw [Heap.set_ne _ _ hi] at h1
      rw [Pl.add_ne _ _ hi] at h3
      exact .inl ⟨i, x, off', h1, h2, h3⟩
  · intro i x h1 h2
    by_cases hi : i = id
    · subst hi; exact hι
    · rw [Heap.set_ne _ _ hi] at h1; rw [h1] at h2; cases h2
  · intro i x h1 h2
    by_cases hi : i = id
    · subst hi; rw [Heap.set_same] at h1; cases h1; rw [hrw] at h2; cases h2
    · rw [Heap.set_ne _ _ hi] at h1; exact h1

theorem Ext.forget {ι ι' : Pl} {H H' H'' : Heap} {w w' : World} (h : Ext ι H w ι' H' w') (hl : H''.le H') : Ext ι H w ι' H'' w' :=
  { h with
    owns := fun b ⟨id, o, off, h1, h2, h3⟩ => h.owns b ⟨id, o, off, hl _ _ h1, h2, h3⟩
    ids := fun id o h1 h2 => h.ids id o (hl _ _ h1) h2
    ro := fun id o h1 h2 => h.ro id o (hl _ _ h1) h2 }

theorem Shp.drawn {w : World} {n : Nat} : Shp w { w with drawn := n } := fun _ c _ f h => ⟨c, f, h, keepF rfl⟩

end Go.CM

namespace Go.CM

abbrev Env := Nat → V
def Env.put (env : Env) (d : Option Nat) (v : V) : Env :=
  match d with
  | none => env
  | some d => fun t => bif Nat.beq t d then v else env t

inductive X where
  | t (n : Nat)
  | k (v : V)
  deriving Inhabited

def X.ev (env : Env) : X → V
  | .t n => env n
  | .k v => v

def V.cells : V → List V
  | .agg cs => cs
  | v => [v]

def V.isTup : V → Bool
  | .tup _ => true
  | _ => false

def splice (cs : List V) (off : Nat) (vs : List V) : List V := cs.take off ++ vs ++ cs.drop (off + vs.length)

def fillV (env : Env) : List V → List (Nat × Nat × X) → Option (List V)
  | cs, [] => some cs
  | cs, (off, sz, x) :: ps =>
    bif (x.ev env).isTup || !(Nat.beq (x.ev env).cells.length sz) || !(Nat.ble (off + sz) cs.length) then none else fillV env (splice cs off (x.ev env).cells) ps

inductive SK where
  | b | i | s
  deriving Inhabited

inductive EqC where
  | bool | ptr | slice | map | func
  | agg (ks : List SK)
  | iface (lit : Bool) (ts : List Nat)
  deriving Inhabited

def seq : SK → V → V → Option Bool
  | .b, .bool a, .bool b => some (a == b)
  | .i, .int k a, .int k' b => if k = k' then some (a == b) else none
  | .s, .str a, .str b => some (a == b)
  | _, _, _ => none

def seqs : List SK → List V → List V → Option Bool
  | [], [], [] => some true
  | k :: ks, a :: as, b :: bs => match seq k a b, seqs ks as bs with
    | some x, some y => some (x && y)
    | _, _ => none
  | _, _, _ => none

def V.unty : V → V
  | .ty _ _ _ v => v
  | v => v
theorem VR.unty {ι : Pl} {w : World} {v : V} {u : Value} (h : VR ι w v u) : VR ι w v.unty u := by
  cases h with
  | ty _ _ _ _ _ _ _ _ _ _ _ _ hv _ => exact hv
  | bool b => exact .bool b
  | int k n => exact .int k n
  | str s => exact .str s
  | nilp => exact .nilp
  | ptr id off b o h => exact .ptr id off b o h
  | nils => exact .nils
  | slice id off len esz a cap hl h => exact .slice id off len esz a cap hl h
  | slice0 off esz => exact .slice0 off esz
  | sliceC id off len esz a cap hl h => exact .sliceC id off len esz a cap hl h
  | sliceC0 off esz => exact .sliceC0 off esz
  | nilm => exact .nilm
  | map id b o h => exact .map id b o h
  | func f cap vs h => exact .func f cap vs h
  | nilf => exact .nilf
  | iface t v u h => exact .iface t v u h
  | nili => exact .nili
  | agg cs us h ho => exact .agg cs us h ho
  | tup vs us h => exact .tup vs us h
  | yield id b o h => exact .yield id b o h
def eqPtr : V → V → Option Bool
  | .nilp, .nilp => some true
  | .nilp, .ptr _ _ => some false
  | .ptr _ _, .nilp => some false
  | .ptr a b, .ptr c d => bif Nat.beq a c && Nat.beq b d then some true else none
  | _, _ => none
def eqI (ts : List Nat) (t : Nat) : V → V → Option Bool
  | .int k a, .int k' b => bif ts.elem t then (if k = k' then some (a == b) else none) else none
  | _, _ => none
def eqV : EqC → V → V → Option Bool
  | .bool, .bool a, .bool b => some (a == b)
  | .ptr, a, b => eqPtr a.unty b.unty
  | .slice, .nils, .nils => some true
  | .slice, .nils, .slice id _ len _ => bif Nat.beq id 0 && Nat.beq len 0 then none else some false
  | .slice, .slice id _ len _, .nils => bif Nat.beq id 0 && Nat.beq len 0 then none else some false
  | .map, .nilm, .nilm => some true
  | .map, .nilm, .map _ => some false
  | .map, .map _, .nilm => some false
  | .func, .nilf, .nilf => some true
  | .func, .nilf, .func _ _ => some false
  | .func, .func _ _, .nilf => some false
  | .agg ks, .agg a, .agg b => seqs ks a b
  | .iface lit _, .nili, .nili => bif lit then some true else none
  | .iface _ _, .nili, .iface _ _ => some false
  | .iface _ _, .iface _ _, .nili => some false
  | .iface _ ts, .iface t v, .iface t' v' => bif Nat.beq t t' then eqI ts t v v' else some false
  | _, _, _ => none

def strLess (a b : List UInt8) : Bool := Op.bytesLess a b

def binV : BinOp → V → V → Option V
  | .shl, .int k a, .int _ b => if b < 0 then none else some (.int k (k.wrap (a * 2 ^ (min b.toNat k.bits))))
  | .shr, .int k a, .int _ b => if b < 0 then none else some (.int k (a.fdiv (2 ^ (min b.toNat k.bits))))
  | op, .int k a, .int k' b =>
    if k = k' then
      match op with
      | .add => some (.int k (k.wrap (a + b)))
      | .sub => some (.int k (k.wrap (a - b)))
      | .mul => some (.int k (k.wrap (a * b)))
      | .quo => if b = 0 then none else some (.int k (k.wrap (a.tdiv b)))
      | .rem => if b = 0 then none else some (.int k (a.tmod b))
      | .and => some (.int k (k.wrap (BitVec.ofInt k.bits a &&& BitVec.ofInt k.bits b).toNat))
      | .or => some (.int k (k.wrap (BitVec.ofInt k.bits a ||| BitVec.ofInt k.bits b).toNat))
      | .xor => some (.int k (k.wrap (BitVec.ofInt k.bits a ^^^ BitVec.ofInt k.bits b).toNat))
      | .andNot => some (.int k (k.wrap (BitVec.ofInt k.bits a &&& ~~~ BitVec.ofInt k.bits b).toNat))
      | .eql => some (.bool (a == b))
      | .neq => some (.bool (a != b))
      | .lss => some (.bool (decide (a < b)))
      | .leq => some (.bool (decide (a ≤ b)))
      | .gtr => some (.bool (decide (b < a)))
      | .geq => some (.bool (decide (b ≤ a)))
      | _ => none
    else none
  | .add, .str a, .str b => if ((a.length + b.length : Nat) : Int) > IntKind.i64.max then none else some (.str (a ++ b))
  | .eql, .str a, .str b => some (.bool (a == b))
  | .neq, .str a, .str b => some (.bool (!(a == b)))
  | .lss, .str a, .str b => some (.bool (strLess a b))
  | .leq, .str a, .str b => some (.bool (strLess a b || a == b))
  | .gtr, .str a, .str b => some (.bool (!(strLess a b || a == b)))
  | .geq, .str a, .str b => some (.bool (!strLess a b))
  | _, _, _ => none

def unV : UnOp → V → Option V
  | .neg, .int k n => some (.int k (k.wrap (0 - n)))
  | .xor, .int k n => some (.int k (k.wrap (BitVec.ofInt k.bits (if k.signed then -1 else k.max) ^^^ BitVec.ofInt k.bits n).toNat))
  | .not, .bool b => some (.bool !b)
  | _, _ => none

def getCells (cs : List V) (off n : Nat) : Option (List V) := bif Nat.ble (off + n) cs.length then some ((cs.drop off).take n) else none

def boundV (v : Option V) (dflt y : Nat) : Option Nat :=
  match v with
  | none => some dflt
  | some (.int _ i) => if 0 ≤ i ∧ i ≤ y then some i.toNat else none
  | _ => none

def minV : V → V → Option V
  | .int k x, .int _ y => some (.int k (if y < x then y else x))
  | _, _ => none
def maxV : V → V → Option V
  | .int k x, .int _ y => some (.int k (if x < y then y else x))
  | _, _ => none
def foldV (f : V → V → Option V) : V → List V → Option V
  | x, [] => some x
  | x, y :: ys => match f x y with
    | some z => foldV f z ys
    | none => none

abbrev KT := Bool × List SK
def eqKey (kt : KT) (a b : V) : Option Bool :=
  match kt.1, a, b with
  | true, .agg as, .agg bs => seqs kt.2 as bs
  | false, a, b => seqs kt.2 [a] [b]
  | _, _, _ => none

def keyFits (kt : KT) (k : V) : Bool :=
  match kt.1, k with
  | true, .agg cs => Nat.beq cs.length kt.2.length
  | true, _ => false
  | false, _ => Nat.beq kt.2.length 1

def findI (kt : KT) (k : V) : List (V × V) → Option (Option Nat)
  | [] => bif keyFits kt k then some none else none
  | e :: es => match eqKey kt k e.1 with
    | some true => some (some 0)
    | some false => match findI kt k es with
      | some (some i) => some (some (i + 1))
      | r => r
    | none => none

inductive R where
  | mov (x : X)
  | pick (c a b : X)
  | build (z : List V) (ps : List (Nat × Nat × X))
  | load1 (a : X)
  | loadn (n : Nat) (a : X)
  | nilck (x : X)
  | bin (op : BinOp) (x y : X)
  | eq (c : EqC) (neg : Bool) (x y : X)
  | un (op : UnOp) (x : X)
  | toInt (k : IntKind) (x : X)
  | same (x : X)
  | b2s (x : X)
  | field1 (off : Nat) (x : X)
  | fieldn (off n : Nat) (x : X)
  | faddr (off : Nat) (x : X)
  | iaddrS (esz : Nat) (x i : X)
  | iaddrA (len esz : Nat) (x i : X)
  | idxStr (x i : X)
  | idxArr1 (len : Nat) (x i : X)
  | cutStr (x : X) (lo hi : Option X)
  | cutSl (esz : Nat) (x : X) (lo hi : Option X)
  | cutSl3 (esz : Nat) (x : X) (lo hi : Option X) (mx : X)
  | capSl (x : X)
  | ext (x : X) (i : Nat)
  | lenStr (x : X)
  | lenSl (x : X)
  | lenK (n : Nat)
  | lenMap (x : X)
  | mn (x : X) (xs : List X)
  | mx (x : X) (xs : List X)
  | lookup (kt : KT) (z : V) (ok : Bool) (m k : X)
  | mkIface (t : TypeId) (x : X)
  | asrt (t : TypeId) (x : X)
  | clo (f : FuncId) (cap : List X)
  | uns (x : X)
  | fromU (u k : Nat) (x : X)
  | sdata (e : Nat) (x : X)
  deriving Inhabited

def R.reads : R → Bool
  | .load1 _ | .loadn _ _ | .b2s _ | .lookup .. | .lenMap _ => true
  | _ => false

def R.ev (env : Env) (H : Heap) : R → Option V
  | .mov x => some (x.ev env)
  | .pick c a b => match c.ev env with
    | .bool true => some (a.ev env)
    | .bool false => some (b.ev env)
    | _ => none
  | .build z ps => match fillV env z ps with
    | some cs => some (.agg cs)
    | none => none
  | .load1 a => match a.ev env with
    | .ptr id off => match H id with
      | some (.cells _ cs) => cs[off]?
      | _ => none
    | _ => none
  | .loadn n a => match a.ev env with
    | .ptr id off => match H id with
      | some (.cells _ cs) => match getCells cs off n with
        | some vs => some (.agg vs)
        | none => none
      | _ => none
    | _ => none
  | .nilck x => match x.ev env with
    | .nilp => none
    | .nili => none
    | .nilf => none
    | .ty t k id (.ptr a b) => some (.ty t k id (.ptr a b))
    | .ty _ _ _ _ => none
    | v => some v
  | .bin op x y => binV op (x.ev env) (y.ev env)
  | .eq c neg x y => match eqV c (x.ev env) (y.ev env) with
    | some b => some (.bool (bif neg then !b else b))
    | none => none
  | .un op x => unV op (x.ev env)
  | .toInt k x => match x.ev env with
    | .int _ n => some (.int k (k.wrap n))
    | _ => none
  | .same x => match x.ev env with
    | .str s => some (.str s)
    | _ => none
  | .b2s x => match x.ev env with
    | .nils => some (.str [])
    | .slice id off len _ => bif Nat.beq len 0 then some (.str []) else match H id with
      | some (.cells _ cs) => match getCells cs off len with
        | some vs => match vs.mapM (fun v => match v with | .int .u8 n => some (UInt8.ofNat n.toNat) | _ => none) with
          | some bs => some (.str bs)
          | none => none
        | none => none
      | _ => none
    | _ => none
  | .field1 off x => match x.ev env with
    | .agg cs => cs[off]?
    | _ => none
  | .fieldn off n x => match x.ev env with
    | .agg cs => match getCells cs off n with
      | some vs => some (.agg vs)
      | none => none
    | _ => none
  | .faddr off x => match x.ev env with
    | .ptr id o => some (.ptr id (o + off))
    | .ty _ _ _ (.ptr id o) => some (.ptr id (o + off))
    | _ => none
  | .iaddrS esz x i => match x.ev env, i.ev env with
    | .slice id off len esz', .int _ n => if 0 ≤ n ∧ n < (len : Int) ∧ esz' = esz then some (.ptr id (off + n.toNat * esz)) else none
    | .ty t k i (.slice id off len esz'), .int _ n => if 0 ≤ n ∧ n < (len : Int) ∧ esz' = esz then some (.ty t k i (.ptr id (off + n.toNat * esz))) else none
    | _, _ => none
  | .iaddrA len esz x i => match x.ev env, i.ev env with
    | .ptr id off, .int _ n => if 0 ≤ n ∧ n < (len : Int) then some (.ptr id (off + n.toNat * esz)) else none
    | _, _ => none
  | .idxStr x i => match x.ev env, i.ev env with
    | .str s, .int _ n => if 0 ≤ n then match s[n.toNat]? with
        | some b => some (.int .u8 b.toNat)
        | none => none
      else none
    | _, _ => none
  | .idxArr1 len x i => match x.ev env, i.ev env with
    | .agg cs, .int _ n => if 0 ≤ n ∧ n < (len : Int) then cs[n.toNat]? else none
    | _, _ => none
  | .cutStr x lo hi => match x.ev env with
    | .str s => match boundV (hi.map (X.ev env)) s.length s.length with
      | some h => match boundV (lo.map (X.ev env)) 0 h with
        | some l => some (.str ((s.take h).drop l))
        | none => none
      | none => none
    | _ => none
  | .cutSl esz x lo hi => match x.ev env with
    | .slice id off len esz' => match boundV (hi.map (X.ev env)) len len with
      | some h => match boundV (lo.map (X.ev env)) 0 h with
        | some l => if esz' = esz then some (.slice id (off + l * esz) (h - l) esz) else none
        | none => none
      | none => none
    | .nils => match boundV (hi.map (X.ev env)) 0 0 with
      | some h => match boundV (lo.map (X.ev env)) 0 h with
        | some _ => some .nils
        | none => none
      | none => none
    | .sliceC id off len cap esz' => match boundV (hi.map (X.ev env)) len cap with
      | some h => match boundV (lo.map (X.ev env)) 0 h with
        | some l => if esz' = esz then some (.sliceC id (off + l * esz) (h - l) (cap - l) esz) else none
        | none => none
      | none => none
    | _ => none
  | .cutSl3 esz x lo hi top => match x.ev env with
    | .slice id off len esz' => match boundV (some (top.ev env)) 0 len with
      | some m => match boundV (hi.map (X.ev env)) len m, hi with
        | some h, some _ => match boundV (lo.map (X.ev env)) 0 h with
          | some l => if esz' = esz then some (.sliceC id (off + l * esz) (h - l) (m - l) esz) else none
          | none => none
        | _, _ => none
      | none => none
    | .sliceC id off len cap esz' => match boundV (some (top.ev env)) 0 cap with
      | some m => match boundV (hi.map (X.ev env)) len m, hi with
        | some h, some _ => match boundV (lo.map (X.ev env)) 0 h with
          | some l => if esz' = esz then some (.sliceC id (off + l * esz) (h - l) (m - l) esz) else none
          | none => none
        | _, _ => none
      | none => none
    | _ => none
  | .capSl x => match x.ev env with
    | .sliceC _ _ _ cap _ => some (.int .i64 cap)
    | .nils => some (.int .i64 0)
    | _ => none
  | .ext x i => match x.ev env with
    | .tup vs => vs[i]?
    | _ => none
  | .lenStr x => match x.ev env with
    | .str s => some (.int .i64 s.length)
    | _ => none
  | .lenSl x => match x.ev env with
    | .ty _ _ _ (.slice _ _ len _) => some (.int .i64 len)
    | .slice _ _ len _ => some (.int .i64 len)
    | .sliceC _ _ len _ _ => some (.int .i64 len)
    | .nils => some (.int .i64 0)
    | _ => none
  | .lenK n => some (.int .i64 n)
  | .lenMap x => match x.ev env with
    | .nilm => some (.int .i64 0)
    | .map id => match H id with
      | some (.map es) => some (.int .i64 es.length)
      | _ => none
    | _ => none
  | .mn x xs => foldV minV (x.ev env) (xs.map (X.ev env))
  | .mx x xs => foldV maxV (x.ev env) (xs.map (X.ev env))
  | .lookup kt z ok m k => match m.ev env with
    | .nilm => bif keyFits kt (k.ev env) then some (bif ok then .tup [z, .bool false] else z) else none
    | .map id => match H id with
      | some (.map es) => match findI kt (k.ev env) es with
        | some (some i) => match es[i]? with
          | some e => some (bif ok then .tup [e.2, .bool true] else e.2)
          | none => none
        | some none => some (bif ok then .tup [z, .bool false] else z)
        | none => none
      | _ => none
    | _ => none
  | .mkIface t x => some (.iface t (x.ev env))
  | .asrt t x => match x.ev env with
    | .iface t' v => if t' = t then some v else none
    | _ => none
  | .clo f cap => some (.func f (cap.map (X.ev env)))
  | .uns x => match x.ev env with
    | .ty t k id (.ptr a b) => bif Nat.beq a id && Nat.beq b 0 && !(Nat.beq k 0) then some (.ty t k id (.ptr a b)) else none
    | _ => none
  | .fromU u n x => match x.ev env with
    | .ty t k id (.ptr a b) => bif Nat.beq a id && Nat.beq b 0 && Nat.beq t u && Nat.beq k n && !(Nat.beq k 0) then some (.ty t k id (.ptr a b)) else none
    | _ => none
  | .sdata e x => match x.ev env with
    | .nils => some .nilp
    | .ty t k id (.slice a b len esz) => bif Nat.beq t e && Nat.beq a id && Nat.beq b 0 && !(Nat.beq len 0) && Nat.beq esz 1 then some (.ty t k id (.ptr a 0)) else none
    | _ => none

def srcCells (H : Heap) (esz : Nat) : V → Option (Nat × List V)
  | .nils => some (0, [])
  | .slice id off len esz' => bif Nat.beq len 0 then some (0, []) else match H id with
    | some (.cells _ cs) => if esz' = esz then match getCells cs off (len * esz) with
        | some vs => some (len, vs)
        | none => none
      else none
    | _ => none
  | .sliceC id off len _ esz' => bif Nat.beq len 0 then some (0, []) else match H id with
    | some (.cells _ cs) => if esz' = esz then match getCells cs off (len * esz) with
        | some vs => some (len, vs)
        | none => none
      else none
    | _ => none
  | .str s => if esz = 1 then some (s.length, s.map fun b => .int .u8 b.toNat) else none
  | _ => none

def byteC (b : UInt8) : List V := [.int .u8 b.toNat]
abbrev bytesV (l : List UInt8) : List V := l.flatMap byteC
theorem bytesV_eq (l : List UInt8) : bytesV l = l.map fun b => .int .u8 b.toNat := by
  induction l with
  | nil => rfl
  | cons a l ih => show byteC a ++ bytesV l = _; rw [ih]; rfl
def decS (s : List UInt8) (pos : Nat) : Nat × Nat := Utf8.decode ⟨s.toArray⟩ pos

def srcTake (H : Heap) (esz : Nat) (k : Nat) : V → Option (Nat × List V)
  | .nils => some (0, [])
  | .slice id off len esz' => bif Nat.beq (min len k) 0 then some (len, []) else match H id with
    | some (.cells _ cs) => if esz' = esz then match getCells cs off (min len k * esz) with
        | some vs => some (len, vs)
        | none => none
      else none
    | _ => none
  | .sliceC id off len _ esz' => bif Nat.beq (min len k) 0 then some (len, []) else match H id with
    | some (.cells _ cs) => if esz' = esz then match getCells cs off (min len k * esz) with
        | some vs => some (len, vs)
        | none => none
      else none
    | _ => none
  | .str s => if esz = 1 then some (s.length, (s.take k).map fun b => .int .u8 b.toNat) else none
  | _ => none

def rep (z : List V) : Nat → List V
  | 0 => []
  | n + 1 => z ++ rep z n

def putE (k v : V) (es : List (V × V)) : Option Nat → List (V × V)
  | some i => es.set i (k, v)
  | none => es ++ [(k, v)]
def delE (es : List (V × V)) : Option Nat → List (V × V)
  | some i => es.eraseIdx i
  | none => es

def Meth (P : Program) (H : Heap) (t : TypeId) (name : String) (v : V) (f : FuncId) (r : V) : Prop :=
  ∀ (ι : Pl) (w : World) (u : Value), Rel ι H w → VR ι w v u → ∃ x, (Go.method (P.types.size + Made.depth) t u name).run P w = .ok (f, x) w ∧ VR ι w r x

def Enters (P : Program) (f : FuncId) : Prop := ∃ fn, P.funcs[f]? = some fn ∧ (fn.name == "runtime.NumGoroutine") = false ∧ fn.body.isNone = false

def CallsC (P : Program) (f : FuncId) (args : List V) (H : Heap) (Q : V → Heap → Prop) : Prop :=
  Enters P f ∧ ∀ (ι : Pl) (w : World) (us : List Value), Rel ι H w → VRs ι w args us →
    Calls P f ⟨us⟩ w fun e w' => ∃ (ι' : Pl) (H' : Heap) (v : V) (u : Value), e = .returned u ∧ VR ι' w' v u ∧ Rel ι' H' w' ∧ Ext ι H w ι' H' w' ∧ Q v H'

theorem CallsC.mono {P : Program} {f : FuncId} {args : List V} {H : Heap} {Q Q' : V → Heap → Prop} (h : CallsC P f args H Q) (hq : ∀ v H', Q v H' → Q' v H') : CallsC P f args H Q' :=
  ⟨h.1, fun ι w us hr hv => (h.2 ι w us hr hv).mono fun _ _ ⟨ι', H', v, u, a, b, c, d, e⟩ => ⟨ι', H', v, u, a, b, c, d, hq _ _ e⟩⟩

def ExtC (P : Program) (f : FuncId) (args : List V) (H : Heap) (Q : V → Heap → Prop) : Prop :=
  ∃ v, (∀ (ι : Pl) (w : World) (us : List Value), Rel ι H w → VRs ι w args us → ∃ u, (callFunc f ⟨us⟩).run P w = .ok (.value u) w ∧ VR ι w v u) ∧ Q v H
theorem ExtC.mono {P : Program} {f : FuncId} {args : List V} {H : Heap} {Q Q' : V → Heap → Prop} (h : ExtC P f args H Q) (hq : ∀ v H', Q v H' → Q' v H') : ExtC P f args H Q' := by
  obtain ⟨v, h1, h2⟩ := h
  exact ⟨v, h1, hq _ _ h2⟩

def YieldC (P : Program) (l : Nat) (args : List V) (H : Heap) (Q : V → Heap → Prop) : Prop :=
  ∀ (ι : Pl) (w : World) (us : List Value) (b o : Nat), Rel ι H w → VRs ι w args us → ι l = some (b, o) →
    ∃ (f : FuncId) (tmps : Array Value) (as bd : Code), (Instr.yield b ⟨us⟩).run P w = .ok (.round b f tmps as bd) w ∧
      RoundIn Fence.wide 0 P b f tmps as bd w fun e w' => ∃ (ι' : Pl) (H' : Heap) (v : V) (u : Value), e = .returned u ∧ VR ι' w' v u ∧ Rel ι' H' w' ∧ Ext ι H w ι' H' w' ∧ Q v H'
theorem YieldC.mono {P : Program} {l : Nat} {args : List V} {H : Heap} {Q Q' : V → Heap → Prop} (h : YieldC P l args H Q) (hq : ∀ v H', Q v H' → Q' v H') : YieldC P l args H Q' := by
  intro ι w us b o hr hv hl
  obtain ⟨f, tmps, as, bd, h1, h2⟩ := h ι w us b o hr hv hl
  exact ⟨f, tmps, as, bd, h1, h2.mono fun _ _ ⟨ι', H', v, u, a, b, c, d, e⟩ => ⟨ι', H', v, u, a, b, c, d, hq _ _ e⟩⟩

inductive E where
  | rangeM (m : X)
  | nextM (x : X)
  | entryM (x : X)
  | rangeS (x : X)
  | nextS (x : X)
  | s2b (x : X)
  | allocT (t : Nat) (z : List V)
  | appT (e esz bytes : Nat) (d s : X)
  | ustr (e : Nat) (p n : X)
  | alloc (z : List V)
  | box (x : X)
  | lit (esz len : Nat) (z : List V) (ps : List (Nat × Nat × X))
  | store (n : Nat) (a v : X)
  | app (esz bytes : Nat) (d s : X)
  | mkSl (esz bytes : Nat) (z : List V) (l c : X)
  | mkSlT (t esz bytes : Nat) (z : List V) (l c : X)
  | mkMap
  | put (kt : KT) (m k v : X)
  | del (kt : KT) (m k : X)
  | call (f : FuncId) (args : List X)
  | callv (x : X) (args : List X)
  | inv (x : X) (name : String) (args : List X)
  | stop
  | ment (kt : KT) (z : V) (m k : X)
  | mset (m s v : X)
  | clr (esz : Nat) (z : List V) (x : X)
  | appz (esz bytes : Nat) (z : List V) (d x : X)
  | copy (esz : Nat) (d s : X)
  deriving Inhabited

def fresh (H : Heap) (o : HObj) (K : Nat → Heap → Prop) : Prop := ∀ id, id ≠ 0 → H id = none → K id (H.set id o)

def appWp (env : Env) (H : Heap) (K : V → Heap → Prop) (esz bytes : Nat) (d s : X) : Prop :=
  ∃ m vs, srcCells H esz (s.ev env) = some (m, vs) ∧
      ((d.ev env = .nils ∧ m * bytes ≤ 140737488355328 ∧ (bif Nat.beq m 0 then K .nils H else fresh H (.cells true vs) fun id H' => K (.slice id 0 m esz) H')) ∨
       (∃ off e, d.ev env = .slice 0 off 0 e ∧ m * bytes ≤ 140737488355328 ∧ (bif Nat.beq m 0 then K (.slice 0 0 0 esz) H else fresh H (.cells true vs) fun id H' => K (.slice id 0 m esz) H')) ∨
       (∃ id off len cs, d.ev env = .slice id off len esz ∧ H id = some (.cells true cs) ∧ off + len * esz ≤ cs.length ∧ (len + m) * bytes ≤ 140737488355328 ∧
          fresh (H.del id) (.cells true ((cs.drop off).take (len * esz) ++ vs)) fun id' H' => K (.slice id' 0 (len + m) esz) H') ∨
       (∃ id off len cap cs, d.ev env = .sliceC id off len cap esz ∧ H id = some (.cells true cs) ∧ off + len * esz ≤ cs.length ∧ len + m ≤ cap ∧
          K (.sliceC id off (len + m) cap esz) (H.set id (.cells true (splice cs (off + len * esz) vs)))) ∨
       (∃ id off len cap cs, d.ev env = .sliceC id off len cap esz ∧ H id = some (.cells true cs) ∧ off + len * esz ≤ cs.length ∧ cap < len + m ∧ (len + m) * bytes ≤ 140737488355328 ∧
          fresh H (.cells true ((cs.drop off).take (len * esz) ++ vs)) fun id' H' => K (.slice id' 0 (len + m) esz) H'))

def E.wp (P : Program) (env : Env) (H : Heap) (K : V → Heap → Prop) : E → Prop
  | .rangeS x => ∃ s, x.ev env = .str s ∧ fresh H (.siter s 0) fun id H' => K (.ptr id 0) H'
  | .nextS x => ∃ it s pos, x.ev env = .ptr it 0 ∧ H it = some (.siter s pos) ∧
      (bif Nat.blt pos s.length then K (.tup [.bool true, .int .i64 pos, .int .i32 (decS s pos).1]) (H.set it (.siter s (pos + (decS s pos).2))) else K (.tup [.bool false]) H)
  | .s2b x => ∃ s, x.ev env = .str s ∧ fresh H (.cells true (bytesV s)) fun id H' => K (.slice id 0 s.length 1) H'
  | .allocT t z => fresh H (.cells true z) fun id H' => K (.ty t z.length id (.ptr id 0)) H'
  | .appT e esz bytes d s => appWp env H K esz bytes d s ∨ ∃ m vs, srcCells H esz (s.ev env) = some (m, vs) ∧ m ≠ 0 ∧
      ((d.ev env = .nils ∧ m * bytes ≤ 140737488355328 ∧ fresh H (.cells true vs) fun id H' => K (.ty e 0 id (.slice id 0 m esz)) H') ∨
       ∃ k id len cs, d.ev env = .ty e k id (.slice id 0 len esz) ∧ H id = some (.cells true cs) ∧ len * esz ≤ cs.length ∧ (len + m) * bytes ≤ 140737488355328 ∧
          fresh (H.del id) (.cells true (cs.take (len * esz) ++ vs)) fun id' H' => K (.ty e 0 id' (.slice id' 0 (len + m) esz)) H')
  | .ustr e p n => (p.ev env = .nilp ∧ n.ev env = .int .i64 0 ∧ K (.str []) H) ∨
      ∃ k id rest l, p.ev env = .ty e k id (.ptr id 0) ∧ n.ev env = .int .i64 (l.length : Nat) ∧ l ≠ [] ∧ l.length ≤ 9223372036854775807 ∧ H id = some (.cells true (bytesV l ++ rest)) ∧ K (.str l) (H.del id)
  | .alloc z => fresh H (.cells true z) fun id H' => K (.ptr id 0) H'
  | .box x => (x.ev env).isTup = false ∧ fresh H (.cells true (x.ev env).cells) fun id H' => K (.ptr id 0) H'
  | .lit esz len z ps => ∃ cs, fillV env z ps = some cs ∧ (fresh H (.cells true cs) (fun id H' => K (.slice id 0 len esz) H') ∨ fresh H (.cells true cs) fun id H' => ∀ t, K (.ty t 0 id (.slice id 0 len esz)) H')
  | .store n a v => ∃ id off cs, a.ev env = .ptr id off ∧ H id = some (.cells true cs) ∧ (v.ev env).isTup = false ∧ (v.ev env).cells.length = n ∧ off + n ≤ cs.length ∧
      K V.undef (H.set id (.cells true (splice cs off (v.ev env).cells)))
  | .app esz bytes d s => ∃ m vs, srcCells H esz (s.ev env) = some (m, vs) ∧
      ((d.ev env = .nils ∧ m * bytes ≤ 140737488355328 ∧ (bif Nat.beq m 0 then K .nils H else fresh H (.cells true vs) fun id H' => K (.slice id 0 m esz) H')) ∨
       (∃ off e, d.ev env = .slice 0 off 0 e ∧ m * bytes ≤ 140737488355328 ∧ (bif Nat.beq m 0 then K (.slice 0 0 0 esz) H else fresh H (.cells true vs) fun id H' => K (.slice id 0 m esz) H')) ∨
       (∃ id off len cs, d.ev env = .slice id off len esz ∧ H id = some (.cells true cs) ∧ off + len * esz ≤ cs.length ∧ (len + m) * bytes ≤ 140737488355328 ∧
          fresh (H.del id) (.cells true ((cs.drop off).take (len * esz) ++ vs)) fun id' H' => K (.slice id' 0 (len + m) esz) H') ∨
       (∃ id off len cap cs, d.ev env = .sliceC id off len cap esz ∧ H id = some (.cells true cs) ∧ off + len * esz ≤ cs.length ∧ len + m ≤ cap ∧
          K (.sliceC id off (len + m) cap esz) (H.set id (.cells true (splice cs (off + len * esz) vs)))) ∨
       (∃ id off len cap cs, d.ev env = .sliceC id off len cap esz ∧ H id = some (.cells true cs) ∧ off + len * esz ≤ cs.length ∧ cap < len + m ∧ (len + m) * bytes ≤ 140737488355328 ∧
          fresh H (.cells true ((cs.drop off).take (len * esz) ++ vs)) fun id' H' => K (.slice id' 0 (len + m) esz) H'))
  | .appz esz bytes z d x => ∃ kx n id off len cap cs, x.ev env = .int kx n ∧ 0 ≤ n ∧ d.ev env = .sliceC id off len cap esz ∧ H id = some (.cells true cs) ∧ off + len * esz ≤ cs.length ∧ cap < len + n.toNat ∧ (len + n.toNat) * bytes ≤ 140737488355328 ∧
      fresh H (.cells true ((cs.drop off).take (len * esz) ++ rep z n.toNat)) fun id' H' => K (.slice id' 0 (len + n.toNat) esz) H'
  | .copy esz d s => (∃ m vs, (d.ev env = .nils ∨ ∃ id off e, d.ev env = .slice id off 0 e) ∧ srcTake H esz 0 (s.ev env) = some (m, vs) ∧ K (.int .i64 0) H) ∨
       ∃ id off len cs m vs, ((d.ev env).unty = .slice id off len esz ∨ ∃ cap, d.ev env = .sliceC id off len cap esz) ∧ srcTake H esz len (s.ev env) = some (m, vs) ∧ H id = some (.cells true cs) ∧ off ≤ cs.length ∧
         K (.int .i64 (min m len : Nat)) (H.set id (.cells true (splice cs off vs)))
  | .mkSl esz bytes z l c => ∃ kl nl kc nc, l.ev env = .int kl nl ∧ c.ev env = .int kc nc ∧ 0 ≤ nl ∧ nl ≤ nc ∧ nc ≤ 140737488355328 ∧ nc * bytes ≤ 140737488355328 ∧
      fresh H (.cells true (rep z nc.toNat)) fun id H' => K (.slice id 0 nl.toNat esz) H'
  | .mkSlT t esz bytes z l c => ∃ kl nl kc nc, l.ev env = .int kl nl ∧ c.ev env = .int kc nc ∧ 0 ≤ nl ∧ nl ≤ nc ∧ nc ≤ 140737488355328 ∧ nc * bytes ≤ 140737488355328 ∧
      (fresh H (.cells true (rep z nc.toNat)) (fun id H' => K (.ty t 0 id (.slice id 0 nl.toNat esz)) H') ∨ fresh H (.cells true (rep z nc.toNat)) fun id H' => K (.slice id 0 nl.toNat esz) H')
  | .mkMap => fresh H (.map []) fun id H' => K (.map id) H'
  | .put kt m k v => ∃ id es r, m.ev env = .map id ∧ H id = some (.map es) ∧ (v.ev env).isTup = false ∧ findI kt (k.ev env) es = some r ∧ K V.undef (H.set id (.map (putE (k.ev env) (v.ev env) es r)))
  | .del kt m k => (m.ev env = .nilm ∧ keyFits kt (k.ev env) = true ∧ K V.undef H) ∨
      ∃ id es r, m.ev env = .map id ∧ H id = some (.map es) ∧ findI kt (k.ev env) es = some r ∧ K V.undef (H.set id (.map (delE es r)))
  | .call f args => CallsC P f (args.map (X.ev env)) H K ∨ ExtC P f (args.map (X.ev env)) H K
  | .callv x args => (∃ f cap, x.ev env = .func f cap ∧ CallsC P f (args.map (X.ev env) ++ cap) H K) ∨ ∃ l, x.ev env = .yield l ∧ YieldC P l (args.map (X.ev env)) H K
  | .rangeM m => ∃ id es, m.ev env = .map id ∧ H id = some (.map es) ∧ ∀ (bs : List Nat) (clk : Nat), bs.length = es.length → bs.Nodup → (∀ b ∈ bs, b < clk) →
      fresh (H.set id (.mapS es bs clk)) (.miter id clk [] clk) fun it H' => K (.ptr it 0) H'
  | .nextM x => ∃ (it mid : Nat) (es : List (V × V)) (bs : List Nat) (clk : Nat) (seen : List Nat), x.ev env = .ptr it 0 ∧ H it = some (.miter mid clk seen clk) ∧ H mid = some (.mapS es bs clk) ∧
      ((∀ b ∈ bs, b ∈ seen) → K (.tup [.bool false]) H) ∧ ∀ (i : Nat) (e : V × V) (b : Nat), es[i]? = some e → bs[i]? = some b → b ∉ seen → K (.tup [.bool true, e.1, e.2]) (H.set it (.miter mid clk (seen ++ [b]) clk))
  | .entryM x => ∃ (it mid : Nat) (es : List (V × V)) (bs : List Nat) (clk : Nat) (seen : List Nat) (i : Nat) (e : V × V) (b : Nat), x.ev env = .ptr it 0 ∧ H it = some (.miter mid clk (seen ++ [b]) clk) ∧ H mid = some (.mapS es bs clk) ∧ es[i]? = some e ∧ bs[i]? = some b ∧ K (.tup [e.1, e.2]) H
  | .stop => False
  | .ment kt z m k => ∃ id es r, m.ev env = .map id ∧ H id = some (.map es) ∧ z.isTup = false ∧ findI kt (k.ev env) es = some r ∧ ∀ n : Int, (match r with
      | some i => ∀ e, es[i]? = some e → K (.tup [e.2, .int .i64 n]) (H.set id (.mapE (es.set i (k.ev env, e.2)) i n))
      | none => K (.tup [z, .int .i64 n]) (H.set id (.mapE (es ++ [(k.ev env, z)]) es.length n)))
  | .mset m s v => ∃ id es i n e, m.ev env = .map id ∧ H id = some (.mapE es i n) ∧ s.ev env = .int .i64 n ∧ es[i]? = some e ∧ (v.ev env).isTup = false ∧ K V.undef (H.set id (.map (es.set i (e.1, v.ev env))))
  | .clr esz z x => (x.ev env = .nils ∧ K V.undef H) ∨ (∃ id off e, x.ev env = .slice id off 0 e ∧ K V.undef H) ∨
      (∃ id off len cs, x.ev env = .slice id off len esz ∧ H id = some (.cells true cs) ∧ off + len * esz ≤ cs.length ∧ K V.undef (H.set id (.cells true (splice cs off (rep z len))))) ∨
      ∃ id off len cap cs, x.ev env = .sliceC id off len cap esz ∧ H id = some (.cells true cs) ∧ off + len * esz ≤ cs.length ∧ K V.undef (H.set id (.cells true (splice cs off (rep z len))))
  | .inv x name args => ∃ t v f r, x.ev env = .iface t v ∧ Meth P H t name v f r ∧ CallsC P f (r :: args.map (X.ev env)) H K

inductive O where
  | rd (r : R)
  | ef (e : E)
  deriving Inhabited

def O.wp (P : Program) (env : Env) (H : Heap) (K : V → Heap → Prop) : O → Prop
  | .rd r => ∃ v, r.ev env H = some v ∧ K v H
  | .ef e => e.wp P env H K

inductive Kx where
  | no
  | all
  | sm (l : List (Nat × Nat))
  deriving Inhabited
def kR (p : Nat × Nat) : R := match p.2 with
  | 0 => .load1 (.t p.1)
  | n + 1 => .loadn (n + 1) (.t p.1)
def Kx.ok (x : Kx) (env : Env) (H H' : Heap) : Prop := match x with
  | .no => True
  | .all => H.le H'
  | .sm l => H.le H' ∨ ∀ p ∈ l, ∀ v, (kR p).ev env H = some v → (kR p).ev env H' = some v
theorem Kx.le {x : Kx} {env : Env} {H H' : Heap} (h : H.le H') : x.ok env H H' := by
  cases x with
  | no => trivial
  | all => exact h
  | sm l => exact .inl h
theorem Kx.refl {x : Kx} {env : Env} {H : Heap} : x.ok env H H := Kx.le (Heap.le_refl _)

structure I where
  d : Option Nat
  o : O
  g : Option (Nat × Bool) := none
  x : Kx := .no
  deriving Inhabited

def gcond (v : V) (want : Bool) (A B : Prop) : Prop :=
  match v with
  | .bool c => bif c == want then A else B
  | _ => B

def I.run (P : Program) (env : Env) (H : Heap) (K : Env → Heap → Prop) (i : I) : Prop :=
  i.o.wp P env H fun v H' => i.x.ok env H H' ∧ K (env.put i.d v) H'

def I.wp (P : Program) (env : Env) (H : Heap) (K : Env → Heap → Prop) (i : I) : Prop :=
  match i.g with
  | none => i.run P env H K
  | some (s, b) => gcond (env s) b (i.run P env H K) (K (env.put i.d V.undef) H)

def wpOps (P : Program) : List I → Env → Heap → (Env → Heap → Prop) → Prop
  | [], env, H, K => K env H
  | i :: is, env, H, K => i.wp P env H fun env' H' => wpOps P is env' H' K

inductive C where
  | skip
  | ops (l : List I)
  | seq (a b : C)
  | cond (x : X) (a b : C)
  | block (id : Nat) (c : C)
  | loop (c : C)
  | exit (id : Nat)
  | ret
  deriving Inhabited

inductive Ex where
  | normal
  | exit (id : Nat)
  | ret
  deriving DecidableEq

def bcond (v : V) (A B : Prop) : Prop :=
  match v with
  | .bool true => A
  | .bool false => B
  | _ => False

def Wk (v v' : V) : Prop := ∀ (ι : Pl) (w : World) (u : Value), VR ι w v u → VR ι w v' u
def Wks (cs cs' : List V) : Prop := cs.length = cs'.length ∧ ∀ (k : Nat) (v v' : V), cs[k]? = some v → cs'[k]? = some v' → Wk v v'
def Wkp (cs cs' : List V) : Prop := cs'.length ≤ cs.length ∧ ∀ (k : Nat) (v v' : V), cs[k]? = some v → cs'[k]? = some v' → Wk v v'
inductive OWk : HObj → HObj → Prop
  | same (o : HObj) : OWk o o
  | cells (cs cs' : List V) (h : Wkp cs cs') : OWk (.cells true cs) (.cells true cs')
  | map (es es' : List (V × V)) (hk : es.map (·.1) = es'.map (·.1)) (hv : Wks (es.map (·.2)) (es'.map (·.2))) : OWk (.map es) (.map es')
  | mapS (es es' : List (V × V)) (bs : List Nat) (clk : Nat) (hk : es.map (·.1) = es'.map (·.1)) (hv : Wks (es.map (·.2)) (es'.map (·.2))) : OWk (.mapS es bs clk) (.map es')
def HWk (H H' : Heap) : Prop := ∀ id, (H id = none ∧ H' id = none) ∨ ∃ o o', H id = some o ∧ H' id = some o' ∧ OWk o o'
inductive Wkn : Env → Heap → (Env → Heap → Prop) → Prop
  | here {env : Env} {H : Heap} {K : Env → Heap → Prop} (h : K env H) : Wkn env H K
  | weak {env env' : Env} {H H' : Heap} {K : Env → Heap → Prop} (h1 : ∀ t, Wk (env t) (env' t)) (h2 : HWk H H') (h : Wkn env' H' K) : Wkn env H K
  | base {env : Env} {H : Heap} {K : Env → Heap → Prop} {s id off len e : Nat} {cs : List V} (hs : env s = .slice id off len e) (hH : H id = some (.cells true cs)) (ho : off ≤ cs.length)
      (h : ∀ id', id' ≠ 0 → H id' = none → Wkn (env.put (some s) (.slice id' 0 len e)) ((H.del id).set id' (.cells true (cs.drop off))) K) : Wkn env H K
  | nilx {env : Env} {H : Heap} {K : Env → Heap → Prop} {s off e : Nat} (hs : env s = .slice 0 off 0 e) (h1 : Wkn (env.put (some s) .nils) H K) (h2 : Wkn (env.put (some s) (.slice 1 off 0 e)) H K) : Wkn env H K
  | capx {env : Env} {H : Heap} {K : Env → Heap → Prop} {s id off len e : Nat} (hs : env s = .slice id off len e) (h : ∀ cap, len ≤ cap → Wkn (env.put (some s) (.sliceC id off len cap e)) H K) : Wkn env H K

theorem Wk.refl (v : V) : Wk v v := fun _ _ _ h => h
theorem Wk.trans {a b c : V} (h : Wk a b) (h' : Wk b c) : Wk a c := fun ι w u k => h' ι w u (h ι w u k)
theorem Wk.sliceC (id off len cap esz : Nat) : Wk (.sliceC id off len cap esz) (.slice id off len esz) := fun _ _ _ h => by
  cases h with
  | sliceC _ _ _ _ a cap hl h => exact .slice _ _ _ _ a cap hl h
  | sliceC0 => exact .slice0 off esz
theorem Wk.ty (t k id : Nat) (v : V) : Wk (.ty t k id v) v := fun _ _ _ h => by
  cases h with
  | ty _ _ _ _ _ _ _ _ _ _ _ _ hv _ => exact hv
theorem Wk.nils (off esz : Nat) : Wk .nils (.slice 0 off 0 esz) := fun _ _ _ h => by cases h; exact .slice0 off esz

theorem Wks.refl (cs : List V) : Wks cs cs := ⟨rfl, fun k v v' h h' => by rw [h] at h'; cases h'; exact Wk.refl v⟩
theorem Wks.nil : Wks [] [] := Wks.refl []
theorem Wks.cons {v v' : V} {cs cs' : List V} (h : Wk v v') (t : Wks cs cs') : Wks (v :: cs) (v' :: cs') := by
  refine ⟨by simp [t.1], fun k x x' hx hx' => ?_⟩
  cases k with
  | zero => simp at hx hx'; subst hx; subst hx'; exact h
  | succ k => exact t.2 k x x' (by simpa using hx) (by simpa using hx')
theorem Wks.vrs {cs cs' : List V} (h : Wks cs cs') {ι : Pl} {w : World} {us : List Value} (hv : VRs ι w cs us) : VRs ι w cs' us := by
  refine VRs.of_get (by rw [← h.1]; exact hv.length) fun i v hi => ?_
  have hlt : i < cs.length := by rw [h.1]; exact (List.getElem?_eq_some_iff.1 hi).1
  obtain ⟨u, h1, h2⟩ := hv.get (i := i) (v := cs[i]) (by simp [hlt])
  exact ⟨u, h1, h.2 i _ _ (by simp [hlt]) hi ι w u h2⟩
theorem Wk.agg {cs cs' : List V} (h : Wks cs cs') : Wk (.agg cs) (.agg cs') := fun _ _ _ k => by cases k with | agg _ us h1 ho => exact .agg _ us (h.vrs h1) ho
theorem Wk.tup {cs cs' : List V} (h : Wks cs cs') : Wk (.tup cs) (.tup cs') := fun _ _ _ k => by cases k with | tup _ us h1 => exact .tup _ us (h.vrs h1)
theorem HWk.refl (H : Heap) : HWk H H := fun id => by
  cases h : H id with
  | none => exact .inl ⟨rfl, rfl⟩
  | some o => exact .inr ⟨o, o, rfl, rfl, .same o⟩
theorem HWk.set {H : Heap} {id : Nat} {o o' : HObj} (h : H id = some o) (ho : OWk o o') : HWk H (H.set id o') := fun i => by
  by_cases hi : i = id
  · subst hi; exact .inr ⟨o, o', h, Heap.set_same _ _ _, ho⟩
  · rw [Heap.set_ne _ _ hi]; exact HWk.refl H i
theorem OWk.rw {o o' : HObj} (h : OWk o o') : o'.rw = o.rw := by cases h <;> rfl
theorem OWk.obj {o o' : HObj} (h : OWk o o') {ι : Pl} {w : World} {b off : Nat} (k : ObjR ι w b off o) : ObjR ι w b off o' := by
  cases h with
  | same => exact k
  | cells cs cs' h =>
    obtain ⟨c, e, f, h1, h2, h3, h4⟩ := k
    refine ⟨c, e, f, h1, fun i v hi => ?_, h3, by have := h.1; omega⟩
    have hlt : i < cs.length := Nat.lt_of_lt_of_le (List.getElem?_eq_some_iff.1 hi).1 h.1
    obtain ⟨u, h5, h6, h7⟩ := h2 i cs[i] (by simp [hlt])
    exact ⟨u, h5, h.2 i _ _ (by simp [hlt]) hi ι w u h6, h7⟩
  | map es es' hk hv =>
    obtain ⟨ms, clock, h1, h2, h3⟩ := k
    exact ⟨ms, clock, h1, ⟨hk ▸ h2.keys, hv.vrs h2.vals⟩, h3⟩
  | mapS es es' bs clk hk hv =>
    obtain ⟨ms, h1, h2, h3, h4, h5⟩ := k
    exact ⟨ms, clk, h1, ⟨hk ▸ h2.keys, hv.vrs h2.vals⟩, h3, h4⟩
theorem HWk.rel {H H' : Heap} (h : HWk H H') {ι : Pl} {w : World} (k : Rel ι H w) : Rel ι H' w := by
  have old : ∀ id o', H' id = some o' → ∃ o, H id = some o ∧ OWk o o' := fun id o' ho' => by
    rcases h id with ⟨_, h2⟩ | ⟨o, o2, h1, h2, h3⟩
    · rw [h2] at ho'; cases ho'
    · rw [h2] at ho'; cases ho'; exact ⟨o, h1, h3⟩
  refine ⟨fun id o' ho' => ?_, fun id id' o o' b off off' h1 h2 hr h3 h4 => ?_, k.fin, k.zero, k.glob⟩
  · obtain ⟨o, h1, h2⟩ := old id o' ho'
    obtain ⟨b, off, h3, h4⟩ := k.obj id o h1
    exact ⟨b, off, h3, h2.obj h4⟩
  · obtain ⟨x, g1, g2⟩ := old id o h1
    obtain ⟨x', g3, _⟩ := old id' o' h2
    exact k.inj id id' x x' b off off' g1 g3 (by rw [← g2.rw]; exact hr) h3 h4
theorem HWk.owns {H H' : Heap} (h : HWk H H') {ι : Pl} {b : Nat} : Owns ι H' b ↔ Owns ι H b := by
  constructor
  · rintro ⟨id, o', off, h1, h2, h3⟩
    rcases h id with ⟨_, g2⟩ | ⟨o, o2, g1, g2, g3⟩
    · rw [g2] at h1; cases h1
    · rw [g2] at h1; cases h1; exact ⟨id, o, off, g1, by rw [← g3.rw]; exact h2, h3⟩
  · rintro ⟨id, o, off, h1, h2, h3⟩
    rcases h id with ⟨g1, _⟩ | ⟨o1, o2, g1, g2, g3⟩
    · rw [g1] at h1; cases h1
    · rw [g1] at h1; cases h1; exact ⟨id, o2, off, g2, by rw [g3.rw]; exact h2, h3⟩
theorem HWk.none {H H' : Heap} (h : HWk H H') {id : Nat} : H' id = none ↔ H id = none := by
  rcases h id with ⟨g1, g2⟩ | ⟨o, o', g1, g2, _⟩
  · simp [g1, g2]
  · simp [g1, g2]
theorem HWk.ro {H H' : Heap} (h : HWk H H') {id : Nat} {o : HObj} (ho : H' id = some o) (hr : o.rw = false) : H id = some o := by
  rcases h id with ⟨_, g2⟩ | ⟨o1, o2, g1, g2, g3⟩
  · rw [g2] at ho; cases ho
  · rw [g2] at ho; cases ho
    cases g3 with
    | same => exact g1
    | cells => cases hr
    | map => cases hr
    | mapS => cases hr
theorem Ext.wkl {ι ι2 : Pl} {H H' H2 : Heap} {w w2 : World} (h : HWk H H') (k : Ext ι H' w ι2 H2 w2) : Ext ι H w ι2 H2 w2 :=
  { k with
    frame := fun b hb hn => k.frame b hb fun ho => hn (h.owns.1 ho)
    owns := fun b hb => (k.owns b hb).imp_left h.owns.1
    ids := fun id o h1 h2 => k.ids id o h1 (h.none.2 h2)
    ro := fun id o h1 h2 => h.ro (k.ro id o h1 h2) h2 }
theorem Ext.wkr {ι ι2 : Pl} {H H2 H3 : Heap} {w w2 : World} (k : Ext ι H w ι2 H2 w2) (h : HWk H2 H3) : Ext ι H w ι2 H3 w2 :=
  { k with
    owns := fun b hb => k.owns b (h.owns.1 hb)
    ids := fun id o h1 h2 => by
      cases h3 : H2 id with
      | none => rw [h.none.2 h3] at h1; cases h1
      | some x => exact k.ids id x h3 h2
    ro := fun id o h1 h2 => k.ro id o (h.ro h1 h2) h2 }
theorem Wkn.mono {env : Env} {H : Heap} {K K' : Env → Heap → Prop} (h : Wkn env H K) (hk : ∀ e H, K e H → K' e H) : Wkn env H K' := by
  induction h with
  | here h => exact .here (hk _ _ h)
  | weak h1 h2 _ ih => exact .weak h1 h2 (ih hk)
  | base hs hH ho _ ih => exact .base hs hH ho fun id' h0 hn => ih id' h0 hn hk
  | nilx hs _ _ ih1 ih2 => exact .nilx hs (ih1 hk) (ih2 hk)
  | capx hs _ ih => exact .capx hs fun cap hc => ih cap hc hk

def C.wp (P : Program) : C → (Ex → Env → Heap → Prop) → Env → Heap → Prop
  | .skip, Q, env, H => Wkn env H (Q .normal)
  | .ops l, Q, env, H => Wkn env H fun env H => wpOps P l env H (Q .normal)
  | .seq a b, Q, env, H => Wkn env H (a.wp P (fun x env H => match x with | .normal => b.wp P Q env H | x => Q x env H))
  | .cond x a b, Q, env, H => Wkn env H fun env H => bcond (x.ev env) (a.wp P Q env H) (b.wp P Q env H)
  | .block id a, Q, env, H => Wkn env H (a.wp P (fun x env H => match x with | .exit j => (bif Nat.beq j id then Q .normal env H else Q (.exit j) env H) | x => Q x env H))
  | .loop a, Q, env, H => Wkn env H fun env H => ∀ J : Env → Heap → Prop, (∀ env H, a.wp P (fun x env H => match x with | .normal => Wkn env H J | x => Q x env H) env H → J env H) → J env H
  | .exit id, Q, env, H => Wkn env H (Q (.exit id))
  | .ret, Q, env, H => Wkn env H (Q .ret)

inductive Res where
  | t (n : Nat)
  | c1 (n : Nat)
  | cn (n sz : Nat)
  deriving Inhabited

def Res.ev (env : Env) (H : Heap) : Res → Option V
  | .t n => some (env n)
  | .c1 n => R.ev env H (.load1 (.t n))
  | .cn n sz => R.ev env H (.loadn sz (.t n))

structure F where
  n : Nat
  res : List Res
  body : C
  deriving Inhabited

def retV : List V → V
  | [v] => v
  | vs => .tup vs

def env0 (args : List V) : Env := fun t => (args[t]?).getD V.undef

def F.wp (P : Program) (f : F) (args : List V) (H : Heap) (Q : V → Heap → Prop) : Prop :=
  f.body.wp P (fun x env H => (x = .normal ∨ x = .ret) ∧ ∃ vs, f.res.mapM (Res.ev env H) = some vs ∧ Q (retV vs) H) (env0 args) H

end Go.CM

namespace Go.CM

def ofVal : Nat → Value → Option V
  | _, .bool b => some (.bool b)
  | _, .int k n => some (.int k n)
  | _, .string s => some (.str s.data.toList)
  | _, .pointer none => some .nilp
  | _, .slice none 0 0 => some .nils
  | _, .map none => some .nilm
  | _, .nilFunc => some .nilf
  | _, .nilIface => some .nili
  | d + 1, .agg cs => match cs.toList.mapM (ofVal d) with
    | some vs => bif cs.toList.all one then some (.agg vs) else none
    | none => none
  | _, _ => none

def compX (n : Nat) : Operand → Option X
  | .tmp t => bif Nat.blt t n then some (.t t) else none
  | .const v => (ofVal 1 v).map .k
  | .func f => some (.k (.func f []))
  | .global g => some (.k (.ptr (2 * g + 1) 0))

def isAggT (P : Program) (t : TypeId) : Option Bool :=
  match P.underlying t with
  | some (.struct _) | some (.array _ _) => some true
  | some _ => some false
  | none => none

def sizeT (P : Program) (t : TypeId) : Option Nat := (P.info? t).map (·.size)
def bytesT (P : Program) (t : TypeId) : Option Nat := (P.info? t).map (·.bytes)

def zeroT (P : Program) (t : TypeId) : Option V :=
  match P.info? t with
  | some i => match i.zero with
    | some z => ofVal 1 z
    | none => none
  | none => none

def zeroCells (P : Program) (t : TypeId) : Option (List V) :=
  match zeroT P t with
  | some z => bif z.isTup then none else some z.cells
  | none => none

def kindsF (P : Program) (rec : TypeId → Option (List SK)) : Nat → List Field → Option (List SK)
  | _, [] => some []
  | o, f :: fs => match rec f.type with
    | some ks => bif f.name != "_" && Nat.beq o f.offset then
        match kindsF P rec (o + ks.length) fs with
        | some ks' => some (ks ++ ks')
        | none => none
      else none
    | none => none

def kindsT (P : Program) : Nat → TypeId → Option (List SK)
  | 0, _ => none
  | d + 1, t =>
    match (match P.underlying t with
      | some .bool => some [SK.b]
      | some (.int _) => some [SK.i]
      | some .string => some [SK.s]
      | some (.struct fs) => bif P.stoodInHeld t then none else kindsF P (kindsT P d) 0 fs.toList
      | _ => none), sizeT P t with
    | some ks, some s => bif Nat.beq ks.length s then some ks else none
    | _, _ => none

def eqC (P : Program) (t : TypeId) : Option EqC :=
  match P.underlying t with
  | some .bool => some .bool
  | some (.pointer e) => bif (sizeT P e).isSome then some .ptr else none
  | some (.slice _) => some .slice
  | some (.map _ _) => some .map
  | some (.func _ _ _) => some .func
  | some (.struct _) => bif P.eqGuardType P.depth t then none else (kindsT P 20 t).map .agg
  | _ => none

def isK : Operand → Bool
  | .const _ => true
  | _ => false
def intT (P : Program) (t : TypeId) : Bool := match P.underlying t, P.info? t with
  | some (.int _), some i => i.comparable
  | _, _ => false
def intTs (P : Program) : List Nat := (List.range P.types.size).filter (intT P)

def partsS (P : Program) (n : Nat) (fs : Array Field) : List (Nat × Operand) → Option (List (Nat × Nat × X))
  | [] => some []
  | (i, x) :: ps => match fs[i]? with
    | some f => match sizeT P f.type, compX n x, partsS P n fs ps with
      | some s, some x, some ps => some ((f.offset, s, x) :: ps)
      | _, _, _ => none
    | none => none

def partsA (n s : Nat) : List (Nat × Operand) → Option (List (Nat × Nat × X))
  | [] => some []
  | (i, x) :: ps => match compX n x, partsA n s ps with
    | some x, some ps => some ((i * s, s, x) :: ps)
    | _, _ => none

def compXs (n : Nat) : List Operand → Option (List X)
  | [] => some []
  | x :: xs => match compX n x, compXs n xs with
    | some x, some xs => some (x :: xs)
    | _, _ => none

def entersB (P : Program) (f : FuncId) : Bool :=
  match P.funcs[f]? with
  | some fn => !(fn.name == "runtime.NumGoroutine") && !fn.body.isNone
  | none => false

def optX (n : Nat) : Option Operand → Option (Option X)
  | none => some none
  | some x => match compX n x with
    | some x => some (some x)
    | none => none

def keyT (P : Program) (t : TypeId) : Option KT :=
  match isAggT P t, kindsT P 20 t with
  | some b, some ks => some (b, ks)
  | _, _ => none

def mkE (P : Program) (e s by_ : Nat) (z : List V) (l c : X) : E := match P.underlying e with
  | some (.int .u8) => .mkSlT e s by_ z l c
  | _ => .mkSl s by_ z l c
def appE (P : Program) (e : TypeId) (sz by_ : Nat) (d s : X) : E :=
  match P.underlying e with
  | some (.int .u8) => .appT e sz by_ d s
  | _ => .app sz by_ d s
def allocE (t : TypeId) : List V → E
  | [.nilp, .nils] => .allocT t [.nilp, .nils]
  | z => .alloc z
def compBuiltin (P : Program) (n : Nat) (b : Builtin) (argTypes : List TypeId) (args : List Operand) : Option O :=
  match b, argTypes, args with
  | .len, [t], [x] => match P.underlying t, compX n x with
    | some .string, some x => some (.rd (.lenStr x))
    | some (.slice _), some x => some (.rd (.lenSl x))
    | some (.array k _), some _ => some (.rd (.lenK k))
    | some (.map _ _), some x => some (.rd (.lenMap x))
    | _, _ => none
  | .min, _, x :: xs => match compX n x, compXs n xs with
    | some x, some xs => some (.rd (.mn x xs))
    | _, _ => none
  | .max, _, x :: xs => match compX n x, compXs n xs with
    | some x, some xs => some (.rd (.mx x xs))
    | _, _ => none
  | .append, [t, u], [d, s] => match P.underlying t, P.underlying u with
    | some (.slice e), some (.slice _) => match sizeT P e, bytesT P e, zeroT P e, compX n d, compX n s with
      | some sz, some by_, some z, some d, some s => bif Nat.beq z.cells.length sz && Nat.blt 0 by_ && !z.isTup then some (.ef (appE P e sz by_ d s)) else none
      | _, _, _, _, _ => none
    | some (.slice e), some .string => match sizeT P e, bytesT P e, zeroT P e, compX n d, compX n s with
      | some sz, some by_, some z, some d, some s => bif Nat.beq z.cells.length sz && Nat.blt 0 by_ && !z.isTup then some (.ef (appE P e sz by_ d s)) else none
      | _, _, _, _, _ => none
    | some (.slice e), some (.int _) => match sizeT P e, bytesT P e, zeroT P e, compX n d, compX n s with
      | some sz, some by_, some z, some d, some s => bif Nat.beq z.cells.length sz && Nat.blt 0 by_ && !z.isTup && Nat.blt 0 sz then some (.ef (.appz sz by_ z.cells d s)) else none
      | _, _, _, _, _ => none
    | _, _ => none
  | .cap, [t], [x] => match P.underlying t, compX n x with
    | some (.slice _), some x => some (.rd (.capSl x))
    | _, _ => none
  | .copy, [t, u], [d, s] => match P.underlying t, P.underlying u with
    | some (.slice e), some (.slice _) => match sizeT P e, compX n d, compX n s with
      | some sz, some d, some s => bif Nat.blt 0 sz then some (.ef (.copy sz d s)) else none
      | _, _, _ => none
    | some (.slice e), some .string => match sizeT P e, compX n d, compX n s with
      | some sz, some d, some s => bif Nat.blt 0 sz then some (.ef (.copy sz d s)) else none
      | _, _, _ => none
    | _, _ => none
  | .clear, [t], [x] => match P.underlying t with
    | some (.slice e) => match sizeT P e, zeroT P e, compX n x with
      | some s, some z, some x => bif Nat.beq z.cells.length s && Nat.blt 0 s && !z.isTup then some (.ef (.clr s z.cells x)) else none
      | _, _, _ => none
    | _ => none
  | .unsafeSliceData, [t], [x] => match P.underlying t, compX n x with
    | some (.slice e), some x => some (.rd (.sdata e x))
    | _, _ => none
  | .unsafeString, [pt, _], [p, l] => match P.underlying pt, compX n p, compX n l with
    | some (.pointer e), some p, some l => bif Nat.beq (P.cellsOf e) 1 then some (.ef (.ustr e p l)) else none
    | _, _, _ => none
  | .delete, t :: _, [m, k] => match P.underlying t with
    | some (.map kt _) => match keyT P kt, compX n m, compX n k with
      | some ks, some m, some k => some (.ef (.del ks m k))
      | _, _, _ => none
    | _ => none
  | _, _, _ => none

def compOp (P : Program) (n : Nat) (op : Op) (_type : TypeId) : Option O :=
  match op with
  | .move x | .assign x => (compX n x).map fun x => .rd (.mov x)
  | .pick c a b => match compX n c, compX n a, compX n b with
    | some c, some a, some b => some (.rd (.pick c a b))
    | _, _, _ => none
  | .alloc t => match zeroCells P t with
    | some z => some (.ef (allocE t z))
    | none => none
  | .box _ x => (compX n x).map fun x => .ef (.box x)
  | .build t ps => match zeroT P t, P.underlying t with
    | some (.agg z), some (.struct fs) => (bif fs.toList.all (fun f => (sizeT P f.type).isSome) then partsS P n fs ps.toList else none).map fun ps => .rd (.build z ps)
    | some (.agg z), some (.array _ e) => match sizeT P e with
      | some s => (partsA n s ps.toList).map fun ps => .rd (.build z ps)
      | none => none
    | _, _ => none
  | .buildSlice t len ps => match P.underlying t with
    | some (.slice e) => match sizeT P e, zeroCells P e with
      | some s, some z => bif Nat.beq z.length s && Nat.blt 0 s && Nat.ble (len * s) 16777216 then (partsA n s ps.toList).map fun ps => .ef (.lit s len (rep z len) ps) else none
      | _, _ => none
    | _ => none
  | .load t a => match isAggT P t, sizeT P t, compX n a with
    | some true, some s, some a => some (.rd (.loadn s a))
    | some false, _, some a => some (.rd (.load1 a))
    | _, _, _ => none
  | .store t a v => match sizeT P t, compX n a, compX n v with
    | some s, some a, some v => some (.ef (.store s a v))
    | _, _, _ => none
  | .nilCheck x => (compX n x).map fun x => .rd (.nilck x)
  | .binOp op t x0 y0 _ => match compX n x0, compX n y0 with
    | some x, some y => match P.underlying t with
      | some (.int _) | some .string => some (.rd (.bin op x y))
      | some (.interface _) => match op with
        | .eql => some (.rd (.eq (.iface (isK x0 || isK y0) (intTs P)) false x y))
        | .neq => some (.rd (.eq (.iface (isK x0 || isK y0) (intTs P)) true x y))
        | _ => none
      | _ => match op, eqC P t with
        | .eql, some c => some (.rd (.eq c false x y))
        | .neq, some c => some (.rd (.eq c true x y))
        | _, _ => none
    | _, _ => none
  | .unOp op _ x => (compX n x).map fun x => .rd (.un op x)
  | .convert s d x => match P.underlying s, P.underlying d, compX n x with
    | some (.int _), some (.int k), some x => some (.rd (.toInt k x))
    | some .string, some .string, some x => some (.rd (.same x))
    | some (.slice e), some .string, some x => match P.underlying e with
      | some (.int .u8) => some (.rd (.b2s x))
      | _ => none
    | some .string, some (.slice e), some x => match P.underlying e with
      | some (.int .u8) => some (.ef (.s2b x))
      | _ => none
    | some (.pointer t), some .unsafePointer, some x => match sizeT P t with
      | some (_ + 1) => some (.rd (.uns x))
      | _ => none
    | some .unsafePointer, some (.pointer u), some x => match sizeT P u with
      | some (k + 1) => bif liesAt P P.depth u ((k + 1) / P.cellsOf u) 0 u 1 then some (.rd (.fromU u (k + 1) x)) else none
      | _ => none
    | _, _, _ => none
  | .fieldAddr s x i => match P.underlying s, compX n x with
    | some (.struct fs), some x => match fs[i]? with
      | some f => match sizeT P f.type with
        | some (_ + 1) => some (.rd (.faddr f.offset x))
        | _ => none
      | none => none
    | _, _ => none
  | .field t x i => match P.underlying t, compX n x with
    | some (.struct fs), some x => match fs[i]? with
      | some f => match isAggT P f.type, sizeT P f.type with
        | some true, some s => some (.rd (.fieldn f.offset s x))
        | some false, some _ => some (.rd (.field1 f.offset x))
        | _, _ => none
      | none => none
    | _, _ => none
  | .indexAddr t x i => match P.underlying t, compX n x, compX n i with
    | some (.slice e), some x, some i => (sizeT P e).map fun s => .rd (.iaddrS s x i)
    | some (.array k e), some x, some i => (sizeT P e).map fun s => .rd (.iaddrA k s x i)
    | _, _, _ => none
  | .index t x i => match P.underlying t, compX n x, compX n i with
    | some .string, some x, some i => some (.rd (.idxStr x i))
    | some (.array k e), some x, some i => match isAggT P e, sizeT P e with
      | some false, some 1 => some (.rd (.idxArr1 k x i))
      | _, _ => none
    | _, _, _ => none
  | .slice t x lo hi none => match P.underlying t, compX n x, optX n lo, optX n hi with
    | some .string, some x, some lo, some hi => some (.rd (.cutStr x lo hi))
    | some (.slice e), some x, some lo, some hi => (sizeT P e).map fun s => .rd (.cutSl s x lo hi)
    | _, _, _, _ => none
  | .slice t x lo (some hi) (some mx) => match P.underlying t, compX n x, optX n lo, compX n hi, compX n mx with
    | some (.slice e), some x, some lo, some hi, some mx => (sizeT P e).map fun s => .rd (.cutSl3 s x lo (some hi) mx)
    | _, _, _, _, _ => none
  | .extract x i => (compX n x).map fun x => .rd (.ext x i)
  | .makeInterface t x => match P.underlying t, compX n x with
    | some (.interface _), _ => none
    | some _, some x => some (.rd (.mkIface t x))
    | _, _ => none
  | .typeAssert x _ t false => match P.underlying t, compX n x with
    | some (.interface _), _ => none
    | some _, some x => some (.rd (.asrt t x))
    | _, _ => none
  | .makeFunc (.func f) first cap => match first.toList, compXs n cap.toList with
    | [], some cap => some (.rd (.clo f cap))
    | _, _ => none
  | .makeMap _ none => some (.ef .mkMap)
  | .makeSlice t l c => match P.underlying t with
    | some (.slice e) => match sizeT P e, bytesT P e, zeroCells P e, compX n l, compX n c with
      | some s, some by_, some z, some l, some c => bif Nat.beq z.length s && Nat.blt 0 s then some (.ef (mkE P e s by_ z l c)) else none
      | _, _, _, _, _ => none
    | _ => none
  | .lookup t m k ok => match P.underlying t with
    | some (.map kt e) => match keyT P kt, zeroT P e, compX n m, compX n k with
      | some ks, some z, some m, some k => some (.rd (.lookup ks z ok m k))
      | _, _, _, _ => none
    | _ => none
  | .panic _ => some (.ef .stop)
  | .range t m => match P.underlying t, compX n m with
    | some (.map _ _), some m => some (.ef (.rangeM m))
    | some .string, some m => some (.ef (.rangeS m))
    | _, _ => none
  | .next it true => (compX n it).map fun x => .ef (.nextS x)
  | .next it false => (compX n it).map fun x => .ef (.nextM x)
  | .entry it => (compX n it).map fun x => .ef (.entryM x)
  | .mapEntry t m k => match P.underlying t with
    | some (.map kt e) => match keyT P kt, zeroT P e, compX n m, compX n k with
      | some ks, some z, some m, some k => some (.ef (.ment ks z m k))
      | _, _, _, _ => none
    | _ => none
  | .entryStore _ m s v => match compX n m, compX n s, compX n v with
    | some m, some s, some v => some (.ef (.mset m s v))
    | _, _, _ => none
  | .mapUpdate t m k v => match P.underlying t with
    | some (.map kt _) => match keyT P kt, compX n m, compX n k, compX n v with
      | some ks, some m, some k, some v => some (.ef (.put ks m k v))
      | _, _, _, _ => none
    | _ => none
  | .call c => match c.callee with
    | .builtin b => compBuiltin P n b c.argTypes.toList c.args.toList
    | .value (.func f) => match compXs n c.args.toList with
      | some xs => some (.ef (.call f xs))
      | none => none
    | .value x => match compX n x, compXs n c.args.toList with
      | some x, some xs => some (.ef (.callv x xs))
      | _, _ => none
    | .invoke x m => match compX n x, compXs n c.args.toList with
      | some x, some xs => some (.ef (.inv x m xs))
      | _, _ => none
  | _ => none

def dstOk (n : Nat) : Option Nat → Bool
  | none => true
  | some d => Nat.blt d n

def compI (P : Program) (n : Nat) (ops : List Oper) (o : Oper) (x : Kx) : Option I :=
  bif dstOk n o.dst then
    match compOp P n o.op o.type with
    | some oo => match o.guard with
      | none => some { d := o.dst, o := oo, g := none, x := x }
      | some (j, b) => match ops[j]? with
        | some p => match p.dst with
          | some s => bif Nat.blt s n then some { d := o.dst, o := oo, g := some (s, b), x := x } else none
          | none => none
        | none => none
    | none => none
  else none

def compIs (P : Program) (n : Nat) (ops : List Oper) : List Oper → Option (List I)
  | [] => some []
  | o :: os => match compI P n ops o .no, compIs P n ops os with
    | some i, some is => some (i :: is)
    | _, _ => none

def X.uses : X → List Nat
  | .t n => [n]
  | .k _ => []
def optUses : Option X → List Nat
  | none => []
  | some x => x.uses
def R.uses : R → List Nat
  | .mov x | .load1 x | .loadn _ x | .nilck x | .un _ x | .toInt _ x | .same x | .b2s x | .field1 _ x | .fieldn _ _ x | .faddr _ x | .ext x _ | .lenStr x | .lenSl x | .capSl x | .lenMap x | .mkIface _ x | .asrt _ x => x.uses
  | .pick c a b => c.uses ++ a.uses ++ b.uses
  | .build _ ps => ps.flatMap fun p => p.2.2.uses
  | .bin _ x y | .eq _ _ x y | .iaddrS _ x y | .iaddrA _ _ x y | .idxStr x y | .idxArr1 _ x y | .lookup _ _ _ x y => x.uses ++ y.uses
  | .cutStr x lo hi | .cutSl _ x lo hi => x.uses ++ optUses lo ++ optUses hi
  | .cutSl3 _ x lo hi m => x.uses ++ optUses lo ++ optUses hi ++ m.uses
  | .lenK _ => []
  | .mn x xs | .mx x xs => x.uses ++ xs.flatMap X.uses
  | .clo _ xs => xs.flatMap X.uses
  | .uns x | .fromU _ _ x | .sdata _ x => x.uses
def E.uses : E → List Nat
  | .alloc _ | .allocT _ _ | .mkMap | .stop => []
  | .rangeS x | .nextS x | .s2b x => x.uses
  | .appT _ _ _ a v | .ustr _ a v => a.uses ++ v.uses
  | .ment _ _ m k => m.uses ++ k.uses
  | .mset m s v => m.uses ++ s.uses ++ v.uses
  | .clr _ _ x => x.uses
  | .rangeM x | .nextM x | .entryM x => x.uses
  | .box x => x.uses
  | .lit _ _ _ ps => ps.flatMap fun p => p.2.2.uses
  | .store _ a v | .app _ _ a v | .appz _ _ _ a v | .copy _ a v | .mkSl _ _ _ a v | .mkSlT _ _ _ _ a v | .del _ a v => a.uses ++ v.uses
  | .put _ m k v => m.uses ++ k.uses ++ v.uses
  | .call _ xs => xs.flatMap X.uses
  | .callv x xs | .inv x _ xs => x.uses ++ xs.flatMap X.uses
def O.uses : O → List Nat
  | .rd r => r.uses
  | .ef e => e.uses
def I.uses (i : I) : List Nat := i.o.uses ++ (match i.g with | none => [] | some (s, _) => [s])

def dApart (d : Option Nat) (us : List Nat) : Bool :=
  match d with
  | none => true
  | some d => !us.contains d
def dNe : Option Nat → Option Nat → Bool
  | some a, some b => !(Nat.beq a b)
  | _, _ => true
def keepsX : Kx → R → Bool
  | .all, _ => true
  | .sm l, .load1 (.t n) => l.any fun p => Nat.beq p.1 n && Nat.beq p.2 0
  | .sm l, .loadn (k + 1) (.t n) => l.any fun p => Nat.beq p.1 n && Nat.beq p.2 (k + 1)
  | _, _ => false
def Kx.isSm : Kx → Bool
  | .sm _ => true
  | _ => false
def E.later : E → E → Bool
  | .call .., .alloc _ | .alloc _, .alloc _ | .box _, .alloc _ | .lit .., .alloc _ | .mkMap, .alloc _ | .store .., .alloc _ | .inv .., .alloc _ => true
  | _, _ => false
def Kx.slots : Kx → List Nat
  | .sm l => l.map (·.1)
  | _ => []
def swapOk (i j : I) : Bool :=
  dApart i.d j.uses && dApart j.d i.uses && dNe i.d j.d &&
  match i.o, j.o with
  | .rd _, .rd _ => !i.x.isSm
  | .rd r, .ef _ => !i.x.isSm && (!r.reads || keepsX j.x r)
  | .ef e, .ef e' => e.later e' && !j.x.isSm && dApart j.d i.x.slots
  | .ef _, _ => false

def direct (o : Oper) : List Nat := o.after.toList.filterMap fun e => bif Region.binds .any e then some e.on else none

def ahead (ops : List Oper) : List Nat :=
  (ops.foldl (fun (acc : List Nat) o => acc ++ [(direct o).foldl (fun s e => s ||| (1 <<< e) ||| acc.getD e 0) 0]) [])

def aheadOk (ops : List Oper) (tab : List Nat) : Bool :=
  Nat.beq tab.length ops.length &&
  ((List.range ops.length).all fun i => (List.range ops.length).all fun j =>
    !(tab.getD i 0).testBit j || (match ops[i]? with
      | some o => (direct o).contains j || (direct o).any fun e => Nat.blt e i && (tab.getD e 0).testBit j
      | none => false))

def edgesOk (ops : List Oper) : Bool :=
  (List.range ops.length).all fun i => match ops[i]? with
    | some o => (direct o).all fun e => Nat.blt e i
    | none => true

def pairsAll {α : Type} (p : α → α → Bool) : List α → Bool
  | [] => true
  | i :: is => is.all (p i) && pairsAll p is

def plan (isE : Nat → Bool) (tab : List Nat) : Nat → List Nat → List Nat
  | 0, l => l
  | k + 1, l =>
    -- the first that only reads and waits for none of those left; else the first that waits for none
    let free := l.filter fun i => l.all fun j => !(tab.getD i 0).testBit j
    match free.find? (fun i => !isE i) with
    | some i => i :: plan isE tab k (l.filter (· != i))
    | none => match free with
      | i :: _ => i :: plan isE tab k (l.filter (· != i))
      | [] => l

def plan2 (isE isA : Nat → Bool) (tab : List Nat) : Nat → List Nat → List Nat
  | 0, l => l
  | k + 1, l =>
    let free := l.filter fun i => l.all fun j => !(tab.getD i 0).testBit j
    match free.find? (fun i => !isE i) with
    | some i => i :: plan2 isE isA tab k (l.filter (· != i))
    | none => match free.find? (fun i => !isA i) with
      | some i => i :: plan2 isE isA tab k (l.filter (· != i))
      | none => match free with
        | i :: _ => i :: plan2 isE isA tab k (l.filter (· != i))
        | [] => l

def isAl (ops : List Oper) (i : Nat) : Bool :=
  match ops[i]? with
  | some o => match o.op with
    | .alloc _ => true
    | _ => false
  | none => false
def isEf (ops : List Oper) (i : Nat) : Bool :=
  match ops[i]? with
  | some o => match o.op with
    | .alloc _ | .box .. | .buildSlice .. | .store .. | .makeSlice .. | .makeMap .. | .mapUpdate .. | .mapEntry .. | .entryStore .. | .panic _ | .range .. | .next .. | .entry .. => true
    | .call c => match c.callee with
      | .builtin .len | .builtin .unsafeSliceData | .builtin .cap | .builtin .min | .builtin .max => false
      | _ => true
    | _ => false
  | none => false

def kxOf : List R → Option (List (Nat × Nat))
  | [] => some []
  | .load1 (.t n) :: rs => match kxOf rs with
    | some l => some ((n, 0) :: l)
    | none => none
  | .loadn (k + 1) (.t n) :: rs => match kxOf rs with
    | some l => some ((n, k + 1) :: l)
    | none => none
  | _ :: _ => none
def mustKeep (ops : List Oper) (tab : List Nat) (fine : Bool) (is : List (Nat × I)) (j : Nat) : Kx :=
  bif isAl ops j then .all else bif isEf ops j then
    match (is.takeWhile (fun p => p.1 != j)).filterMap fun p => (match p.2.o with | .rd r => bif r.reads && !(tab.getD j 0).testBit p.1 then some r else none | _ => none) with
    | [] => .no
    | rs => bif fine then (match kxOf rs with
        | some l => .sm l
        | none => .all) else .all
  else .no
def O.isE : O → Bool
  | .ef _ => true
  | .rd _ => false
def ssa (l : List I) : Bool := pairsAll (fun a b => dApart b.d a.uses) l && l.all fun a => dApart a.d a.uses

def pairOk (tab : List Nat) (p q : Nat × I) : Bool := (tab.getD q.1 0).testBit p.1 || swapOk p.2 q.2

def compAll (P : Program) (n : Nat) (ops : List Oper) : List (Nat × Kx) → Option (List (Nat × I))
  | [] => some []
  | (i, x) :: is => match ops[i]? with
    | some o => match compI P n ops o x, compAll P n ops is with
      | some y, some ys => some ((i, y) :: ys)
      | _, _ => none
    | none => none

def perm (m : Nat) (l : List Nat) : Bool :=
  Nat.beq l.length m && ((List.range m).all fun i => l.contains i) && (l.all fun i => Nat.blt i m) && pairsAll (fun a b => !(Nat.beq a b)) l

def compDrawW (P : Program) (n : Nat) (ops : List Oper) (order : List Nat) : Option (List I) :=
  let tab := ahead ops
  match compAll P n ops (order.map fun i => (i, .no)) with
  | some is =>
    match compAll P n ops (order.map fun i => (i, mustKeep ops tab (ssa (is.map (·.2))) is i)) with
    | some js => bif aheadOk ops tab && edgesOk ops && perm ops.length (js.map (·.1)) && pairsAll (pairOk tab) js && ((ssa (js.map (·.2)) && js.all fun p => !p.2.x.isSm || p.2.o.isE) || js.all fun p => !p.2.x.isSm) then some (js.map (·.2)) else none
    | none => none
  | none => none
def compDraw (P : Program) (n : Nat) (ops : List Oper) : Option (List I) :=
  match compDrawW P n ops (plan (isEf ops) (ahead ops) ops.length (List.range ops.length)) with
  | some l => some l
  | none => compDrawW P n ops (plan2 (isEf ops) (isAl ops) (ahead ops) ops.length (List.range ops.length))

def deadC : C := .ops [{ d := none, o := .ef .stop }]
def comp (P : Program) (n : Nat) : Code → Option C
  | .skip => some .skip
  | .region _ ops false => match compIs P n ops.toList ops.toList with
    | some l => some (.ops l)
    | none => some deadC
  | .region _ ops true => match compDraw P n ops.toList with
    | some l => some (.ops l)
    | none => some deadC
  | .seq a b => match comp P n a, comp P n b with
    | some a, some b => some (.seq a b)
    | _, _ => none
  | .cond x a b => match compX n x, comp P n a, comp P n b with
    | some x, some a, some b => some (.cond x a b)
    | _, _, _ => none
  | .block id a => match comp P n a with
    | some a => some (.block id a)
    | none => none
  | .loop a => match comp P n a with
    | some a => some (.loop a)
    | none => none
  | .exit id => some (.exit id)
  | .ret => some .ret
  | _ => some deadC

def compRes (P : Program) (n : Nat) : ResultVar → Option Res
  | .tmp t => bif Nat.blt t n then some (.t t) else none
  | .cell a t => bif Nat.blt a n then
      match isAggT P t, sizeT P t with
      | some true, some s => some (.cn a s)
      | some false, some _ => some (.c1 a)
      | _, _ => none
    else none

def compF (P : Program) (fn : Func) : Option F :=
  match fn.body with
  | some c => match comp P fn.ntmps c, fn.results.toList.mapM (compRes P fn.ntmps) with
    | some b, some rs => bif fn.name == "runtime.NumGoroutine" then none else some { n := fn.ntmps, res := rs, body := b }
    | _, _ => none
  | none => none

end Go.CM
