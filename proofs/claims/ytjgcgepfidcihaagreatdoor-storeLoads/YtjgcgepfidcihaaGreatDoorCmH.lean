/-
  A program logic over the model's calls: its texts CmSort, joined.
-/
import Derived.Test.YtjgcgepfidcihaaGreatDoorCmF
import Derived.Shelf.SlSortCmp.WholeK
import Derived.Shelf.SlSortCmp.NoneTotal
namespace Go.CM
open Go.Proofs Go.Sort

theorem grew {ι ι' : Pl} {H' : Heap} {W W' : World} (h : Ext ι (fun _ => none) W ι' H' W') : ∃ q os, W' = Go.Sort.grow (W.drewN q) os := by
  refine ⟨W'.drawn - W.drawn, W'.heap.extract W.heap.size W'.heap.size, ?_⟩
  have e1 : W'.heap = W.heap ++ W'.heap.extract W.heap.size W'.heap.size := by
    have hs := h.size
    apply Array.ext_getElem?
    intro k
    by_cases hk : k < W.heap.size
    · rw [Array.getElem?_append, if_pos hk]
      exact h.frame k hk fun ⟨id, o, _, ho, _⟩ => by cases ho
    · rw [Array.getElem?_append, if_neg hk, Array.getElem?_extract]
      by_cases hk2 : k < W'.heap.size
      · rw [if_pos (by omega)]; congr 1; omega
      · rw [if_neg (by omega), Array.getElem?_eq_none (by omega)]
  have e2 := h.os
  have e3 := h.tape.eq
  have e4 := h.tape.drawn
  have e5 := h.output
  generalize W'.heap.extract W.heap.size W'.heap.size = os at e1
  cases W'
  simp only at e1 e2 e3 e4 e5
  subst e1 e2 e3 e5
  simp only [Go.Sort.grow, World.drewN]
  congr 1
  omega

structure SortE (k : Nat) (G : List V → Prop) (ι : Pl) (w : World) where
  vs : List V
  us : List Value
  rel : VRs ι w vs us
  len : vs.length = k
  all : us.all one = true
  good : G vs

variable {k : Nat} {G : List V → Prop} {ι : Pl} {w : World}

theorem SortE.ulen (x : SortE k G ι w) : x.us.length = k := by rw [← x.rel.length]; exact x.len

theorem elems : ∀ (es : List (List V)) (U : List Value), VRs ι w es.flatten U → U.all one = true → (∀ x ∈ es, x.length = k ∧ G x) → ∃ d : List (SortE k G ι w), d.map SortE.vs = es ∧ d.flatMap SortE.us = U
  | [], U, h, _, _ => by
    cases h
    exact ⟨[], rfl, rfl⟩
  | x :: r, U, h, ho, hg => by
    have hl := (hg x (List.mem_cons_self ..)).1
    have h1 := h.take x.length
    have h2 := h.drop x.length
    simp only [List.flatten_cons, List.take_left, List.drop_left] at h1 h2
    obtain ⟨d, hd, hu⟩ := elems r (U.drop x.length) h2 (by
      rw [List.all_eq_true] at ho ⊢
      exact fun y hy => ho y (List.mem_of_mem_drop hy)) (fun y hy => hg y (List.mem_cons_of_mem _ hy))
    refine ⟨⟨x, U.take x.length, h1, hl, ?_, (hg x (List.mem_cons_self ..)).2⟩ :: d, by simp [hd], ?_⟩
    · rw [List.all_eq_true] at ho ⊢
      exact fun y hy => ho y (List.mem_of_mem_take hy)
    · simp [hu]

theorem flat_get [Inhabited (SortE k G ι w)] (hk : 0 < k) : ∀ (l : List (SortE k G ι w)) (t : Nat), t < l.length * k → (l.flatMap SortE.us)[t]? = some ((l[t / k]!).us[t % k]!)
  | [], t, h => by simp at h
  | x :: r, t, h => by
    have hx := x.ulen
    rw [List.flatMap_cons]
    by_cases ht : t < k
    · rw [List.getElem?_append_left (by omega), Nat.div_eq_of_lt ht, Nat.mod_eq_of_lt ht]
      simp only [List.getElem!_cons_zero]
      rw [List.getElem?_eq_getElem (by omega), List.getElem!_eq_getElem?_getD, List.getElem?_eq_getElem (by omega)]
      rfl
    · rw [List.getElem?_append_right (by omega), hx, flat_get hk r (t - k) (by
        rw [List.length_cons, Nat.add_mul] at h; omega)]
      have e1 : t / k = (t - k) / k + 1 := by
        conv => lhs; rw [show t = (t - k) + k by omega]
        rw [Nat.add_div_right _ hk]
      have e2 : t % k = (t - k) % k := by
        conv => lhs; rw [show t = (t - k) + k by omega]
        rw [Nat.add_mod_right]
      rw [e1, e2]
      simp

theorem flatK_list [Inhabited (SortE k G ι w)] (hk : 0 < k) (d : Array (SortE k G ι w)) : (flatK SortE.us k d).toList = d.toList.flatMap SortE.us := by
  have hlen : (d.toList.flatMap SortE.us).length = d.size * k := by
    rw [List.length_flatMap]
    have : (d.toList.map fun a : SortE k G ι w => a.us.length) = d.toList.map fun _ => k := List.map_congr_left fun a _ => a.ulen
    rw [this, List.map_const', List.sum_replicate_nat]; simp
  apply List.ext_getElem?
  intro t
  by_cases ht : t < d.size * k
  · rw [flat_get hk d.toList t (by simpa using ht), Array.getElem?_toList]
    have := get_flatK (SortE.us (k := k) (G := G) (ι := ι) (w := w)) k d t ht
    rw [getElem!_pos _ _ (by simpa using ht)] at this
    rw [Array.getElem?_eq_getElem (by simpa using ht), this]
    have hi : t / k < d.size := by rw [Nat.div_lt_iff_lt_mul hk]; exact ht
    rw [getElem!_pos d (t / k) hi, getElem!_pos d.toList (t / k) (by simpa using hi), Array.getElem_toList]
  · rw [List.getElem?_eq_none (by rw [Array.length_toList, size_flatK]; omega), List.getElem?_eq_none (by rw [hlen]; omega)]

theorem flatMap_rel : ∀ (l : List (SortE k G ι w)), VRs ι w (l.map SortE.vs).flatten (l.flatMap SortE.us)
  | [] => .nil
  | x :: r => by
    simp only [List.map_cons, List.flatten_cons, List.flatMap_cons]
    exact x.rel.append (flatMap_rel r)
theorem flatMap_one : ∀ (l : List (SortE k G ι w)), (l.flatMap SortE.us).all one = true
  | [] => rfl
  | x :: r => by
    simp only [List.flatMap_cons, List.all_append, x.all, flatMap_one r, Bool.and_self]

theorem shp_put {w : World} {b o : Nat} {F : Array Value} (n : Nat) (os : Array Obj) : Shp w (Go.Sort.grow (putRow id (Go.Sort.ahead w n) b o F) os) := by
  intro b2 c e f h
  have hlt := (Array.getElem?_eq_some_iff.1 h).1
  have : (Go.Sort.grow (putRow id (Go.Sort.ahead w n) b o F) os).heap[b2]? = (w.heap.modify b (onCells (putCells id o F)))[b2]? := by
    show (w.heap.modify b (onCells (putCells id o F)) ++ os)[b2]? = _
    rw [Array.getElem?_append, if_pos (by simpa using hlt)]
  rw [this, Array.getElem?_modify, h]
  by_cases hb : b = b2
  · rw [if_pos hb]
    exact ⟨_, f, rfl, keepF (by simp [putCells])⟩
  · rw [if_neg hb]
    exact ⟨c, f, rfl, keepF rfl⟩

theorem one_cell {v : Value} (h : one v = true) : v.oneCell' = true := by cases v <;> simp_all [one, Value.oneCell']

def SortK (P : Program) (f : FuncId) (k : Nat) : Prop :=
  ∀ (α : Type) [Inhabited α] (enc : α → List Value) (_ : ∀ x, (enc x).length = k) (_ : ∀ x, ∀ v ∈ enc x, v.oneCell' = true) (cf : α → α → Int) (_ : SWO (ltOf cf)) (g : Nat) (cb : Array Value) (blk off cap : Nat) (d : Array α) (w : World)
    (_ : ∀ args w, (callFunc g args).run P w = .ok (.enter g args) w) (_ : CmpLays P g cb enc k cf blk off d.size w) (_ : HoldsK enc k w blk off d) (_ : blk < w.heap.size) (_ : d.size < 4611686018427387904),
    Calls P f #[.slice (some ⟨blk, off, none⟩) d.size cap, .func (.func g) #[] cb] w fun e w' =>
      e = .returned (.tuple #[]) ∧ ∃ d' n os, PermIn 0 d.size d d' ∧ SortedIn (ltOf cf) 0 d.size d' ∧ w' = sortWorldK enc k w blk off n d' os
def SortK0 (P : Program) (f : FuncId) : Prop :=
  ∀ (p : Option Addr) (cap : Nat) (fv : Value) (w : World), Calls P f #[.slice p 0 cap, fv] w fun e w' => e = .returned (.tuple #[]) ∧ w' = w

structure SWOn (G : List V → Prop) (c : List V → List V → Int) : Prop where
  irrefl : ∀ x, G x → ¬ c x x < 0
  trans : ∀ x y z, G x → G y → G z → c x y < 0 → c y z < 0 → c x z < 0
  ntrans : ∀ x y z, G x → G y → G z → ¬ c x y < 0 → ¬ c y z < 0 → ¬ c x z < 0

theorem SWOn.swo {c : List V → List V → Int} (h : SWOn G c) : SWO (ltOf fun x y : SortE k G ι w => c x.vs y.vs) :=
  ⟨fun x => by simpa [ltOf] using h.irrefl x.vs x.good, fun x y z h1 h2 => by simp only [ltOf, decide_eq_true_eq] at *; exact h.trans _ _ _ x.good y.good z.good h1 h2,
   fun x y z h1 h2 => by simp only [ltOf, decide_eq_false_iff_not] at *; exact h.ntrans _ _ _ x.good y.good z.good h1 h2⟩

theorem sortedIn_pairwise {α : Type} [Inhabited α] {lt : α → α → Bool} {d : Array α} (h : SortedIn lt 0 d.size d) : d.toList.Pairwise fun x y => lt y x = false := by
  rw [List.pairwise_iff_getElem]
  intro i j hi hj hij
  have := h i j (Nat.zero_le _) hij (by simpa using hj)
  rw [getElem!_pos _ _ (by simpa using hj), getElem!_pos _ _ (by simpa using hi)] at this
  exact this

theorem permIn_perm {α : Type} [Inhabited α] {d d' : Array α} (h : PermIn 0 d.size d d') : d'.toList.Perm d.toList := by
  obtain ⟨h1, _, h3⟩ := h
  have e1 : d'.extract 0 d.size = d' := by rw [← h1]; simp
  have e2 : d.extract 0 d.size = d := by simp
  rw [e1, e2] at h3
  exact h3

set_option maxHeartbeats 1000000 in
theorem sortC {P : Program} {f : FuncId} (hE : Enters P f) (hS : SortK P f k) (hS0 : SortK0 P f) (hk : 0 < k) {c : List V → List V → Int} {g : FuncId} {cap : List V} (hO : SWOn G c)
    (hc : ∀ x y, G x → G y → CallsC P g ([.agg x, .agg y] ++ cap) (fun _ => none) fun v _ => v = .int .i64 (c x y)) (hg : Enters P g)
    {H : Heap} {s : Nat} {es : List (List V)} (hes : ∀ x ∈ es, x.length = k ∧ G x) (hn : es.length < 4611686018427387904) (hH : es ≠ [] → H s = some (.cells true es.flatten))
    {Q : V → Heap → Prop} (hQ : ∀ es' : List (List V), es'.Perm es → es'.Pairwise (fun x y => ¬ c y x < 0) → es ≠ [] → Q (.tup []) (H.set s (.cells true es'.flatten))) (hQ0 : es = [] → Q (.tup []) H) :
    CallsC P f [.slice s 0 es.length k, .func g cap] H Q := by
  refine ⟨hE, fun ι w us hR hv => ?_⟩
  cases hv with
  | cons _ u1 _ us1 h1 hv1 =>
  cases hv1 with
  | cons _ u2 _ us2 h2 hv2 =>
  cases hv2
  cases h2 with
  | func _ _ cb hcb =>
  by_cases he : es = []
  · subst he
    have e1 : ∃ p cap', u1 = .slice p 0 cap' := by cases h1 <;> exact ⟨_, _, rfl⟩
    obtain ⟨p, cap', rfl⟩ := e1
    refine (hS0 p cap' _ w).mono ?_
    rintro e w' ⟨rfl, rfl⟩
    exact ⟨ι, H, .tup [], _, rfl, .tup _ _ .nil, hR, Ext.refl ι H w', hQ0 rfl⟩
  have hlen : 0 < es.length := List.length_pos_iff.2 he
  have e1 : ∃ (b o cap' : Nat), u1 = .slice (some ⟨b, o, none⟩) es.length cap' ∧ ι s = some (b, o) := by
    generalize hl : es.length = n at h1
    cases h1 with
    | slice _ _ _ _ a cap' hle h =>
      obtain ⟨b, o, _, _, _, g1, g2, _⟩ := h (by omega)
      exact ⟨b, o, cap', by rw [g2]; rfl, g1⟩
    | slice0 => omega
  obtain ⟨b, o, cap', rfl, hι⟩ := e1
  obtain ⟨b', o', hι', c0, et, fr, hb, hcs, hfr, hfit⟩ := hR.obj _ _ (hH he)
  rw [hι] at hι'; cases hι'
  have hblk : b < w.heap.size := (Array.getElem?_eq_some_iff.1 hb).1
  have hfl : es.flatten.length = es.length * k := by
    rw [List.length_flatten]
    have : es.map List.length = es.map fun _ => k := List.map_congr_left fun x hx => (hes x hx).1
    rw [this, List.map_const', List.sum_replicate_nat]
  -- the model's cells
  have hU : VRs ι w es.flatten ((c0.toList.drop o).take (es.length * k)) := by
    refine VRs.of_get (by have hc0 : c0.toList.length = c0.size := Array.length_toList; rw [hfl, List.length_take, List.length_drop, hc0]; omega) fun i v hi => ?_
    obtain ⟨u, h1, h2, _⟩ := hcs i v hi
    have hlt := (List.getElem?_eq_some_iff.1 hi).1
    refine ⟨u, ?_, h2⟩
    rw [List.getElem?_take, if_pos (by omega), List.getElem?_drop, Array.getElem?_toList]; exact h1
  have hUo : ((c0.toList.drop o).take (es.length * k)).all one = true := by
    rw [List.all_eq_true]
    intro y hy
    obtain ⟨i, hi⟩ := List.getElem?_of_mem hy
    rw [List.getElem?_take] at hi
    split at hi
    · rw [List.getElem?_drop, Array.getElem?_toList] at hi
      have hlt : i < es.flatten.length := by omega
      obtain ⟨u, h1, _, h3⟩ := hcs i _ (List.getElem?_eq_getElem hlt)
      rw [hi] at h1; cases h1
      exact h3
    · cases hi
  obtain ⟨dl, hd1, hd2⟩ := elems (G := G) es _ hU hUo hes
  have hdl : dl.length = es.length := by rw [← hd1]; simp
  obtain ⟨x0, r0, hx0⟩ := List.exists_cons_of_ne_nil (List.ne_nil_of_length_pos (by omega : 0 < dl.length))
  letI : Inhabited (SortE k G ι w) := ⟨x0⟩
  have hsz : (⟨dl⟩ : Array (SortE k G ι w)).size = es.length := hdl
  have hflat : (flatK SortE.us k (⟨dl⟩ : Array (SortE k G ι w))).toList = (c0.toList.drop o).take (es.length * k) := by
    rw [flatK_list hk]; exact hd2
  have hHold : HoldsK SortE.us k w b o (⟨dl⟩ : Array (SortE k G ι w)) := by
    intro j hj
    rw [size_flatK, hsz] at hj
    have hlt : o + j < c0.size := by omega
    refine ⟨?_, ?_⟩
    · have e2 : (flatK SortE.us k (⟨dl⟩ : Array (SortE k G ι w)))[j]? = c0[o + j]? := by
        rw [← Array.getElem?_toList, hflat, List.getElem?_take, if_pos (by omega), List.getElem?_drop, Array.getElem?_toList]
      have e3 : (flatK SortE.us k (⟨dl⟩ : Array (SortE k G ι w)))[j]! = c0[o + j] := by
        rw [getElem!_pos _ _ (by rw [size_flatK, hsz]; omega)]
        rw [Array.getElem?_eq_getElem (by rw [size_flatK, hsz]; omega), Array.getElem?_eq_getElem hlt] at e2
        exact Option.some.inj e2
      rw [e3]
      simp only [World.cell?, hb, id]
      simp [hlt]
    · simp only [World.frozen?, hb]
      have := hfr rfl (o + j) (hlt)
      simp only [Bool.and_eq_false_iff, decide_eq_false_iff_not]
      omega
  have hcmp : CmpLays P g ⟨cb⟩ SortE.us k (fun x y : SortE k G ι w => c x.vs y.vs) b o (⟨dl⟩ : Array (SortE k G ι w)).size w := by
    intro m os dk hs x y
    have hS : Shp w (sortWorldK SortE.us k w b o m dk os) := shp_put m os
    have hle : Pl.le ι ι := fun _ _ h => h
    have hR0 : Rel ι (fun _ => none) (sortWorldK SortE.us k w b o m dk os) := ⟨fun _ _ h => by (cases h), fun _ _ _ _ _ _ _ h => by (cases h), hR.fin, hR.zero⟩
    have hargs : VRs ι (sortWorldK SortE.us k w b o m dk os) ([.agg x.vs, .agg y.vs] ++ cap) ([.agg ⟨x.us⟩, .agg ⟨y.us⟩] ++ cb) :=
      .cons _ _ _ _ (.agg _ _ (x.rel.mono hle hS) x.all) (.cons _ _ _ _ (.agg _ _ (y.rel.mono hle hS) y.all) (hcb.mono hle hS))
    have := (hc x.vs y.vs x.good y.good).2 ι _ _ hR0 hargs
    have e4 : (#[.agg x.us.toArray, .agg y.us.toArray] ++ (⟨cb⟩ : Array Value)) = (⟨[.agg ⟨x.us⟩, .agg ⟨y.us⟩] ++ cb⟩ : Array Value) := by
      apply Array.ext'; simp
    rw [e4]
    refine this.mono ?_
    rintro e w' ⟨ι', H', v, u, rfl, hv, _, hX, rfl⟩
    cases hv
    exact ⟨rfl, grew hX⟩
  have hcall := hS (SortE k G ι w) SortE.us (fun x => x.ulen) (fun x v hv => one_cell (List.all_eq_true.1 x.all v hv)) (fun x y => c x.vs y.vs) hO.swo g ⟨cb⟩ b o cap' ⟨dl⟩ w
    (fun args w => enters_run hg args) hcmp hHold hblk (by rw [hsz]; exact hn)
  rw [hsz] at hcall
  refine hcall.mono ?_
  rintro e w' ⟨rfl, d', n, os, hp, hs, rfl⟩
  have hpp := permIn_perm (d := (⟨dl⟩ : Array (SortE k G ι w))) (d' := d') (by rw [hsz]; exact hp)
  have hd'sz : d'.size = es.length := by rw [← Array.length_toList, hpp.length_eq]; exact hdl
  have hss := sortedIn_pairwise (d := d') (by rw [hd'sz]; exact hs)
  -- the abstract row
  have hes' : (d'.toList.map SortE.vs).Perm es := by rw [← hd1]; exact hpp.map _
  have hsort : (d'.toList.map SortE.vs).Pairwise fun x y => ¬ c y x < 0 := by
    rw [List.pairwise_map]
    exact hss.imp fun h => by simpa [ltOf] using h
  have hfl' : (d'.toList.map SortE.vs).flatten.length = es.length * k := by rw [← hfl]; exact hes'.flatten.length_eq
  have hrel' := flatMap_rel d'.toList
  have hone' := flatMap_one d'.toList
  have hFl : (flatK SortE.us k d').toList = d'.toList.flatMap SortE.us := flatK_list hk d'
  have hFs : (flatK SortE.us k d').size = es.length * k := by rw [size_flatK, hd'sz]
  generalize d'.toList.map SortE.vs = es' at *
  -- the row written
  let w1 : World := putRow id (Go.Sort.ahead w n) b o (flatK SortE.us k d')
  have hw1 : ∀ k2 : Nat, w1.heap[k2]? = (w.heap.modify b (onCells (putCells id o (flatK SortE.us k d'))))[k2]? := fun _ => rfl
  have hS1 : Shp w w1 := by
    have := shp_put (w := w) (b := b) (o := o) (F := flatK SortE.us k d') n #[]
    simpa using this
  have hf1 : ∀ k2 : Nat, k2 ≠ b → w1.heap[k2]? = w.heap[k2]? := fun k2 h => by rw [hw1, Array.getElem?_modify, if_neg (Ne.symm h)]
  have hb1 : w1.heap[b]? = some (.cells (putCells id o (flatK SortE.us k d') c0) et fr) := by rw [hw1, Array.getElem?_modify, if_pos rfl, hb]; rfl
  have hnew : ObjR ι w1 b o (.cells true es'.flatten) := by
    refine ⟨_, et, fr, hb1, fun i v hi => ?_, fun _ i hi => hfr rfl i (by simpa [putCells] using hi), by simp only [putCells, Array.size_mapIdx]; omega⟩
    obtain ⟨u, g1, g2⟩ := hrel'.get hi
    have hlt := (List.getElem?_eq_some_iff.1 hi).1
    refine ⟨u, ?_, g2.mono (fun _ _ h => h) hS1, List.all_eq_true.1 hone' u (List.mem_of_getElem? g1)⟩
    rw [← hFl, Array.getElem?_toList] at g1
    simp only [putCells, Array.getElem?_mapIdx]
    rw [Array.getElem?_eq_getElem (by omega : o + i < c0.size), Option.map_some, if_pos ⟨by omega, by omega⟩, show o + i - o = i by omega]
    rw [Array.getElem?_eq_getElem (by omega)] at g1
    rw [getElem!_pos _ _ (by omega), id]
    exact g1
  have hR1 := hR.write (hH he) rfl hι hS1 hf1 hnew
  have hX1 : Ext ι H w ι (H.set s (.cells true es'.flatten)) w1 := Ext.write (hH he) rfl hι hS1 hf1 rfl ⟨rfl, Nat.le_add_right _ _⟩ rfl (by simp [w1, putRow, mapBlock, Go.Sort.ahead]) rfl
  -- the new blocks
  have hold : ∀ k2 : Nat, k2 < w1.heap.size → (Go.Sort.grow w1 os).heap[k2]? = w1.heap[k2]? := fun k2 h => heap_grow_old w1 os h
  have hS2 : Shp w1 (Go.Sort.grow w1 os) := fun b2 c2 e2 f2 h => ⟨c2, f2, by rw [hold b2 (Array.getElem?_eq_some_iff.1 h).1]; exact h, keepF rfl⟩
  have hR2 : Rel ι (H.set s (.cells true es'.flatten)) (Go.Sort.grow w1 os) :=
    ⟨fun i x hx => by
      obtain ⟨b2, o2, g1, g2⟩ := hR1.obj i x hx
      exact ⟨b2, o2, g1, g2.keep (fun _ _ h => h) hS2 (hold b2 g2.lt)⟩, hR1.inj, hR1.fin, hR1.zero⟩
  have hX2 : Ext ι (H.set s (.cells true es'.flatten)) w1 ι (H.set s (.cells true es'.flatten)) (Go.Sort.grow w1 os) :=
    { Ext.refl ι (H.set s (.cells true es'.flatten)) w1 with
      os := rfl, tape := ⟨rfl, Nat.le_refl _⟩, output := rfl, size := by simp, shp := hS2, frame := fun k2 h _ => hold k2 h }
  exact ⟨ι, _, .tup [], _, rfl, .tup _ _ .nil, hR2, hX1.trans hX2, hQ es' hes' hsort he⟩

theorem perm_map {α β : Type} {f : α → β} {a b : List β} (h : a.Perm b) : ∀ l : List α, b = l.map f → ∃ l' : List α, l'.Perm l ∧ a = l'.map f := by
  induction h with
  | nil => intro l hl; exact ⟨l, .refl _, hl⟩
  | cons x _ ih =>
    intro l hl
    cases l with
    | nil => cases hl
    | cons y l =>
      rw [List.map_cons, List.cons.injEq] at hl
      obtain ⟨rfl, hl⟩ := hl
      obtain ⟨l', h1, rfl⟩ := ih l hl
      exact ⟨y :: l', h1.cons _, rfl⟩
  | swap x y l0 =>
    intro l hl
    match l, hl with
    | p :: q :: l, hl =>
      simp only [List.map_cons, List.cons.injEq] at hl
      obtain ⟨rfl, rfl, rfl⟩ := hl
      exact ⟨q :: p :: l, .swap _ _ _, rfl⟩
  | trans _ _ ih1 ih2 =>
    intro l hl
    obtain ⟨l1, h1, e1⟩ := ih2 l hl
    obtain ⟨l2, h2, e2⟩ := ih1 l1 e1
    exact ⟨l2, h2.trans h1, e2⟩

structure Cmp {α : Type} (cf : α → α → Int) : Prop where
  irrefl : ∀ x, ¬ cf x x < 0
  trans : ∀ x y z, cf x y < 0 → cf y z < 0 → cf x z < 0
  ntrans : ∀ x y z, ¬ cf x y < 0 → ¬ cf y z < 0 → ¬ cf x z < 0

theorem sortL {P : Program} {f : FuncId} (hE : Enters P f) (hS : SortK P f k) (hS0 : SortK0 P f) (hk : 0 < k) {α : Type} [Inhabited α] {enc : α → List V} (hinj : ∀ x y, enc x = enc y → x = y) (hlen : ∀ x, (enc x).length = k)
    {cf : α → α → Int} (hO : Cmp cf) {g : FuncId} {cap : List V} (hc : ∀ x y, CallsR P g ([.agg (enc x), .agg (enc y)] ++ cap) [] fun v => v = .int .i64 (cf x y))
    {s : Nat} (l : List α) (hn : l.length < 4611686018427387904) :
    CallsL P f [.slice s 0 l.length k, .func g cap] [(s, .cells true (l.flatMap enc))] fun v L' => ∃ l' : List α, l'.Perm l ∧ l'.Pairwise (fun x y => ¬ cf y x < 0) ∧ v = .tup [] ∧ L' = [(s, .cells true (l'.flatMap enc))] := by
  classical
  let dec : List V → α := fun v => if h : ∃ x, enc x = v then Classical.choose h else default
  have hdec : ∀ x, dec (enc x) = x := fun x => by
    have h : ∃ y, enc y = enc x := ⟨x, rfl⟩
    simp only [dec, dif_pos h]
    exact hinj _ _ (Classical.choose_spec h)
  intro H hh
  have hcC : ∀ x y, CallsC P g ([.agg (enc x), .agg (enc y)] ++ cap) (fun _ => none) fun v _ => v = .int .i64 (cf x y) := fun x y => (hc x y _ (Has.nil _)).mono fun _ _ ⟨_, h, _⟩ => h.1
  have h0 : l ≠ [] → s ≠ 0 := by
    rintro h rfl
    obtain ⟨b, e⟩ := hh.zero _ (List.mem_cons_self ..) rfl
    cases l with
    | nil => exact h rfl
    | cons x l =>
      have := hlen x
      simp only [HObj.cells.injEq, List.flatMap_cons, List.append_eq_nil_iff] at e
      rw [e.2.1] at this
      simp at this; omega
  have := sortC (k := k) (G := fun v => ∃ x, v = enc x) (c := fun v u => cf (dec v) (dec u)) (H := H) (s := s) (es := l.map enc) (cap := cap) (g := g) hE hS hS0 hk
    ⟨by rintro _ ⟨x, rfl⟩; rw [hdec]; exact hO.irrefl x, by rintro _ _ _ ⟨x, rfl⟩ ⟨y, rfl⟩ ⟨z, rfl⟩; simp only [hdec]; exact hO.trans x y z, by rintro _ _ _ ⟨x, rfl⟩ ⟨y, rfl⟩ ⟨z, rfl⟩; simp only [hdec]; exact hO.ntrans x y z⟩
    (by rintro _ _ ⟨x, rfl⟩ ⟨y, rfl⟩; simp only [hdec]; exact hcC x y) (hcC default default).1
    (by rintro v hv; obtain ⟨x, _, rfl⟩ := List.mem_map.1 hv; exact ⟨hlen x, x, rfl⟩) (by rw [List.length_map]; exact hn)
    (fun h => by rw [← List.flatMap_def]; exact hh.look _ (List.mem_cons_self ..) (h0 fun e => h (by rw [e]; rfl)))
    (Q := fun v H' => ∃ L', (∃ l' : List α, l'.Perm l ∧ l'.Pairwise (fun x y => ¬ cf y x < 0) ∧ v = .tup [] ∧ L' = [(s, .cells true (l'.flatMap enc))]) ∧ Has H' L')
    (fun es' hp hs hne => by
      obtain ⟨l', h1, rfl⟩ := perm_map hp l rfl
      rw [List.pairwise_map] at hs
      simp only [hdec] at hs
      refine ⟨_, ⟨l', h1, hs, rfl, rfl⟩, ?_⟩
      rw [← List.flatMap_def]
      exact hh.set (h0 fun e => hne (by rw [e]; rfl)) .here1)
    (fun h => ⟨_, ⟨l, .refl _, by rw [List.map_eq_nil_iff.1 h]; exact .nil, rfl, rfl⟩, hh⟩)
  rw [List.length_map] at this
  exact this

theorem sortK_of {P : Program} {ρ : Shelf.Ren} {k : Nat} (L : SlLaysF0.n6 P ρ) (aE : ∀ w, (isAgg (ρ.t 24)).run P w = .ok true w) (zE : ∀ w, (Go.sizeOf (ρ.t 24)).run P w = .ok k w) : SortK P (ρ.f 6) k :=
  fun _ _ enc hk h1 cf hO g cb blk off cap d w eg hcmp hH hblk hsz => AnyQ.slices_SortFunc L k aE zE enc hk h1 cf hO g cb blk off cap d w eg hcmp hH hblk hsz
theorem sortK0_of {P : Program} {ρ : Shelf.Ren} (L : SlLaysF0.n6 P ρ) : SortK0 P (ρ.f 6) := fun p cap fv w => AnyF.slices_SortFunc_none L p cap fv w

end Go.CM
