/-
  A program logic over the model's calls: its texts CmLib CmSortO, joined.
-/
import Derived.Test.YtkfhgpegnnokgaaGreatDoorCmG
import Derived.Test.YtkfhgpegnnokgaaGreatDoorCmE
import Derived.Shelf.Strconv.AtoiFail
import Derived.Lib.AtoiErrMem
import Derived.Shelf.Strconv.Atoi
import Derived.Shelf.Strconv.Itoa3
import Derived.Shelf.Strings.SlTrimAscii
import Derived.Handed
import Derived.Stop.LaidErr
import Derived.Lib.LaidTab
import Derived.Test.YtkfhgpegnnokgaaGreatDoorCmF
import Derived.Shelf.Sort.Plain
import Derived.Shelf.Slices.In.SortNone
namespace Go.CM
open Go.RowKit Go.Proofs Go.Sort

structure Grew (w w' : World) : Prop where
  os : w'.os = w.os
  tape : Tape w w'
  output : w'.output = w.output
  size : w.heap.size ≤ w'.heap.size
  block : ∀ k, k < w.heap.size → w'.heap[k]? = w.heap[k]?
theorem Grew.refl (w : World) : Grew w w := ⟨rfl, Tape.refl w, rfl, Nat.le_refl _, fun _ _ => rfl⟩
theorem Grew.shp {w w' : World} (h : Grew w w') : Shp w w' := fun b c _ f hb =>
  ⟨c, f, by rw [h.block b (Array.getElem?_eq_some_iff.1 hb).1]; exact hb, keepF rfl⟩
theorem Grew.rel {w w' : World} (h : Grew w w') {ι : Pl} {H : Heap} (hR : Rel ι H w) : Rel ι H w' :=
  ⟨fun i x hx => by
    obtain ⟨b, o, h1, h2⟩ := hR.obj i x hx
    exact ⟨b, o, h1, h2.keep (fun _ _ h => h) h.shp (h.block b h2.lt)⟩, hR.inj, hR.fin, hR.zero, hR.glob⟩
theorem Grew.ext {w w' : World} (h : Grew w w') (ι : Pl) (H : Heap) : Ext ι H w ι H w' :=
  ⟨fun _ _ h => h, h.os, h.tape, h.output, h.size, h.shp, fun b hb _ => h.block b hb, fun _ h => .inl h, fun _ _ h h' => (by rw [h] at h'; cases h'), fun _ _ h _ => h⟩
theorem Grew.grow (w : World) (k : Nat) (os : Array Obj) : Grew w (Go.Sort.grow (w.drewN k) os) :=
  ⟨rfl, ⟨rfl, Nat.le_add_right _ _⟩, rfl, by simp [Go.Sort.grow, World.drewN], fun b hb => by
    show (w.heap ++ os)[b]? = _
    rw [Array.getElem?_append, if_pos hb]⟩
theorem Grew.alloc2 (w : World) (o o' : Obj) (q : Nat) : Grew w (((w.alloc o).alloc o').drewN q) :=
  ⟨rfl, ⟨rfl, Nat.le_add_right _ _⟩, rfl, by show w.heap.size ≤ ((w.heap.push o).push o').size; simp; omega, fun b hb => by
    show ((w.heap.push o).push o')[b]? = _
    rw [Array.getElem?_push, if_neg (by simp; omega), Array.getElem?_push, if_neg (by omega)]⟩
theorem Grew.bytes (w : World) (e : TypeId) (t : ByteArray) : Grew w (Lib.bytesWorld w e t) := by
  have hb := Lib.bytesWorld_below w e t
  exact ⟨hb.os, ⟨hb.tape, by show w.drawn ≤ (Lib.bytesWorld w e t).drawn; unfold Lib.bytesWorld; exact Nat.le_succ _⟩, hb.output, hb.size, hb.block⟩

theorem grewC {P : Program} {f : FuncId} {args : List V} {H : Heap} {v : V} (hE : Enters P f)
    (h : ∀ ι w us, Rel ι H w → VRs ι w args us → Calls P f ⟨us⟩ w fun e w' => ∃ u, e = .returned u ∧ VR ι w' v u ∧ Grew w w') : CallsC P f args H fun v' H' => v' = v ∧ H' = H :=
  ⟨hE, fun ι w us hR hv => (h ι w us hR hv).mono fun _ _ ⟨u, e1, hu, hg⟩ => ⟨ι, H, v, u, e1, hu, hg.rel hR, hg.ext ι H, rfl, rfl⟩⟩
theorem grewL {P : Program} {f : FuncId} {args : List V} {L : List Ob} {v : V} (hE : Enters P f)
    (h : ∀ H, Has H L → ∀ ι w us, Rel ι H w → VRs ι w args us → Calls P f ⟨us⟩ w fun e w' => ∃ u, e = .returned u ∧ VR ι w' v u ∧ Grew w w') : CallsR P f args L fun v' => v' = v :=
  fun H hh => (grewC hE (h H hh)).mono fun _ _ ⟨e1, e2⟩ => ⟨L, ⟨e1, rfl⟩, e2 ▸ hh⟩

def powV : List V := Lib.pow10Tab.map fun z => .int .u64 z
def libOb (gE gP tE tp e : Nat) : List Ob := [(2 * gE + 1, .cells false [.iface tE (.ty tp 20 (2 * gP + 1) (.ptr e 0))]), (2 * gP + 1, .cells false powV)]

theorem tabIs_of {P : Program} {ι : Pl} {H : Heap} {w : World} {gE gP tE tp e : Nat} (hn : P.globalNamed "internal/strconv.uint64pow10" = some gP) (hR : Rel ι H w) (hh : Has H (libOb gE gP tE tp e)) : Lib.TabIs P w "internal/strconv.uint64pow10" .u64 Lib.pow10Tab := by
  have h1 := hh.look (2 * gE + 1, _) (List.mem_cons_self ..) (by simp)
  have h2 := hh.look (2 * gP + 1, _) (List.mem_cons_of_mem _ (List.mem_cons_self ..)) (by simp)
  obtain ⟨b, o, hι, c, et, f, hb, hcs, _, hfit⟩ := hR.obj _ _ h2
  rw [hR.glob] at hι; cases hι
  obtain ⟨b', o', hι', c', et', f', hb', hcs', _, _⟩ := hR.obj _ _ h1
  obtain ⟨u, hu, hv, _⟩ := hcs' 0 _ rfl
  cases hv with
  | iface _ _ u' hv' =>
  cases hv' with
  | ty _ _ _ b2 _ _ c2 f2 hι2 hb2 hk hf2 hvt hot =>
  rw [hR.glob] at hι2; cases hι2
  rw [hb] at hb2; cases hb2
  have hsz : c.size = 20 := by rcases hk with hk | hk; · cases hk
                               · exact hk
  unfold Lib.TabIs World.var?
  rw [hn]
  simp only [Option.bind_some, hb]
  congr 1
  apply Array.ext_getElem?
  intro i
  by_cases hi : i < 20
  · have hp : powV[i]? = some (.int .u64 ((Lib.pow10Tab.map id)[i]'(by simp [Lib.pow10Tab_length]; omega))) := by
      simp [powV, Lib.pow10Tab_length, hi]
    obtain ⟨u, h3, h4, _⟩ := hcs i _ hp
    rw [Nat.zero_add] at h3
    rw [h3]
    generalize hz : (Lib.pow10Tab.map id)[i]'(by simp [Lib.pow10Tab_length]; omega) = z at h4
    cases h4
    simp [← hz, Lib.pow10Tab_length, hi]
  · rw [Array.getElem?_eq_none (by omega), Array.getElem?_eq_none (by simp [Lib.pow10Tab_length]; omega)]

variable {P : Program} {ρ : Go.Shelf.Ren}
theorem itoaR (L : LaysM.n171 P ρ) (hE : Enters P (ρ.f 171)) {gE gP tE tp e : Nat} (hn : P.globalNamed "internal/strconv.uint64pow10" = some gP) (n : Int) (h0 : -9223372036854775808 ≤ n) (h1 : n ≤ 9223372036854775807) :
    CallsR P (ρ.f 171) [.int .i64 n] (libOb gE gP tE tp e) fun v => v = .str (Lib.itoa n) := by
  refine grewL hE fun H hh ι w us hR hv => ?_
  cases hv with
  | cons _ u _ us h1 h2 =>
  cases h2
  cases h1
  refine (Any.strconv_Itoa L n h0 h1 w (tabIs_of hn hR hh)).mono ?_
  rintro _ _ ⟨rfl, k, os, rfl⟩
  exact ⟨_, rfl, .str ⟨(Lib.itoa n).toArray⟩, Grew.grow w k os⟩
theorem atoiR (L : Lays.n244 P ρ) (hE : Enters P (ρ.f 244)) (s : List UInt8) (hl : s.length ≤ 18) :
    CallsR P (ρ.f 244) [.str s] [] fun v => v = match Lib.atoi s with | some n => .tup [.int .i64 n, .nili] | none => .tup [.int .i64 0, .iface (ρ.t 167) (.int .i64 2)] := by
  refine grewL hE fun H _ ι w us hR hv => ?_
  cases hv with
  | cons _ u _ us h1 h2 =>
  cases h2
  cases h1 with
  | str s =>
  have hsz : s.size ≤ 18 := hl
  cases hd : Lib.atoi s.data.toList with
  | none =>
    refine (Any.internal_strconv_Atoi_fail L s hsz hd w).mono ?_
    rintro _ w' ⟨rfl, h3⟩
    refine ⟨_, rfl, .tup _ _ (.cons _ _ _ _ (.int _ _) (.cons _ _ _ _ (.iface _ _ _ (.int _ _)) .nil)), ?_⟩
    rcases h3 with rfl | ⟨t, rfl⟩
    · exact Grew.refl _
    · exact Grew.bytes _ _ _
  | some n =>
    refine (Any.internal_strconv_Atoi L s n hsz hd w).mono ?_
    rintro _ w' ⟨rfl, t, rfl⟩
    exact ⟨_, rfl, .tup _ _ (.cons _ _ _ _ (.int _ _) (.cons _ _ _ _ .nili .nil)), Grew.bytes _ _ _⟩
theorem trimR (L : Lays.n160 P ρ) (hE : Enters P (ρ.f 160)) (h116 : (P.info? (ρ.t 116)).map (fun i => (i.zero, i.size)) = some (some (.agg (Array.replicate 256 (.bool false))), 256)) (s c : List UInt8)
    (h0 : 0 < s.length) (hs : s.length ≤ 9223372036854775807) (h2 : 2 ≤ c.length) (hc : c.length < 4294967281) (ha : ∀ (j : Nat) b, c[j]? = some b → b.toNat < 128) :
    CallsR P (ρ.f 160) [.str s, .str c] [] fun v => v = .str (Lib.trimS s c) := by
  refine grewL hE fun H _ ι w us hR hv => ?_
  cases hv with
  | cons _ u _ us h1 hv =>
  cases hv with
  | cons _ u' _ us h1' hv =>
  cases hv
  cases h1 with
  | str s =>
  cases h1' with
  | str c =>
  refine (Any.strings_Trim_set L (zero_of_info h116).1 (zero_of_info h116).2 s c w h2 h0 hs hc ha).mono ?_
  rintro _ _ ⟨rfl, q, rfl⟩
  exact ⟨_, rfl, .str ⟨(Lib.trimS s.data.toList c.data.toList).toArray⟩, Grew.alloc2 w _ _ q⟩

/- the row's world -/
theorem Rel.roAt {ι : Pl} {H : Heap} {w : World} (h : Rel ι H w) {id b off : Nat} {o : HObj} (hid : H id = none) (hι : ι id = some (b, off)) (hro : ∀ i x, H i = some x → x.rw = false) (ho : o.rw = false) (hnew : ObjR ι w b off o) : Rel ι (H.set id o) w := by
  have ro : ∀ i x, (H.set id o) i = some x → x.rw = false := fun i x hx => by
    by_cases hi : i = id
    · subst hi; rw [Heap.set_same] at hx; cases hx; exact ho
    · rw [Heap.set_ne _ _ hi] at hx; exact hro i x hx
  refine ⟨fun i x hx => ?_, fun i i' x x' _ _ _ h1 _ hr _ _ => ?_, h.fin, h.zero, h.glob⟩
  · by_cases hi : i = id
    · subst hi; rw [Heap.set_same] at hx; cases hx; exact ⟨b, off, hι, hnew⟩
    · rw [Heap.set_ne _ _ hi] at hx; exact h.obj i x hx
  · rw [ro i x h1] at hr; cases hr
theorem Rel.place {ι : Pl} {H : Heap} {w : World} (h : Rel ι H w) {id : Nat} (x : Nat × Nat) (h0 : id ≠ 0) (hι : ι id = none) (hid : H id = none) : Rel (ι.add id x) H w := by
  have hle := Pl.le_add (ι := ι) (id := id) x hι
  have hev : id % 2 = 0 := by
    rcases Nat.mod_two_eq_zero_or_one id with h | h1
    · exact h
    · have := h.glob (id / 2)
      rw [show 2 * (id / 2) + 1 = id by omega, hι] at this
      cases this
  refine ⟨fun i o hi => ?_, fun i i' o o' b off off' h1 h2 hr h3 h4 => ?_, ?_, by rw [Pl.add_ne _ _ (Ne.symm h0)]; exact h.zero, fun g => hle _ _ (h.glob g)⟩
  · obtain ⟨b, off, g1, g2⟩ := h.obj i o hi
    exact ⟨b, off, hle _ _ g1, g2.keep hle (Shp.refl w) rfl⟩
  · have n1 : i ≠ id := by rintro rfl; rw [hid] at h1; cases h1
    have n2 : i' ≠ id := by rintro rfl; rw [hid] at h2; cases h2
    rw [Pl.add_ne _ _ n1] at h3
    rw [Pl.add_ne _ _ n2] at h4
    exact h.inj i i' o o' b off off' h1 h2 hr h3 h4
  · obtain ⟨N, hN⟩ := h.fin
    refine ⟨max N (id + 1), fun i hi he => ?_⟩
    rw [Pl.add_ne _ _ (by omega)]
    exact hN i (by omega) he

section
variable {HT : Type} {enc : TypeId × Value → HT} {W : World}
theorem law_callsG {f : FuncId} {ts : List TypeId} {pks : List PK} {args : Array Value} {ds : List (DataW HT)} {ps : List MemPlace} (hp : pkTs P ts = some pks)
    (hA : DataW.TrodAll enc P W 0 (fun _ => true) true ts args.toList ds ps) (hok : ∀ (j : Nat) t v, ts[j]? = some t → args[j]? = some v → ∃ base, Value.okWide P W .any base t v)
    {gE gP tE tp eE : Nat} (hne : gE ≠ gP) {cE cP : Array Value} {fE : Nat × Nat} {a : Addr} (hE : W.heap[gE]? = some (.cells cE eE fE)) (hE0 : cE[0]? = some (.iface tE (.pointer (some a)))) (ha : a.spot = none)
    (hP : W.heap[gP]? = some (.cells cP tp (0, 0))) (hcP : cP = (Lib.pow10Tab.map fun z => Value.int .u64 z).toArray)
    (hC : ∀ (vs : List V) (H : Heap) (e : Nat), Givens H 1 pks vs → (∀ id o, H id = some o → o.rw = false) → Has H (libOb gE gP tE tp e) → CallsC P f vs H fun v _ => v = .bool true) :
    Calls P f args W fun e W' => e = .returned (.bool true) ∧ Below W.heap.size W W' := by
  obtain ⟨vs, ι, H, h1, h2, h3, _, h5⟩ := open_args ts pks 1 args.toList ds ps Nat.one_pos hp hA fun j t v ht hv => hok j t v ht (by simpa using hv)
  let H0 : Heap := fun id => if id % 2 = 1 then none else H id
  have le0 : H0.le H := fun id o hi => by
    simp only [H0] at hi
    split at hi
    · cases hi
    · exact hi
  have R0 := h2.weaken le0
  have ro0 : ∀ i x, H0 i = some x → x.rw = false := fun i x hx => h3 i x (le0 _ _ hx)
  obtain ⟨e, e0, e1, e2⟩ := R0.fresh
  have R1 := R0.place (a.block, a.off) e0 e2 e1
  have hle := Pl.le_add (ι := ι) (id := e) (a.block, a.off) e2
  have he := Pl.add_same ι e (a.block, a.off)
  generalize ι.add e (a.block, a.off) = ι1 at *
  have hsz : cP.size = 20 := by rw [hcP]; simp [Lib.pow10Tab_length]
  have o1 : H0 (2 * gP + 1) = none := by simp only [H0]; rw [if_pos (by omega)]
  have o2 : H0 (2 * gE + 1) = none := by simp only [H0]; rw [if_pos (by omega)]
  have N1 : ObjR ι1 W gP 0 (.cells false powV) := by
    refine ⟨cP, tp, (0, 0), hP, fun k v hk => ?_, (fun h => by cases h), by rw [hsz]; simp [powV, Lib.pow10Tab_length]⟩
    have hk20 : k < 20 := by
      have := (List.getElem?_eq_some_iff.1 hk).1
      simpa [powV, Lib.pow10Tab_length] using this
    rw [powV, List.getElem?_map, Option.map_eq_some_iff] at hk
    obtain ⟨z, hz, rfl⟩ := hk
    exact ⟨.int .u64 z, by rw [hcP, Nat.zero_add]; simp [hz], .int _ _, rfl⟩
  have R2 := R1.roAt o1 (R1.glob gP) ro0 rfl N1
  have ro1 : ∀ i x, (H0.set (2 * gP + 1) (.cells false powV)) i = some x → x.rw = false := fun i x hx => by
    by_cases hi : i = 2 * gP + 1
    · subst hi; rw [Heap.set_same] at hx; cases hx; rfl
    · rw [Heap.set_ne _ _ hi] at hx; exact ro0 i x hx
  have N2 : ObjR ι1 W gE 0 (.cells false [.iface tE (.ty tp 20 (2 * gP + 1) (.ptr e 0))]) := by
    refine ⟨cE, eE, fE, hE, fun k v hk => ?_, (fun h => by cases h), ?_⟩
    · cases k with
      | succ k => simp at hk
      | zero =>
        obtain rfl : V.iface tE (.ty tp 20 (2 * gP + 1) (.ptr e 0)) = v := by simpa using hk
        refine ⟨_, hE0, .iface _ _ _ (.ty _ _ _ gP _ _ cP (0, 0) (R1.glob gP) hP (.inr hsz) (Nat.zero_le _) ?_ rfl), rfl⟩
        have := VR.ptr (w := W) e 0 a.block a.off he
        rw [Nat.add_zero] at this
        rw [show a = ⟨a.block, a.off, none⟩ by cases a; simp_all]
        exact this
    · have := (Array.getElem?_eq_some_iff.1 hE0).1
      simp only [List.length_cons, List.length_nil]; omega
  have R3 := R2.roAt (id := 2 * gE + 1) (by rw [Heap.set_ne _ _ (by omega)]; exact o2) (R1.glob gE) ro1 rfl N2
  have ro2 : ∀ i x, ((H0.set (2 * gP + 1) (.cells false powV)).set (2 * gE + 1) (.cells false [.iface tE (.ty tp 20 (2 * gP + 1) (.ptr e 0))])) i = some x → x.rw = false := fun i x hx => by
    by_cases hi : i = 2 * gE + 1
    · subst hi; rw [Heap.set_same] at hx; cases hx; rfl
    · rw [Heap.set_ne _ _ hi] at hx; exact ro1 i x hx
  have hhas : Has ((H0.set (2 * gP + 1) (.cells false powV)).set (2 * gE + 1) (.cells false [.iface tE (.ty tp 20 (2 * gP + 1) (.ptr e 0))])) (libOb gE gP tE tp e) := by
    refine Has.cons (Has.cons (Has.nil _) (by omega) (by rw [Heap.set_ne _ _ (by omega), Heap.set_same]) (by simp [ids])) (by omega) (Heap.set_same _ _ _) ?_
    intro hm
    obtain ⟨_, y, hy, e3⟩ := mem_ids.1 hm
    simp only [List.mem_singleton] at hy
    subst hy
    simp only at e3
    omega
  have hgiv : Givens ((H0.set (2 * gP + 1) (.cells false powV)).set (2 * gE + 1) (.cells false [.iface tE (.ty tp 20 (2 * gP + 1) (.ptr e 0))])) 1 pks vs := h5.congr fun j _ => by
    rw [Heap.set_ne _ _ (by omega), Heap.set_ne _ _ (by omega)]
    simp only [H0]; rw [if_neg (by omega)]
  refine ((hC vs _ e hgiv ro2 hhas).2 ι1 W args.toList R3 (h1.mono hle (Shp.refl W))).mono ?_
  rintro e W' ⟨ι', H', v, u, rfl, hv, hR, hX, rfl⟩
  cases hv
  refine ⟨rfl, hX.os, hX.tape.eq, hX.output, hX.size, fun k hk => hX.frame k hk ?_⟩
  rintro ⟨id, o, off, q1, q2, _⟩
  rw [ro2 id o q1] at q2; cases q2
end

theorem Has.dropped {H : Heap} {L L' : List Ob} (h : Has H L) {id : Nat} {o : HObj} (h0 : id ≠ 0) (hu : Upd (id, o) [] L L') : Has (H.del id) L' := by
  obtain ⟨R, h1, h2⟩ := hu.front h
  have hne := h1.head_ne h0
  exact Has.perm (L := R) (h1.tail.heap fun y hy hy0 => Heap.del_ne _ (hne y hy hy0)) (by simpa using h2.symm)
section
variable {env : Env} {H : Heap} {L : List Ob} {K : Env → Heap → Prop} {d : Option Nat} {is : List I}
theorem wps_ustrA (hh : Has H L) {y a : X} {e k id : Nat} {l : List UInt8} {L' : List Ob} (ha : a.ev env = .ty e k id (.ptr id 0)) (hy : y.ev env = .int .i64 (l.length : Nat)) (h0 : l ≠ []) (hl : l.length ≤ 9223372036854775807) (hu : Upd (id, .cells true (bytesV l)) [] L L')
    (k2 : ∀ H', Has H' L' → wpOps P is (env.put d (.str l)) H' K) : wpOps P (⟨d, .ef (.ustr e a y), none, .no⟩ :: is) env H K := by
  have hne : bytesV l ≠ [] := fun e => by rw [bytesV_eq, List.map_eq_nil_iff] at e; exact h0 e
  have hid : id ≠ 0 := hh.ne0 hu.at hne
  exact .inr ⟨k, id, [], l, ha, hy, h0, hl, by rw [List.append_nil]; exact hh.getc hu.at hne, trivial, k2 _ (Has.dropped hh hid hu)⟩
end
theorem CallsN.drop {f : FuncId} {args : List V} {L : List Ob} {Q : V → List Ob → Prop} (h : CallsN P f args L Q) : CallsR P f args L fun v => ∃ Lo, Q v Lo := by
  intro H hh
  have h1 := CallsL.keeps (R := []) h (by rintro v L' ⟨Lo, _, rfl⟩ y hy; exact List.mem_append_right _ hy) (by rwa [List.append_nil])
  refine (CallsC.forget (Q := fun v => ∃ Lo, Q v Lo) (h1.mono ?_)).mono ?_
  · rintro v H' ⟨_, ⟨Lo, hq, _⟩, _, hl⟩
    exact ⟨⟨Lo, hq⟩, hl⟩
  · rintro v H' ⟨hq, rfl⟩
    exact ⟨L, ⟨hq, rfl⟩, hh⟩

open Go.ChangeShapes Go.WideShapes Go.ChangeAt
theorem returnsInHanded_shaped {H : Type} {enc : TypeId × Value → H} {a : Assume} {C : Checked} {os : Os} {f : FuncId} {fn : Func} {s : ChangeSpec} {conds : List PathCond} {apart fresh handsOn again : Bool} {X : World → Array Value → Prop}
    (hX : ∀ (w w' : World) (args : Array Value), w.heap = w'.heap → X w args → X w' args)
    (own : ownKnob C.prog.godebug = none) (started : os.Started) (noInit : C.prog.inits.idxOf? f = none) (hfn : C.prog.funcs[f]? = some fn)
    (witness : ∃ (w : World) (tape : Go.Tape) (i : Input), w.os = os ∧ (w.forCall tape i).Shaped C.prog ∧ i.vars = [] ∧ Input.okWide C.prog (w.forCall tape i) .any w.heap.size f i ∧
      ((s.pre enc C.prog fn conds apart (w.forCall tape i).memory i.args ∧ X (w.forCall tape i).memory i.args) ∧ sizedMet enc C.prog fn (OpenSpec.ofChange s) apart (w.forCall tape i).memory i.args) ∧ a.holds C.prog (lone (Frame.enter C.prog f i.args .normal) [] (w.forCall tape i)))
    (contract : ∀ (W : World) (base : Nat) (args : Array Value) (ds gs : List (DataW H)) (before : List MemPlace), W.ShapedOpen C.prog →
      (∀ (j : Nat) t v, fn.params[j]? = some t → args[j]? = some v → Value.okWide C.prog W .any base t v) →
      DataW.Whole enc C.prog fn.params.toList s.vars apart W args.toList ds gs before →
      (DataW.weightsEach C.prog (fn.params.toList ++ s.plain.varTypes C.prog) (ds ++ gs)).all (· ≤ reachBytes) = true → X W args →
      Calls C.prog f args W fun e W' => ∃ v, e = .returned v ∧ s.post enc C.prog fn apart fresh handsOn again W args v W') :
    ReturnsInHanded a C os f .any (fun w args => (s.pre enc C.prog fn conds apart w args ∧ X w args) ∧ sizedMet enc C.prog fn (OpenSpec.ofChange s) apart w args) (s.post enc C.prog fn apart fresh handsOn again) := by
  refine returnsInHanded_of_calls own started noInit witness ?_
  intro w tape i _ hsh _ hok hpre _
  obtain ⟨_, _, _, fn', hfn', _, _, _, _, hval⟩ := hok
  have e : fn' = fn := Option.some.inj (hfn'.symm.trans hfn)
  subst e
  obtain ⟨⟨⟨ds, gs, before, hw, _⟩, hx⟩, hz⟩ := hpre
  have hw' := DataW.Whole.of_heap (w' := w.forCall tape i) (by rfl) hw
  refine (contract (w.forCall tape i) w.heap.size i.args ds gs before hsh hval hw' (hz.weights hw) (hX _ _ _ (by rfl) hx)).mono fun e W' ⟨v, he, hp⟩ => ?_
  subst he
  exact ChangeSpec.post_blind hp
theorem cells_of_shaped {W : World} {n : String} {g : Nat} {zero cs : Array Value} {t : TypeId} (h : W.ShapedOpen P) (hn : P.globalNamed n = some g) (hg : g < P.globals.size)
    (h0 : ((begin P (fun _ _ => 0) default).world.heap[g]?).bind Obj.row? = some (zero, t)) (hv : W.var? P n = some cs) : W.heap[g]? = some (.cells cs t (0, 0)) := by
  obtain ⟨cs', h1, _, _⟩ := h.1 g zero t hg h0
  unfold World.var? at hv
  rw [hn] at hv
  simp only [Option.bind_some, h1, Option.some.injEq] at hv
  subst hv
  exact h1
theorem cells_of_var {W : World} {n : String} {g : Nat} {cs : Array Value} (hn : P.globalNamed n = some g) (hv : W.var? P n = some cs) : ∃ t f, W.heap[g]? = some (.cells cs t f) := by
  unfold World.var? at hv
  rw [hn] at hv
  simp only [Option.bind_some] at hv
  split at hv
  · rename_i c t f h; cases hv; exact ⟨t, f, h⟩
  · cases hv
theorem spot_of_cell {W : World} {a : Addr} {v : Value} (h : W.cell? a = some v) : a.spot = none := by
  unfold World.cell? at h
  split at h
  · split at h
    · cases h
    · cases hs : a.spot with
      | none => rfl
      | some x => simp_all
  · cases h
end Go.CM

namespace Go.CM
open Go.Proofs Go.Sort

theorem shp_put1 {α : Type} [Inhabited α] {encU : α → Value} {w : World} {b o : Nat} {F : Array α} (n : Nat) (os : Array Obj) : Shp w (Go.Sort.grow (putRow encU (Go.Sort.ahead w n) b o F) os) := by
  intro b2 c e f h
  have hlt := (Array.getElem?_eq_some_iff.1 h).1
  have : (Go.Sort.grow (putRow encU (Go.Sort.ahead w n) b o F) os).heap[b2]? = (w.heap.modify b (onCells (putCells encU o F)))[b2]? := by
    show (w.heap.modify b (onCells (putCells encU o F)) ++ os)[b2]? = _
    rw [Array.getElem?_append, if_pos (by simpa using hlt)]
  rw [this, Array.getElem?_modify, h]
  by_cases hb : b = b2
  · rw [if_pos hb]
    exact ⟨_, f, rfl, keepF (by simp [putCells])⟩
  · rw [if_neg hb]
    exact ⟨c, f, rfl, keepF rfl⟩

structure Sort1 {α : Type} [Inhabited α] (P : Program) (f : FuncId) (encU : α → Value) (srt : List α → List α) : Prop where
  ent : Enters P f
  some_ : ∀ (blk off cap : Nat) (zs : List α) (w : World), Holds encU w blk off zs.toArray → blk < w.heap.size → zs.length < 4611686018427387904 →
    Calls P f #[.slice (some ⟨blk, off, none⟩) zs.length cap] w fun e w' => e = .returned (.tuple #[]) ∧ ∃ n os, w' = grow (putRow encU (Go.Sort.ahead w n) blk off (srt zs).toArray) os
  none_ : ∀ (p : Option Addr) (cap : Nat) (w : World), Calls P f #[.slice p 0 cap] w fun e w' => e = .returned (.tuple #[]) ∧ w' = w
  len : ∀ zs, (srt zs).length = zs.length

theorem sort1C {α : Type} [Inhabited α] {P : Program} {f : FuncId} {encU : α → Value} {srt : List α → List α} (hS : Sort1 P f encU srt) {ev : α → V}
    (hto : ∀ ι w x u, VR ι w (ev x) u → u = encU x) (hof : ∀ ι w x, VR ι w (ev x) (encU x)) (hone : ∀ x, one (encU x) = true)
    {H : Heap} {s : Nat} {es : List α} (hn : es.length < 4611686018427387904) (hH : es ≠ [] → H s = some (.cells true (es.map ev)))
    {Q : V → Heap → Prop} (hQ : es ≠ [] → Q (.tup []) (H.set s (.cells true ((srt es).map ev)))) (hQ0 : es = [] → Q (.tup []) H) :
    CallsC P f [.slice s 0 es.length 1] H Q := by
  refine ⟨hS.ent, fun ι w us hR hv => ?_⟩
  cases hv with
  | cons _ u1 _ us1 h1 hv1 =>
  cases hv1
  by_cases he : es = []
  · subst he
    have e1 : ∃ p cap', u1 = .slice p 0 cap' := by cases h1 <;> exact ⟨_, _, rfl⟩
    obtain ⟨p, cap', rfl⟩ := e1
    refine (hS.none_ p cap' w).mono ?_
    rintro e w' ⟨rfl, rfl⟩
    exact ⟨ι, H, .tup [], _, rfl, .tup _ _ .nil, hR, Ext.refl ι H w', hQ0 rfl⟩
  have hlen : 0 < es.length := List.length_pos_iff.2 he
  have e1 : ∃ (b o cap' : Nat), u1 = .slice (some ⟨b, o, none⟩) es.length cap' ∧ ι s = some (b, o) := by
    generalize hl : es.length = n at h1
    cases h1 with
    | slice _ _ _ _ a cap' hle h =>
      obtain ⟨b, o, _, _, _, g1, g2, _⟩ := h (by omega)
      exact ⟨b, o, cap', by rw [g2]; rfl, g1⟩
    | slice0 => omega
  obtain ⟨b, o, cap', rfl, hι⟩ := e1
  obtain ⟨b', o', hι', c0, et, fr, hb, hcs, hfr, hfit⟩ := hR.obj _ _ (hH he)
  rw [hι] at hι'; cases hι'
  have hblk : b < w.heap.size := (Array.getElem?_eq_some_iff.1 hb).1
  rw [List.length_map] at hfit
  have hcell : ∀ j (hj : j < es.length), c0[o + j]? = some (encU es[j]) := fun j hj => by
    obtain ⟨u, g1, g2, _⟩ := hcs j (ev es[j]) (by simp [hj])
    rw [g1, hto _ _ _ _ g2]
  have hHold : Holds encU w b o es.toArray := by
    intro j hj
    have hj' : j < es.length := by simpa using hj
    refine ⟨?_, ?_⟩
    · simp only [World.cell?, hb, Option.isSome_none, Bool.false_eq_true, if_false]
      rw [hcell j hj']
      simp [hj']
    · simp only [World.frozen?, hb]
      have := hfr rfl (o + j) (by omega)
      simp only [Bool.and_eq_false_iff, decide_eq_false_iff_not]
      omega
  refine (hS.some_ b o cap' es w hHold hblk hn).mono ?_
  rintro e w' ⟨rfl, n, os, rfl⟩
  have hl := hS.len es
  generalize srt es = es' at *
  let w1 : World := putRow encU (Go.Sort.ahead w n) b o es'.toArray
  have hw1 : ∀ k2 : Nat, w1.heap[k2]? = (w.heap.modify b (onCells (putCells encU o es'.toArray)))[k2]? := fun _ => rfl
  have hS1 : Shp w w1 := by
    have := shp_put1 (encU := encU) (w := w) (b := b) (o := o) (F := es'.toArray) n #[]
    simpa using this
  have hf1 : ∀ k2 : Nat, k2 ≠ b → w1.heap[k2]? = w.heap[k2]? := fun k2 h => by rw [hw1, Array.getElem?_modify, if_neg (Ne.symm h)]
  have hb1 : w1.heap[b]? = some (.cells (putCells encU o es'.toArray c0) et fr) := by rw [hw1, Array.getElem?_modify, if_pos rfl, hb]; rfl
  have hnew : ObjR ι w1 b o (.cells true (es'.map ev)) := by
    refine ⟨_, et, fr, hb1, fun i v hi => ?_, fun _ i hi => hfr rfl i (by simpa [putCells] using hi), by simp only [putCells, Array.size_mapIdx, List.length_map]; omega⟩
    rw [List.getElem?_map, Option.map_eq_some_iff] at hi
    obtain ⟨x, hx, rfl⟩ := hi
    have hlt := (List.getElem?_eq_some_iff.1 hx).1
    refine ⟨encU x, ?_, hof _ _ x, hone x⟩
    simp only [putCells, Array.getElem?_mapIdx]
    rw [Array.getElem?_eq_getElem (by omega : o + i < c0.size), Option.map_some, if_pos ⟨by omega, by simp; omega⟩, show o + i - o = i by omega]
    rw [getElem!_pos _ _ (by simpa using hlt)]
    have := (List.getElem?_eq_some_iff.1 hx).2
    simp [this]
  have hR1 := hR.write (hH he) rfl hι hS1 hf1 hnew
  have hX1 : Ext ι H w ι (H.set s (.cells true (es'.map ev))) w1 := Ext.write (hH he) rfl hι hS1 hf1 rfl ⟨rfl, Nat.le_add_right _ _⟩ rfl (by simp [w1, putRow, mapBlock, Go.Sort.ahead]) rfl
  have hold : ∀ k2 : Nat, k2 < w1.heap.size → (Go.Sort.grow w1 os).heap[k2]? = w1.heap[k2]? := fun k2 h => heap_grow_old w1 os h
  have hS2 : Shp w1 (Go.Sort.grow w1 os) := fun b2 c2 e2 f2 h => ⟨c2, f2, by rw [hold b2 (Array.getElem?_eq_some_iff.1 h).1]; exact h, keepF rfl⟩
  have hR2 : Rel ι (H.set s (.cells true (es'.map ev))) (Go.Sort.grow w1 os) :=
    ⟨fun i x hx => by
      obtain ⟨b2, o2, g1, g2⟩ := hR1.obj i x hx
      exact ⟨b2, o2, g1, g2.keep (fun _ _ h => h) hS2 (hold b2 g2.lt)⟩, hR1.inj, hR1.fin, hR1.zero, hR1.glob⟩
  have hX2 : Ext ι (H.set s (.cells true (es'.map ev))) w1 ι (H.set s (.cells true (es'.map ev))) (Go.Sort.grow w1 os) :=
    { Ext.refl ι (H.set s (.cells true (es'.map ev))) w1 with
      os := rfl, tape := ⟨rfl, Nat.le_refl _⟩, output := rfl, size := by simp, shp := hS2, frame := fun k2 h _ => hold k2 h }
  exact ⟨ι, _, .tup [], _, rfl, .tup _ _ .nil, hR2, hX1.trans hX2, hQ he⟩

theorem sort1L {α : Type} [Inhabited α] {P : Program} {f : FuncId} {encU : α → Value} {srt : List α → List α} (hS : Sort1 P f encU srt) {ev : α → V}
    (hto : ∀ ι w x u, VR ι w (ev x) u → u = encU x) (hof : ∀ ι w x, VR ι w (ev x) (encU x)) (hone : ∀ x, one (encU x) = true) {s : Nat} (l : List α) (hn : l.length < 4611686018427387904) :
    CallsL P f [.slice s 0 l.length 1] [(s, .cells true (l.flatMap fun x => [ev x]))] fun v L' => v = .tup [] ∧ L' = [(s, .cells true ((srt l).flatMap fun x => [ev x]))] := by
  have fm : ∀ l : List α, (l.flatMap fun x => [ev x]) = l.map ev := fun l => by induction l <;> simp_all
  intro H hh
  have h0 : l ≠ [] → s ≠ 0 := by
    rintro h rfl
    obtain ⟨b, e⟩ := hh.zero _ (List.mem_cons_self ..) rfl
    rw [fm] at e
    cases l with
    | nil => exact h rfl
    | cons x l => simp at e
  refine sort1C hS hto hof hone hn (fun h => by rw [← fm]; exact hh.look _ (List.mem_cons_self ..) (h0 h)) (fun h => ⟨_, ⟨rfl, rfl⟩, ?_⟩) (fun h => ⟨_, ⟨rfl, rfl⟩, ?_⟩)
  · rw [← fm]
    exact hh.set (h0 h) .here1
  · subst h
    have : srt [] = [] := List.eq_nil_of_length_eq_zero (hS.len [])
    rw [this]; exact hh

/- whole numbers, texts -/
theorem sortInts {P : Program} {f : FuncId} (hS : Sort1 P f (Value.int .i64) fun l => l.mergeSort fun x y => decide (x ≤ y)) {s : Nat} (l : List Int) (hn : l.length < 4611686018427387904) :
    CallsL P f [.slice s 0 l.length 1] [(s, .cells true (l.flatMap fun x => [.int .i64 x]))] fun v L' => v = .tup [] ∧ L' = [(s, .cells true ((l.mergeSort fun x y => decide (x ≤ y)).flatMap fun x => [.int .i64 x]))] :=
  sort1L hS (ev := fun x => .int .i64 x) (fun _ _ _ _ h => by cases h; rfl) (fun _ _ _ => .int _ _) (fun _ => rfl) l hn
theorem sortTexts {P : Program} {f : FuncId} (hS : Sort1 P f encStr fun l => l.mergeSort fun x y => decide (x ≤ y)) {s : Nat} (l : List (List UInt8)) (hn : l.length < 4611686018427387904) :
    CallsL P f [.slice s 0 l.length 1] [(s, .cells true (l.flatMap fun x => [.str x]))] fun v L' => v = .tup [] ∧ L' = [(s, .cells true ((l.mergeSort fun x y => decide (x ≤ y)).flatMap fun x => [.str x]))] :=
  sort1L hS (ev := fun x => .str x) (fun _ _ _ _ h => by cases h; rfl) (fun _ _ x => .str ⟨x.toArray⟩) (fun _ => rfl) l hn
end Go.CM
