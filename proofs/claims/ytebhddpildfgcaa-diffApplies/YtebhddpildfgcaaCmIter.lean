/-
  A program logic over the model's calls, part 30: rounds of a loop over a function.
-/
import Derived.Test.YtebhddpildfgcaaCmFun
import Derived.RangeFuncIn
import Derived.RangeFuncRecord
import Derived.RangeFuncLeaves
namespace Go.CM

section
variable {P : Program}

/-- A block turns at which no object lies. -/
theorem Rel.aside {ι : Pl} {H : Heap} {w w' : World} (h : Rel ι H w) {b : Nat} (hb : ∀ id o off, H id = some o → ι id = some (b, off) → False) (hs : Shp w w') (hf : ∀ k, k ≠ b → w'.heap[k]? = w.heap[k]?) : Rel ι H w' :=
  ⟨fun i x hx => by
    obtain ⟨b2, o2, g1, g2⟩ := h.obj i x hx
    exact ⟨b2, o2, g1, g2.keep (fun _ _ h => h) hs (hf b2 (by rintro rfl; exact hb i x o2 hx g1))⟩, h.inj, h.fin, h.zero⟩
theorem shp_loop {w : World} {b : Nat} {r : Loop} {o' : Obj} (h : w.heap[b]? = some (.loop r)) : Shp w (w.putObj b o') := by
  intro b2 c e f g
  by_cases hb : b2 = b
  · subst hb; rw [h] at g; cases g
  · exact ⟨c, f, (World.putObj_heap_other hb).trans g, rfl⟩
/-- Where no object lay, none lies. -/
theorem Ext.not_at {ι ι1 : Pl} {H H1 : Heap} {w w1 : World} (hX : Ext ι H w ι1 H1 w1) (hR : Rel ι H w) {b : Nat} (hb : b < w.heap.size) (hn : ∀ id o off, H id = some o → ι id = some (b, off) → False) :
    ∀ id o off, H1 id = some o → ι1 id = some (b, off) → False := by
  intro id o off h1 h2
  cases hr : o.rw with
  | true =>
    rcases hX.owns b ⟨id, o, off, h1, hr, h2⟩ with ⟨i, x, off', g1, _, g3⟩ | g
    · exact hn i x off' g1 g3
    · omega
  | false =>
    have h3 := hX.ro id o h1 hr
    obtain ⟨b2, o2, g1, _⟩ := hR.obj _ _ h3
    have g2 := hX.pl _ _ g1
    rw [h2] at g2; cases g2
    exact hn id o _ h3 g1
theorem Ext.block {ι ι1 : Pl} {H H1 : Heap} {w w1 : World} (hX : Ext ι H w ι1 H1 w1) {b : Nat} (hb : b < w.heap.size) (hn : ∀ id o off, H id = some o → ι id = some (b, off) → False) : w1.heap[b]? = w.heap[b]? :=
  hX.frame b hb fun ⟨i, x, off, g1, _, g3⟩ => hn i x off g1 g3

/-- ONE ROUND, out of the walk of the loop's body. -/
theorem round_yield (hm : P.follows .mixedOrders = true) {n l : Nat} {H : Heap} {vs : List V} {D fn : Nat} {asg bdy : Code} {ca cb : C} {p : Nat} (hl : H l = some (.round vs D fn #[p] asg bdy)) (hca : comp P n asg = some ca) (hcb : comp P n bdy = some cb) (hn : vs.length = n)
    (hp : p < n) {v : V} {Q : V → Heap → Prop}
    (hk : ca.wp P (fun x env1 H1 => x = .normal ∧ cb.wp P (fun x _ H2 => x = .normal ∧ (H2 l = none → Q (.bool true) (H2.set l (.round vs D fn #[p] asg bdy)))) env1 H1) ((env0 vs).put (some p) v) (H.del l)) : YieldC P l [v] H Q := by
  intro ι w us b o hR hv hι
  cases hv with
  | cons _ u _ us' hvu hv' =>
  cases hv'
  obtain ⟨b', off, hι', us0, hvs, hb⟩ := hR.obj _ _ hl
  rw [hι] at hι'; cases hι'
  have hblt := (Array.getElem?_eq_some_iff.1 hb).1
  have hdel : ∀ i x, (H.del l) i = some x → i ≠ l ∧ H i = some x := fun i x h => by
    by_cases hi : i = l
    · subst hi; rw [Heap.del_same] at h; cases h
    · rw [Heap.del_ne _ hi] at h; exact ⟨hi, h⟩
  have hns : ∀ id o off, (H.del l) id = some o → ι id = some (b, off) → False := fun id x off' h1 h2 => by
    obtain ⟨h3, h4⟩ := hdel _ _ h1
    exact h3 (hR.inj l id _ _ b _ _ hl h4 rfl hι h2).symm
  have hul : us0.length = n := by rw [← hvs.length]; exact hn
  have hE0 : EnvR n ι w (env0 vs) { tmps := ⟨us0⟩, defers := [] } := by
    refine ⟨by simpa using hul, rfl, fun t ht => ?_⟩
    obtain ⟨x, g1, g2⟩ := hvs.get (i := t) (v := vs[t]'(by omega)) (by simp [hn, ht])
    have e1 : (⟨us0⟩ : Array Value).getD t Go.undef = x := by
      rw [Array.getD_eq_getD_getElem?, ← Array.getElem?_toList, g1]; rfl
    rw [e1]
    simpa [env0, hn, ht] using g2
  have hE := hE0.put (d := some p) (by simpa [dstOk, Nat.blt, Nat.lt_iff_add_one_le] using hp) hvu
  have hR0 : Rel ι (H.del l) w := hR.weaken fun i x h => (hdel i x h).2
  refine ⟨fn, _, asg, bdy, run_yield (P := P) (args := ⟨[u]⟩) hb rfl, roundIn_of_wpIn trivial ?_⟩
  have htm : ({ tmps := ((#[p] : Array Tmp).zip (⟨[u]⟩ : Array Value)).foldl (fun tmps (t, a) => tmps.setIfInBounds t a) (⟨us0⟩ : Array Value), defers := [] } : Act) = ({ tmps := ⟨us0⟩, defers := [] } : Act).put (some p) u := by
    simp [Act.put]
  rw [htm]
  refine wpIn_mono (C.sound hm (some b) asg ca hca _ _ _ hk ι w _ hE hR0) ?_
  rintro e a1 w1 ⟨x, ι1, env1, H1, g1, g2, g3, g4, rfl, g5⟩
  cases e <;> simp only [exitR] at g1
  have hb1 := (g4.block hblt hns).trans hb
  have hn1 := Ext.not_at g4 hR0 hblt hns
  refine ⟨_, run_beginRound hb1 rfl, ?_⟩
  have hs2 := shp_loop (o' := .loop { ({ state := .ready, pending := none, fn, tmps := ⟨us0⟩, params := #[p], assign := asg, body := bdy, defers := D } : Loop) with state := .busy }) hb1
  have hblt1 := (Array.getElem?_eq_some_iff.1 hb1).1
  have hb2 := World.putObj_heap_same (w := w1) (o := .loop { ({ state := .ready, pending := none, fn, tmps := ⟨us0⟩, params := #[p], assign := asg, body := bdy, defers := D } : Loop) with state := .busy }) hblt1
  have hf2 : ∀ k, k ≠ b → (w1.putObj b (.loop { ({ state := .ready, pending := none, fn, tmps := ⟨us0⟩, params := #[p], assign := asg, body := bdy, defers := D } : Loop) with state := .busy })).heap[k]? = w1.heap[k]? := fun k hk => World.putObj_heap_other hk
  have hR2 := g3.aside hn1 hs2 hf2
  have hE2 := g2.mono (fun _ _ h => h) hs2
  have hos2 : (w1.putObj b (.loop { ({ state := .ready, pending := none, fn, tmps := ⟨us0⟩, params := #[p], assign := asg, body := bdy, defers := D } : Loop) with state := .busy })).os = w1.os := rfl
  have hout2 : (w1.putObj b (.loop { ({ state := .ready, pending := none, fn, tmps := ⟨us0⟩, params := #[p], assign := asg, body := bdy, defers := D } : Loop) with state := .busy })).output = w1.output := rfl
  have ht2 : Tape w1 (w1.putObj b (.loop { ({ state := .ready, pending := none, fn, tmps := ⟨us0⟩, params := #[p], assign := asg, body := bdy, defers := D } : Loop) with state := .busy })) := ⟨rfl, Nat.le_refl _⟩
  have hsz2 : (w1.putObj b (.loop { ({ state := .ready, pending := none, fn, tmps := ⟨us0⟩, params := #[p], assign := asg, body := bdy, defers := D } : Loop) with state := .busy })).heap.size = w1.heap.size := by simp [World.putObj]
  generalize (w1.putObj b (.loop { ({ state := .ready, pending := none, fn, tmps := ⟨us0⟩, params := #[p], assign := asg, body := bdy, defers := D } : Loop) with state := .busy })) = w2 at *
  refine wpIn_mono (C.sound hm (some b) bdy cb hcb _ _ _ g5 ι1 w2 a1 hE2 hR2) ?_
  rintro e a2 w3 ⟨x, ι2, env2, H2, k1, k2, k3, k4, rfl, k5⟩
  cases e <;> simp only [exitR] at k1
  have hlt2 := (Array.getElem?_eq_some_iff.1 hb2).1
  have hb3 := (k4.block hlt2 hn1).trans hb2
  have hn3 := Ext.not_at k4 hR2 hlt2 hn1
  have hlt3 := (Array.getElem?_eq_some_iff.1 hb3).1
  refine ⟨_, _, run_endRound none hb3, ι2, H2.set l (.round vs D fn #[p] asg bdy), .bool true, _, rfl, .bool true, ?_⟩
  have hs4 := shp_loop (o' := .loop { state := .ready, pending := none, fn, tmps := ⟨us0⟩, params := #[p], assign := asg, body := bdy, defers := D }) hb3
  have hb4 := World.putObj_heap_same (w := w3) (o := .loop { state := .ready, pending := none, fn, tmps := ⟨us0⟩, params := #[p], assign := asg, body := bdy, defers := D }) hlt3
  have hf4 : ∀ k, k ≠ b → (w3.putObj b (.loop { state := .ready, pending := none, fn, tmps := ⟨us0⟩, params := #[p], assign := asg, body := bdy, defers := D })).heap[k]? = w3.heap[k]? := fun k hk => World.putObj_heap_other hk
  have hsz4 : (w3.putObj b (.loop { state := .ready, pending := none, fn, tmps := ⟨us0⟩, params := #[p], assign := asg, body := bdy, defers := D })).heap.size = w3.heap.size := by simp [World.putObj]
  show Rel ι2 _ (w3.putObj b (.loop { state := .ready, pending := none, fn, tmps := ⟨us0⟩, params := #[p], assign := asg, body := bdy, defers := D })) ∧ Ext ι H w ι2 _ (w3.putObj b (.loop { state := .ready, pending := none, fn, tmps := ⟨us0⟩, params := #[p], assign := asg, body := bdy, defers := D })) ∧ _
  have hos4 : (w3.putObj b (.loop { state := .ready, pending := none, fn, tmps := ⟨us0⟩, params := #[p], assign := asg, body := bdy, defers := D })).os = w3.os := rfl
  have hout4 : (w3.putObj b (.loop { state := .ready, pending := none, fn, tmps := ⟨us0⟩, params := #[p], assign := asg, body := bdy, defers := D })).output = w3.output := rfl
  have ht4 : Tape w3 (w3.putObj b (.loop { state := .ready, pending := none, fn, tmps := ⟨us0⟩, params := #[p], assign := asg, body := bdy, defers := D })) := ⟨rfl, Nat.le_refl _⟩
  generalize (w3.putObj b (.loop { state := .ready, pending := none, fn, tmps := ⟨us0⟩, params := #[p], assign := asg, body := bdy, defers := D })) = w4 at *
  have hιl : ι2 l = some (b, o) := k4.pl _ _ (g4.pl _ _ hι)
  have hset : ∀ i x, (H2.set l (.round vs D fn #[p] asg bdy)) i = some x → (i = l ∧ x = .round vs D fn #[p] asg bdy) ∨ (i ≠ l ∧ H2 i = some x) := fun i x h => by
    by_cases hi : i = l
    · subst hi; rw [Heap.set_same] at h; cases h; exact .inl ⟨rfl, rfl⟩
    · rw [Heap.set_ne _ _ hi] at h; exact .inr ⟨hi, h⟩
  have hnone : H2 l = none := by
    cases hx : H2 l with
    | none => rfl
    | some x =>
      have hι1 := g4.pl _ _ hι
      cases hy : H1 l with
      | none => have := k4.ids l x hx hy; rw [hι1] at this; cases this
      | some y => have := g4.ids l y hy (Heap.del_same _ _); rw [hι] at this; cases this
  have hshp : Shp w w4 := ((g4.shp.trans hs2).trans k4.shp).trans hs4
  refine ⟨⟨fun i x hx => ?_, fun i i' x x' b1 o1 o2 h1 h2 hr h3 h4 => ?_, k3.fin, k3.zero⟩, ⟨fun i x hx => k4.pl _ _ (g4.pl _ _ hx), hos4.trans (k4.os.trans (hos2.trans g4.os)), ((g4.tape.trans ht2).trans k4.tape).trans ht4, hout4.trans (k4.output.trans (hout2.trans g4.output)), ?_, hshp, ?_, ?_, ?_, ?_⟩, k5 hnone⟩
  · rcases hset i x hx with ⟨rfl, rfl⟩ | ⟨hi, h⟩
    · exact ⟨b, o, hιl, us0, hvs.mono (fun i x hx => k4.pl _ _ (g4.pl _ _ hx)) hshp, hb4⟩
    · obtain ⟨b2, o2, q1, q2⟩ := k3.obj i x h
      exact ⟨b2, o2, q1, q2.keep (fun _ _ h => h) hs4 (hf4 b2 (by rintro rfl; exact hn3 i x o2 h q1))⟩
  · rcases hset i x h1 with ⟨e1, rfl⟩ | ⟨hi, q1⟩ <;> rcases hset i' x' h2 with ⟨e2, rfl⟩ | ⟨hi', q2⟩
    · rw [e1, e2]
    · rw [e1, hιl] at h3; cases h3
      exact (hn3 i' x' _ q2 h4).elim
    · rw [e2, hιl] at h4; cases h4
      exact (hn3 i x _ q1 h3).elim
    · exact k3.inj i i' x x' b1 o1 o2 q1 q2 hr h3 h4
  · have := g4.size; have := k4.size; omega
  · intro k hk hno
    have hkb : k ≠ b := by rintro rfl; exact hno ⟨l, _, o, hl, rfl, hι⟩
    have h1 : ¬ Owns ι (H.del l) k := fun ⟨i, x, off', q1, q2, q3⟩ => hno ⟨i, x, off', (hdel i x q1).2, q2, q3⟩
    have h2 : ¬ Owns ι1 H1 k := fun h => (g4.owns k h).elim h1 (by omega)
    rw [hf4 k hkb, k4.frame k (by have := g4.size; omega) h2, hf2 k hkb, g4.frame k hk h1]
  · rintro k ⟨i, x, off', q1, q2, q3⟩
    rcases hset i x q1 with ⟨rfl, rfl⟩ | ⟨hi, q1⟩
    · rw [hιl] at q3; cases q3
      exact .inl ⟨i, _, o, hl, rfl, hι⟩
    · rcases k4.owns k ⟨i, x, off', q1, q2, q3⟩ with h | h
      · rcases g4.owns k h with ⟨j, y, off2, r1, r2, r3⟩ | h
        · exact .inl ⟨j, y, off2, (hdel j y r1).2, r2, r3⟩
        · exact .inr h
      · exact .inr (by have := g4.size; omega)
  · intro i x h1 h2
    rcases hset i x h1 with ⟨rfl, rfl⟩ | ⟨hi, h1⟩
    · rw [hl] at h2; cases h2
    · have h3 : (H.del l) i = none := by rw [Heap.del_ne _ hi]; exact h2
      cases h4 : H1 i with
      | none =>
        have := k4.ids i x h1 h4
        cases h5 : ι i with
        | none => rfl
        | some y => rw [g4.pl _ _ h5] at this; cases this
      | some y => exact g4.ids i y h4 h3
  · intro i x h1 hr
    rcases hset i x h1 with ⟨rfl, rfl⟩ | ⟨hi, h1⟩
    · cases hr
    · exact (hdel i x (g4.ro i x (k4.ro i x h1 hr) hr)).2
theorem ObjR.not_deferred {ι : Pl} {w : World} {b off : Nat} {o : HObj} {x : Option (List Deferred)} (h : ObjR ι w b off o) (hb : w.heap[b]? = some (.deferred x)) : False := by
  cases o with
  | cells rw cs => obtain ⟨c, e, f, h1, _⟩ := h; rw [hb] at h1; cases h1
  | map es => obtain ⟨ms, clock, h1, _⟩ := h; rw [hb] at h1; cases h1
  | siter s pos => obtain ⟨bs, h1, _⟩ := h; rw [hb] at h1; cases h1
  | mapE es i n => obtain ⟨ms, clock, h1, _⟩ := h; rw [hb] at h1; cases h1
  | mapS es bs clk => obtain ⟨ms, h1, _⟩ := h; rw [hb] at h1; cases h1
  | miter mid since seen stepped => obtain ⟨_, mb, mo, _, h2⟩ := h; rw [hb] at h2; cases h2
  | round vs D fn ps as bd => obtain ⟨us, _, h2⟩ := h; rw [hb] at h2; cases h2
theorem shp_deferred {w : World} {b : Nat} {r : Option (List Deferred)} {o' : Obj} (h : w.heap[b]? = some (.deferred r)) : Shp w (w.putObj b o') := by
  intro b2 c e f g
  by_cases hb : b2 = b
  · subst hb; rw [h] at g; cases g
  · exact ⟨c, f, (World.putObj_heap_other hb).trans g, rfl⟩
theorem EnvR.start {n : Nat} {ι : Pl} {w : World} {args : List V} {us : List Value} (hv : VRs ι w args us) (hlen : args.length ≤ n) : EnvR n ι w (env0 args) { tmps := ⟨us⟩ ++ Array.replicate (n - (⟨us⟩ : Array Value).size) Go.undef, defers := [] } := by
  have hl := hv.length
  refine ⟨by simp; omega, rfl, fun t ht => ?_⟩
  simp only [env0]
  by_cases hta : t < args.length
  · obtain ⟨u, g1, g2⟩ := hv.get (i := t) (v := args[t]) (by simp [hta])
    have : ((⟨us⟩ : Array Value) ++ Array.replicate (n - (⟨us⟩ : Array Value).size) Go.undef).getD t Go.undef = u := by
      rw [Array.getD_eq_getD_getElem?, Array.getElem?_append_left (by simp; omega)]
      rw [← Array.getElem?_toList, g1]; rfl
    rw [this]
    simpa [hta] using g2
  · have : ((⟨us⟩ : Array Value) ++ Array.replicate (n - (⟨us⟩ : Array Value).size) Go.undef).getD t Go.undef = Go.undef := by
      rw [Array.getD_eq_getD_getElem?, Array.getElem?_append_right (by simp; omega), Array.getElem?_replicate]
      split <;> rfl
    rw [this, List.getElem?_eq_none (by omega)]
    exact VR.undef _ _

set_option maxHeartbeats 2000000 in
/-- A FUNCTION THAT LOOPS OVER A FUNCTION ONCE, and hands back a variable that lies in the heap. -/
theorem loopF_sound (hm : P.follows .mixedOrders = true) {f : FuncId} {fn : Func} (hf : P.funcs[f]? = some fn) (hname : (fn.name == "runtime.NumGoroutine") = false) {r0 r1 asg bdy : Code} {o1 o2 : Oper} {i4 bid g p : Nat}
    (hb : fn.body = some (.seq r0 (.seq (.seq r1 (.block bid (.rangeFunc (.tmp g) #[p] asg bdy))) (.seq (.region i4 #[o1, o2] false) .ret))))
    (hg : g < fn.ntmps) {c0 c1 : C} (hc0 : comp P fn.ntmps r0 = some c0) (hc1 : comp P fn.ntmps r1 = some c1)
    {t2 t12 t4 : Nat} (h1 : compOp P fn.ntmps o1.op o1.type = some (.rd (.load1 (.t t2)))) (h2 : compOp P fn.ntmps o2.op o2.type = some (.rd (.mov (.t t12)))) (d1 : o1.dst = some t12) (d2 : o2.dst = some t4) (q1 : o1.guard = none) (q2 : o2.guard = none)
    (l12 : t12 < fn.ntmps) (l4 : t4 < fn.ntmps) (hres : fn.results = #[.tmp t4]) {args : List V} (hlen : args.length ≤ fn.ntmps) {H : Heap} {Q : V → Heap → Prop}
    (hk : c0.wp P (fun x env1 H1 => x = .normal ∧ c1.wp P (fun x env2 H2 => x = .normal ∧ ∃ gf caps, env2 g = .func gf caps ∧ ∀ (l D fnid : Nat), l ≠ 0 → H2 l = none →
      CallsC P gf (.yield l :: caps) (H2.set l (.round ((List.range fn.ntmps).map env2) D fnid #[p] asg bdy)) fun _ H3 => H3 l = some (.round ((List.range fn.ntmps).map env2) D fnid #[p] asg bdy) ∧ ∃ v, (R.load1 (.t t2)).ev env2 (H3.del l) = some v ∧ Q v (H3.del l)) env1 H1) (env0 args) H) :
    CallsC P f args H Q := by
  refine ⟨⟨fn, hf, hname, by rw [hb]; rfl⟩, fun ι w us hR hv => ?_⟩
  have hE := EnvR.start hv hlen
  refine (callsIn_wide (n := 0)).1 (callsIn_of_wp_marks hf hb trivial ?_)
  refine wpIn_seq (wpIn_mono (C.sound hm none r0 c0 hc0 _ _ _ hk ι w _ hE hR) ?_)
  rintro e a1 w1 ⟨x, ι1, env1, H1, g1, g2, g3, g4, rfl, hk1⟩
  cases e <;> simp only [exitR] at g1
  refine wpIn_seq (wpIn_seq (wpIn_mono (C.sound hm none r1 c1 hc1 _ _ _ hk1 ι1 w1 a1 g2 g3) ?_))
  rintro e a2 w2 ⟨x, ι2, env2, H2, j1, j2, j3, j4, rfl, gf, caps, hgf, hk2⟩
  cases e <;> simp only [exitR] at j1
  refine wpIn_block (wpIn_rangeFunc fun fnid _ => ?_)
  have hvg := j2.vals g hg
  rw [hgf] at hvg
  generalize hug : a2.tmps.getD g Go.undef = ug at hvg
  cases hvg with
  | func _ _ cs hcs =>
  have hD0 := j2.defers
  obtain ⟨l, hl0, hl1, hl2⟩ := j3.fresh
  have hp1 := Push.mk' w2 (.deferred (some []))
  generalize hWa : ({ w2 with heap := w2.heap.push (.deferred (some [])) } : World) = Wa at hp1
  have hRa : Rel ι2 H2 Wa := ⟨fun i x hx => by
    obtain ⟨b2, o2, e1, e2⟩ := j3.obj i x hx
    exact ⟨b2, o2, e1, e2.keep (fun _ _ h => h) hp1.shp (hp1.old b2 e2.lt)⟩, j3.inj, j3.fin, j3.zero⟩
  have hbs : Wa.heap.size = w2.heap.size + 1 := hp1.size
  have hDa : Wa.heap[w2.heap.size]? = some (.deferred (some [])) := hp1.new
  have hp2 := Push.mk' Wa (.loop { state := .ready, pending := none, fn := fnid, tmps := a2.tmps, params := #[p], assign := asg, body := bdy, defers := w2.heap.size })
  generalize hWb : ({ Wa with heap := Wa.heap.push (.loop { state := .ready, pending := none, fn := fnid, tmps := a2.tmps, params := #[p], assign := asg, body := bdy, defers := w2.heap.size }) } : World) = Wb at hp2
  have hlb : (ι2.add l (Wa.heap.size, 0)) l = some (Wa.heap.size, 0) := Pl.add_same _ _ _
  have hle : Pl.le ι2 (ι2.add l (Wa.heap.size, 0)) := Pl.le_add _ hl2
  have hvs : VRs (ι2.add l (Wa.heap.size, 0)) Wb ((List.range fn.ntmps).map env2) a2.tmps.toList := by
    refine VRs.of_get (by simp [j2.size]) fun t v ht => ?_
    rw [List.getElem?_map] at ht
    obtain ⟨t', ht', rfl⟩ := Option.map_eq_some_iff.1 ht
    obtain ⟨hlt, ht2⟩ := List.getElem?_eq_some_iff.1 ht'
    rw [List.getElem_range] at ht2
    subst ht2
    have hlt : t < fn.ntmps := by simpa using hlt
    have hv := (j2.vals t hlt).mono hle (hp1.shp.trans hp2.shp)
    refine ⟨_, ?_, hv⟩
    rw [Array.getElem?_toList, Array.getD_eq_getD_getElem?, Array.getElem?_eq_getElem (by rw [j2.size]; exact hlt)]
    rfl
  have hRb : Rel (ι2.add l (Wa.heap.size, 0)) (H2.set l (.round ((List.range fn.ntmps).map env2) w2.heap.size fnid #[p] asg bdy)) Wb :=
    hRa.new hl0 hl1 hl2 hp2.shp hp2.old ⟨a2.tmps.toList, hvs, hp2.new⟩
  have hcall := hk2 l w2.heap.size fnid hl0 hl1
  have hent := hcall.1
  have hcall := hcall.2 (ι2.add l (Wa.heap.size, 0)) Wb (.func (.yield Wa.heap.size) #[] #[] :: cs) hRb (.cons _ _ _ _ (.yield l _ _ hlb) (hcs.mono hle (hp1.shp.trans hp2.shp)))
  have hev : a2.eval (.tmp g) = .func (.func gf) #[] ⟨cs⟩ := hug
  refine ⟨Wa.heap.size, [{ target := .collected w2.heap.size, args := #[] }], Wb, { target := .fn (.func gf) ⟨cs⟩, args := #[.func (.yield Wa.heap.size) #[] #[]] }, Wb, gf, #[.func (.yield Wa.heap.size) #[] #[]] ++ ⟨cs⟩, Wb, ?_, ?_, fun _ _ => trivial, ?_, fun h => (by cases h), ?_⟩
  · have := run_enterLoop_outer (P := P) (w := w2) fnid a2.tmps #[p] asg bdy
    show (Instr.enterLoop fnid a2.tmps #[p] asg bdy none).run P w2 = _
    rw [this, hbs, ← hWb, ← hWa]
    rfl
  · simp only [resolve, hev]
    simp [go_sem]
  · simp [invoke, go_sem, enters_run hent]
  have hargs : (#[.func (.yield Wa.heap.size) #[] #[]] ++ ⟨cs⟩ : Array Value) = ⟨.func (.yield Wa.heap.size) #[] #[] :: cs⟩ := by apply Array.ext'; simp
  rw [hargs]
  refine callsIn_wide.2 (hcall.mono ?_)
  rintro e W2 ⟨ι3, H3, v3, u3, rfl, _, m2, m3, hl3, v, hload, hq⟩
  obtain ⟨b', off, hι', us0, hvs0, hb3⟩ := m2.obj _ _ hl3
  have hl33 := m3.pl _ _ hlb
  rw [hl33] at hι'; cases hι'
  have hnD : ∀ id o off, (H2.set l (.round ((List.range fn.ntmps).map env2) w2.heap.size fnid #[p] asg bdy)) id = some o → (ι2.add l (Wa.heap.size, 0)) id = some (w2.heap.size, off) → False := fun id o off e1 e2 => by
    obtain ⟨b4, o4, e3, e4⟩ := hRb.obj id o e1
    rw [e2] at e3; cases e3
    exact e4.not_deferred ((hp2.old _ (by omega)).trans hDa)
  have hDb : Wb.heap[w2.heap.size]? = some (.deferred (some [])) := (hp2.old _ (by omega)).trans hDa
  have hDlt : w2.heap.size < Wb.heap.size := by rw [hp2.size]; omega
  have hD2 : W2.heap[w2.heap.size]? = some (.deferred (some [])) := (m3.block hDlt hnD).trans hDb
  have hblt := (Array.getElem?_eq_some_iff.1 hb3).1
  refine ⟨none, _, run_endLoop hb3 (by simp), ?_⟩
  have hs3 := shp_loop (o' := .loop { state := .exhausted, pending := none, fn := fnid, tmps := ⟨us0⟩, params := #[p], assign := asg, body := bdy, defers := w2.heap.size }) hb3
  have hf3 : ∀ k, k ≠ Wa.heap.size → (W2.putObj Wa.heap.size (.loop { state := .exhausted, pending := none, fn := fnid, tmps := ⟨us0⟩, params := #[p], assign := asg, body := bdy, defers := w2.heap.size })).heap[k]? = W2.heap[k]? := fun k hk => World.putObj_heap_other hk
  have hsz3 : (W2.putObj Wa.heap.size (.loop { state := .exhausted, pending := none, fn := fnid, tmps := ⟨us0⟩, params := #[p], assign := asg, body := bdy, defers := w2.heap.size })).heap.size = W2.heap.size := by simp [World.putObj]
  have hos3 : (W2.putObj Wa.heap.size (.loop { state := .exhausted, pending := none, fn := fnid, tmps := ⟨us0⟩, params := #[p], assign := asg, body := bdy, defers := w2.heap.size })).os = W2.os := rfl
  have hout3 : (W2.putObj Wa.heap.size (.loop { state := .exhausted, pending := none, fn := fnid, tmps := ⟨us0⟩, params := #[p], assign := asg, body := bdy, defers := w2.heap.size })).output = W2.output := rfl
  have ht3 : Tape W2 (W2.putObj Wa.heap.size (.loop { state := .exhausted, pending := none, fn := fnid, tmps := ⟨us0⟩, params := #[p], assign := asg, body := bdy, defers := w2.heap.size })) := ⟨rfl, Nat.le_refl _⟩
  show (Code.seq (.region i4 #[o1, o2] false) .ret).wpIn Fence.wide 0 P _ _ (W2.putObj Wa.heap.size (.loop { state := .exhausted, pending := none, fn := fnid, tmps := ⟨us0⟩, params := #[p], assign := asg, body := bdy, defers := w2.heap.size }))
  generalize (W2.putObj Wa.heap.size (.loop { state := .exhausted, pending := none, fn := fnid, tmps := ⟨us0⟩, params := #[p], assign := asg, body := bdy, defers := w2.heap.size })) = W3 at *
  have hdel : ∀ i x, (H3.del l) i = some x → i ≠ l ∧ H3 i = some x := fun i x h => by
    by_cases hi : i = l
    · subst hi; rw [Heap.del_same] at h; cases h
    · rw [Heap.del_ne _ hi] at h; exact ⟨hi, h⟩
  have hn4 : ∀ id o off, (H3.del l) id = some o → ι3 id = some (Wa.heap.size, off) → False := fun id x off' e1 e2 => by
    obtain ⟨e3, e4⟩ := hdel _ _ e1
    exact e3 (m2.inj l id _ _ _ _ _ hl3 e4 rfl hl33 e2).symm
  have hR4 : Rel ι3 (H3.del l) W3 := (m2.weaken fun i x h => (hdel i x h).2).aside hn4 hs3 hf3
  have hD3 : W3.heap[w2.heap.size]? = some (.deferred (some [])) := (hf3 _ (by omega)).trans hD2
  have hE3 : EnvR fn.ntmps ι3 W3 env2 a2 := j2.mono (fun i x h => m3.pl _ _ (hle _ _ h)) (((hp1.shp.trans hp2.shp).trans m3.shp).trans hs3)
  obtain ⟨u1, e1, v1⟩ := R.sound hE3 hR4 h1 hload
  have hE4 := hE3.put (d := some t12) (by simpa [dstOk, Nat.blt, Nat.lt_iff_add_one_le] using l12) v1
  have hmov : (R.mov (.t t12)).ev (env2.put (some t12) v) (H3.del l) = some v := by simp [R.ev, X.ev, Env.put]
  obtain ⟨u2, e2, v2⟩ := R.sound hE4 hR4 h2 hmov
  have hE5 := hE4.put (d := some t4) (by simpa [dstOk, Nat.blt, Nat.lt_iff_add_one_le] using l4) v2
  have v5 := hE5.vals t4 l4
  have hput5 : ((env2.put (some t12) v).put (some t4) v) t4 = v := by simp [Env.put]
  rw [hput5] at v5
  have heval : ∀ (ds : List Deferred) (b : Act), ({ b with defers := ds } : Act).eval = b.eval := fun ds b => funext fun x => by cases x <;> rfl
  refine wpIn_seq (wpIn_region ?_)
  show wpOpsIn Fence.wide 0 P #[o1, o2] _ [0, 1] _ _
  rw [wpOpsIn_cons]
  unfold wpOpIn
  simp only [List.getElem?_toArray, List.getElem?_cons_zero, Region.wanted, q1, if_true]
  refine ⟨fun _ _ => trivial, ?_⟩
  rw [heval, semAt_run _ e1 (fun _ h => by cases h), Oper.uponIn_value, wpOpsIn_cons]
  unfold wpOpIn
  simp only [List.getElem?_toArray, List.getElem?_cons_succ, List.getElem?_cons_zero, Region.wanted, q2, if_true]
  refine ⟨fun _ _ => trivial, ?_⟩
  rw [d1]
  have hp3 : ∀ (ds : List Deferred) (d : Option Tmp) (u : Value), ({ a2 with defers := ds } : Act).put d u = { (a2.put d u) with defers := ds } := fun ds d u => by cases d <;> rfl
  have hp4 : ∀ (ds : List Deferred) (b : Act) (d : Option Tmp) (u : Value), ({ b with defers := ds } : Act).put d u = { (b.put d u) with defers := ds } := fun ds b d u => by cases d <;> rfl
  rw [hp4, heval, semAt_run _ e2 (fun _ h => by cases h), Oper.uponIn_value, d2, hp4]
  refine wpIn_ret ?_
  refine ⟨by simp, .inl ⟨w2.heap.size, _, rfl, run_takeDeferred hD3, ?_⟩⟩
  rw [hD0]
  have hs6 := shp_deferred (o' := .deferred none) hD3
  have hf6 : ∀ k, k ≠ w2.heap.size → (W3.putObj w2.heap.size (.deferred none)).heap[k]? = W3.heap[k]? := fun k hk => World.putObj_heap_other hk
  have hn6 : ∀ id o off, (H3.del l) id = some o → ι3 id = some (w2.heap.size, off) → False := fun id o off e1 e2 => by
    obtain ⟨b4, o4, e3, e4⟩ := hR4.obj id o e1
    rw [e2] at e3; cases e3
    exact e4.not_deferred hD3
  refine ⟨_, results_tmp hres _ _ _, ι3, H3.del l, v, _, rfl, v5.mono (fun _ _ h => h) hs6, hR4.aside hn6 hs6 hf6, ?_, hq⟩
  refine g4.trans (j4.trans ?_)
  have hset : ∀ i x, (H2.set l (.round ((List.range fn.ntmps).map env2) w2.heap.size fnid #[p] asg bdy)) i = some x → i = l ∨ (i ≠ l ∧ H2 i = some x) := fun i x h => by
    by_cases hi : i = l
    · exact .inl hi
    · rw [Heap.set_ne _ _ hi] at h; exact .inr ⟨hi, h⟩
  have hown : ∀ k, Owns (ι2.add l (Wa.heap.size, 0)) (H2.set l (.round ((List.range fn.ntmps).map env2) w2.heap.size fnid #[p] asg bdy)) k → k = Wa.heap.size ∨ Owns ι2 H2 k := by
    rintro k ⟨i, x, off', r1, r2, r3⟩
    rcases hset i x r1 with rfl | ⟨hi, r1⟩
    · rw [hlb] at r3; cases r3; exact .inl rfl
    · rw [Pl.add_ne _ _ hi] at r3
      exact .inr ⟨i, x, off', r1, r2, r3⟩
  have hszb : Wb.heap.size = w2.heap.size + 2 := by rw [hp2.size, hbs]
  refine ⟨fun i x hx => m3.pl _ _ (hle _ _ hx), ?_, ?_, ?_, ?_, (((hp1.shp.trans hp2.shp).trans m3.shp).trans hs3).trans hs6, ?_, ?_, ?_, ?_⟩
  · show W3.os = w2.os
    exact hos3.trans (m3.os.trans (hp2.os.trans hp1.os))
  · exact (((hp1.tape.trans hp2.tape).trans m3.tape).trans ht3).trans ⟨rfl, Nat.le_refl _⟩
  · show W3.output = w2.output
    exact hout3.trans (m3.output.trans (hp2.output.trans hp1.output))
  · have := m3.size
    have : (W3.putObj w2.heap.size (.deferred none)).heap.size = W3.heap.size := by simp [World.putObj]
    omega
  · intro k hk hno
    rw [hf6 k (by omega), hf3 k (by omega), m3.frame k (by omega) (fun h => (hown k h).elim (by omega) hno), hp2.old k (by omega), hp1.old k hk]
  · rintro k ⟨i, x, off', r1, r2, r3⟩
    rcases m3.owns k ⟨i, x, off', (hdel i x r1).2, r2, r3⟩ with h | h
    · rcases hown k h with rfl | h
      · exact .inr (by omega)
      · exact .inl h
    · exact .inr (by omega)
  · intro i x r1 r2
    obtain ⟨hi, r3⟩ := hdel i x r1
    have := m3.ids i x r3 (by rw [Heap.set_ne _ _ hi]; exact r2)
    rwa [Pl.add_ne _ _ hi] at this
  · intro i x r1 r2
    obtain ⟨hi, r3⟩ := hdel i x r1
    have := m3.ro i x r3 r2
    rwa [Heap.set_ne _ _ hi] at this
end
end Go.CM
