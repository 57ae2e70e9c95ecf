/-
  A program logic over the model's calls, part 31: iterators and rounds at the user's level.
-/
import Derived.Test.YtebhddpildfgcaaCmIter
import Derived.Test.YtebhddpildfgcaaCmCut
namespace Go.CM
section
variable {P : Program} {env : Env} {H : Heap} {L N R : List Ob} {is : List I} {K : Env → Heap → Prop} {d : Option Nat}

/-- A range over a map begins: its stamps are known from here on. -/
theorem wps_rangeM (hh : Has H L) {m : X} {id : Nat} {es : List (V × V)} {L' : List Nat → Nat → List Ob} (hm : m.ev env = .map id) (hu : ∀ bs clk, Upd (id, .map es) [(id, .mapS es bs clk)] L (L' bs clk))
    (k : ∀ bs clk it H', bs.length = es.length → bs.Nodup → Has H' ((it, .miter id clk [] clk) :: L' bs clk) → wpOps P is (env.put d (.ptr it 0)) H' K) : wpOps P (⟨d, .ef (.rangeM m), none, .no⟩ :: is) env H K := by
  have h1 := hh.getm (hu [] 0).at
  have h0 : id ≠ 0 := fun e => by obtain ⟨b', h1⟩ := hh.zero _ (hu [] 0).at e; cases h1
  exact ⟨id, es, hm, h1, fun bs clk hl hn _ it i0 hit => ⟨trivial, k bs clk it _ hl hn ((hh.set h0 (hu bs clk)).new i0 hit)⟩⟩
theorem Has.ne00 {o : HObj} {id : Nat} (hh : Has H L) (hm : (id, o) ∈ L) (ho : ∀ b, o ≠ .cells b []) : id ≠ 0 := fun e => by
  obtain ⟨b', h1⟩ := hh.zero _ hm e
  exact ho b' h1
/-- The next entry, if there is one that has not come. -/
theorem wps_nextM (hh : Has H L) {y : X} {it mid clk : Nat} {es : List (V × V)} {bs seen : List Nat} {L' : Nat → List Ob} (hy : y.ev env = .ptr it 0) (hm : (mid, .mapS es bs clk) ∈ L) (hu : ∀ b, Upd (it, .miter mid clk seen clk) [(it, .miter mid clk (seen ++ [b]) clk)] L (L' b))
    (k0 : (∀ b ∈ bs, b ∈ seen) → wpOps P is (env.put d (.tup [.bool false])) H K) (k1 : ∀ (i : Nat) (e : V × V) (b : Nat) H', es[i]? = some e → bs[i]? = some b → b ∉ seen → Has H' (L' b) → wpOps P is (env.put d (.tup [.bool true, e.1, e.2])) H' K) :
    wpOps P (⟨d, .ef (.nextM y), none, .no⟩ :: is) env H K := by
  have i0 := hh.ne00 (hu 0).at (fun b h => by cases h)
  have m0 := hh.ne00 hm (fun b h => by cases h)
  exact ⟨it, mid, es, bs, clk, seen, hy, hh.get (hu 0).at i0, hh.get hm m0, fun h => ⟨trivial, k0 h⟩, fun i e b h1 h2 h3 => ⟨trivial, k1 i e b _ h1 h2 h3 (hh.set i0 (hu b))⟩⟩
/-- The entry that has come. -/
theorem wps_entryM (hh : Has H L) {y : X} {it mid clk i b : Nat} {es : List (V × V)} {bs seen : List Nat} {e : V × V} {x : Kx} (hy : y.ev env = .ptr it 0) (hm : (mid, .mapS es bs clk) ∈ L) (hi : (it, .miter mid clk (seen ++ [b]) clk) ∈ L) (he : es[i]? = some e) (hb : bs[i]? = some b)
    (k : wpOps P is (env.put d (.tup [e.1, e.2])) H K) : wpOps P (⟨d, .ef (.entryM y), none, x⟩ :: is) env H K :=
  ⟨it, mid, es, bs, clk, seen, i, e, b, hy, hh.get hi (hh.ne00 hi (fun b h => by cases h)), hh.get hm (hh.ne00 hm (fun b h => by cases h)), he, hb, ⟨Kx.refl, k⟩⟩
theorem Has.drop1 {x : Ob} (h : Has H (x :: R)) (h0 : x.1 ≠ 0) : Has (H.del x.1) R := h.tail.heap fun y hy hy0 => Heap.del_ne _ (h.head_ne h0 y hy hy0)
/-- A ROUND: the loop's body is run. -/
theorem wps_yield (hm : P.follows .mixedOrders = true) (hh : Has H L) {y : X} {args : List X} {l n D fn p : Nat} {vs : List V} {asg bdy : Code} {ca cb : C} {v : V} {J : List Ob → Prop} (hy : y.ev env = .yield l) (ha : args.map (X.ev env) = [v]) (hp : L.Perm ((l, .round vs D fn #[p] asg bdy) :: R))
    (hca : comp P n asg = some ca) (hcb : comp P n bdy = some cb) (hn : vs.length = n) (hpn : p < n)
    (hk : ∀ H0, Has H0 R → ca.wp P (fun x env1 H1 => x = .normal ∧ cb.wp P (fun x _ H2 => x = .normal ∧ ∃ L2, J L2 ∧ Has H2 L2) env1 H1) ((env0 vs).put (some p) v) H0)
    (k : ∀ L2 H', J L2 → Has H' ((l, .round vs D fn #[p] asg bdy) :: L2) → wpOps P is (env.put d (.bool true)) H' K) : wpOps P (⟨d, .ef (.callv y args), none, .no⟩ :: is) env H K := by
  have hh := hh.perm hp
  have l0 := hh.ne00 (List.mem_cons_self ..) (fun b h => by cases h)
  have hl := hh.get (List.mem_cons_self ..) l0
  refine .inr ⟨l, hy, ?_⟩
  rw [ha]
  refine round_yield hm hl hca hcb hn hpn ?_
  refine C.mono ?_ (hk _ (hh.drop1 l0))
  rintro x env1 H1 ⟨rfl, h⟩
  refine ⟨rfl, C.mono ?_ h⟩
  rintro x env2 H2 ⟨rfl, L2, hJ, h2⟩
  exact ⟨rfl, fun hnone => ⟨trivial, k L2 _ hJ (h2.new l0 hnone)⟩⟩
end
end Go.CM
