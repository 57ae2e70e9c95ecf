/-
  A program logic over the model's calls, part 24: walks that go by themselves.
-/
import Derived.Test.YtjeipnnobgijmaaCmUse3
namespace Go.CM

/-- To show G it is enough to show G'. -/
def Red (G G' : Prop) : Prop := G' → G
/-- What a walk leaves. -/
structure Leaf (G : Prop) : Prop where
  out : G
theorem leaf {G : Prop} (h : G) : Leaf G := ⟨h⟩
theorem red_leaf {G : Prop} : Red G (Leaf G) := fun h => h.out
theorem red_by {A B G' : Prop} (f : A → B) (h : Red A G') : Red B G' := fun k => f (h k)

section
variable {P : Program} {env : Env} {H : Heap} {Q : Ex → Env → Heap → Prop} {L : List Ob} {K : Env → Heap → Prop} {d : Option Nat} {x : Bool} {is : List I} {G' A' B' : Prop} {N : Nat → Heap → Prop} {N2 : Nat → Nat → Heap → Prop} {M : Heap → Prop}
variable {α : Type} {enc : α → List V} {sz : Nat}

theorem r_seq {a b : C} (k : Red (C.wp P a (kSeq P b Q) env H) G') : Red (C.wp P (.seq a b) Q env H) G' := red_by (fun k => c_seq k) k
theorem r_ops {l : List I} (k : Red (wpOps P l env H (Q .normal)) G') : Red (C.wp P (.ops l) Q env H) G' := red_by (fun k => c_ops k) k
theorem r_skip  (k : Red (Q .normal env H) G') : Red (C.wp P .skip Q env H) G' := red_by (fun k => c_skip k) k
theorem r_exit {id : Nat} (k : Red (Q (.exit id) env H) G') : Red (C.wp P (.exit id) Q env H) G' := red_by (fun k => c_exit k) k
theorem r_ret  (k : Red (Q .ret env H) G') : Red (C.wp P .ret Q env H) G' := red_by (fun k => c_ret k) k
theorem r_block {id : Nat} {a : C} (k : Red (C.wp P a (kBlk id Q) env H) G') : Red (C.wp P (.block id a) Q env H) G' := red_by (fun k => c_block k) k
theorem r_nil  (k : Red (K env H) G') : Red (wpOps P [] env H K) G' := red_by (fun k => wps_nil k) k
theorem r_sn {b : C} (k : Red (C.wp P b Q env H) G') : Red (kSeq P b Q .normal env H) G' := red_by (fun k => k_seq_n k) k
theorem r_se {b : C} {j : Nat} (k : Red (Q (.exit j) env H) G') : Red (kSeq P b Q (.exit j) env H) G' := red_by (fun k => k_seq_e k) k
theorem r_sr {b : C} (k : Red (Q .ret env H) G') : Red (kSeq P b Q .ret env H) G' := red_by (fun k => k_seq_r k) k
theorem r_bn {id : Nat} (k : Red (Q .normal env H) G') : Red (kBlk id Q .normal env H) G' := red_by (fun k => k_blk_n k) k
theorem r_bx {id : Nat} (k : Red (Q .normal env H) G') : Red (kBlk id Q (.exit id) env H) G' := red_by (fun k => k_blk_x k) k
theorem r_be {id j : Nat} (h : Nat.beq j id = false) (k : Red (Q (.exit j) env H) G') : Red (kBlk id Q (.exit j) env H) G' := red_by (fun k => k_blk_e h k) k
theorem r_br {id : Nat} (k : Red (Q .ret env H) G') : Red (kBlk id Q .ret env H) G' := red_by (fun k => k_blk_r k) k
theorem r_ln {J : Env → Heap → Prop} (k : Red (J env H) G') : Red (kLoop J Q .normal env H) G' := red_by (fun k => k_loop_n k) k
theorem r_le {J : Env → Heap → Prop} {j : Nat} (k : Red (Q (.exit j) env H) G') : Red (kLoop J Q (.exit j) env H) G' := red_by (fun k => k_loop_e k) k
theorem r_lr {J : Env → Heap → Prop} (k : Red (Q .ret env H) G') : Red (kLoop J Q .ret env H) G' := red_by (fun k => k_loop_r k) k
theorem r_ct {y : X} {a b : C} (h : y.ev env = .bool true) (k : Red (C.wp P a Q env H) G') : Red (C.wp P (.cond y a b) Q env H) G' := red_by (fun k => c_cond_t h k) k
theorem r_cf {y : X} {a b : C} (h : y.ev env = .bool false) (k : Red (C.wp P b Q env H) G') : Red (C.wp P (.cond y a b) Q env H) G' := red_by (fun k => c_cond_f h k) k
theorem r_gt {o : O} {s : Nat} {b : Bool} (h : env s = .bool b) (k : Red (wpOps P (⟨d, o, none, x⟩ :: is) env H K) G') : Red (wpOps P (⟨d, o, some (s, b), x⟩ :: is) env H K) G' := red_by (fun k => wps_gt h k) k
theorem r_gf {o : O} {s : Nat} {b : Bool} (h : env s = .bool (!b)) (k : Red (wpOps P is (env.put d V.undef) H K) G') : Red (wpOps P (⟨d, o, some (s, b), x⟩ :: is) env H K) G' := red_by (fun k => wps_gf h k) k
theorem r_gu {o : O} {s : Nat} {b : Bool} (h : env s = V.undef) (k : Red (wpOps P is (env.put d V.undef) H K) G') : Red (wpOps P (⟨d, o, some (s, b), x⟩ :: is) env H K) G' := red_by (fun k => wps_gu h k) k
theorem r_rd {r : R} {v : V} (h : r.ev env H = some v) (k : Red (wpOps P is (env.put d (v)) H K) G') : Red (wpOps P (⟨d, .rd r, none, x⟩ :: is) env H K) G' := red_by (fun k => wps_rd h k) k
theorem r_rda {r : R} {l l' : List V} (h : r.ev env H = some (.agg l)) (hl : l = l') (k : Red (wpOps P is (env.put d (.agg l')) H K) G') : Red (wpOps P (⟨d, .rd r, none, x⟩ :: is) env H K) G' := red_by (fun k => wps_rda h hl k) k
theorem r_ld (hh : Has H L) {a : X} {id off : Nat} {b : Bool} {cs : List V} {v : V} (ha : a.ev env = .ptr id off) (hi : At (id, .cells b cs) L) (hv : cs[off]? = some v) (k : Red (wpOps P is (env.put d (v)) H K) G') : Red (wpOps P (⟨d, .rd (.load1 a), none, x⟩ :: is) env H K) G' := red_by (fun k => wps_ld hh ha hi hv k) k
theorem r_lda (hh : Has H L) {a : X} {id n : Nat} {b : Bool} {cs : List V} (ha : a.ev env = .ptr id 0) (hi : At (id, .cells b cs) L) (hv : cs.length = n + 1) (k : Red (wpOps P is (env.put d (.agg cs)) H K) G') : Red (wpOps P (⟨d, .rd (.loadn (n + 1) a), none, x⟩ :: is) env H K) G' := red_by (fun k => wps_lda hh ha hi hv k) k
theorem r_ldn (hh : Has H L) {a : X} {id off n : Nat} {b : Bool} {cs vs vs' : List V} (ha : a.ev env = .ptr id off) (hi : At (id, .cells b cs) L) (hv : getCells cs off (n + 1) = some vs) (hl : vs = vs') (k : Red (wpOps P is (env.put d (.agg vs')) H K) G') : Red (wpOps P (⟨d, .rd (.loadn (n + 1) a), none, x⟩ :: is) env H K) G' := red_by (fun k => wps_ldn hh ha hi hv hl k) k
theorem r_lr1 (iα : Inhabited α) (hh : Has H L) {a : X} {id n off : Nat} {b : Bool} {l : List α} {v : V} (ha : a.ev env = .ptr id (n * sz + off)) (hi : At (id, .cells b (l.flatMap enc)) L) (hs : ∀ a, (enc a).length = sz) (hb : n < l.length) (hv : (enc (nth l n))[off]? = some v) (k : Red (wpOps P is (env.put d (v)) H K) G') : Red (wpOps P (⟨d, .rd (.load1 a), none, x⟩ :: is) env H K) G' := red_by (fun k => wps_lr hh ha hi hs hb hv k) k
theorem r_lr0 (iα : Inhabited α) (hh : Has H L) {a : X} {id n : Nat} {b : Bool} {l : List α} {v : V} (ha : a.ev env = .ptr id (n * sz)) (hi : At (id, .cells b (l.flatMap enc)) L) (hs : ∀ a, (enc a).length = sz) (hb : n < l.length) (hv : (enc (nth l n))[0]? = some v) (k : Red (wpOps P is (env.put d (v)) H K) G') : Red (wpOps P (⟨d, .rd (.load1 a), none, x⟩ :: is) env H K) G' := red_by (fun k => wps_lr0 hh ha hi hs hb hv k) k
theorem r_lrn (iα : Inhabited α) (hh : Has H L) {a : X} {id n off m : Nat} {b : Bool} {l : List α} {vs : List V} (ha : a.ev env = .ptr id (n * sz + off)) (hi : At (id, .cells b (l.flatMap enc)) L) (hs : ∀ a, (enc a).length = sz) (hb : n < l.length) (hm : Nat.ble (off + (m + 1)) sz = true) (hv : ((enc (nth l n)).drop off).take (m + 1) = vs) (k : Red (wpOps P is (env.put d (.agg vs)) H K) G') : Red (wpOps P (⟨d, .rd (.loadn (m + 1) a), none, x⟩ :: is) env H K) G' := red_by (fun k => wps_lrn hh ha hi hs hb hm hv k) k
theorem r_lra (iα : Inhabited α) (hh : Has H L) {a : X} {id n m : Nat} {b : Bool} {l : List α} (ha : a.ev env = .ptr id (n * (m + 1))) (hi : At (id, .cells b (l.flatMap enc)) L) (hs : ∀ a, (enc a).length = m + 1) (hb : n < l.length) (k : Red (wpOps P is (env.put d (.agg (enc (nth l n)))) H K) G') : Red (wpOps P (⟨d, .rd (.loadn (m + 1) a), none, x⟩ :: is) env H K) G' := red_by (fun k => wps_lra hh ha hi hs hb k) k
theorem r_ia {esz : Nat} {y i : X} {id len : Nat} {ki : IntKind} {n : Int} (hx : y.ev env = .slice id 0 len esz) (hi : i.ev env = .int ki n) (hb : 0 ≤ n ∧ n < (len : Int)) (k : Red (wpOps P is (env.put d (.ptr id (n.toNat * esz))) H K) G') : Red (wpOps P (⟨d, .rd (.iaddrS esz y i), none, x⟩ :: is) env H K) G' := red_by (fun k => wps_ia hx hi hb k) k
theorem r_iac {esz : Nat} {y i : X} {id off len : Nat} {ki : IntKind} {n : Int} (hx : y.ev env = .slice id off len esz) (hi : i.ev env = .int ki n) (hb : 0 ≤ n ∧ n < (len : Int)) (k : Red (wpOps P is (env.put d (.ptr id (off + n.toNat * esz))) H K) G') : Red (wpOps P (⟨d, .rd (.iaddrS esz y i), none, x⟩ :: is) env H K) G' := red_by (fun k => wps_iac hx hi hb k) k
theorem r_iaa {len esz : Nat} {y i : X} {id off : Nat} {ki : IntKind} {n : Int} (hx : y.ev env = .ptr id off) (hi : i.ev env = .int ki n) (hb : 0 ≤ n ∧ n < (len : Int)) (k : Red (wpOps P is (env.put d (.ptr id (off + n.toNat * esz))) H K) G') : Red (wpOps P (⟨d, .rd (.iaddrA len esz y i), none, x⟩ :: is) env H K) G' := red_by (fun k => wps_iaa hx hi hb k) k
theorem r_ian {esz : Nat} {y i : X} {id len n : Nat} {ki : IntKind} (hx : y.ev env = .slice id 0 len esz) (hi : i.ev env = .int ki (n : Int)) (hb : n < len) (k : Red (wpOps P is (env.put d (.ptr id (n * esz))) H K) G') : Red (wpOps P (⟨d, .rd (.iaddrS esz y i), none, x⟩ :: is) env H K) G' := red_by (fun k => wps_ian hx hi hb k) k
theorem r_is {y i : X} {s : List UInt8} {ki : IntKind} {n : Int} (hx : y.ev env = .str s) (hi : i.ev env = .int ki n) (hb : 0 ≤ n ∧ n < (s.length : Int)) (k : Red (wpOps P is (env.put d (.int .u8 (s.getD n.toNat 0).toNat)) H K) G') : Red (wpOps P (⟨d, .rd (.idxStr y i), none, x⟩ :: is) env H K) G' := red_by (fun k => wps_is hx hi hb k) k
theorem r_add {y z : X} {a b : Int} (hy : y.ev env = .int .i64 a) (hz : z.ev env = .int .i64 b) (hb : -9223372036854775808 ≤ a + b ∧ a + b ≤ 9223372036854775807) (k : Red (wpOps P is (env.put d (.int .i64 (a + b))) H K) G') : Red (wpOps P (⟨d, .rd (.bin .add y z), none, x⟩ :: is) env H K) G' := red_by (fun k => wps_add hy hz hb k) k
theorem r_sub {y z : X} {a b : Int} (hy : y.ev env = .int .i64 a) (hz : z.ev env = .int .i64 b) (hb : -9223372036854775808 ≤ a - b ∧ a - b ≤ 9223372036854775807) (k : Red (wpOps P is (env.put d (.int .i64 (a - b))) H K) G') : Red (wpOps P (⟨d, .rd (.bin .sub y z), none, x⟩ :: is) env H K) G' := red_by (fun k => wps_sub hy hz hb k) k
theorem r_eq {c : EqC} {y z : X} {b : Bool} (h : eqV c (y.ev env) (z.ev env) = some b) (k : Red (wpOps P is (env.put d (.bool b)) H K) G') : Red (wpOps P (⟨d, .rd (.eq c false y z), none, x⟩ :: is) env H K) G' := red_by (fun k => wps_eq h k) k
theorem r_ne {c : EqC} {y z : X} {b : Bool} (h : eqV c (y.ev env) (z.ev env) = some b) (k : Red (wpOps P is (env.put d (.bool (!b))) H K) G') : Red (wpOps P (⟨d, .rd (.eq c true y z), none, x⟩ :: is) env H K) G' := red_by (fun k => wps_ne h k) k
theorem r_cs00 {y : X} {s : List UInt8} (hx : y.ev env = .str s) (k : Red (wpOps P is (env.put d (.str s)) H K) G') : Red (wpOps P (⟨d, .rd (.cutStr y none none), none, x⟩ :: is) env H K) G' := red_by (fun k => wps_cs00 hx k) k
theorem r_cs01 {y h : X} {s : List UInt8} {kh : IntKind} {n : Int} (hx : y.ev env = .str s) (hi : h.ev env = .int kh n) (hb : 0 ≤ n ∧ n ≤ (s.length : Int)) (k : Red (wpOps P is (env.put d (.str (s.take n.toNat))) H K) G') : Red (wpOps P (⟨d, .rd (.cutStr y none (some h)), none, x⟩ :: is) env H K) G' := red_by (fun k => wps_cs01 hx hi hb k) k
theorem r_cs10 {y l : X} {s : List UInt8} {kl : IntKind} {n : Int} (hx : y.ev env = .str s) (hl : l.ev env = .int kl n) (hb : 0 ≤ n ∧ n ≤ (s.length : Int)) (k : Red (wpOps P is (env.put d (.str (s.drop n.toNat))) H K) G') : Red (wpOps P (⟨d, .rd (.cutStr y (some l) none), none, x⟩ :: is) env H K) G' := red_by (fun k => wps_cs10 hx hl hb k) k
theorem r_cs11 {y l h : X} {s : List UInt8} {kl kh : IntKind} {n m : Int} (hx : y.ev env = .str s) (hl : l.ev env = .int kl n) (hi : h.ev env = .int kh m) (hb : 0 ≤ n ∧ n ≤ m ∧ m ≤ (s.length : Int)) (k : Red (wpOps P is (env.put d (.str ((s.take m.toNat).drop n.toNat))) H K) G') : Red (wpOps P (⟨d, .rd (.cutStr y (some l) (some h)), none, x⟩ :: is) env H K) G' := red_by (fun k => wps_cs11 hx hl hi hb k) k
theorem r_cl00 {y : X} {id off len esz : Nat} (hx : y.ev env = .slice id off len esz) (k : Red (wpOps P is (env.put d (.slice id off len esz)) H K) G') : Red (wpOps P (⟨d, .rd (.cutSl esz y none none), none, x⟩ :: is) env H K) G' := red_by (fun k => wps_cl00 hx k) k
theorem r_cl01 {y h : X} {id off len esz : Nat} {kh : IntKind} {n : Int} (hx : y.ev env = .slice id off len esz) (hi : h.ev env = .int kh n) (hb : 0 ≤ n ∧ n ≤ (len : Int)) (k : Red (wpOps P is (env.put d (.slice id off n.toNat esz)) H K) G') : Red (wpOps P (⟨d, .rd (.cutSl esz y none (some h)), none, x⟩ :: is) env H K) G' := red_by (fun k => wps_cl01 hx hi hb k) k
theorem r_cl10 {y l : X} {id off len esz : Nat} {kl : IntKind} {n : Int} (hx : y.ev env = .slice id off len esz) (hl : l.ev env = .int kl n) (hb : 0 ≤ n ∧ n ≤ (len : Int)) (k : Red (wpOps P is (env.put d (.slice id (off + n.toNat * esz) (len - n.toNat) esz)) H K) G') : Red (wpOps P (⟨d, .rd (.cutSl esz y (some l) none), none, x⟩ :: is) env H K) G' := red_by (fun k => wps_cl10 hx hl hb k) k
theorem r_cl11 {y l h : X} {id off len esz : Nat} {kl kh : IntKind} {n m : Int} (hx : y.ev env = .slice id off len esz) (hl : l.ev env = .int kl n) (hi : h.ev env = .int kh m) (hb : 0 ≤ n ∧ n ≤ m ∧ m ≤ (len : Int)) (k : Red (wpOps P is (env.put d (.slice id (off + n.toNat * esz) (m.toNat - n.toNat) esz)) H K) G') : Red (wpOps P (⟨d, .rd (.cutSl esz y (some l) (some h)), none, x⟩ :: is) env H K) G' := red_by (fun k => wps_cl11 hx hl hi hb k) k
theorem r_alloc (hh : Has H L) {z : List V} (k : ∀ id H', Has H' ((id, .cells true z) :: L) → Red (wpOps P is (env.put d (.ptr id 0)) H' K) (N id H')) : Red (wpOps P (⟨d, .ef (.alloc z), none, x⟩ :: is) env H K) (∀ id H', Has H' ((id, .cells true z) :: L) → N id H') := fun g => wps_alloc hh fun id H' h => k id H' h (g id H' h)
theorem r_box (hh : Has H L) {y : X} {v : V} (hy : y.ev env = v) (ht : v.isTup = false) {cs : List V} (hc : v.cells = cs) (k : ∀ id H', Has H' ((id, .cells true cs) :: L) → Red (wpOps P is (env.put d (.ptr id 0)) H' K) (N id H')) : Red (wpOps P (⟨d, .ef (.box y), none, x⟩ :: is) env H K) (∀ id H', Has H' ((id, .cells true cs) :: L) → N id H') := fun g => wps_box hh hy ht hc fun id H' h => k id H' h (g id H' h)
theorem r_lit1 (hh : Has H L) {esz sz : Nat} {z cs : List V} {y : X} {v : V} (hy : y.ev env = v) (ht : v.isTup = false) (hc : v.cells = cs) (hn : cs.length = sz) (hz : z.length = sz) (k : ∀ id H', Has H' ((id, .cells true cs) :: L) → Red (wpOps P is (env.put d (.slice id 0 1 esz)) H' K) (N id H')) : Red (wpOps P (⟨d, .ef (.lit esz 1 z [(0, sz, y)]), none, x⟩ :: is) env H K) (∀ id H', Has H' ((id, .cells true cs) :: L) → N id H') := fun g => wps_lit1 hh hy ht hc hn hz fun id H' h => k id H' h (g id H' h)
theorem r_lit (hh : Has H L) {esz len : Nat} {z cs cs' : List V} {ps : List (Nat × Nat × X)} (hf : fillV env z ps = some cs) (hl : cs = cs') (k : ∀ id H', Has H' ((id, .cells true cs') :: L) → Red (wpOps P is (env.put d (.slice id 0 len esz)) H' K) (N id H')) : Red (wpOps P (⟨d, .ef (.lit esz len z ps), none, x⟩ :: is) env H K) (∀ id H', Has H' ((id, .cells true cs') :: L) → N id H') := fun g => wps_lit hh hf hl fun id H' h => k id H' h (g id H' h)
theorem r_mkMap (hh : Has H L)  (k : ∀ id H', Has H' ((id, .map []) :: L) → Red (wpOps P is (env.put d (.map id)) H' K) (N id H')) : Red (wpOps P (⟨d, .ef .mkMap, none, x⟩ :: is) env H K) (∀ id H', Has H' ((id, .map []) :: L) → N id H') := fun g => wps_mkMap hh fun id H' h => k id H' h (g id H' h)
theorem r_store (hh : Has H L) {n : Nat} {a y : X} {id off : Nat} {cs cs' vs : List V} {v : V} {L' : List Ob} (ha : a.ev env = .ptr id off) (hy : y.ev env = v) (ht : v.isTup = false) (hc : v.cells = vs) (hn : vs.length = n + 1) (_hA : At (id, .cells true cs) L) (hb : Nat.ble (off + (n + 1)) cs.length = true) (hs : splice cs off vs = cs') (hu : Upd (id, .cells true cs) [(id, .cells true cs')] L L') (k : ∀ H', Has H' L' → Red (wpOps P is (env.put d V.undef) H' K) (M H')) : Red (wpOps P (⟨d, .ef (.store (n + 1) a y), none, false⟩ :: is) env H K) (∀ H', Has H' L' → M H') := fun g => wps_store hh ha hy ht hc hn hu (Nat.le_of_ble_eq_true hb) hs fun H' h => k H' h (g H' h)
theorem r_srow (hh : Has H L) {a y : X} {id n m : Nat} {l : List α} {u : α} {v : V} {L' : List Ob} (ha : a.ev env = .ptr id (n * (m + 1))) (hA : At (id, .cells true (l.flatMap enc)) L) (hy : y.ev env = v) (ht : v.isTup = false) (hc : v.cells = enc u) (hs : ∀ a, (enc a).length = m + 1) (hb : n < l.length) (hu : Upd (id, .cells true (l.flatMap enc)) [(id, .cells true ((l.set n u).flatMap enc))] L L') (k : ∀ H', Has H' L' → Red (wpOps P is (env.put d V.undef) H' K) (M H')) : Red (wpOps P (⟨d, .ef (.store (m + 1) a y), none, false⟩ :: is) env H K) (∀ H', Has H' L' → M H') := fun g => wps_sr hh ha hy ht hc hs hb hu fun H' h => k H' h (g H' h)
theorem r_push (hh : Has H L) {ya : Nat} {y a : X} {id by_ m : Nat} {z : List V} {l : List α} {u : α} {v : V} {fa : Bool} {L' : Nat → List Ob} (ha : a.ev (env.put (some ya) (.slice 0 0 0 0)) = .slice id 0 l.length (m + 1)) (_hA : At (id, .cells true (l.flatMap enc)) L) (hn : ∀ v, a.ev (env.put (some ya) v) = a.ev (env.put (some ya) (.slice 0 0 0 0))) (hy : y.ev env = v) (ht : v.isTup = false) (hc : v.cells = enc u) (hs : ∀ a, (enc a).length = m + 1) (hz : z.length = m + 1) (hu : ∀ id', Upd (id, .cells true (l.flatMap enc)) [(id', .cells true ((l ++ [u]).flatMap enc))] L (L' id')) (hb : (l.length + 1) * by_ ≤ 140737488355328) (k : ∀ t id' H', Has H' (L' id') → Red (wpOps P is ((env.put (some ya) (.slice t 0 1 (m + 1))).put d (.slice id' 0 (l ++ [u]).length (m + 1))) H' K) (N2 t id' H')) : Red (wpOps P (⟨some ya, .ef (.lit (m + 1) 1 z [(0, m + 1, y)]), none, fa⟩ :: ⟨d, .ef (.app (m + 1) by_ a (.t ya)), none, false⟩ :: is) env H K) (∀ t id' H', Has H' (L' id') → N2 t id' H') := fun g => wps_push hh ha hn hy ht hc hs hz hu hb fun t id' H' h => k t id' H' h (g t id' H' h)
theorem r_cd {y : X} {a b : C} {p : Prop} {_ : Decidable p} (h : y.ev env = .bool (decide p)) (ht : p → Red (C.wp P a Q env H) A') (hf : ¬p → Red (C.wp P b Q env H) B') : Red (C.wp P (.cond y a b) Q env H) ((p → A') ∧ (¬p → B')) := fun g => c_cond_d h (fun c => ht c (g.1 c)) (fun c => hf c (g.2 c))
theorem r_gd {o : O} {s : Nat} {b : Bool} {p : Prop} {_ : Decidable p} (h : env s = .bool (decide p)) (ht : p → Red (wpOps P (⟨d, o, some (s, b), x⟩ :: is) (env.put (some s) (.bool true)) H K) A') (hf : ¬p → Red (wpOps P (⟨d, o, some (s, b), x⟩ :: is) (env.put (some s) (.bool false)) H K) B') : Red (wpOps P (⟨d, o, some (s, b), x⟩ :: is) env H K) ((p → A') ∧ (¬p → B')) := fun g => wps_gs_d h (fun c => ht c (g.1 c)) (fun c => hf c (g.2 c))
theorem r_pd {s : Nat} {a b : X} {p : Prop} {_ : Decidable p} (h : env s = .bool (decide p)) (ht : p → Red (wpOps P (⟨d, .rd (.pick (.t s) a b), none, x⟩ :: is) (env.put (some s) (.bool true)) H K) A') (hf : ¬p → Red (wpOps P (⟨d, .rd (.pick (.t s) a b), none, x⟩ :: is) (env.put (some s) (.bool false)) H K) B') : Red (wpOps P (⟨d, .rd (.pick (.t s) a b), none, x⟩ :: is) env H K) ((p → A') ∧ (¬p → B')) := fun g => wps_pk_d h (fun c => ht c (g.1 c)) (fun c => hf c (g.2 c))
theorem r_cnd {y : X} {a b : C} {p : Prop} {_ : Decidable p} (h : y.ev env = .bool (!decide p)) (ht : ¬p → Red (C.wp P a Q env H) A') (hf : p → Red (C.wp P b Q env H) B') : Red (C.wp P (.cond y a b) Q env H) ((¬p → A') ∧ (p → B')) := fun g => c_cond_nd h (fun c => ht c (g.1 c)) (fun c => hf c (g.2 c))
theorem r_gnd {o : O} {s : Nat} {b : Bool} {p : Prop} {_ : Decidable p} (h : env s = .bool (!decide p)) (ht : ¬p → Red (wpOps P (⟨d, o, some (s, b), x⟩ :: is) (env.put (some s) (.bool true)) H K) A') (hf : p → Red (wpOps P (⟨d, o, some (s, b), x⟩ :: is) (env.put (some s) (.bool false)) H K) B') : Red (wpOps P (⟨d, o, some (s, b), x⟩ :: is) env H K) ((¬p → A') ∧ (p → B')) := fun g => wps_gs_nd h (fun c => ht c (g.1 c)) (fun c => hf c (g.2 c))
theorem r_pnd {s : Nat} {a b : X} {p : Prop} {_ : Decidable p} (h : env s = .bool (!decide p)) (ht : ¬p → Red (wpOps P (⟨d, .rd (.pick (.t s) a b), none, x⟩ :: is) (env.put (some s) (.bool true)) H K) A') (hf : p → Red (wpOps P (⟨d, .rd (.pick (.t s) a b), none, x⟩ :: is) (env.put (some s) (.bool false)) H K) B') : Red (wpOps P (⟨d, .rd (.pick (.t s) a b), none, x⟩ :: is) env H K) ((¬p → A') ∧ (p → B')) := fun g => wps_pk_nd h (fun c => ht c (g.1 c)) (fun c => hf c (g.2 c))
theorem r_ce {y : X} {a b : C} {u v : Int} (h : y.ev env = .bool (u == v)) (ht : u = v → Red (C.wp P a Q env H) A') (hf : u ≠ v → Red (C.wp P b Q env H) B') : Red (C.wp P (.cond y a b) Q env H) ((u = v → A') ∧ (u ≠ v → B')) := fun g => c_cond_e h (fun c => ht c (g.1 c)) (fun c => hf c (g.2 c))
theorem r_ge {o : O} {s : Nat} {b : Bool} {u v : Int} (h : env s = .bool (u == v)) (ht : u = v → Red (wpOps P (⟨d, o, some (s, b), x⟩ :: is) (env.put (some s) (.bool true)) H K) A') (hf : u ≠ v → Red (wpOps P (⟨d, o, some (s, b), x⟩ :: is) (env.put (some s) (.bool false)) H K) B') : Red (wpOps P (⟨d, o, some (s, b), x⟩ :: is) env H K) ((u = v → A') ∧ (u ≠ v → B')) := fun g => wps_gs_e h (fun c => ht c (g.1 c)) (fun c => hf c (g.2 c))
theorem r_pe {s : Nat} {a b : X} {u v : Int} (h : env s = .bool (u == v)) (ht : u = v → Red (wpOps P (⟨d, .rd (.pick (.t s) a b), none, x⟩ :: is) (env.put (some s) (.bool true)) H K) A') (hf : u ≠ v → Red (wpOps P (⟨d, .rd (.pick (.t s) a b), none, x⟩ :: is) (env.put (some s) (.bool false)) H K) B') : Red (wpOps P (⟨d, .rd (.pick (.t s) a b), none, x⟩ :: is) env H K) ((u = v → A') ∧ (u ≠ v → B')) := fun g => wps_pk_e h (fun c => ht c (g.1 c)) (fun c => hf c (g.2 c))
theorem r_cn {y : X} {a b : C} {u v : Int} (h : y.ev env = .bool (u != v)) (ht : u ≠ v → Red (C.wp P a Q env H) A') (hf : u = v → Red (C.wp P b Q env H) B') : Red (C.wp P (.cond y a b) Q env H) ((u ≠ v → A') ∧ (u = v → B')) := fun g => c_cond_n h (fun c => ht c (g.1 c)) (fun c => hf c (g.2 c))
theorem r_gn {o : O} {s : Nat} {b : Bool} {u v : Int} (h : env s = .bool (u != v)) (ht : u ≠ v → Red (wpOps P (⟨d, o, some (s, b), x⟩ :: is) (env.put (some s) (.bool true)) H K) A') (hf : u = v → Red (wpOps P (⟨d, o, some (s, b), x⟩ :: is) (env.put (some s) (.bool false)) H K) B') : Red (wpOps P (⟨d, o, some (s, b), x⟩ :: is) env H K) ((u ≠ v → A') ∧ (u = v → B')) := fun g => wps_gs_n h (fun c => ht c (g.1 c)) (fun c => hf c (g.2 c))
theorem r_pn {s : Nat} {a b : X} {u v : Int} (h : env s = .bool (u != v)) (ht : u ≠ v → Red (wpOps P (⟨d, .rd (.pick (.t s) a b), none, x⟩ :: is) (env.put (some s) (.bool true)) H K) A') (hf : u = v → Red (wpOps P (⟨d, .rd (.pick (.t s) a b), none, x⟩ :: is) (env.put (some s) (.bool false)) H K) B') : Red (wpOps P (⟨d, .rd (.pick (.t s) a b), none, x⟩ :: is) env H K) ((u ≠ v → A') ∧ (u = v → B')) := fun g => wps_pk_n h (fun c => ht c (g.1 c)) (fun c => hf c (g.2 c))
theorem r_cs {y : X} {a b : C} {u v : List UInt8} (h : y.ev env = .bool (u == v)) (ht : u = v → Red (C.wp P a Q env H) A') (hf : u ≠ v → Red (C.wp P b Q env H) B') : Red (C.wp P (.cond y a b) Q env H) ((u = v → A') ∧ (u ≠ v → B')) := fun g => c_cond_s h (fun c => ht c (g.1 c)) (fun c => hf c (g.2 c))
theorem r_gs {o : O} {s : Nat} {b : Bool} {u v : List UInt8} (h : env s = .bool (u == v)) (ht : u = v → Red (wpOps P (⟨d, o, some (s, b), x⟩ :: is) (env.put (some s) (.bool true)) H K) A') (hf : u ≠ v → Red (wpOps P (⟨d, o, some (s, b), x⟩ :: is) (env.put (some s) (.bool false)) H K) B') : Red (wpOps P (⟨d, o, some (s, b), x⟩ :: is) env H K) ((u = v → A') ∧ (u ≠ v → B')) := fun g => wps_gs_s h (fun c => ht c (g.1 c)) (fun c => hf c (g.2 c))
theorem r_ps {s : Nat} {a b : X} {u v : List UInt8} (h : env s = .bool (u == v)) (ht : u = v → Red (wpOps P (⟨d, .rd (.pick (.t s) a b), none, x⟩ :: is) (env.put (some s) (.bool true)) H K) A') (hf : u ≠ v → Red (wpOps P (⟨d, .rd (.pick (.t s) a b), none, x⟩ :: is) (env.put (some s) (.bool false)) H K) B') : Red (wpOps P (⟨d, .rd (.pick (.t s) a b), none, x⟩ :: is) env H K) ((u = v → A') ∧ (u ≠ v → B')) := fun g => wps_pk_s h (fun c => ht c (g.1 c)) (fun c => hf c (g.2 c))
theorem r_cns {y : X} {a b : C} {u v : List UInt8} (h : y.ev env = .bool (!(u == v))) (ht : u ≠ v → Red (C.wp P a Q env H) A') (hf : u = v → Red (C.wp P b Q env H) B') : Red (C.wp P (.cond y a b) Q env H) ((u ≠ v → A') ∧ (u = v → B')) := fun g => c_cond_ns h (fun c => ht c (g.1 c)) (fun c => hf c (g.2 c))
theorem r_gns {o : O} {s : Nat} {b : Bool} {u v : List UInt8} (h : env s = .bool (!(u == v))) (ht : u ≠ v → Red (wpOps P (⟨d, o, some (s, b), x⟩ :: is) (env.put (some s) (.bool true)) H K) A') (hf : u = v → Red (wpOps P (⟨d, o, some (s, b), x⟩ :: is) (env.put (some s) (.bool false)) H K) B') : Red (wpOps P (⟨d, o, some (s, b), x⟩ :: is) env H K) ((u ≠ v → A') ∧ (u = v → B')) := fun g => wps_gs_ns h (fun c => ht c (g.1 c)) (fun c => hf c (g.2 c))
theorem r_pns {s : Nat} {a b : X} {u v : List UInt8} (h : env s = .bool (!(u == v))) (ht : u ≠ v → Red (wpOps P (⟨d, .rd (.pick (.t s) a b), none, x⟩ :: is) (env.put (some s) (.bool true)) H K) A') (hf : u = v → Red (wpOps P (⟨d, .rd (.pick (.t s) a b), none, x⟩ :: is) (env.put (some s) (.bool false)) H K) B') : Red (wpOps P (⟨d, .rd (.pick (.t s) a b), none, x⟩ :: is) env H K) ((u ≠ v → A') ∧ (u = v → B')) := fun g => wps_pk_ns h (fun c => ht c (g.1 c)) (fun c => hf c (g.2 c))
theorem r_c {y : X} {a b : C} {c : Bool} (h : y.ev env = .bool (c)) (ht : c = true → Red (C.wp P a Q env H) A') (hf : c = false → Red (C.wp P b Q env H) B') : Red (C.wp P (.cond y a b) Q env H) ((c = true → A') ∧ (c = false → B')) := fun g => c_cond h (fun c => ht c (g.1 c)) (fun c => hf c (g.2 c))
theorem r_g {o : O} {s : Nat} {b : Bool} {c : Bool} (h : env s = .bool (c)) (ht : c = true → Red (wpOps P (⟨d, o, some (s, b), x⟩ :: is) (env.put (some s) (.bool true)) H K) A') (hf : c = false → Red (wpOps P (⟨d, o, some (s, b), x⟩ :: is) (env.put (some s) (.bool false)) H K) B') : Red (wpOps P (⟨d, o, some (s, b), x⟩ :: is) env H K) ((c = true → A') ∧ (c = false → B')) := fun g => wps_gs h (fun c => ht c (g.1 c)) (fun c => hf c (g.2 c))
theorem r_p {s : Nat} {a b : X} {c : Bool} (h : env s = .bool (c)) (ht : c = true → Red (wpOps P (⟨d, .rd (.pick (.t s) a b), none, x⟩ :: is) (env.put (some s) (.bool true)) H K) A') (hf : c = false → Red (wpOps P (⟨d, .rd (.pick (.t s) a b), none, x⟩ :: is) (env.put (some s) (.bool false)) H K) B') : Red (wpOps P (⟨d, .rd (.pick (.t s) a b), none, x⟩ :: is) env H K) ((c = true → A') ∧ (c = false → B')) := fun g => wps_pk h (fun c => ht c (g.1 c)) (fun c => hf c (g.2 c))
theorem r_e0 {q : V → Heap → Prop} (k : Red (q (.tup []) H) G') : Red (kEnd [] q .ret env H) G' := red_by (fun k => f_ret0 k) k
theorem r_e0n {q : V → Heap → Prop} (k : Red (q (.tup []) H) G') : Red (kEnd [] q .normal env H) G' := red_by (fun k => f_nrm0 k) k
theorem r_e1 {n : Nat} {q : V → Heap → Prop} {v : V} (h : env n = v) (k : Red (q v H) G') : Red (kEnd [.t n] q .ret env H) G' := red_by (fun k => f_ret1 h k) k
theorem r_e2 {n m : Nat} {q : V → Heap → Prop} {v v' : V} (h : env n = v) (h' : env m = v') (k : Red (q (.tup [v, v']) H) G') : Red (kEnd [.t n, .t m] q .ret env H) G' := red_by (fun k => f_ret2 h h' k) k
theorem r_e3 {n m j : Nat} {q : V → Heap → Prop} {v v' v3 : V} (h : env n = v) (h' : env m = v') (h3 : env j = v3) (k : Red (q (.tup [v, v', v3]) H) G') : Red (kEnd [.t n, .t m, .t j] q .ret env H) G' := red_by (fun k => f_ret3 h h' h3 k) k
theorem r_e4 {n m j i : Nat} {q : V → Heap → Prop} {v v' v3 v4 : V} (h : env n = v) (h' : env m = v') (h3 : env j = v3) (h4 : env i = v4) (k : Red (q (.tup [v, v', v3, v4]) H) G') : Red (kEnd [.t n, .t m, .t j, .t i] q .ret env H) G' := red_by (fun k => f_ret4 h h' h3 h4 k) k
theorem r_ecn (hh : Has H L) {n sz id : Nat} {b : Bool} {cs : List V} {q : V → Heap → Prop} (ha : env n = .ptr id 0) (hi : At (id, .cells b cs) L) (hl : cs.length = sz + 1) (k : Red (q (.agg cs) H) G') : Red (kEnd [.cn n (sz + 1)] q .ret env H) G' := red_by (fun k => f_res (res_cons (res_cn hh ha hi hl) res_nil) k) k
theorem r_ec1 (hh : Has H L) {n id off : Nat} {b : Bool} {cs : List V} {v : V} {q : V → Heap → Prop} (ha : env n = .ptr id off) (hi : At (id, .cells b cs) L) (hv : cs[off]? = some v) (k : Red (q v H) G') : Red (kEnd [.c1 n] q .ret env H) G' := red_by (fun k => f_res (res_cons (res_c1 hh ha hi hv) res_nil) k) k
theorem r_ecnt (hh : Has H L) {n sz id m : Nat} {b : Bool} {cs : List V} {v : V} {q : V → Heap → Prop} (ha : env n = .ptr id 0) (hi : At (id, .cells b cs) L) (hl : cs.length = sz + 1) (hv : env m = v) (k : Red (q (.tup [.agg cs, v]) H) G') : Red (kEnd [.cn n (sz + 1), .t m] q .ret env H) G' := red_by (fun k => f_res (res_cons (res_cn hh ha hi hl) (res_cons (res_t hv) res_nil)) k) k
end

/-- THE WALK through straight code, and both ways of each condition. -/
theorem walk {G G' : Prop} (h : Red G G' := by
  repeat' (first
    | ((with_reducible apply r_seq))
    | ((with_reducible apply r_ops))
    | ((with_reducible apply r_nil))
    | ((with_reducible apply r_sn))
    | ((with_reducible apply r_gt); (case h => exact rfl))
    | ((with_reducible apply r_gf); (case h => exact rfl))
    | ((with_reducible apply r_gu); (case h => exact rfl))
    | ((with_reducible apply r_rda (r := .build _ _)); (case h => exact rfl); (case hl => (repeat (first | exact sp_nil rfl | ((with_reducible apply sp_cons); (case h => exact rfl); (case ha => ((conv => lhs; whnf) <;> exact rfl)))))))
    | ((with_reducible apply r_rda (r := .fieldn _ _ _)); (case h => exact rfl); (case hl => (repeat (first | exact sp_nil rfl | ((with_reducible apply sp_cons); (case h => exact rfl); (case ha => ((conv => lhs; whnf) <;> exact rfl)))))))
    | ((with_reducible apply r_lr1); (case hh => assumption); (case ha => exact rfl); (case hi => repeat (first | exact At.here | with_reducible apply At.there | with_reducible apply At.cns | with_reducible apply At.nl | with_reducible apply At.asc | with_reducible apply At.skip)); (case hs => exact fun _ => rfl); (case iα => infer_instance); (case hb => omega); (case hv => ((conv => lhs; whnf; arg 1; whnf) <;> exact rfl)))
    | ((with_reducible apply r_lr0); (case hh => assumption); (case ha => exact rfl); (case hi => repeat (first | exact At.here | with_reducible apply At.there | with_reducible apply At.cns | with_reducible apply At.nl | with_reducible apply At.asc | with_reducible apply At.skip)); (case hs => exact fun _ => rfl); (case iα => infer_instance); (case hb => omega); (case hv => ((conv => lhs; whnf; arg 1; whnf) <;> exact rfl)))
    | ((with_reducible apply r_ld); (case hh => assumption); (case ha => exact rfl); (case hi => repeat (first | exact At.here | with_reducible apply At.there | with_reducible apply At.cns | with_reducible apply At.nl | with_reducible apply At.asc | with_reducible apply At.skip)); (case hv => ((conv => lhs; whnf; arg 1; whnf) <;> exact rfl)))
    | ((with_reducible apply r_lra); (case hh => assumption); (case ha => exact rfl); (case hi => repeat (first | exact At.here | with_reducible apply At.there | with_reducible apply At.cns | with_reducible apply At.nl | with_reducible apply At.asc | with_reducible apply At.skip)); (case hs => exact fun _ => rfl); (case iα => infer_instance); (case hb => omega))
    | ((with_reducible apply r_lda); (case hh => assumption); (case ha => exact rfl); (case hi => repeat (first | exact At.here | with_reducible apply At.there | with_reducible apply At.cns | with_reducible apply At.nl | with_reducible apply At.asc | with_reducible apply At.skip)); (case hv => exact rfl))
    | ((with_reducible apply r_lrn); (case hh => assumption); (case ha => exact rfl); (case hi => repeat (first | exact At.here | with_reducible apply At.there | with_reducible apply At.cns | with_reducible apply At.nl | with_reducible apply At.asc | with_reducible apply At.skip)); (case hs => exact fun _ => rfl); (case iα => infer_instance); (case hb => omega); (case hm => exact rfl); (case hv => (repeat (first | exact sp_nil rfl | ((with_reducible apply sp_cons); (case h => exact rfl); (case ha => ((conv => lhs; whnf) <;> exact rfl)))))))
    | ((with_reducible apply r_ldn); (case hh => assumption); (case ha => exact rfl); (case hi => repeat (first | exact At.here | with_reducible apply At.there | with_reducible apply At.cns | with_reducible apply At.nl | with_reducible apply At.asc | with_reducible apply At.skip)); (case hv => exact rfl); (case hl => (repeat (first | exact sp_nil rfl | ((with_reducible apply sp_cons); (case h => exact rfl); (case ha => ((conv => lhs; whnf) <;> exact rfl)))))))
    | ((with_reducible apply r_ian); (case hx => exact rfl); (case hi => exact rfl); (case hb => omega))
    | ((with_reducible apply r_ia); (case hx => exact rfl); (case hi => exact rfl); (case hb => omega))
    | ((with_reducible apply r_iac); (case hx => exact rfl); (case hi => exact rfl); (case hb => omega))
    | ((with_reducible apply r_iaa); (case hx => exact rfl); (case hi => exact rfl); (case hb => omega))
    | ((with_reducible apply r_is); (case hx => exact rfl); (case hi => exact rfl); (case hb => omega))
    | ((with_reducible apply r_add); (case hy => exact rfl); (case hz => exact rfl); (case hb => omega))
    | ((with_reducible apply r_sub); (case hy => exact rfl); (case hz => exact rfl); (case hb => omega))
    | ((with_reducible apply r_eq); (case h => ((conv => lhs; whnf) <;> exact rfl)))
    | ((with_reducible apply r_ne); (case h => ((conv => lhs; whnf) <;> exact rfl)))
    | ((with_reducible apply r_cs00); (case hx => exact rfl))
    | ((with_reducible apply r_cs01); (case hx => exact rfl); (case hi => exact rfl); (case hb => omega))
    | ((with_reducible apply r_cs10); (case hx => exact rfl); (case hl => exact rfl); (case hb => omega))
    | ((with_reducible apply r_cs11); (case hx => exact rfl); (case hl => exact rfl); (case hi => exact rfl); (case hb => omega))
    | ((with_reducible apply r_cl00); (case hx => exact rfl))
    | ((with_reducible apply r_cl01); (case hx => exact rfl); (case hi => exact rfl); (case hb => omega))
    | ((with_reducible apply r_cl10); (case hx => exact rfl); (case hl => exact rfl); (case hb => omega))
    | ((with_reducible apply r_cl11); (case hx => exact rfl); (case hl => exact rfl); (case hi => exact rfl); (case hb => omega))
    | ((with_reducible apply r_rd); (case h => ((conv => lhs; whnf; arg 1; whnf) <;> exact rfl)))
    | ((with_reducible apply r_srow); (case hh => assumption); (case ha => exact rfl); (case hA => repeat (first | exact At.here | with_reducible apply At.there | with_reducible apply At.cns | with_reducible apply At.nl | with_reducible apply At.asc | with_reducible apply At.skip)); (case hy => ((conv => lhs; whnf) <;> exact rfl)); (case ht => exact rfl); (case hc => exact rfl); (case hs => exact fun _ => rfl); (case hb => omega); (case hu => repeat (first | exact Upd.here1 | with_reducible apply Upd.there | with_reducible apply Upd.cns | with_reducible apply Upd.nl | with_reducible apply Upd.asc | with_reducible apply Upd.skip)); intro _ _)
    | ((with_reducible apply r_store); (case hh => assumption); (case ha => exact rfl); (case hy => ((conv => lhs; whnf) <;> exact rfl)); (case ht => exact rfl); (case hc => ((dsimp only [V.cells]) <;> exact rfl)); (case hn => exact rfl); (case _hA => repeat (first | exact At.here | with_reducible apply At.there | with_reducible apply At.cns | with_reducible apply At.nl | with_reducible apply At.asc | with_reducible apply At.skip)); (case hb => exact rfl); (case hs => first | ((with_reducible apply splice_all); (case h => exact rfl)) | (repeat (first | exact sp_nil rfl | ((with_reducible apply sp_cons); (case h => exact rfl); (case ha => ((conv => lhs; whnf) <;> exact rfl)))))); (case hu => repeat (first | exact Upd.here1 | with_reducible apply Upd.there | with_reducible apply Upd.cns | with_reducible apply Upd.nl | with_reducible apply Upd.asc | with_reducible apply Upd.skip)); intro _ _)
    | ((with_reducible apply r_alloc); (case hh => assumption); intro _ _ _)
    | ((with_reducible apply r_box); (case hh => assumption); (case hy => ((conv => lhs; whnf) <;> exact rfl)); (case ht => exact rfl); (case hc => ((dsimp only [V.cells]) <;> exact rfl)); intro _ _ _)
    | ((with_reducible apply r_push); (case hh => assumption); (case ha => exact rfl); (case _hA => repeat (first | exact At.here | with_reducible apply At.there | with_reducible apply At.cns | with_reducible apply At.nl | with_reducible apply At.asc | with_reducible apply At.skip)); (case hn => exact fun _ => rfl); (case hy => ((conv => lhs; whnf) <;> exact rfl)); (case ht => exact rfl); (case hc => exact rfl); (case hs => exact fun _ => rfl); (case hz => exact rfl); (case hb => omega); (case hu => ((intro _) <;> (repeat (first | exact Upd.here1 | with_reducible apply Upd.there | with_reducible apply Upd.cns | with_reducible apply Upd.nl | with_reducible apply Upd.asc | with_reducible apply Upd.skip)))); intro _ _ _ _)
    | ((with_reducible apply r_lit1); (case hh => assumption); (case hy => ((conv => lhs; whnf) <;> exact rfl)); (case ht => exact rfl); (case hc => ((dsimp only [V.cells]) <;> exact rfl)); (case hn => exact rfl); (case hz => exact rfl); intro _ _ _)
    | ((with_reducible apply r_lit); (case hh => assumption); (case hf => exact rfl); (case hl => (repeat (first | exact sp_nil rfl | ((with_reducible apply sp_cons); (case h => exact rfl); (case ha => ((conv => lhs; whnf) <;> exact rfl)))))); intro _ _ _)
    | ((with_reducible apply r_mkMap); (case hh => assumption); intro _ _ _)
    | ((with_reducible apply r_ct); (case h => exact rfl))
    | ((with_reducible apply r_cf); (case h => exact rfl))
    | ((with_reducible apply r_skip))
    | ((with_reducible apply r_exit))
    | ((with_reducible apply r_ret))
    | ((with_reducible apply r_block))
    | ((with_reducible apply r_se))
    | ((with_reducible apply r_sr))
    | ((with_reducible apply r_bn))
    | ((with_reducible apply r_bx))
    | ((with_reducible apply r_be); (case h => exact rfl))
    | ((with_reducible apply r_br))
    | ((with_reducible apply r_ln))
    | ((with_reducible apply r_le))
    | ((with_reducible apply r_lr))
    | ((with_reducible apply r_e0))
    | ((with_reducible apply r_e0n))
    | ((with_reducible apply r_e1); (case h => ((conv => lhs; whnf) <;> exact rfl)))
    | ((with_reducible apply r_e2); (case h => ((conv => lhs; whnf) <;> exact rfl)); (case h' => ((conv => lhs; whnf) <;> exact rfl)))
    | ((with_reducible apply r_e3); (case h => ((conv => lhs; whnf) <;> exact rfl)); (case h' => ((conv => lhs; whnf) <;> exact rfl)); (case h3 => ((conv => lhs; whnf) <;> exact rfl)))
    | ((with_reducible apply r_e4); (case h => ((conv => lhs; whnf) <;> exact rfl)); (case h' => ((conv => lhs; whnf) <;> exact rfl)); (case h3 => ((conv => lhs; whnf) <;> exact rfl)); (case h4 => ((conv => lhs; whnf) <;> exact rfl)))
    | ((with_reducible apply r_ecn); (case hh => assumption); (case ha => exact rfl); (case hi => repeat (first | exact At.here | with_reducible apply At.there | with_reducible apply At.cns | with_reducible apply At.nl | with_reducible apply At.asc | with_reducible apply At.skip)); (case hl => exact rfl))
    | ((with_reducible apply r_ec1); (case hh => assumption); (case ha => exact rfl); (case hi => repeat (first | exact At.here | with_reducible apply At.there | with_reducible apply At.cns | with_reducible apply At.nl | with_reducible apply At.asc | with_reducible apply At.skip)); (case hv => ((conv => lhs; whnf; arg 1; whnf) <;> exact rfl)))
    | ((with_reducible apply r_ecnt); (case hh => assumption); (case ha => exact rfl); (case hi => repeat (first | exact At.here | with_reducible apply At.there | with_reducible apply At.cns | with_reducible apply At.nl | with_reducible apply At.asc | with_reducible apply At.skip)); (case hl => exact rfl); (case hv => ((conv => lhs; whnf) <;> exact rfl)))
    | ((with_reducible apply r_cd); (case h => exact rfl); any_goals intro _)
    | ((with_reducible apply r_cnd); (case h => exact rfl); any_goals intro _)
    | ((with_reducible apply r_ce); (case h => exact rfl); any_goals intro _)
    | ((with_reducible apply r_cn); (case h => exact rfl); any_goals intro _)
    | ((with_reducible apply r_cs); (case h => exact rfl); any_goals intro _)
    | ((with_reducible apply r_cns); (case h => exact rfl); any_goals intro _)
    | ((with_reducible apply r_c); (case h => exact rfl); any_goals intro _)
    | ((with_reducible apply r_gd); (case h => exact rfl); any_goals intro _)
    | ((with_reducible apply r_gnd); (case h => exact rfl); any_goals intro _)
    | ((with_reducible apply r_ge); (case h => exact rfl); any_goals intro _)
    | ((with_reducible apply r_gn); (case h => exact rfl); any_goals intro _)
    | ((with_reducible apply r_gs); (case h => exact rfl); any_goals intro _)
    | ((with_reducible apply r_gns); (case h => exact rfl); any_goals intro _)
    | ((with_reducible apply r_g); (case h => exact rfl); any_goals intro _)
    | ((with_reducible apply r_pd); (case h => exact rfl); any_goals intro _)
    | ((with_reducible apply r_pnd); (case h => exact rfl); any_goals intro _)
    | ((with_reducible apply r_pe); (case h => exact rfl); any_goals intro _)
    | ((with_reducible apply r_pn); (case h => exact rfl); any_goals intro _)
    | ((with_reducible apply r_ps); (case h => exact rfl); any_goals intro _)
    | ((with_reducible apply r_pns); (case h => exact rfl); any_goals intro _)
    | ((with_reducible apply r_p); (case h => exact rfl); any_goals intro _)
    | exact red_leaf)) (k : G') : G := h k
/-- .. without the conditions. -/
theorem walk1 {G G' : Prop} (h : Red G G' := by
  repeat' (first
    | ((with_reducible apply r_seq))
    | ((with_reducible apply r_ops))
    | ((with_reducible apply r_nil))
    | ((with_reducible apply r_sn))
    | ((with_reducible apply r_gt); (case h => exact rfl))
    | ((with_reducible apply r_gf); (case h => exact rfl))
    | ((with_reducible apply r_gu); (case h => exact rfl))
    | ((with_reducible apply r_rda (r := .build _ _)); (case h => exact rfl); (case hl => (repeat (first | exact sp_nil rfl | ((with_reducible apply sp_cons); (case h => exact rfl); (case ha => ((conv => lhs; whnf) <;> exact rfl)))))))
    | ((with_reducible apply r_rda (r := .fieldn _ _ _)); (case h => exact rfl); (case hl => (repeat (first | exact sp_nil rfl | ((with_reducible apply sp_cons); (case h => exact rfl); (case ha => ((conv => lhs; whnf) <;> exact rfl)))))))
    | ((with_reducible apply r_lr1); (case hh => assumption); (case ha => exact rfl); (case hi => repeat (first | exact At.here | with_reducible apply At.there | with_reducible apply At.cns | with_reducible apply At.nl | with_reducible apply At.asc | with_reducible apply At.skip)); (case hs => exact fun _ => rfl); (case iα => infer_instance); (case hb => omega); (case hv => ((conv => lhs; whnf; arg 1; whnf) <;> exact rfl)))
    | ((with_reducible apply r_lr0); (case hh => assumption); (case ha => exact rfl); (case hi => repeat (first | exact At.here | with_reducible apply At.there | with_reducible apply At.cns | with_reducible apply At.nl | with_reducible apply At.asc | with_reducible apply At.skip)); (case hs => exact fun _ => rfl); (case iα => infer_instance); (case hb => omega); (case hv => ((conv => lhs; whnf; arg 1; whnf) <;> exact rfl)))
    | ((with_reducible apply r_ld); (case hh => assumption); (case ha => exact rfl); (case hi => repeat (first | exact At.here | with_reducible apply At.there | with_reducible apply At.cns | with_reducible apply At.nl | with_reducible apply At.asc | with_reducible apply At.skip)); (case hv => ((conv => lhs; whnf; arg 1; whnf) <;> exact rfl)))
    | ((with_reducible apply r_lra); (case hh => assumption); (case ha => exact rfl); (case hi => repeat (first | exact At.here | with_reducible apply At.there | with_reducible apply At.cns | with_reducible apply At.nl | with_reducible apply At.asc | with_reducible apply At.skip)); (case hs => exact fun _ => rfl); (case iα => infer_instance); (case hb => omega))
    | ((with_reducible apply r_lda); (case hh => assumption); (case ha => exact rfl); (case hi => repeat (first | exact At.here | with_reducible apply At.there | with_reducible apply At.cns | with_reducible apply At.nl | with_reducible apply At.asc | with_reducible apply At.skip)); (case hv => exact rfl))
    | ((with_reducible apply r_lrn); (case hh => assumption); (case ha => exact rfl); (case hi => repeat (first | exact At.here | with_reducible apply At.there | with_reducible apply At.cns | with_reducible apply At.nl | with_reducible apply At.asc | with_reducible apply At.skip)); (case hs => exact fun _ => rfl); (case iα => infer_instance); (case hb => omega); (case hm => exact rfl); (case hv => (repeat (first | exact sp_nil rfl | ((with_reducible apply sp_cons); (case h => exact rfl); (case ha => ((conv => lhs; whnf) <;> exact rfl)))))))
    | ((with_reducible apply r_ldn); (case hh => assumption); (case ha => exact rfl); (case hi => repeat (first | exact At.here | with_reducible apply At.there | with_reducible apply At.cns | with_reducible apply At.nl | with_reducible apply At.asc | with_reducible apply At.skip)); (case hv => exact rfl); (case hl => (repeat (first | exact sp_nil rfl | ((with_reducible apply sp_cons); (case h => exact rfl); (case ha => ((conv => lhs; whnf) <;> exact rfl)))))))
    | ((with_reducible apply r_ian); (case hx => exact rfl); (case hi => exact rfl); (case hb => omega))
    | ((with_reducible apply r_ia); (case hx => exact rfl); (case hi => exact rfl); (case hb => omega))
    | ((with_reducible apply r_iac); (case hx => exact rfl); (case hi => exact rfl); (case hb => omega))
    | ((with_reducible apply r_iaa); (case hx => exact rfl); (case hi => exact rfl); (case hb => omega))
    | ((with_reducible apply r_is); (case hx => exact rfl); (case hi => exact rfl); (case hb => omega))
    | ((with_reducible apply r_add); (case hy => exact rfl); (case hz => exact rfl); (case hb => omega))
    | ((with_reducible apply r_sub); (case hy => exact rfl); (case hz => exact rfl); (case hb => omega))
    | ((with_reducible apply r_eq); (case h => ((conv => lhs; whnf) <;> exact rfl)))
    | ((with_reducible apply r_ne); (case h => ((conv => lhs; whnf) <;> exact rfl)))
    | ((with_reducible apply r_cs00); (case hx => exact rfl))
    | ((with_reducible apply r_cs01); (case hx => exact rfl); (case hi => exact rfl); (case hb => omega))
    | ((with_reducible apply r_cs10); (case hx => exact rfl); (case hl => exact rfl); (case hb => omega))
    | ((with_reducible apply r_cs11); (case hx => exact rfl); (case hl => exact rfl); (case hi => exact rfl); (case hb => omega))
    | ((with_reducible apply r_cl00); (case hx => exact rfl))
    | ((with_reducible apply r_cl01); (case hx => exact rfl); (case hi => exact rfl); (case hb => omega))
    | ((with_reducible apply r_cl10); (case hx => exact rfl); (case hl => exact rfl); (case hb => omega))
    | ((with_reducible apply r_cl11); (case hx => exact rfl); (case hl => exact rfl); (case hi => exact rfl); (case hb => omega))
    | ((with_reducible apply r_rd); (case h => ((conv => lhs; whnf; arg 1; whnf) <;> exact rfl)))
    | ((with_reducible apply r_srow); (case hh => assumption); (case ha => exact rfl); (case hA => repeat (first | exact At.here | with_reducible apply At.there | with_reducible apply At.cns | with_reducible apply At.nl | with_reducible apply At.asc | with_reducible apply At.skip)); (case hy => ((conv => lhs; whnf) <;> exact rfl)); (case ht => exact rfl); (case hc => exact rfl); (case hs => exact fun _ => rfl); (case hb => omega); (case hu => repeat (first | exact Upd.here1 | with_reducible apply Upd.there | with_reducible apply Upd.cns | with_reducible apply Upd.nl | with_reducible apply Upd.asc | with_reducible apply Upd.skip)); intro _ _)
    | ((with_reducible apply r_store); (case hh => assumption); (case ha => exact rfl); (case hy => ((conv => lhs; whnf) <;> exact rfl)); (case ht => exact rfl); (case hc => ((dsimp only [V.cells]) <;> exact rfl)); (case hn => exact rfl); (case _hA => repeat (first | exact At.here | with_reducible apply At.there | with_reducible apply At.cns | with_reducible apply At.nl | with_reducible apply At.asc | with_reducible apply At.skip)); (case hb => exact rfl); (case hs => first | ((with_reducible apply splice_all); (case h => exact rfl)) | (repeat (first | exact sp_nil rfl | ((with_reducible apply sp_cons); (case h => exact rfl); (case ha => ((conv => lhs; whnf) <;> exact rfl)))))); (case hu => repeat (first | exact Upd.here1 | with_reducible apply Upd.there | with_reducible apply Upd.cns | with_reducible apply Upd.nl | with_reducible apply Upd.asc | with_reducible apply Upd.skip)); intro _ _)
    | ((with_reducible apply r_alloc); (case hh => assumption); intro _ _ _)
    | ((with_reducible apply r_box); (case hh => assumption); (case hy => ((conv => lhs; whnf) <;> exact rfl)); (case ht => exact rfl); (case hc => ((dsimp only [V.cells]) <;> exact rfl)); intro _ _ _)
    | ((with_reducible apply r_push); (case hh => assumption); (case ha => exact rfl); (case _hA => repeat (first | exact At.here | with_reducible apply At.there | with_reducible apply At.cns | with_reducible apply At.nl | with_reducible apply At.asc | with_reducible apply At.skip)); (case hn => exact fun _ => rfl); (case hy => ((conv => lhs; whnf) <;> exact rfl)); (case ht => exact rfl); (case hc => exact rfl); (case hs => exact fun _ => rfl); (case hz => exact rfl); (case hb => omega); (case hu => ((intro _) <;> (repeat (first | exact Upd.here1 | with_reducible apply Upd.there | with_reducible apply Upd.cns | with_reducible apply Upd.nl | with_reducible apply Upd.asc | with_reducible apply Upd.skip)))); intro _ _ _ _)
    | ((with_reducible apply r_lit1); (case hh => assumption); (case hy => ((conv => lhs; whnf) <;> exact rfl)); (case ht => exact rfl); (case hc => ((dsimp only [V.cells]) <;> exact rfl)); (case hn => exact rfl); (case hz => exact rfl); intro _ _ _)
    | ((with_reducible apply r_lit); (case hh => assumption); (case hf => exact rfl); (case hl => (repeat (first | exact sp_nil rfl | ((with_reducible apply sp_cons); (case h => exact rfl); (case ha => ((conv => lhs; whnf) <;> exact rfl)))))); intro _ _ _)
    | ((with_reducible apply r_mkMap); (case hh => assumption); intro _ _ _)
    | ((with_reducible apply r_ct); (case h => exact rfl))
    | ((with_reducible apply r_cf); (case h => exact rfl))
    | ((with_reducible apply r_skip))
    | ((with_reducible apply r_exit))
    | ((with_reducible apply r_ret))
    | ((with_reducible apply r_block))
    | ((with_reducible apply r_se))
    | ((with_reducible apply r_sr))
    | ((with_reducible apply r_bn))
    | ((with_reducible apply r_bx))
    | ((with_reducible apply r_be); (case h => exact rfl))
    | ((with_reducible apply r_br))
    | ((with_reducible apply r_ln))
    | ((with_reducible apply r_le))
    | ((with_reducible apply r_lr))
    | ((with_reducible apply r_e0))
    | ((with_reducible apply r_e0n))
    | ((with_reducible apply r_e1); (case h => ((conv => lhs; whnf) <;> exact rfl)))
    | ((with_reducible apply r_e2); (case h => ((conv => lhs; whnf) <;> exact rfl)); (case h' => ((conv => lhs; whnf) <;> exact rfl)))
    | ((with_reducible apply r_e3); (case h => ((conv => lhs; whnf) <;> exact rfl)); (case h' => ((conv => lhs; whnf) <;> exact rfl)); (case h3 => ((conv => lhs; whnf) <;> exact rfl)))
    | ((with_reducible apply r_e4); (case h => ((conv => lhs; whnf) <;> exact rfl)); (case h' => ((conv => lhs; whnf) <;> exact rfl)); (case h3 => ((conv => lhs; whnf) <;> exact rfl)); (case h4 => ((conv => lhs; whnf) <;> exact rfl)))
    | ((with_reducible apply r_ecn); (case hh => assumption); (case ha => exact rfl); (case hi => repeat (first | exact At.here | with_reducible apply At.there | with_reducible apply At.cns | with_reducible apply At.nl | with_reducible apply At.asc | with_reducible apply At.skip)); (case hl => exact rfl))
    | ((with_reducible apply r_ec1); (case hh => assumption); (case ha => exact rfl); (case hi => repeat (first | exact At.here | with_reducible apply At.there | with_reducible apply At.cns | with_reducible apply At.nl | with_reducible apply At.asc | with_reducible apply At.skip)); (case hv => ((conv => lhs; whnf; arg 1; whnf) <;> exact rfl)))
    | ((with_reducible apply r_ecnt); (case hh => assumption); (case ha => exact rfl); (case hi => repeat (first | exact At.here | with_reducible apply At.there | with_reducible apply At.cns | with_reducible apply At.nl | with_reducible apply At.asc | with_reducible apply At.skip)); (case hl => exact rfl); (case hv => ((conv => lhs; whnf) <;> exact rfl)))
    | exact red_leaf)) (k : G') : G := h k

section
variable {P : Program} {env : Env} {H : Heap} {L N R : List Ob} {K : Env → Heap → Prop} {d : Option Nat} {x : Bool} {is : List I} {Q : V → List Ob → Prop}
/-- Calls, with what they need found by itself. -/
theorem callE {f : FuncId} {args : List X} {vs : List V} {v : V} (hs : CallsR P f vs N fun u => u = v) (k : wpOps P is (env.put d v) H K) (ha : args.map (X.ev env) = vs := by exact rfl) (hh : Has H L := by assumption) (ht : Tk N L R := by (repeat (first | exact Tk.nil | exact Rm.here | exact Rc.here | exact Rc.all | with_reducible apply Tk.cns | with_reducible apply Tk.nl | with_reducible apply Tk.asc | with_reducible apply Tk.cons | with_reducible apply Rm.there | with_reducible apply Rm.cns | with_reducible apply Rm.nl | with_reducible apply Rm.asc | with_reducible apply Rm.skip | with_reducible apply Tk.app | with_reducible apply Tk.one | with_reducible apply Rc.there | with_reducible apply Rc.cns | with_reducible apply Rc.nl | with_reducible apply Rc.asc | with_reducible apply Rc.skip))) :
    wpOps P (⟨d, .ef (.call f args), none, x⟩ :: is) env H K := wps_callE hs hh ht ha k
theorem callR {f : FuncId} {args : List X} {vs : List V} {φ : V → Prop} (hs : CallsR P f vs N φ) (k : ∀ v, φ v → wpOps P is (env.put d v) H K) (ha : args.map (X.ev env) = vs := by exact rfl) (hh : Has H L := by assumption) (ht : Tk N L R := by (repeat (first | exact Tk.nil | exact Rm.here | exact Rc.here | exact Rc.all | with_reducible apply Tk.cns | with_reducible apply Tk.nl | with_reducible apply Tk.asc | with_reducible apply Tk.cons | with_reducible apply Rm.there | with_reducible apply Rm.cns | with_reducible apply Rm.nl | with_reducible apply Rm.asc | with_reducible apply Rm.skip | with_reducible apply Tk.app | with_reducible apply Tk.one | with_reducible apply Rc.there | with_reducible apply Rc.cns | with_reducible apply Rc.nl | with_reducible apply Rc.asc | with_reducible apply Rc.skip))) :
    wpOps P (⟨d, .ef (.call f args), none, x⟩ :: is) env H K := wps_callR hs hh ht ha k
theorem callL {f : FuncId} {args : List X} {vs : List V} {φ : V → List Ob → Prop} (hs : CallsL P f vs N φ) (k : ∀ v L' H', φ v L' → Has H' (L' ++ R) → wpOps P is (env.put d v) H' K) (ha : args.map (X.ev env) = vs := by exact rfl) (hh : Has H L := by assumption) (ht : Tk N L R := by (repeat (first | exact Tk.nil | exact Rm.here | exact Rc.here | exact Rc.all | with_reducible apply Tk.cns | with_reducible apply Tk.nl | with_reducible apply Tk.asc | with_reducible apply Tk.cons | with_reducible apply Rm.there | with_reducible apply Rm.cns | with_reducible apply Rm.nl | with_reducible apply Rm.asc | with_reducible apply Rm.skip | with_reducible apply Tk.app | with_reducible apply Tk.one | with_reducible apply Rc.there | with_reducible apply Rc.cns | with_reducible apply Rc.nl | with_reducible apply Rc.asc | with_reducible apply Rc.skip))) :
    wpOps P (⟨d, .ef (.call f args), none, false⟩ :: is) env H K := wps_call hs hh ht ha k
theorem callN {f : FuncId} {args : List X} {vs : List V} {φ : V → List Ob → Prop} (hs : CallsN P f vs N φ) (k : ∀ v Lo H', φ v Lo → Has H' (Lo ++ L) → wpOps P is (env.put d v) H' K) (ha : args.map (X.ev env) = vs := by exact rfl) (hh : Has H L := by assumption) (ht : Tk N L R := by (repeat (first | exact Tk.nil | exact Rm.here | exact Rc.here | exact Rc.all | with_reducible apply Tk.cns | with_reducible apply Tk.nl | with_reducible apply Tk.asc | with_reducible apply Tk.cons | with_reducible apply Rm.there | with_reducible apply Rm.cns | with_reducible apply Rm.nl | with_reducible apply Rm.asc | with_reducible apply Rm.skip | with_reducible apply Tk.app | with_reducible apply Tk.one | with_reducible apply Rc.there | with_reducible apply Rc.cns | with_reducible apply Rc.nl | with_reducible apply Rc.asc | with_reducible apply Rc.skip))) :
    wpOps P (⟨d, .ef (.call f args), none, x⟩ :: is) env H K := wps_callN hs hh ht ha k
theorem vcallE {y : X} {f : FuncId} {cap : List V} {args : List X} {vs : List V} {v : V} (hs : CallsR P f vs N fun u => u = v) (k : wpOps P is (env.put d v) H K) (hy : y.ev env = .func f cap := by exact rfl) (ha : args.map (X.ev env) ++ cap = vs := by exact rfl) (hh : Has H L := by assumption) (ht : Tk N L R := by (repeat (first | exact Tk.nil | exact Rm.here | exact Rc.here | exact Rc.all | with_reducible apply Tk.cns | with_reducible apply Tk.nl | with_reducible apply Tk.asc | with_reducible apply Tk.cons | with_reducible apply Rm.there | with_reducible apply Rm.cns | with_reducible apply Rm.nl | with_reducible apply Rm.asc | with_reducible apply Rm.skip | with_reducible apply Tk.app | with_reducible apply Tk.one | with_reducible apply Rc.there | with_reducible apply Rc.cns | with_reducible apply Rc.nl | with_reducible apply Rc.asc | with_reducible apply Rc.skip))) :
    wpOps P (⟨d, .ef (.callv y args), none, x⟩ :: is) env H K := wps_vcallE hy hs hh ht ha k
/-- What a round of a loop leaves to the next one. -/
def Nx (sl : List Nat) (I : Nat → List V → List Ob → Prop) (B : Nat → Prop) (env : Env) (H : Heap) : Prop := ∃ i vs L, B i ∧ Wks (sl.map env) vs ∧ Has H L ∧ I i vs L
theorem Nx.intro {sl : List Nat} {I : Nat → List V → List Ob → Prop} {B : Nat → Prop} {i : Nat} (hi : B i) (hI : I i (sl.map env) N) (hh : Has H L := by assumption) (ht : Tk N L R := by (repeat (first | exact Tk.nil | exact Rm.here | exact Rc.here | exact Rc.all | with_reducible apply Tk.cns | with_reducible apply Tk.nl | with_reducible apply Tk.asc | with_reducible apply Tk.cons | with_reducible apply Rm.there | with_reducible apply Rm.cns | with_reducible apply Rm.nl | with_reducible apply Rm.asc | with_reducible apply Rm.skip | with_reducible apply Tk.app | with_reducible apply Tk.one | with_reducible apply Rc.there | with_reducible apply Rc.cns | with_reducible apply Rc.nl | with_reducible apply Rc.asc | with_reducible apply Rc.skip))) : Nx sl I B env H :=
  ⟨i, _, N, hi, Wks.refl _, hh.ord ht, hI⟩
theorem Nx.weak {sl : List Nat} {I : Nat → List V → List Ob → Prop} {B : Nat → Prop} {i : Nat} {vs : List V} (hi : B i) (hw : Wks (sl.map env) vs) (hI : I i vs N) (hh : Has H L := by assumption) (ht : Tk N L R := by (repeat (first | exact Tk.nil | exact Rm.here | exact Rc.here | exact Rc.all | with_reducible apply Tk.cns | with_reducible apply Tk.nl | with_reducible apply Tk.asc | with_reducible apply Tk.cons | with_reducible apply Rm.there | with_reducible apply Rm.cns | with_reducible apply Rm.nl | with_reducible apply Rm.asc | with_reducible apply Rm.skip | with_reducible apply Tk.app | with_reducible apply Tk.one | with_reducible apply Rc.there | with_reducible apply Rc.cns | with_reducible apply Rc.nl | with_reducible apply Rc.asc | with_reducible apply Rc.skip))) : Nx sl I B env H :=
  ⟨i, _, N, hi, hw, hh.ord ht, hI⟩
/-- A loop whose number falls. -/
theorem loopM {Q : Ex → Env → Heap → Prop} {a : C} (sl : List Nat) (I : Nat → List V → List Ob → Prop) (h0 : Nx sl I (fun _ => True) env H)
    (step : ∀ (n : Nat) (vs : List V) (L : List Ob) (e : Env) (H : Heap), I n vs L → Has H L → a.wp P (kLoop (Nx sl I (fun m => m < n)) Q) (puts sl vs e) H) : C.wp P (.loop a) Q env H := by
  obtain ⟨n, vs, L, _, h1, h2, h3⟩ := h0
  refine c_loop sl (fun n vs H => ∃ L, Has H L ∧ I n vs L) n ⟨vs, H, h1, HWk.refl H, L, h2, h3⟩ ?_
  rintro n vs e H ⟨L, hh, hi⟩
  refine C.mono ?_ (step n vs L e H hi hh)
  intro x env' H' hx
  cases x with
  | normal =>
    obtain ⟨e1, H1, g1, g2, m, vs', L', hm, g3, g4, g5⟩ := hx
    exact ⟨e1, H1, g1, g2, m, vs', H1, hm, g3, HWk.refl _, L', g4, g5⟩
  | exit j => exact hx
  | ret => exact hx
/-- A loop over 0, 1, .. N. -/
theorem loopN {Q : Ex → Env → Heap → Prop} {a : C} (sl : List Nat) (M : Nat) (I : Nat → List V → List Ob → Prop) (h0 : Nx sl I (fun i => i = 0) env H)
    (step : ∀ (i : Nat) (vs : List V) (L : List Ob) (e : Env) (H : Heap), i ≤ M → I i vs L → Has H L → a.wp P (kLoop (Nx sl I (fun k => k = i + 1 ∧ i < M)) Q) (puts sl vs e) H) : C.wp P (.loop a) Q env H := by
  refine loopM sl (fun n vs L => ∃ i, n = M - i ∧ i ≤ M ∧ I i vs L) ?_ ?_
  · obtain ⟨n, vs, L, rfl, h1, h2, h3⟩ := h0
    exact ⟨M, vs, L, trivial, h1, h2, 0, rfl, Nat.zero_le _, h3⟩
  · rintro n vs L e H ⟨i, rfl, hi, hI⟩ hh
    refine C.mono ?_ (step i vs L e H hi hI hh)
    intro x env' H' hx
    cases x with
    | normal =>
      obtain ⟨e1, H1, g1, g2, m, vs', L', ⟨rfl, hm⟩, g3, g4, g5⟩ := hx
      exact ⟨e1, H1, g1, g2, M - (i + 1), vs', L', by omega, g3, g4, i + 1, rfl, hm, g5⟩
    | exit j => exact hx
    | ret => exact hx
/-- The ways of a condition, or of a block, meet again. -/
theorem kcut {Q : Ex → Env → Heap → Prop} {c : C} {sl : List Nat} {I : List V → List Ob → Prop} (h2 : ∀ (vs : List V) (L : List Ob) (e : Env) (H : Heap), I vs L → Has H L → c.wp P Q (puts sl vs e) H) :
    ∀ x env H, kLoop (Nx sl (fun _ => I) (fun _ => True)) Q x env H → kSeq P c Q x env H := by
  intro x env' H' hx
  cases x with
  | normal =>
    obtain ⟨e1, H1, g1, g2, m, vs', L', hm, g3, g4, g5⟩ := hx
    exact C.wk (fun t => (g1 t).trans (puts_wk g3 t)) g2 (h2 vs' L' e1 H1 g5 g4)
  | exit j => exact hx
  | ret => exact hx
theorem kBlk_mono {Q Q' : Ex → Env → Heap → Prop} {id : Nat} (h : ∀ x env H, Q x env H → Q' x env H) : ∀ x env H, kBlk id Q x env H → kBlk id Q' x env H := by
  intro x env H hx
  cases x with
  | normal => exact h _ _ _ hx
  | exit j =>
    simp only [kBlk] at hx ⊢
    cases hb : Nat.beq j id with
    | true => rw [hb] at hx; exact h _ _ _ hx
    | false => rw [hb] at hx; exact h _ _ _ hx
  | ret => exact h _ _ _ hx
theorem cutK {Q : Ex → Env → Heap → Prop} {a c : C} (sl : List Nat) (I : List V → List Ob → Prop) (h1 : a.wp P (kLoop (Nx sl (fun _ => I) (fun _ => True)) Q) env H)
    (h2 : ∀ (vs : List V) (L : List Ob) (e : Env) (H : Heap), I vs L → Has H L → c.wp P Q (puts sl vs e) H) : a.wp P (kSeq P c Q) env H := C.mono (kcut h2) h1
theorem cutB {Q : Ex → Env → Heap → Prop} {a c : C} {id : Nat} (sl : List Nat) (I : List V → List Ob → Prop) (h1 : a.wp P (kBlk id (kLoop (Nx sl (fun _ => I) (fun _ => True)) Q)) env H)
    (h2 : ∀ (vs : List V) (L : List Ob) (e : Env) (H : Heap), I vs L → Has H L → c.wp P Q (puts sl vs e) H) : a.wp P (kBlk id (kSeq P c Q)) env H := C.mono (kBlk_mono (kcut h2)) h1
theorem Nx.here {sl : List Nat} {I : Nat → List V → List Ob → Prop} (hI : I 0 (sl.map env) N) (hh : Has H L := by assumption) (ht : Tk N L R := by (repeat (first | exact Tk.nil | exact Rm.here | exact Rc.here | exact Rc.all | with_reducible apply Tk.cns | with_reducible apply Tk.nl | with_reducible apply Tk.asc | with_reducible apply Tk.cons | with_reducible apply Rm.there | with_reducible apply Rm.cns | with_reducible apply Rm.nl | with_reducible apply Rm.asc | with_reducible apply Rm.skip | with_reducible apply Tk.app | with_reducible apply Tk.one | with_reducible apply Rc.there | with_reducible apply Rc.cns | with_reducible apply Rc.nl | with_reducible apply Rc.asc | with_reducible apply Rc.skip))) : Nx sl I (fun i => i = 0) env H :=
  Nx.intro (i := 0) rfl hI hh ht
theorem Nx.cut {sl : List Nat} {I : List V → List Ob → Prop} (hI : I (sl.map env) N) (hh : Has H L := by assumption) (ht : Tk N L R := by (repeat (first | exact Tk.nil | exact Rm.here | exact Rc.here | exact Rc.all | with_reducible apply Tk.cns | with_reducible apply Tk.nl | with_reducible apply Tk.asc | with_reducible apply Tk.cons | with_reducible apply Rm.there | with_reducible apply Rm.cns | with_reducible apply Rm.nl | with_reducible apply Rm.asc | with_reducible apply Rm.skip | with_reducible apply Tk.app | with_reducible apply Tk.one | with_reducible apply Rc.there | with_reducible apply Rc.cns | with_reducible apply Rc.nl | with_reducible apply Rc.asc | with_reducible apply Rc.skip))) : Nx sl (fun _ => I) (fun _ => True) env H :=
  Nx.intro (i := 0) trivial hI hh ht
theorem Nx.next {sl : List Nat} {I : Nat → List V → List Ob → Prop} {i M : Nat} (hi : i < M) (hI : I (i + 1) (sl.map env) N) (hh : Has H L := by assumption) (ht : Tk N L R := by (repeat (first | exact Tk.nil | exact Rm.here | exact Rc.here | exact Rc.all | with_reducible apply Tk.cns | with_reducible apply Tk.nl | with_reducible apply Tk.asc | with_reducible apply Tk.cons | with_reducible apply Rm.there | with_reducible apply Rm.cns | with_reducible apply Rm.nl | with_reducible apply Rm.asc | with_reducible apply Rm.skip | with_reducible apply Tk.app | with_reducible apply Tk.one | with_reducible apply Rc.there | with_reducible apply Rc.cns | with_reducible apply Rc.nl | with_reducible apply Rc.asc | with_reducible apply Rc.skip))) : Nx sl I (fun k => k = i + 1 ∧ i < M) env H :=
  Nx.intro (i := i + 1) ⟨rfl, hi⟩ hI hh ht
/-- .. that begins with empty rows which may be nil. -/
theorem Nx.hereW {sl : List Nat} {I : Nat → List V → List Ob → Prop} (vs : List V) (hI : I 0 vs N) (hw : Wks (sl.map env) vs := by repeat (first | exact Wks.nil | apply Wks.cons (Wk.refl _) | apply Wks.cons (Wk.nils _ _))) (hh : Has H L := by assumption) (ht : Tk N ((0, .cells true []) :: L) R := by (repeat (first | exact Tk.nil | exact Rm.here | exact Rc.here | exact Rc.all | with_reducible apply Tk.cns | with_reducible apply Tk.nl | with_reducible apply Tk.asc | with_reducible apply Tk.cons | with_reducible apply Rm.there | with_reducible apply Rm.cns | with_reducible apply Rm.nl | with_reducible apply Rm.asc | with_reducible apply Rm.skip | with_reducible apply Tk.app | with_reducible apply Tk.one | with_reducible apply Rc.there | with_reducible apply Rc.cns | with_reducible apply Rc.nl | with_reducible apply Rc.asc | with_reducible apply Rc.skip))) : Nx sl I (fun i => i = 0) env H :=
  ⟨0, vs, N, rfl, hw, (hh.ghost true).ord ht, hI⟩
/-- A function's end. -/
theorem done {v : V} (hq : Q v N) (hh : Has H L := by assumption) (ht : Tk N L R := by (repeat (first | exact Tk.nil | exact Rm.here | exact Rc.here | exact Rc.all | with_reducible apply Tk.cns | with_reducible apply Tk.nl | with_reducible apply Tk.asc | with_reducible apply Tk.cons | with_reducible apply Rm.there | with_reducible apply Rm.cns | with_reducible apply Rm.nl | with_reducible apply Rm.asc | with_reducible apply Rm.skip | with_reducible apply Tk.app | with_reducible apply Tk.one | with_reducible apply Rc.there | with_reducible apply Rc.cns | with_reducible apply Rc.nl | with_reducible apply Rc.asc | with_reducible apply Rc.skip))) : CEnds Q v H := CEnds.tk hh ht hq
theorem doneR {v : V} {φ : V → Prop} (hq : φ v) (hh : Has H L := by assumption) (ht : Tk N L R := by (repeat (first | exact Tk.nil | exact Rm.here | exact Rc.here | exact Rc.all | with_reducible apply Tk.cns | with_reducible apply Tk.nl | with_reducible apply Tk.asc | with_reducible apply Tk.cons | with_reducible apply Rm.there | with_reducible apply Rm.cns | with_reducible apply Rm.nl | with_reducible apply Rm.asc | with_reducible apply Rm.skip | with_reducible apply Tk.app | with_reducible apply Tk.one | with_reducible apply Rc.there | with_reducible apply Rc.cns | with_reducible apply Rc.nl | with_reducible apply Rc.asc | with_reducible apply Rc.skip))) : CEnds (fun v L' => φ v ∧ L' = N) v H := CEnds.tk hh ht ⟨hq, rfl⟩
theorem doneN {v : V} {φ : V → List Ob → Prop} {Lo : List Ob} (hq : φ v Lo) (hh : Has H L := by assumption) (ht : Tk (Lo ++ N) L R := by (repeat (first | exact Tk.nil | exact Rm.here | exact Rc.here | exact Rc.all | with_reducible apply Tk.cns | with_reducible apply Tk.nl | with_reducible apply Tk.asc | with_reducible apply Tk.cons | with_reducible apply Rm.there | with_reducible apply Rm.cns | with_reducible apply Rm.nl | with_reducible apply Rm.asc | with_reducible apply Rm.skip | with_reducible apply Tk.app | with_reducible apply Tk.one | with_reducible apply Rc.there | with_reducible apply Rc.cns | with_reducible apply Rc.nl | with_reducible apply Rc.asc | with_reducible apply Rc.skip))) : CEnds (fun v L' => ∃ Lo, φ v Lo ∧ L' = Lo ++ N) v H := CEnds.tk hh ht ⟨Lo, hq, rfl⟩
end
end Go.CM
