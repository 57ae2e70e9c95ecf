/-
  A program logic over the model's calls, part 2: operations without types, and what they do to abstract heaps.
-/
import Derived.Test.YtebhddpildfgcaaCmBase
namespace Go.CM

abbrev Env := Nat → V
def Env.put (env : Env) (d : Option Nat) (v : V) : Env :=
  match d with
  | none => env
  | some d => fun t => bif Nat.beq t d then v else env t

inductive X where
  | t (n : Nat)
  | k (v : V)
  deriving Inhabited

def X.ev (env : Env) : X → V
  | .t n => env n
  | .k v => v

def V.cells : V → List V
  | .agg cs => cs
  | v => [v]

def V.isTup : V → Bool
  | .tup _ => true
  | _ => false

def splice (cs : List V) (off : Nat) (vs : List V) : List V := cs.take off ++ vs ++ cs.drop (off + vs.length)

/-- The parts of a struct or an array laid over its zero value: a place, a size, a value. -/
def fillV (env : Env) : List V → List (Nat × Nat × X) → Option (List V)
  | cs, [] => some cs
  | cs, (off, sz, x) :: ps =>
    bif (x.ev env).isTup || !(Nat.beq (x.ev env).cells.length sz) || !(Nat.ble (off + sz) cs.length) then none else fillV env (splice cs off (x.ev env).cells) ps

/-- How two values of a type are held against each other. -/
inductive SK where
  | b | i | s
  deriving Inhabited

inductive EqC where
  | bool | ptr | slice | map | func
  | agg (ks : List SK)
  deriving Inhabited

def seq : SK → V → V → Option Bool
  | .b, .bool a, .bool b => some (a == b)
  | .i, .int k a, .int k' b => if k = k' then some (a == b) else none
  | .s, .str a, .str b => some (a == b)
  | _, _, _ => none

/-- Cell by cell; all must be held against each other. -/
def seqs : List SK → List V → List V → Option Bool
  | [], [], [] => some true
  | k :: ks, a :: as, b :: bs => match seq k a b, seqs ks as bs with
    | some x, some y => some (x && y)
    | _, _ => none
  | _, _, _ => none

def eqV : EqC → V → V → Option Bool
  | .bool, .bool a, .bool b => some (a == b)
  | .ptr, .nilp, .nilp => some true
  | .ptr, .nilp, .ptr _ _ => some false
  | .ptr, .ptr _ _, .nilp => some false
  | .slice, .nils, .nils => some true
  | .slice, .nils, .slice id _ len _ => bif Nat.beq id 0 && Nat.beq len 0 then none else some false
  | .slice, .slice id _ len _, .nils => bif Nat.beq id 0 && Nat.beq len 0 then none else some false
  | .map, .nilm, .nilm => some true
  | .map, .nilm, .map _ => some false
  | .map, .map _, .nilm => some false
  | .func, .nilf, .nilf => some true
  | .func, .nilf, .func _ _ => some false
  | .func, .func _ _, .nilf => some false
  | .agg ks, .agg a, .agg b => seqs ks a b
  | _, _, _ => none

def strLess (a b : List UInt8) : Bool := Op.bytesLess a b

def binV : BinOp → V → V → Option V
  | .shl, .int k a, .int _ b => if b < 0 then none else some (.int k (k.wrap (a * 2 ^ (min b.toNat k.bits))))
  | .shr, .int k a, .int _ b => if b < 0 then none else some (.int k (a.fdiv (2 ^ (min b.toNat k.bits))))
  | op, .int k a, .int k' b =>
    if k = k' then
      match op with
      | .add => some (.int k (k.wrap (a + b)))
      | .sub => some (.int k (k.wrap (a - b)))
      | .mul => some (.int k (k.wrap (a * b)))
      | .quo => if b = 0 then none else some (.int k (k.wrap (a.tdiv b)))
      | .rem => if b = 0 then none else some (.int k (a.tmod b))
      | .and => some (.int k (k.wrap (BitVec.ofInt k.bits a &&& BitVec.ofInt k.bits b).toNat))
      | .or => some (.int k (k.wrap (BitVec.ofInt k.bits a ||| BitVec.ofInt k.bits b).toNat))
      | .xor => some (.int k (k.wrap (BitVec.ofInt k.bits a ^^^ BitVec.ofInt k.bits b).toNat))
      | .andNot => some (.int k (k.wrap (BitVec.ofInt k.bits a &&& ~~~ BitVec.ofInt k.bits b).toNat))
      | .eql => some (.bool (a == b))
      | .neq => some (.bool (a != b))
      | .lss => some (.bool (decide (a < b)))
      | .leq => some (.bool (decide (a ≤ b)))
      | .gtr => some (.bool (decide (b < a)))
      | .geq => some (.bool (decide (b ≤ a)))
      | _ => none
    else none
  | .add, .str a, .str b => if ((a.length + b.length : Nat) : Int) > IntKind.i64.max then none else some (.str (a ++ b))
  | .eql, .str a, .str b => some (.bool (a == b))
  | .neq, .str a, .str b => some (.bool (!(a == b)))
  | .lss, .str a, .str b => some (.bool (strLess a b))
  | .leq, .str a, .str b => some (.bool (strLess a b || a == b))
  | .gtr, .str a, .str b => some (.bool (!(strLess a b || a == b)))
  | .geq, .str a, .str b => some (.bool (!strLess a b))
  | _, _, _ => none

def unV : UnOp → V → Option V
  | .neg, .int k n => some (.int k (k.wrap (0 - n)))
  | .xor, .int k n => some (.int k (k.wrap (BitVec.ofInt k.bits (if k.signed then -1 else k.max) ^^^ BitVec.ofInt k.bits n).toNat))
  | .not, .bool b => some (.bool !b)
  | _, _ => none

def getCells (cs : List V) (off n : Nat) : Option (List V) := bif Nat.ble (off + n) cs.length then some ((cs.drop off).take n) else none

def boundV (v : Option V) (dflt y : Nat) : Option Nat :=
  match v with
  | none => some dflt
  | some (.int _ i) => if 0 ≤ i ∧ i ≤ y then some i.toNat else none
  | _ => none

def minV : V → V → Option V
  | .int k x, .int _ y => some (.int k (if y < x then y else x))
  | _, _ => none
def maxV : V → V → Option V
  | .int k x, .int _ y => some (.int k (if x < y then y else x))
  | _, _ => none
def foldV (f : V → V → Option V) : V → List V → Option V
  | x, [] => some x
  | x, y :: ys => match f x y with
    | some z => foldV f z ys
    | none => none

/-- A key's type: a struct?; the kinds of its cells. -/
abbrev KT := Bool × List SK
def eqKey (kt : KT) (a b : V) : Option Bool :=
  match kt.1, a, b with
  | true, .agg as, .agg bs => seqs kt.2 as bs
  | false, a, b => seqs kt.2 [a] [b]
  | _, _, _ => none

/-- A key fits its type. -/
def keyFits (kt : KT) (k : V) : Bool :=
  match kt.1, k with
  | true, .agg cs => Nat.beq cs.length kt.2.length
  | true, _ => false
  | false, _ => Nat.beq kt.2.length 1

/-- The place of a key in a map's entries. -/
def findI (kt : KT) (k : V) : List (V × V) → Option (Option Nat)
  | [] => bif keyFits kt k then some none else none
  | e :: es => match eqKey kt k e.1 with
    | some true => some (some 0)
    | some false => match findI kt k es with
      | some (some i) => some (some (i + 1))
      | r => r
    | none => none

/-- What only reads: no object turns, none is new. -/
inductive R where
  | mov (x : X)
  | pick (c a b : X)
  | build (z : List V) (ps : List (Nat × Nat × X))
  | load1 (a : X)
  | loadn (n : Nat) (a : X)
  | nilck (x : X)
  | bin (op : BinOp) (x y : X)
  | eq (c : EqC) (neg : Bool) (x y : X)
  | un (op : UnOp) (x : X)
  | toInt (k : IntKind) (x : X)
  | same (x : X)
  | b2s (x : X)
  | field1 (off : Nat) (x : X)
  | fieldn (off n : Nat) (x : X)
  | faddr (off : Nat) (x : X)
  | iaddrS (esz : Nat) (x i : X)
  | iaddrA (len esz : Nat) (x i : X)
  | idxStr (x i : X)
  | idxArr1 (len : Nat) (x i : X)
  | cutStr (x : X) (lo hi : Option X)
  | cutSl (esz : Nat) (x : X) (lo hi : Option X)
  | cutSl3 (esz : Nat) (x : X) (lo hi : Option X) (mx : X)
  | capSl (x : X)
  | ext (x : X) (i : Nat)
  | lenStr (x : X)
  | lenSl (x : X)
  | lenK (n : Nat)
  | lenMap (x : X)
  | mn (x : X) (xs : List X)
  | mx (x : X) (xs : List X)
  | lookup (kt : KT) (z : V) (ok : Bool) (m k : X)
  | mkIface (t : TypeId) (x : X)
  | asrt (t : TypeId) (x : X)
  | clo (f : FuncId) (cap : List X)
  deriving Inhabited

/-- Does it look into the heap? -/
def R.reads : R → Bool
  | .load1 _ | .loadn _ _ | .b2s _ | .lookup .. | .lenMap _ => true
  | _ => false

def R.ev (env : Env) (H : Heap) : R → Option V
  | .mov x => some (x.ev env)
  | .pick c a b => match c.ev env with
    | .bool true => some (a.ev env)
    | .bool false => some (b.ev env)
    | _ => none
  | .build z ps => match fillV env z ps with
    | some cs => some (.agg cs)
    | none => none
  | .load1 a => match a.ev env with
    | .ptr id off => match H id with
      | some (.cells _ cs) => cs[off]?
      | _ => none
    | _ => none
  | .loadn n a => match a.ev env with
    | .ptr id off => match H id with
      | some (.cells _ cs) => match getCells cs off n with
        | some vs => some (.agg vs)
        | none => none
      | _ => none
    | _ => none
  | .nilck x => match x.ev env with
    | .nilp => none
    | .nili => none
    | .nilf => none
    | v => some v
  | .bin op x y => binV op (x.ev env) (y.ev env)
  | .eq c neg x y => match eqV c (x.ev env) (y.ev env) with
    | some b => some (.bool (bif neg then !b else b))
    | none => none
  | .un op x => unV op (x.ev env)
  | .toInt k x => match x.ev env with
    | .int _ n => some (.int k (k.wrap n))
    | _ => none
  | .same x => match x.ev env with
    | .str s => some (.str s)
    | _ => none
  | .b2s x => match x.ev env with
    | .nils => some (.str [])
    | .slice id off len _ => bif Nat.beq len 0 then some (.str []) else match H id with
      | some (.cells _ cs) => match getCells cs off len with
        | some vs => match vs.mapM (fun v => match v with | .int .u8 n => some (UInt8.ofNat n.toNat) | _ => none) with
          | some bs => some (.str bs)
          | none => none
        | none => none
      | _ => none
    | _ => none
  | .field1 off x => match x.ev env with
    | .agg cs => cs[off]?
    | _ => none
  | .fieldn off n x => match x.ev env with
    | .agg cs => match getCells cs off n with
      | some vs => some (.agg vs)
      | none => none
    | _ => none
  | .faddr off x => match x.ev env with
    | .ptr id o => some (.ptr id (o + off))
    | _ => none
  | .iaddrS esz x i => match x.ev env, i.ev env with
    | .slice id off len esz', .int _ n => if 0 ≤ n ∧ n < (len : Int) ∧ esz' = esz then some (.ptr id (off + n.toNat * esz)) else none
    | _, _ => none
  | .iaddrA len esz x i => match x.ev env, i.ev env with
    | .ptr id off, .int _ n => if 0 ≤ n ∧ n < (len : Int) then some (.ptr id (off + n.toNat * esz)) else none
    | _, _ => none
  | .idxStr x i => match x.ev env, i.ev env with
    | .str s, .int _ n => if 0 ≤ n then match s[n.toNat]? with
        | some b => some (.int .u8 b.toNat)
        | none => none
      else none
    | _, _ => none
  | .idxArr1 len x i => match x.ev env, i.ev env with
    | .agg cs, .int _ n => if 0 ≤ n ∧ n < (len : Int) then cs[n.toNat]? else none
    | _, _ => none
  | .cutStr x lo hi => match x.ev env with
    | .str s => match boundV (hi.map (X.ev env)) s.length s.length with
      | some h => match boundV (lo.map (X.ev env)) 0 h with
        | some l => some (.str ((s.take h).drop l))
        | none => none
      | none => none
    | _ => none
  | .cutSl esz x lo hi => match x.ev env with
    | .slice id off len esz' => match boundV (hi.map (X.ev env)) len len with
      | some h => match boundV (lo.map (X.ev env)) 0 h with
        | some l => if esz' = esz then some (.slice id (off + l * esz) (h - l) esz) else none
        | none => none
      | none => none
    | .nils => match boundV (hi.map (X.ev env)) 0 0 with
      | some h => match boundV (lo.map (X.ev env)) 0 h with
        | some _ => some .nils
        | none => none
      | none => none
    | .sliceC id off len cap esz' => match boundV (hi.map (X.ev env)) len cap with
      | some h => match boundV (lo.map (X.ev env)) 0 h with
        | some l => if esz' = esz then some (.sliceC id (off + l * esz) (h - l) (cap - l) esz) else none
        | none => none
      | none => none
    | _ => none
  | .cutSl3 esz x lo hi top => match x.ev env with
    | .slice id off len esz' => match boundV (some (top.ev env)) 0 len with
      | some m => match boundV (hi.map (X.ev env)) len m, hi with
        | some h, some _ => match boundV (lo.map (X.ev env)) 0 h with
          | some l => if esz' = esz then some (.sliceC id (off + l * esz) (h - l) (m - l) esz) else none
          | none => none
        | _, _ => none
      | none => none
    | .sliceC id off len cap esz' => match boundV (some (top.ev env)) 0 cap with
      | some m => match boundV (hi.map (X.ev env)) len m, hi with
        | some h, some _ => match boundV (lo.map (X.ev env)) 0 h with
          | some l => if esz' = esz then some (.sliceC id (off + l * esz) (h - l) (m - l) esz) else none
          | none => none
        | _, _ => none
      | none => none
    | _ => none
  | .capSl x => match x.ev env with
    | .sliceC _ _ _ cap _ => some (.int .i64 cap)
    | .nils => some (.int .i64 0)
    | _ => none
  | .ext x i => match x.ev env with
    | .tup vs => vs[i]?
    | _ => none
  | .lenStr x => match x.ev env with
    | .str s => some (.int .i64 s.length)
    | _ => none
  | .lenSl x => match x.ev env with
    | .slice _ _ len _ => some (.int .i64 len)
    | .sliceC _ _ len _ _ => some (.int .i64 len)
    | .nils => some (.int .i64 0)
    | _ => none
  | .lenK n => some (.int .i64 n)
  | .lenMap x => match x.ev env with
    | .nilm => some (.int .i64 0)
    | .map id => match H id with
      | some (.map es) => some (.int .i64 es.length)
      | _ => none
    | _ => none
  | .mn x xs => foldV minV (x.ev env) (xs.map (X.ev env))
  | .mx x xs => foldV maxV (x.ev env) (xs.map (X.ev env))
  | .lookup kt z ok m k => match m.ev env with
    | .nilm => bif keyFits kt (k.ev env) then some (bif ok then .tup [z, .bool false] else z) else none
    | .map id => match H id with
      | some (.map es) => match findI kt (k.ev env) es with
        | some (some i) => match es[i]? with
          | some e => some (bif ok then .tup [e.2, .bool true] else e.2)
          | none => none
        | some none => some (bif ok then .tup [z, .bool false] else z)
        | none => none
      | _ => none
    | _ => none
  | .mkIface t x => some (.iface t (x.ev env))
  | .asrt t x => match x.ev env with
    | .iface t' v => if t' = t then some v else none
    | _ => none
  | .clo f cap => some (.func f (cap.map (X.ev env)))

/-- The cells that are appended. -/
def srcCells (H : Heap) (esz : Nat) : V → Option (Nat × List V)
  | .nils => some (0, [])
  | .slice id off len esz' => bif Nat.beq len 0 then some (0, []) else match H id with
    | some (.cells _ cs) => if esz' = esz then match getCells cs off (len * esz) with
        | some vs => some (len, vs)
        | none => none
      else none
    | _ => none
  | .sliceC id off len _ esz' => bif Nat.beq len 0 then some (0, []) else match H id with
    | some (.cells _ cs) => if esz' = esz then match getCells cs off (len * esz) with
        | some vs => some (len, vs)
        | none => none
      else none
    | _ => none
  | .str s => if esz = 1 then some (s.length, s.map fun b => .int .u8 b.toNat) else none
  | _ => none

/-- How many elements there are to copy, and the cells of the first so many. -/
def srcTake (H : Heap) (esz : Nat) (k : Nat) : V → Option (Nat × List V)
  | .nils => some (0, [])
  | .slice id off len esz' => bif Nat.beq (min len k) 0 then some (len, []) else match H id with
    | some (.cells _ cs) => if esz' = esz then match getCells cs off (min len k * esz) with
        | some vs => some (len, vs)
        | none => none
      else none
    | _ => none
  | .sliceC id off len _ esz' => bif Nat.beq (min len k) 0 then some (len, []) else match H id with
    | some (.cells _ cs) => if esz' = esz then match getCells cs off (min len k * esz) with
        | some vs => some (len, vs)
        | none => none
      else none
    | _ => none
  | .str s => if esz = 1 then some (s.length, (s.take k).map fun b => .int .u8 b.toNat) else none
  | _ => none

def rep (z : List V) : Nat → List V
  | 0 => []
  | n + 1 => z ++ rep z n

/-- An entry put in, or in place of another one; one out. -/
def putE (k v : V) (es : List (V × V)) : Option Nat → List (V × V)
  | some i => es.set i (k, v)
  | none => es ++ [(k, v)]
def delE (es : List (V × V)) : Option Nat → List (V × V)
  | some i => es.eraseIdx i
  | none => es

/-- What a method's name is at a type. -/
def Meth (P : Program) (H : Heap) (t : TypeId) (name : String) (v : V) (f : FuncId) (r : V) : Prop :=
  ∀ (ι : Pl) (w : World) (u : Value), Rel ι H w → VR ι w v u → ∃ x, (Go.method (P.types.size + Made.depth) t u name).run P w = .ok (f, x) w ∧ VR ι w r x

/-- A function with a body, to be entered. -/
def Enters (P : Program) (f : FuncId) : Prop := ∃ fn, P.funcs[f]? = some fn ∧ (fn.name == "runtime.NumGoroutine") = false ∧ fn.body.isNone = false

/-- A call, said of abstract values and heaps. -/
def CallsC (P : Program) (f : FuncId) (args : List V) (H : Heap) (Q : V → Heap → Prop) : Prop :=
  Enters P f ∧ ∀ (ι : Pl) (w : World) (us : List Value), Rel ι H w → VRs ι w args us →
    Calls P f ⟨us⟩ w fun e w' => ∃ (ι' : Pl) (H' : Heap) (v : V) (u : Value), e = .returned u ∧ VR ι' w' v u ∧ Rel ι' H' w' ∧ Ext ι H w ι' H' w' ∧ Q v H'

theorem CallsC.mono {P : Program} {f : FuncId} {args : List V} {H : Heap} {Q Q' : V → Heap → Prop} (h : CallsC P f args H Q) (hq : ∀ v H', Q v H' → Q' v H') : CallsC P f args H Q' :=
  ⟨h.1, fun ι w us hr hv => (h.2 ι w us hr hv).mono fun _ _ ⟨ι', H', v, u, a, b, c, d, e⟩ => ⟨ι', H', v, u, a, b, c, d, hq _ _ e⟩⟩

/-- A function without a body that comes to a value at once, and turns nothing. -/
def ExtC (P : Program) (f : FuncId) (args : List V) (H : Heap) (Q : V → Heap → Prop) : Prop :=
  ∃ v, (∀ (ι : Pl) (w : World) (us : List Value), Rel ι H w → VRs ι w args us → ∃ u, (callFunc f ⟨us⟩).run P w = .ok (.value u) w ∧ VR ι w v u) ∧ Q v H
theorem ExtC.mono {P : Program} {f : FuncId} {args : List V} {H : Heap} {Q Q' : V → Heap → Prop} (h : ExtC P f args H Q) (hq : ∀ v H', Q v H' → Q' v H') : ExtC P f args H Q' := by
  obtain ⟨v, h1, h2⟩ := h
  exact ⟨v, h1, hq _ _ h2⟩

/-- A round of a loop over a function: what is handed to it, what it hands back. -/
def YieldC (P : Program) (l : Nat) (args : List V) (H : Heap) (Q : V → Heap → Prop) : Prop :=
  ∀ (ι : Pl) (w : World) (us : List Value) (b o : Nat), Rel ι H w → VRs ι w args us → ι l = some (b, o) →
    ∃ (f : FuncId) (tmps : Array Value) (as bd : Code), (Instr.yield b ⟨us⟩).run P w = .ok (.round b f tmps as bd) w ∧
      RoundIn Fence.wide 0 P b f tmps as bd w fun e w' => ∃ (ι' : Pl) (H' : Heap) (v : V) (u : Value), e = .returned u ∧ VR ι' w' v u ∧ Rel ι' H' w' ∧ Ext ι H w ι' H' w' ∧ Q v H'
theorem YieldC.mono {P : Program} {l : Nat} {args : List V} {H : Heap} {Q Q' : V → Heap → Prop} (h : YieldC P l args H Q) (hq : ∀ v H', Q v H' → Q' v H') : YieldC P l args H Q' := by
  intro ι w us b o hr hv hl
  obtain ⟨f, tmps, as, bd, h1, h2⟩ := h ι w us b o hr hv hl
  exact ⟨f, tmps, as, bd, h1, h2.mono fun _ _ ⟨ι', H', v, u, a, b, c, d, e⟩ => ⟨ι', H', v, u, a, b, c, d, hq _ _ e⟩⟩

/-- What writes, makes, or calls. -/
inductive E where
  | rangeM (m : X)
  | nextM (x : X)
  | entryM (x : X)
  | alloc (z : List V)
  | box (x : X)
  | lit (esz len : Nat) (z : List V) (ps : List (Nat × Nat × X))
  | store (n : Nat) (a v : X)
  | app (esz bytes : Nat) (d s : X)
  | mkSl (esz bytes : Nat) (z : List V) (l c : X)
  | mkMap
  | put (kt : KT) (m k v : X)
  | del (kt : KT) (m k : X)
  | call (f : FuncId) (args : List X)
  | callv (x : X) (args : List X)
  | inv (x : X) (name : String) (args : List X)
  | stop
  | ment (kt : KT) (z : V) (m k : X)
  | mset (m s v : X)
  | clr (esz : Nat) (z : List V) (x : X)
  | appz (esz bytes : Nat) (z : List V) (d x : X)
  | copy (esz : Nat) (d s : X)
  deriving Inhabited

def fresh (H : Heap) (o : HObj) (K : Nat → Heap → Prop) : Prop := ∀ id, id ≠ 0 → H id = none → K id (H.set id o)

def E.wp (P : Program) (env : Env) (H : Heap) (K : V → Heap → Prop) : E → Prop
  | .alloc z => fresh H (.cells true z) fun id H' => K (.ptr id 0) H'
  | .box x => (x.ev env).isTup = false ∧ fresh H (.cells true (x.ev env).cells) fun id H' => K (.ptr id 0) H'
  | .lit esz len z ps => ∃ cs, fillV env z ps = some cs ∧ fresh H (.cells true cs) fun id H' => K (.slice id 0 len esz) H'
  | .store n a v => ∃ id off cs, a.ev env = .ptr id off ∧ H id = some (.cells true cs) ∧ (v.ev env).isTup = false ∧ (v.ev env).cells.length = n ∧ off + n ≤ cs.length ∧
      K V.undef (H.set id (.cells true (splice cs off (v.ev env).cells)))
  | .app esz bytes d s => ∃ m vs, srcCells H esz (s.ev env) = some (m, vs) ∧
      ((d.ev env = .nils ∧ m * bytes ≤ 140737488355328 ∧ (bif Nat.beq m 0 then K .nils H else fresh H (.cells true vs) fun id H' => K (.slice id 0 m esz) H')) ∨
       (∃ off e, d.ev env = .slice 0 off 0 e ∧ m * bytes ≤ 140737488355328 ∧ (bif Nat.beq m 0 then K (.slice 0 0 0 esz) H else fresh H (.cells true vs) fun id H' => K (.slice id 0 m esz) H')) ∨
       (∃ id off len cs, d.ev env = .slice id off len esz ∧ H id = some (.cells true cs) ∧ off + len * esz ≤ cs.length ∧ (len + m) * bytes ≤ 140737488355328 ∧
          fresh (H.del id) (.cells true ((cs.drop off).take (len * esz) ++ vs)) fun id' H' => K (.slice id' 0 (len + m) esz) H') ∨
       (∃ id off len cap cs, d.ev env = .sliceC id off len cap esz ∧ H id = some (.cells true cs) ∧ off + len * esz ≤ cs.length ∧ len + m ≤ cap ∧
          K (.sliceC id off (len + m) cap esz) (H.set id (.cells true (splice cs (off + len * esz) vs)))) ∨
       (∃ id off len cap cs, d.ev env = .sliceC id off len cap esz ∧ H id = some (.cells true cs) ∧ off + len * esz ≤ cs.length ∧ cap < len + m ∧ (len + m) * bytes ≤ 140737488355328 ∧
          fresh H (.cells true ((cs.drop off).take (len * esz) ++ vs)) fun id' H' => K (.slice id' 0 (len + m) esz) H'))
  | .appz esz bytes z d x => ∃ kx n id off len cap cs, x.ev env = .int kx n ∧ 0 ≤ n ∧ d.ev env = .sliceC id off len cap esz ∧ H id = some (.cells true cs) ∧ off + len * esz ≤ cs.length ∧ cap < len + n.toNat ∧ (len + n.toNat) * bytes ≤ 140737488355328 ∧
      fresh H (.cells true ((cs.drop off).take (len * esz) ++ rep z n.toNat)) fun id' H' => K (.slice id' 0 (len + n.toNat) esz) H'
  | .copy esz d s => (∃ m vs, (d.ev env = .nils ∨ ∃ id off e, d.ev env = .slice id off 0 e) ∧ srcTake H esz 0 (s.ev env) = some (m, vs) ∧ K (.int .i64 0) H) ∨
       ∃ id off len cs m vs, (d.ev env = .slice id off len esz ∨ ∃ cap, d.ev env = .sliceC id off len cap esz) ∧ srcTake H esz len (s.ev env) = some (m, vs) ∧ H id = some (.cells true cs) ∧ off ≤ cs.length ∧
         K (.int .i64 (min m len : Nat)) (H.set id (.cells true (splice cs off vs)))
  | .mkSl esz bytes z l c => ∃ kl nl kc nc, l.ev env = .int kl nl ∧ c.ev env = .int kc nc ∧ 0 ≤ nl ∧ nl ≤ nc ∧ nc ≤ 140737488355328 ∧ nc * bytes ≤ 140737488355328 ∧
      fresh H (.cells true (rep z nc.toNat)) fun id H' => K (.slice id 0 nl.toNat esz) H'
  | .mkMap => fresh H (.map []) fun id H' => K (.map id) H'
  | .put kt m k v => ∃ id es r, m.ev env = .map id ∧ H id = some (.map es) ∧ (v.ev env).isTup = false ∧ findI kt (k.ev env) es = some r ∧ K V.undef (H.set id (.map (putE (k.ev env) (v.ev env) es r)))
  | .del kt m k => (m.ev env = .nilm ∧ keyFits kt (k.ev env) = true ∧ K V.undef H) ∨
      ∃ id es r, m.ev env = .map id ∧ H id = some (.map es) ∧ findI kt (k.ev env) es = some r ∧ K V.undef (H.set id (.map (delE es r)))
  | .call f args => CallsC P f (args.map (X.ev env)) H K ∨ ExtC P f (args.map (X.ev env)) H K
  | .callv x args => (∃ f cap, x.ev env = .func f cap ∧ CallsC P f (args.map (X.ev env) ++ cap) H K) ∨ ∃ l, x.ev env = .yield l ∧ YieldC P l (args.map (X.ev env)) H K
  | .rangeM m => ∃ id es, m.ev env = .map id ∧ H id = some (.map es) ∧ ∀ (bs : List Nat) (clk : Nat), bs.length = es.length → bs.Nodup → (∀ b ∈ bs, b < clk) →
      fresh (H.set id (.mapS es bs clk)) (.miter id clk [] clk) fun it H' => K (.ptr it 0) H'
  | .nextM x => ∃ (it mid : Nat) (es : List (V × V)) (bs : List Nat) (clk : Nat) (seen : List Nat), x.ev env = .ptr it 0 ∧ H it = some (.miter mid clk seen clk) ∧ H mid = some (.mapS es bs clk) ∧
      ((∀ b ∈ bs, b ∈ seen) → K (.tup [.bool false]) H) ∧ ∀ (i : Nat) (e : V × V) (b : Nat), es[i]? = some e → bs[i]? = some b → b ∉ seen → K (.tup [.bool true, e.1, e.2]) (H.set it (.miter mid clk (seen ++ [b]) clk))
  | .entryM x => ∃ (it mid : Nat) (es : List (V × V)) (bs : List Nat) (clk : Nat) (seen : List Nat) (i : Nat) (e : V × V) (b : Nat), x.ev env = .ptr it 0 ∧ H it = some (.miter mid clk (seen ++ [b]) clk) ∧ H mid = some (.mapS es bs clk) ∧ es[i]? = some e ∧ bs[i]? = some b ∧ K (.tup [e.1, e.2]) H
  | .stop => False
  | .ment kt z m k => ∃ id es r, m.ev env = .map id ∧ H id = some (.map es) ∧ z.isTup = false ∧ findI kt (k.ev env) es = some r ∧ ∀ n : Int, (match r with
      | some i => ∀ e, es[i]? = some e → K (.tup [e.2, .int .i64 n]) (H.set id (.mapE (es.set i (k.ev env, e.2)) i n))
      | none => K (.tup [z, .int .i64 n]) (H.set id (.mapE (es ++ [(k.ev env, z)]) es.length n)))
  | .mset m s v => ∃ id es i n e, m.ev env = .map id ∧ H id = some (.mapE es i n) ∧ s.ev env = .int .i64 n ∧ es[i]? = some e ∧ (v.ev env).isTup = false ∧ K V.undef (H.set id (.map (es.set i (e.1, v.ev env))))
  | .clr esz z x => (x.ev env = .nils ∧ K V.undef H) ∨ (∃ id off e, x.ev env = .slice id off 0 e ∧ K V.undef H) ∨
      (∃ id off len cs, x.ev env = .slice id off len esz ∧ H id = some (.cells true cs) ∧ off + len * esz ≤ cs.length ∧ K V.undef (H.set id (.cells true (splice cs off (rep z len))))) ∨
      ∃ id off len cap cs, x.ev env = .sliceC id off len cap esz ∧ H id = some (.cells true cs) ∧ off + len * esz ≤ cs.length ∧ K V.undef (H.set id (.cells true (splice cs off (rep z len))))
  | .inv x name args => ∃ t v f r, x.ev env = .iface t v ∧ Meth P H t name v f r ∧ CallsC P f (r :: args.map (X.ev env)) H K

inductive O where
  | rd (r : R)
  | ef (e : E)
  deriving Inhabited

def O.wp (P : Program) (env : Env) (H : Heap) (K : V → Heap → Prop) : O → Prop
  | .rd r => ∃ v, r.ev env H = some v ∧ K v H
  | .ef e => e.wp P env H K

/-- What an operation must leave as it was, for others may stand ahead of it or behind it: nothing; all; what is read at some slots' addresses (0: one cell; else so many). -/
inductive Kx where
  | no
  | all
  | sm (l : List (Nat × Nat))
  deriving Inhabited
def kR (p : Nat × Nat) : R := match p.2 with
  | 0 => .load1 (.t p.1)
  | n + 1 => .loadn (n + 1) (.t p.1)
def Kx.ok (x : Kx) (env : Env) (H H' : Heap) : Prop := match x with
  | .no => True
  | .all => H.le H'
  | .sm l => H.le H' ∨ ∀ p ∈ l, ∀ v, (kR p).ev env H = some v → (kR p).ev env H' = some v
theorem Kx.le {x : Kx} {env : Env} {H H' : Heap} (h : H.le H') : x.ok env H H' := by
  cases x with
  | no => trivial
  | all => exact h
  | sm l => exact .inl h
theorem Kx.refl {x : Kx} {env : Env} {H : Heap} : x.ok env H H := Kx.le (Heap.le_refl _)

/-- One operation of a region: its slot, what it does, its guard, and what it must leave. -/
structure I where
  d : Option Nat
  o : O
  g : Option (Nat × Bool) := none
  x : Kx := .no
  deriving Inhabited

def gcond (v : V) (want : Bool) (A B : Prop) : Prop :=
  match v with
  | .bool c => bif c == want then A else B
  | _ => B

def I.run (P : Program) (env : Env) (H : Heap) (K : Env → Heap → Prop) (i : I) : Prop :=
  i.o.wp P env H fun v H' => i.x.ok env H H' ∧ K (env.put i.d v) H'

def I.wp (P : Program) (env : Env) (H : Heap) (K : Env → Heap → Prop) (i : I) : Prop :=
  match i.g with
  | none => i.run P env H K
  | some (s, b) => gcond (env s) b (i.run P env H K) (K (env.put i.d V.undef) H)

def wpOps (P : Program) : List I → Env → Heap → (Env → Heap → Prop) → Prop
  | [], env, H, K => K env H
  | i :: is, env, H, K => i.wp P env H fun env' H' => wpOps P is env' H' K

inductive C where
  | skip
  | ops (l : List I)
  | seq (a b : C)
  | cond (x : X) (a b : C)
  | block (id : Nat) (c : C)
  | loop (c : C)
  | exit (id : Nat)
  | ret
  deriving Inhabited

inductive Ex where
  | normal
  | exit (id : Nat)
  | ret
  deriving DecidableEq

def bcond (v : V) (A B : Prop) : Prop :=
  match v with
  | .bool true => A
  | .bool false => B
  | _ => False

/-- A value, said with less. -/
def Wk (v v' : V) : Prop := ∀ (ι : Pl) (w : World) (u : Value), VR ι w v u → VR ι w v' u
def Wks (cs cs' : List V) : Prop := cs.length = cs'.length ∧ ∀ (k : Nat) (v v' : V), cs[k]? = some v → cs'[k]? = some v' → Wk v v'
/-- .. with fewer at the end. -/
def Wkp (cs cs' : List V) : Prop := cs'.length ≤ cs.length ∧ ∀ (k : Nat) (v v' : V), cs[k]? = some v → cs'[k]? = some v' → Wk v v'
inductive OWk : HObj → HObj → Prop
  | same (o : HObj) : OWk o o
  | cells (cs cs' : List V) (h : Wkp cs cs') : OWk (.cells true cs) (.cells true cs')
  | map (es es' : List (V × V)) (hk : es.map (·.1) = es'.map (·.1)) (hv : Wks (es.map (·.2)) (es'.map (·.2))) : OWk (.map es) (.map es')
  | mapS (es es' : List (V × V)) (bs : List Nat) (clk : Nat) (hk : es.map (·.1) = es'.map (·.1)) (hv : Wks (es.map (·.2)) (es'.map (·.2))) : OWk (.mapS es bs clk) (.map es')
def HWk (H H' : Heap) : Prop := ∀ id, (H id = none ∧ H' id = none) ∨ ∃ o o', H id = some o ∧ H' id = some o' ∧ OWk o o'
/-- What is so once some values and objects are said with less, or a slice's row under a new name, from the slice's first cell on. -/
inductive Wkn : Env → Heap → (Env → Heap → Prop) → Prop
  | here {env : Env} {H : Heap} {K : Env → Heap → Prop} (h : K env H) : Wkn env H K
  | weak {env env' : Env} {H H' : Heap} {K : Env → Heap → Prop} (h1 : ∀ t, Wk (env t) (env' t)) (h2 : HWk H H') (h : Wkn env' H' K) : Wkn env H K
  | base {env : Env} {H : Heap} {K : Env → Heap → Prop} {s id off len e : Nat} {cs : List V} (hs : env s = .slice id off len e) (hH : H id = some (.cells true cs)) (ho : off ≤ cs.length)
      (h : ∀ id', id' ≠ 0 → H id' = none → Wkn (env.put (some s) (.slice id' 0 len e)) ((H.del id).set id' (.cells true (cs.drop off))) K) : Wkn env H K
  | nilx {env : Env} {H : Heap} {K : Env → Heap → Prop} {s off e : Nat} (hs : env s = .slice 0 off 0 e) (h1 : Wkn (env.put (some s) .nils) H K) (h2 : Wkn (env.put (some s) (.slice 1 off 0 e)) H K) : Wkn env H K
  | capx {env : Env} {H : Heap} {K : Env → Heap → Prop} {s id off len e : Nat} (hs : env s = .slice id off len e) (h : ∀ cap, len ≤ cap → Wkn (env.put (some s) (.sliceC id off len cap e)) H K) : Wkn env H K

theorem Wk.refl (v : V) : Wk v v := fun _ _ _ h => h
theorem Wk.trans {a b c : V} (h : Wk a b) (h' : Wk b c) : Wk a c := fun ι w u k => h' ι w u (h ι w u k)
theorem Wk.sliceC (id off len cap esz : Nat) : Wk (.sliceC id off len cap esz) (.slice id off len esz) := fun _ _ _ h => by
  cases h with
  | sliceC _ _ _ _ a cap hl h => exact .slice _ _ _ _ a cap hl h
  | sliceC0 => exact .slice0 off esz
theorem Wk.nils (off esz : Nat) : Wk .nils (.slice 0 off 0 esz) := fun _ _ _ h => by cases h; exact .slice0 off esz

theorem Wks.refl (cs : List V) : Wks cs cs := ⟨rfl, fun k v v' h h' => by rw [h] at h'; cases h'; exact Wk.refl v⟩
theorem Wks.nil : Wks [] [] := Wks.refl []
theorem Wks.cons {v v' : V} {cs cs' : List V} (h : Wk v v') (t : Wks cs cs') : Wks (v :: cs) (v' :: cs') := by
  refine ⟨by simp [t.1], fun k x x' hx hx' => ?_⟩
  cases k with
  | zero => simp at hx hx'; subst hx; subst hx'; exact h
  | succ k => exact t.2 k x x' (by simpa using hx) (by simpa using hx')
theorem Wks.vrs {cs cs' : List V} (h : Wks cs cs') {ι : Pl} {w : World} {us : List Value} (hv : VRs ι w cs us) : VRs ι w cs' us := by
  refine VRs.of_get (by rw [← h.1]; exact hv.length) fun i v hi => ?_
  have hlt : i < cs.length := by rw [h.1]; exact (List.getElem?_eq_some_iff.1 hi).1
  obtain ⟨u, h1, h2⟩ := hv.get (i := i) (v := cs[i]) (by simp [hlt])
  exact ⟨u, h1, h.2 i _ _ (by simp [hlt]) hi ι w u h2⟩
theorem Wk.agg {cs cs' : List V} (h : Wks cs cs') : Wk (.agg cs) (.agg cs') := fun _ _ _ k => by cases k with | agg _ us h1 ho => exact .agg _ us (h.vrs h1) ho
theorem Wk.tup {cs cs' : List V} (h : Wks cs cs') : Wk (.tup cs) (.tup cs') := fun _ _ _ k => by cases k with | tup _ us h1 => exact .tup _ us (h.vrs h1)
theorem HWk.refl (H : Heap) : HWk H H := fun id => by
  cases h : H id with
  | none => exact .inl ⟨rfl, rfl⟩
  | some o => exact .inr ⟨o, o, rfl, rfl, .same o⟩
theorem HWk.set {H : Heap} {id : Nat} {o o' : HObj} (h : H id = some o) (ho : OWk o o') : HWk H (H.set id o') := fun i => by
  by_cases hi : i = id
  · subst hi; exact .inr ⟨o, o', h, Heap.set_same _ _ _, ho⟩
  · rw [Heap.set_ne _ _ hi]; exact HWk.refl H i
theorem OWk.rw {o o' : HObj} (h : OWk o o') : o'.rw = o.rw := by cases h <;> rfl
theorem OWk.obj {o o' : HObj} (h : OWk o o') {ι : Pl} {w : World} {b off : Nat} (k : ObjR ι w b off o) : ObjR ι w b off o' := by
  cases h with
  | same => exact k
  | cells cs cs' h =>
    obtain ⟨c, e, f, h1, h2, h3, h4⟩ := k
    refine ⟨c, e, f, h1, fun i v hi => ?_, h3, by have := h.1; omega⟩
    have hlt : i < cs.length := Nat.lt_of_lt_of_le (List.getElem?_eq_some_iff.1 hi).1 h.1
    obtain ⟨u, h5, h6, h7⟩ := h2 i cs[i] (by simp [hlt])
    exact ⟨u, h5, h.2 i _ _ (by simp [hlt]) hi ι w u h6, h7⟩
  | map es es' hk hv =>
    obtain ⟨ms, clock, h1, h2, h3⟩ := k
    exact ⟨ms, clock, h1, ⟨hk ▸ h2.keys, hv.vrs h2.vals⟩, h3⟩
  | mapS es es' bs clk hk hv =>
    obtain ⟨ms, h1, h2, h3, h4, h5⟩ := k
    exact ⟨ms, clk, h1, ⟨hk ▸ h2.keys, hv.vrs h2.vals⟩, h3, h4⟩
theorem HWk.rel {H H' : Heap} (h : HWk H H') {ι : Pl} {w : World} (k : Rel ι H w) : Rel ι H' w := by
  have old : ∀ id o', H' id = some o' → ∃ o, H id = some o ∧ OWk o o' := fun id o' ho' => by
    rcases h id with ⟨_, h2⟩ | ⟨o, o2, h1, h2, h3⟩
    · rw [h2] at ho'; cases ho'
    · rw [h2] at ho'; cases ho'; exact ⟨o, h1, h3⟩
  refine ⟨fun id o' ho' => ?_, fun id id' o o' b off off' h1 h2 hr h3 h4 => ?_, k.fin, k.zero⟩
  · obtain ⟨o, h1, h2⟩ := old id o' ho'
    obtain ⟨b, off, h3, h4⟩ := k.obj id o h1
    exact ⟨b, off, h3, h2.obj h4⟩
  · obtain ⟨x, g1, g2⟩ := old id o h1
    obtain ⟨x', g3, _⟩ := old id' o' h2
    exact k.inj id id' x x' b off off' g1 g3 (by rw [← g2.rw]; exact hr) h3 h4
theorem HWk.owns {H H' : Heap} (h : HWk H H') {ι : Pl} {b : Nat} : Owns ι H' b ↔ Owns ι H b := by
  constructor
  · rintro ⟨id, o', off, h1, h2, h3⟩
    rcases h id with ⟨_, g2⟩ | ⟨o, o2, g1, g2, g3⟩
    · rw [g2] at h1; cases h1
    · rw [g2] at h1; cases h1; exact ⟨id, o, off, g1, by rw [← g3.rw]; exact h2, h3⟩
  · rintro ⟨id, o, off, h1, h2, h3⟩
    rcases h id with ⟨g1, _⟩ | ⟨o1, o2, g1, g2, g3⟩
    · rw [g1] at h1; cases h1
    · rw [g1] at h1; cases h1; exact ⟨id, o2, off, g2, by rw [g3.rw]; exact h2, h3⟩
theorem HWk.none {H H' : Heap} (h : HWk H H') {id : Nat} : H' id = none ↔ H id = none := by
  rcases h id with ⟨g1, g2⟩ | ⟨o, o', g1, g2, _⟩
  · simp [g1, g2]
  · simp [g1, g2]
theorem HWk.ro {H H' : Heap} (h : HWk H H') {id : Nat} {o : HObj} (ho : H' id = some o) (hr : o.rw = false) : H id = some o := by
  rcases h id with ⟨_, g2⟩ | ⟨o1, o2, g1, g2, g3⟩
  · rw [g2] at ho; cases ho
  · rw [g2] at ho; cases ho
    cases g3 with
    | same => exact g1
    | cells => cases hr
    | map => cases hr
    | mapS => cases hr
theorem Ext.wkl {ι ι2 : Pl} {H H' H2 : Heap} {w w2 : World} (h : HWk H H') (k : Ext ι H' w ι2 H2 w2) : Ext ι H w ι2 H2 w2 :=
  { k with
    frame := fun b hb hn => k.frame b hb fun ho => hn (h.owns.1 ho)
    owns := fun b hb => (k.owns b hb).imp_left h.owns.1
    ids := fun id o h1 h2 => k.ids id o h1 (h.none.2 h2)
    ro := fun id o h1 h2 => h.ro (k.ro id o h1 h2) h2 }
theorem Ext.wkr {ι ι2 : Pl} {H H2 H3 : Heap} {w w2 : World} (k : Ext ι H w ι2 H2 w2) (h : HWk H2 H3) : Ext ι H w ι2 H3 w2 :=
  { k with
    owns := fun b hb => k.owns b (h.owns.1 hb)
    ids := fun id o h1 h2 => by
      cases h3 : H2 id with
      | none => rw [h.none.2 h3] at h1; cases h1
      | some x => exact k.ids id x h3 h2
    ro := fun id o h1 h2 => k.ro id o (h.ro h1 h2) h2 }
theorem Wkn.mono {env : Env} {H : Heap} {K K' : Env → Heap → Prop} (h : Wkn env H K) (hk : ∀ e H, K e H → K' e H) : Wkn env H K' := by
  induction h with
  | here h => exact .here (hk _ _ h)
  | weak h1 h2 _ ih => exact .weak h1 h2 (ih hk)
  | base hs hH ho _ ih => exact .base hs hH ho fun id' h0 hn => ih id' h0 hn hk
  | nilx hs _ _ ih1 ih2 => exact .nilx hs (ih1 hk) (ih2 hk)
  | capx hs _ ih => exact .capx hs fun cap hc => ih cap hc hk

def C.wp (P : Program) : C → (Ex → Env → Heap → Prop) → Env → Heap → Prop
  | .skip, Q, env, H => Wkn env H (Q .normal)
  | .ops l, Q, env, H => Wkn env H fun env H => wpOps P l env H (Q .normal)
  | .seq a b, Q, env, H => Wkn env H (a.wp P (fun x env H => match x with | .normal => b.wp P Q env H | x => Q x env H))
  | .cond x a b, Q, env, H => Wkn env H fun env H => bcond (x.ev env) (a.wp P Q env H) (b.wp P Q env H)
  | .block id a, Q, env, H => Wkn env H (a.wp P (fun x env H => match x with | .exit j => (bif Nat.beq j id then Q .normal env H else Q (.exit j) env H) | x => Q x env H))
  | .loop a, Q, env, H => Wkn env H fun env H => ∀ J : Env → Heap → Prop, (∀ env H, a.wp P (fun x env H => match x with | .normal => Wkn env H J | x => Q x env H) env H → J env H) → J env H
  | .exit id, Q, env, H => Wkn env H (Q (.exit id))
  | .ret, Q, env, H => Wkn env H (Q .ret)

inductive Res where
  | t (n : Nat)
  | c1 (n : Nat)
  | cn (n sz : Nat)
  deriving Inhabited

def Res.ev (env : Env) (H : Heap) : Res → Option V
  | .t n => some (env n)
  | .c1 n => R.ev env H (.load1 (.t n))
  | .cn n sz => R.ev env H (.loadn sz (.t n))

structure F where
  n : Nat
  res : List Res
  body : C
  deriving Inhabited

def retV : List V → V
  | [v] => v
  | vs => .tup vs

def env0 (args : List V) : Env := fun t => (args[t]?).getD V.undef

def F.wp (P : Program) (f : F) (args : List V) (H : Heap) (Q : V → Heap → Prop) : Prop :=
  f.body.wp P (fun x env H => (x = .normal ∨ x = .ret) ∧ ∃ vs, f.res.mapM (Res.ev env H) = some vs ∧ Q (retV vs) H) (env0 args) H

end Go.CM
