/-
  A program logic over the model's calls, part 3: a function of the loaded program, turned into operations without types.
-/
import Derived.Test.YtebhddpildfgcaaCmOps
namespace Go.CM

/-- A constant. -/
def ofVal : Nat → Value → Option V
  | _, .bool b => some (.bool b)
  | _, .int k n => some (.int k n)
  | _, .string s => some (.str s.data.toList)
  | _, .pointer none => some .nilp
  | _, .slice none 0 0 => some .nils
  | _, .map none => some .nilm
  | _, .nilFunc => some .nilf
  | _, .nilIface => some .nili
  | d + 1, .agg cs => match cs.toList.mapM (ofVal d) with
    | some vs => bif cs.toList.all one then some (.agg vs) else none
    | none => none
  | _, _ => none

def compX (n : Nat) : Operand → Option X
  | .tmp t => bif Nat.blt t n then some (.t t) else none
  | .const v => (ofVal 1 v).map .k
  | .func f => some (.k (.func f []))
  | .global _ => none

def isAggT (P : Program) (t : TypeId) : Option Bool :=
  match P.underlying t with
  | some (.struct _) | some (.array _ _) => some true
  | some _ => some false
  | none => none

def sizeT (P : Program) (t : TypeId) : Option Nat := (P.info? t).map (·.size)
def bytesT (P : Program) (t : TypeId) : Option Nat := (P.info? t).map (·.bytes)

/-- A type's zero value. -/
def zeroT (P : Program) (t : TypeId) : Option V :=
  match P.info? t with
  | some i => match i.zero with
    | some z => ofVal 1 z
    | none => none
  | none => none

def zeroCells (P : Program) (t : TypeId) : Option (List V) :=
  match zeroT P t with
  | some z => bif z.isTup then none else some z.cells
  | none => none

/-- The kinds of the cells of fields, one behind the other from a place on. -/
def kindsF (P : Program) (rec : TypeId → Option (List SK)) : Nat → List Field → Option (List SK)
  | _, [] => some []
  | o, f :: fs => match rec f.type with
    | some ks => bif f.name != "_" && Nat.beq o f.offset then
        match kindsF P rec (o + ks.length) fs with
        | some ks' => some (ks ++ ks')
        | none => none
      else none
    | none => none

/-- A type all of whose cells are held against each other one by one: their kinds. -/
def kindsT (P : Program) : Nat → TypeId → Option (List SK)
  | 0, _ => none
  | d + 1, t =>
    match (match P.underlying t with
      | some .bool => some [SK.b]
      | some (.int _) => some [SK.i]
      | some .string => some [SK.s]
      | some (.struct fs) => bif P.stoodInHeld t then none else kindsF P (kindsT P d) 0 fs.toList
      | _ => none), sizeT P t with
    | some ks, some s => bif Nat.beq ks.length s then some ks else none
    | _, _ => none

def eqC (P : Program) (t : TypeId) : Option EqC :=
  match P.underlying t with
  | some .bool => some .bool
  | some (.pointer _) => some .ptr
  | some (.slice _) => some .slice
  | some (.map _ _) => some .map
  | some (.func _ _ _) => some .func
  | some (.struct _) => bif P.eqGuardType P.depth t then none else (kindsT P 20 t).map .agg
  | _ => none

def partsS (P : Program) (n : Nat) (fs : Array Field) : List (Nat × Operand) → Option (List (Nat × Nat × X))
  | [] => some []
  | (i, x) :: ps => match fs[i]? with
    | some f => match sizeT P f.type, compX n x, partsS P n fs ps with
      | some s, some x, some ps => some ((f.offset, s, x) :: ps)
      | _, _, _ => none
    | none => none

def partsA (n s : Nat) : List (Nat × Operand) → Option (List (Nat × Nat × X))
  | [] => some []
  | (i, x) :: ps => match compX n x, partsA n s ps with
    | some x, some ps => some ((i * s, s, x) :: ps)
    | _, _ => none

def compXs (n : Nat) : List Operand → Option (List X)
  | [] => some []
  | x :: xs => match compX n x, compXs n xs with
    | some x, some xs => some (x :: xs)
    | _, _ => none

def entersB (P : Program) (f : FuncId) : Bool :=
  match P.funcs[f]? with
  | some fn => !(fn.name == "runtime.NumGoroutine") && !fn.body.isNone
  | none => false

def optX (n : Nat) : Option Operand → Option (Option X)
  | none => some none
  | some x => match compX n x with
    | some x => some (some x)
    | none => none

/-- A key type whose keys are held against each other cell by cell. -/
def keyT (P : Program) (t : TypeId) : Option KT :=
  match isAggT P t, kindsT P 20 t with
  | some b, some ks => some (b, ks)
  | _, _ => none

def compBuiltin (P : Program) (n : Nat) (b : Builtin) (argTypes : List TypeId) (args : List Operand) : Option O :=
  match b, argTypes, args with
  | .len, [t], [x] => match P.underlying t, compX n x with
    | some .string, some x => some (.rd (.lenStr x))
    | some (.slice _), some x => some (.rd (.lenSl x))
    | some (.array k _), some _ => some (.rd (.lenK k))
    | some (.map _ _), some x => some (.rd (.lenMap x))
    | _, _ => none
  | .min, _, x :: xs => match compX n x, compXs n xs with
    | some x, some xs => some (.rd (.mn x xs))
    | _, _ => none
  | .max, _, x :: xs => match compX n x, compXs n xs with
    | some x, some xs => some (.rd (.mx x xs))
    | _, _ => none
  | .append, [t, u], [d, s] => match P.underlying t, P.underlying u with
    | some (.slice e), some (.slice _) => match sizeT P e, bytesT P e, zeroT P e, compX n d, compX n s with
      | some sz, some by_, some z, some d, some s => bif Nat.beq z.cells.length sz && Nat.blt 0 by_ && !z.isTup then some (.ef (.app sz by_ d s)) else none
      | _, _, _, _, _ => none
    | some (.slice e), some .string => match sizeT P e, bytesT P e, zeroT P e, compX n d, compX n s with
      | some sz, some by_, some z, some d, some s => bif Nat.beq z.cells.length sz && Nat.blt 0 by_ && !z.isTup then some (.ef (.app sz by_ d s)) else none
      | _, _, _, _, _ => none
    | some (.slice e), some (.int _) => match sizeT P e, bytesT P e, zeroT P e, compX n d, compX n s with
      | some sz, some by_, some z, some d, some s => bif Nat.beq z.cells.length sz && Nat.blt 0 by_ && !z.isTup && Nat.blt 0 sz then some (.ef (.appz sz by_ z.cells d s)) else none
      | _, _, _, _, _ => none
    | _, _ => none
  | .cap, [t], [x] => match P.underlying t, compX n x with
    | some (.slice _), some x => some (.rd (.capSl x))
    | _, _ => none
  | .copy, [t, u], [d, s] => match P.underlying t, P.underlying u with
    | some (.slice e), some (.slice _) => match sizeT P e, compX n d, compX n s with
      | some sz, some d, some s => bif Nat.blt 0 sz then some (.ef (.copy sz d s)) else none
      | _, _, _ => none
    | _, _ => none
  | .clear, [t], [x] => match P.underlying t with
    | some (.slice e) => match sizeT P e, zeroT P e, compX n x with
      | some s, some z, some x => bif Nat.beq z.cells.length s && Nat.blt 0 s && !z.isTup then some (.ef (.clr s z.cells x)) else none
      | _, _, _ => none
    | _ => none
  | .delete, t :: _, [m, k] => match P.underlying t with
    | some (.map kt _) => match keyT P kt, compX n m, compX n k with
      | some ks, some m, some k => some (.ef (.del ks m k))
      | _, _, _ => none
    | _ => none
  | _, _, _ => none

def compOp (P : Program) (n : Nat) (op : Op) (_type : TypeId) : Option O :=
  match op with
  | .move x | .assign x => (compX n x).map fun x => .rd (.mov x)
  | .pick c a b => match compX n c, compX n a, compX n b with
    | some c, some a, some b => some (.rd (.pick c a b))
    | _, _, _ => none
  | .alloc t => match zeroCells P t with
    | some z => some (.ef (.alloc z))
    | none => none
  | .box _ x => (compX n x).map fun x => .ef (.box x)
  | .build t ps => match zeroT P t, P.underlying t with
    | some (.agg z), some (.struct fs) => (bif fs.toList.all (fun f => (sizeT P f.type).isSome) then partsS P n fs ps.toList else none).map fun ps => .rd (.build z ps)
    | some (.agg z), some (.array _ e) => match sizeT P e with
      | some s => (partsA n s ps.toList).map fun ps => .rd (.build z ps)
      | none => none
    | _, _ => none
  | .buildSlice t len ps => match P.underlying t with
    | some (.slice e) => match sizeT P e, zeroCells P e with
      | some s, some z => bif Nat.beq z.length s && Nat.blt 0 s && Nat.ble (len * s) 16777216 then (partsA n s ps.toList).map fun ps => .ef (.lit s len (rep z len) ps) else none
      | _, _ => none
    | _ => none
  | .load t a => match isAggT P t, sizeT P t, compX n a with
    | some true, some s, some a => some (.rd (.loadn s a))
    | some false, _, some a => some (.rd (.load1 a))
    | _, _, _ => none
  | .store t a v => match sizeT P t, compX n a, compX n v with
    | some s, some a, some v => some (.ef (.store s a v))
    | _, _, _ => none
  | .nilCheck x => (compX n x).map fun x => .rd (.nilck x)
  | .binOp op t x y _ => match compX n x, compX n y with
    | some x, some y => match P.underlying t with
      | some (.int _) | some .string => some (.rd (.bin op x y))
      | _ => match op, eqC P t with
        | .eql, some c => some (.rd (.eq c false x y))
        | .neq, some c => some (.rd (.eq c true x y))
        | _, _ => none
    | _, _ => none
  | .unOp op _ x => (compX n x).map fun x => .rd (.un op x)
  | .convert s d x => match P.underlying s, P.underlying d, compX n x with
    | some (.int _), some (.int k), some x => some (.rd (.toInt k x))
    | some .string, some .string, some x => some (.rd (.same x))
    | some (.slice e), some .string, some x => match P.underlying e with
      | some (.int .u8) => some (.rd (.b2s x))
      | _ => none
    | _, _, _ => none
  | .fieldAddr s x i => match P.underlying s, compX n x with
    | some (.struct fs), some x => match fs[i]? with
      | some f => match sizeT P f.type with
        | some (_ + 1) => some (.rd (.faddr f.offset x))
        | _ => none
      | none => none
    | _, _ => none
  | .field t x i => match P.underlying t, compX n x with
    | some (.struct fs), some x => match fs[i]? with
      | some f => match isAggT P f.type, sizeT P f.type with
        | some true, some s => some (.rd (.fieldn f.offset s x))
        | some false, some _ => some (.rd (.field1 f.offset x))
        | _, _ => none
      | none => none
    | _, _ => none
  | .indexAddr t x i => match P.underlying t, compX n x, compX n i with
    | some (.slice e), some x, some i => (sizeT P e).map fun s => .rd (.iaddrS s x i)
    | some (.array k e), some x, some i => (sizeT P e).map fun s => .rd (.iaddrA k s x i)
    | _, _, _ => none
  | .index t x i => match P.underlying t, compX n x, compX n i with
    | some .string, some x, some i => some (.rd (.idxStr x i))
    | some (.array k e), some x, some i => match isAggT P e, sizeT P e with
      | some false, some 1 => some (.rd (.idxArr1 k x i))
      | _, _ => none
    | _, _, _ => none
  | .slice t x lo hi none => match P.underlying t, compX n x, optX n lo, optX n hi with
    | some .string, some x, some lo, some hi => some (.rd (.cutStr x lo hi))
    | some (.slice e), some x, some lo, some hi => (sizeT P e).map fun s => .rd (.cutSl s x lo hi)
    | _, _, _, _ => none
  | .slice t x lo (some hi) (some mx) => match P.underlying t, compX n x, optX n lo, compX n hi, compX n mx with
    | some (.slice e), some x, some lo, some hi, some mx => (sizeT P e).map fun s => .rd (.cutSl3 s x lo (some hi) mx)
    | _, _, _, _, _ => none
  | .extract x i => (compX n x).map fun x => .rd (.ext x i)
  | .makeInterface t x => match P.underlying t, compX n x with
    | some (.interface _), _ => none
    | some _, some x => some (.rd (.mkIface t x))
    | _, _ => none
  | .typeAssert x _ t false => match P.underlying t, compX n x with
    | some (.interface _), _ => none
    | some _, some x => some (.rd (.asrt t x))
    | _, _ => none
  | .makeFunc (.func f) first cap => match first.toList, compXs n cap.toList with
    | [], some cap => some (.rd (.clo f cap))
    | _, _ => none
  | .makeMap _ none => some (.ef .mkMap)
  | .makeSlice t l c => match P.underlying t with
    | some (.slice e) => match sizeT P e, bytesT P e, zeroCells P e, compX n l, compX n c with
      | some s, some by_, some z, some l, some c => bif Nat.beq z.length s && Nat.blt 0 s then some (.ef (.mkSl s by_ z l c)) else none
      | _, _, _, _, _ => none
    | _ => none
  | .lookup t m k ok => match P.underlying t with
    | some (.map kt e) => match keyT P kt, zeroT P e, compX n m, compX n k with
      | some ks, some z, some m, some k => some (.rd (.lookup ks z ok m k))
      | _, _, _, _ => none
    | _ => none
  | .panic _ => some (.ef .stop)
  | .range t m => match P.underlying t, compX n m with
    | some (.map _ _), some m => some (.ef (.rangeM m))
    | _, _ => none
  | .next it false => (compX n it).map fun x => .ef (.nextM x)
  | .entry it => (compX n it).map fun x => .ef (.entryM x)
  | .mapEntry t m k => match P.underlying t with
    | some (.map kt e) => match keyT P kt, zeroT P e, compX n m, compX n k with
      | some ks, some z, some m, some k => some (.ef (.ment ks z m k))
      | _, _, _, _ => none
    | _ => none
  | .entryStore _ m s v => match compX n m, compX n s, compX n v with
    | some m, some s, some v => some (.ef (.mset m s v))
    | _, _, _ => none
  | .mapUpdate t m k v => match P.underlying t with
    | some (.map kt _) => match keyT P kt, compX n m, compX n k, compX n v with
      | some ks, some m, some k, some v => some (.ef (.put ks m k v))
      | _, _, _, _ => none
    | _ => none
  | .call c => match c.callee with
    | .builtin b => compBuiltin P n b c.argTypes.toList c.args.toList
    | .value (.func f) => match compXs n c.args.toList with
      | some xs => some (.ef (.call f xs))
      | none => none
    | .value x => match compX n x, compXs n c.args.toList with
      | some x, some xs => some (.ef (.callv x xs))
      | _, _ => none
    | .invoke x m => match compX n x, compXs n c.args.toList with
      | some x, some xs => some (.ef (.inv x m xs))
      | _, _ => none
  | _ => none

def dstOk (n : Nat) : Option Nat → Bool
  | none => true
  | some d => Nat.blt d n

/-- The operation at a place of a region. -/
def compI (P : Program) (n : Nat) (ops : List Oper) (o : Oper) (x : Kx) : Option I :=
  bif dstOk n o.dst then
    match compOp P n o.op o.type with
    | some oo => match o.guard with
      | none => some { d := o.dst, o := oo, g := none, x := x }
      | some (j, b) => match ops[j]? with
        | some p => match p.dst with
          | some s => bif Nat.blt s n then some { d := o.dst, o := oo, g := some (s, b), x := x } else none
          | none => none
        | none => none
    | none => none
  else none

def compIs (P : Program) (n : Nat) (ops : List Oper) : List Oper → Option (List I)
  | [] => some []
  | o :: os => match compI P n ops o .no, compIs P n ops os with
    | some i, some is => some (i :: is)
    | _, _ => none

/-- The slots that an operation looks at. -/
def X.uses : X → List Nat
  | .t n => [n]
  | .k _ => []
def optUses : Option X → List Nat
  | none => []
  | some x => x.uses
def R.uses : R → List Nat
  | .mov x | .load1 x | .loadn _ x | .nilck x | .un _ x | .toInt _ x | .same x | .b2s x | .field1 _ x | .fieldn _ _ x | .faddr _ x | .ext x _ | .lenStr x | .lenSl x | .capSl x | .lenMap x | .mkIface _ x | .asrt _ x => x.uses
  | .pick c a b => c.uses ++ a.uses ++ b.uses
  | .build _ ps => ps.flatMap fun p => p.2.2.uses
  | .bin _ x y | .eq _ _ x y | .iaddrS _ x y | .iaddrA _ _ x y | .idxStr x y | .idxArr1 _ x y | .lookup _ _ _ x y => x.uses ++ y.uses
  | .cutStr x lo hi | .cutSl _ x lo hi => x.uses ++ optUses lo ++ optUses hi
  | .cutSl3 _ x lo hi m => x.uses ++ optUses lo ++ optUses hi ++ m.uses
  | .lenK _ => []
  | .mn x xs | .mx x xs => x.uses ++ xs.flatMap X.uses
  | .clo _ xs => xs.flatMap X.uses
def E.uses : E → List Nat
  | .alloc _ | .mkMap | .stop => []
  | .ment _ _ m k => m.uses ++ k.uses
  | .mset m s v => m.uses ++ s.uses ++ v.uses
  | .clr _ _ x => x.uses
  | .rangeM x | .nextM x | .entryM x => x.uses
  | .box x => x.uses
  | .lit _ _ _ ps => ps.flatMap fun p => p.2.2.uses
  | .store _ a v | .app _ _ a v | .appz _ _ _ a v | .copy _ a v | .mkSl _ _ _ a v | .del _ a v => a.uses ++ v.uses
  | .put _ m k v => m.uses ++ k.uses ++ v.uses
  | .call _ xs => xs.flatMap X.uses
  | .callv x xs | .inv x _ xs => x.uses ++ xs.flatMap X.uses
def O.uses : O → List Nat
  | .rd r => r.uses
  | .ef e => e.uses
def I.uses (i : I) : List Nat := i.o.uses ++ (match i.g with | none => [] | some (s, _) => [s])

/-- May two operations stand in either order, the first one first as the text is walked? -/
def dApart (d : Option Nat) (us : List Nat) : Bool :=
  match d with
  | none => true
  | some d => !us.contains d
def dNe : Option Nat → Option Nat → Bool
  | some a, some b => !(Nat.beq a b)
  | _, _ => true
def keepsX : Kx → R → Bool
  | .all, _ => true
  | .sm l, .load1 (.t n) => l.any fun p => Nat.beq p.1 n && Nat.beq p.2 0
  | .sm l, .loadn (k + 1) (.t n) => l.any fun p => Nat.beq p.1 n && Nat.beq p.2 (k + 1)
  | _, _ => false
def Kx.isSm : Kx → Bool
  | .sm _ => true
  | _ => false
def swapOk (i j : I) : Bool :=
  dApart i.d j.uses && dApart j.d i.uses && dNe i.d j.d && !i.x.isSm &&
  match i.o, j.o with
  | .rd _, .rd _ => true
  | .rd r, .ef _ => !r.reads || keepsX j.x r
  | .ef _, _ => false

/-- The direct ones ahead. -/
def direct (o : Oper) : List Nat := o.after.toList.filterMap fun e => bif Region.binds .any e then some e.on else none

/-- For each place the places ahead of it, as bits. -/
def ahead (ops : List Oper) : List Nat :=
  (ops.foldl (fun (acc : List Nat) o => acc ++ [(direct o).foldl (fun s e => s ||| (1 <<< e) ||| acc.getD e 0) 0]) [])

/-- Each bit is a direct one, or ahead of a direct one. -/
def aheadOk (ops : List Oper) (tab : List Nat) : Bool :=
  Nat.beq tab.length ops.length &&
  ((List.range ops.length).all fun i => (List.range ops.length).all fun j =>
    !(tab.getD i 0).testBit j || (match ops[i]? with
      | some o => (direct o).contains j || (direct o).any fun e => Nat.blt e i && (tab.getD e 0).testBit j
      | none => false))

/-- Each waits for elder ones alone. -/
def edgesOk (ops : List Oper) : Bool :=
  (List.range ops.length).all fun i => match ops[i]? with
    | some o => (direct o).all fun e => Nat.blt e i
    | none => true

/-- All pairs of a list, the earlier first. -/
def pairsAll {α : Type} (p : α → α → Bool) : List α → Bool
  | [] => true
  | i :: is => is.all (p i) && pairsAll p is

/-- The order in which a region that draws its order is walked: what only reads as early as it may be. -/
def plan (isE : Nat → Bool) (tab : List Nat) : Nat → List Nat → List Nat
  | 0, l => l
  | k + 1, l =>
    -- the first that only reads and waits for none of those left; else the first that waits for none
    let free := l.filter fun i => l.all fun j => !(tab.getD i 0).testBit j
    match free.find? (fun i => !isE i) with
    | some i => i :: plan isE tab k (l.filter (· != i))
    | none => match free with
      | i :: _ => i :: plan isE tab k (l.filter (· != i))
      | [] => l

def isEf (ops : List Oper) (i : Nat) : Bool :=
  match ops[i]? with
  | some o => match o.op with
    | .alloc _ | .box .. | .buildSlice .. | .store .. | .makeSlice .. | .makeMap .. | .mapUpdate .. | .mapEntry .. | .entryStore .. | .panic _ | .range .. | .next .. | .entry .. => true
    | .call c => match c.callee with
      | .builtin .len | .builtin .cap | .builtin .min | .builtin .max => false
      | _ => true
    | _ => false
  | none => false

/-- What stands ahead of an operation in the plan's order, and reads, without being ahead of it: must it be kept? -/
def kxOf : List R → Option (List (Nat × Nat))
  | [] => some []
  | .load1 (.t n) :: rs => match kxOf rs with
    | some l => some ((n, 0) :: l)
    | none => none
  | .loadn (k + 1) (.t n) :: rs => match kxOf rs with
    | some l => some ((n, k + 1) :: l)
    | none => none
  | _ :: _ => none
def mustKeep (ops : List Oper) (tab : List Nat) (fine : Bool) (is : List (Nat × I)) (j : Nat) : Kx :=
  bif isEf ops j then
    match (is.takeWhile (fun p => p.1 != j)).filterMap fun p => (match p.2.o with | .rd r => bif r.reads && !(tab.getD j 0).testBit p.1 then some r else none | _ => none) with
    | [] => .no
    | rs => bif fine then (match kxOf rs with
        | some l => .sm l
        | none => .all) else .all
  else .no
def O.isE : O → Bool
  | .ef _ => true
  | .rd _ => false
/-- No slot is written behind its use. -/
def ssa (l : List I) : Bool := pairsAll (fun a b => dApart b.d a.uses) l && l.all fun a => dApart a.d a.uses

def pairOk (tab : List Nat) (p q : Nat × I) : Bool := (tab.getD q.1 0).testBit p.1 || swapOk p.2 q.2

def compAll (P : Program) (n : Nat) (ops : List Oper) : List (Nat × Kx) → Option (List (Nat × I))
  | [] => some []
  | (i, x) :: is => match ops[i]? with
    | some o => match compI P n ops o x, compAll P n ops is with
      | some y, some ys => some ((i, y) :: ys)
      | _, _ => none
    | none => none

/-- The places of a list are those below a number, each once. -/
def perm (m : Nat) (l : List Nat) : Bool :=
  Nat.beq l.length m && ((List.range m).all fun i => l.contains i) && (l.all fun i => Nat.blt i m) && pairsAll (fun a b => !(Nat.beq a b)) l

def compDraw (P : Program) (n : Nat) (ops : List Oper) : Option (List I) :=
  let tab := ahead ops
  let order := plan (isEf ops) tab ops.length (List.range ops.length)
  match compAll P n ops (order.map fun i => (i, .no)) with
  | some is =>
    match compAll P n ops (order.map fun i => (i, mustKeep ops tab (ssa (is.map (·.2))) is i)) with
    | some js => bif aheadOk ops tab && edgesOk ops && perm ops.length (js.map (·.1)) && pairsAll (pairOk tab) js && ((ssa (js.map (·.2)) && js.all fun p => !p.2.x.isSm || p.2.o.isE) || js.all fun p => !p.2.x.isSm) then some (js.map (·.2)) else none
    | none => none
  | none => none

/-- Code that isn't taken: it must not be reached. -/
def deadC : C := .ops [{ d := none, o := .ef .stop }]
def comp (P : Program) (n : Nat) : Code → Option C
  | .skip => some .skip
  | .region _ ops false => match compIs P n ops.toList ops.toList with
    | some l => some (.ops l)
    | none => some deadC
  | .region _ ops true => match compDraw P n ops.toList with
    | some l => some (.ops l)
    | none => some deadC
  | .seq a b => match comp P n a, comp P n b with
    | some a, some b => some (.seq a b)
    | _, _ => none
  | .cond x a b => match compX n x, comp P n a, comp P n b with
    | some x, some a, some b => some (.cond x a b)
    | _, _, _ => none
  | .block id a => match comp P n a with
    | some a => some (.block id a)
    | none => none
  | .loop a => match comp P n a with
    | some a => some (.loop a)
    | none => none
  | .exit id => some (.exit id)
  | .ret => some .ret
  | _ => some deadC

def compRes (P : Program) (n : Nat) : ResultVar → Option Res
  | .tmp t => bif Nat.blt t n then some (.t t) else none
  | .cell a t => bif Nat.blt a n then
      match isAggT P t, sizeT P t with
      | some true, some s => some (.cn a s)
      | some false, some _ => some (.c1 a)
      | _, _ => none
    else none

def compF (P : Program) (fn : Func) : Option F :=
  match fn.body with
  | some c => match comp P fn.ntmps c, fn.results.toList.mapM (compRes P fn.ntmps) with
    | some b, some rs => bif fn.name == "runtime.NumGoroutine" then none else some { n := fn.ntmps, res := rs, body := b }
    | _, _ => none
  | none => none

end Go.CM
