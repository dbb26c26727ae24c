/- A small language of instructions over abstract values, how a function's code turns into it, and what its steps do. -/
import Derived.Test.YtomepdfmjlcehaaAmBase
import Derived.Orders
import Derived.Lib.Builder
import Derived.Lib.UnsafeStr
import Derived.Laws.Externs
import Derived.KernelRfl
set_option linter.unusedVariables false
namespace Go.Am

inductive O where
  | t (n : Nat)
  | c (a : AV)
  | g (n : Nat)
  | f (n : FuncId)
  deriving Inhabited

/-- How two values of a type are compared. -/
inductive EqD where
  | bool
  | int
  | str
  | ptr
  | nul
  | fnc
  | all (fs : List (Nat × Nat))

inductive I where
  | mv (x : O)
  | nrow (e sz : Nat)
  | cvMk (x : O)
  | pick (c a b : O)
  | alloc (t : Nat) (z : List AV)
  | box (t : Nat) (x : O)
  | build (z : List AV) (ps : List (Nat × Nat × O))
  | mks (e sz : Nat) (z : List AV) (n : Nat) (ps : List (Nat × O))
  | ld (agg : Option Nat) (a : O)
  | stv (n : Nat) (a x : O)
  | nilc (x : O)
  | bin (op : BinOp) (x y : O)
  | eqv (neg : Bool) (d : EqD) (x y : O)
  | un (op : UnOp) (x : O)
  | cvI (k : IntKind) (x : O)
  | cvSB (e : Nat) (x : O)
  | cvBS (x : O)
  | cvIS (x : O)
  | cvSS (x : O)
  | slS (x : O) (lo hi : Option O)
  | slA (e sz : Nat) (x : O) (lo hi : Option O)
  | fa (off : Nat) (x : O)
  | ia (sz : Nat) (x i : O)
  | iaa (n sz : Nat) (x i : O)
  | fl (off : Nat) (agg : Option Nat) (x : O)
  | ix (x i : O)
  | ixa (n sz : Nat) (agg : Option Nat) (x i : O)
  | ext (k : Nat) (x : O)
  | app (e sz bytes : Nat) (str : Bool) (x y : O)
  | len (str : Bool) (x : O)
  | lenA (n : Nat)
  | mxn (mx : Bool) (xs : List O)
  | call (f : FuncId) (args : List O)
  | callv (x : O) (args : List O)
  | mkf (f : FuncId) (caps : List O)
  | rng (x : O)
  | nxt (x : O)
  | mksl (e sz bytes : Nat) (z : List AV) (l c : O)
  | cvPU (x : O)
  | cvUP (l : List (Nat × Nat)) (x : O)
  | eqp (neg : Bool) (x y : O)
  | usd (x : O)
  | ust (e : Nat) (x n : O)

/-- q: 0: anything; 1: a call that leaves the heap; 2: it neither looks at the heap nor turns it. -/
structure OpI where
  dst : Option Nat
  i : I
  g : Option (Nat × Bool)
  q : Nat

/-- A region whose order is drawn, its orders as far as they matter. -/
inductive DT where
  | dn
  | op (o : OpI) (d : DT)
  | both (a b : DT)
  | tt

inductive C where
  | sk
  | rg (ops : List OpI)
  | dr (d : DT)
  | sq (a b : C)
  | cd (c : O) (a b : C)
  | bl (id : Nat) (b : C)
  | lp (b : C)
  | ex (id : Nat)
  | rt
  | rf

/-! ### From a function's code -/

def cAV1 : Value → Option AV
  | .bool b => some (.bo b)
  | .int k n => some (.it k n)
  | .string s => some (.st s.data.toList)
  | .slice none 0 0 => some .nl
  | .pointer none => some (.sc (.pointer none))
  | .nilFunc => some (.sc .nilFunc)
  | .nilIface => some (.sc .nilIface)
  | _ => none

def mapM' {α β : Type} (f : α → Option β) : List α → Option (List β)
  | [] => some []
  | a :: l => match f a with
    | none => none
    | some b => match mapM' f l with
      | none => none
      | some m => some (b :: m)

def cAV : Value → Option AV
  | .agg cs => (mapM' cAV1 cs.toList).map .ag
  | v => cAV1 v

def cO : Operand → Option O
  | .tmp t => some (.t t)
  | .const v => (cAV v).map .c
  | .global g => some (.g g)
  | .func f => some (.f f)

/-- A type's zero value, its cells. -/
def zeroOf (P : Program) (t : TypeId) : Option (List AV) :=
  match P.info? t with
  | some i => match i.zero with
    | some z => if z.cells.size = i.size then mapM' cAV1 z.cells.toList else none
    | none => none
  | none => none

def aggOf (P : Program) (t : TypeId) : Option (Option Nat) :=
  match P.info? t with
  | some i => match P.underlying t with
    | some (.struct _) | some (.array _ _) => some (some i.size)
    | some _ => if i.size = 1 then some none else none
    | none => none
  | none => none

/-- The parts of a field, as they lie in the struct. -/
def fLeaves (P : Program) (g : TypeId → Option (List (Nat × Nat))) (f : Field) : Option (List (Nat × Nat)) :=
  if f.name = "_" then none else match P.info? f.type, g f.type with
    | some i, some l => if l.all (fun p => decide (p.1 < i.size)) = true then some (l.map fun p => (f.offset + p.1, p.2)) else none
    | _, _ => none

/-- A struct's parts, down to numbers, texts and bools: where they lie. -/
def leavesOf (P : Program) : Nat → TypeId → Option (List (Nat × Nat))
  | 0, _ => none
  | d + 1, t => match P.underlying t with
    | some .bool => some [(0, 0)]
    | some (.int _) => some [(0, 1)]
    | some .string => some [(0, 2)]
    | some (.struct fs) => if P.stoodInHeld t = false then (mapM' (fLeaves P (leavesOf P d)) fs.toList).map (·.flatten) else none
    | _ => none

def eqOf (P : Program) (t : TypeId) : Option EqD :=
  match P.underlying t with
  | some .bool => some .bool
  | some (.pointer _) => some .ptr
  | some (.slice _) => some .nul
  | some (.func _ _ _) => some .fnc
  | some (.struct _) => if P.eqGuardType P.depth t = false ∧ P.stoodInHeld t = false then (leavesOf P 8 t).map .all else none
  | _ => none

/-- A part of a struct that is built. -/
def cPart (P : Program) (fs : Array Field) (p : Nat × Operand) : Option (Nat × Nat × O) :=
  match fs[p.1]?, cO p.2 with
  | some f, some x => match P.info? f.type with
    | some i => some (f.offset, i.size, x)
    | none => none
  | _, _ => none

def cOpt (x : Option Operand) : Option (Option O) :=
  match x with
  | none => some none
  | some y => (cO y).map some

/-- The types of boxes at whose head a variable of a type lies, with their sizes. -/
def upOk (P : Program) (u : TypeId) : List (Nat × Nat) := (List.range P.types.size).filterMap fun t => match P.info? t with
  | some i => if liesAt P P.depth t (i.size / P.cellsOf t) 0 u 1 = true then some (t, i.size) else none
  | none => none

def isC : O → Bool
  | .c _ => true
  | _ => false

def cCall (P : Program) (c : Call) : Option I :=
  match c.callee with
  | .value (.func f) =>
    match P.funcs[f]? with
    | some fn => if fn.body.isSome && !(fn.name == "runtime.NumGoroutine") then (mapM' cO c.args.toList).map (.call f)
      else if fn.body.isNone && fn.name == "internal/abi.NoEscape" && fn.origin == "" then (match c.args.toList with
        | [x] => (cO x).map .mv
        | _ => none) else none
    | none => none
  | .value x => match cO x with
    | some y => (mapM' cO c.args.toList).map (.callv y)
    | none => none
  | .builtin .len => match c.args.toList, c.argTypes[0]? with
    | [x], some t => match P.underlying t with
      | some .string => (cO x).map (.len true)
      | some (.slice _) => (cO x).map (.len false)
      | some (.array n _) => some (.lenA n)
      | _ => none
    | _, _ => none
  | .builtin .append => match c.args.toList, c.argTypes[0]?, c.argTypes[1]? with
    | [x, y], some t, some u => match P.underlying t, P.underlying u with
      | some (.slice e), some (.slice e') => match P.info? e, zeroOf P e, cO x, cO y with
        | some i, some _, some x', some y' => if 0 < i.size then some (.app e i.size i.bytes false x' y') else none
        | _, _, _, _ => none
      | some (.slice e), some .string => match P.info? e, zeroOf P e, cO x, cO y with
        | some i, some _, some x', some y' => if i.size = 1 then some (.app e i.size i.bytes true x' y') else none
        | _, _, _, _ => none
      | _, _ => none
    | _, _, _ => none
  | .builtin .unsafeSliceData => match c.args.toList with
    | [x] => (cO x).map .usd
    | _ => none
  | .builtin .unsafeString => match c.args.toList, c.argTypes.toList with
    | [x, y], [pt, _] => match P.underlying pt, cO x, cO y with
      | some (.pointer e), some x', some y' => if P.cellsOf e = 1 then some (.ust e x' y') else none
      | _, _, _ => none
    | _, _ => none
  | .builtin .max => (mapM' cO c.args.toList).map (.mxn true)
  | .builtin .min => (mapM' cO c.args.toList).map (.mxn false)
  | _ => none

def cI (P : Program) : Op → Option I
  | .move x | .assign x => (cO x).map .mv
  | .pick c a b => match cO c, cO a, cO b with
    | some c', some a', some b' => some (.pick c' a' b')
    | _, _, _ => none
  | .alloc e => (zeroOf P e).map (.alloc e)
  | .box e x => (cO x).map (.box e)
  | .build t ps => match P.underlying t, zeroOf P t with
    | some (.struct fs), some z => if fs.toList.all (fun f => (P.info? f.type).isSome) = true then
      (mapM' (cPart P fs) ps.toList).map (.build z) else none
    | _, _ => none
  | .buildSlice t n ps => match P.underlying t with
    | some (.slice e) => match P.info? e, zeroOf P e with
      | some i, some z => if 0 < i.size ∧ n * i.size ≤ 1000 then (mapM' (fun (p : Nat × Operand) => (cO p.2).map fun x => (p.1, x)) ps.toList).map (.mks e i.size z n) else none
      | _, _ => none
    | _ => none
  | .load t a => match aggOf P t, cO a with
    | some g, some a' => some (.ld g a')
    | _, _ => none
  | .store t a x => match P.info? t, cO a, cO x with
    | some i, some a', some x' => some (.stv i.size a' x')
    | _, _, _ => none
  | .nilCheck x => (cO x).map .nilc
  | .binOp op t x y u => match cO x, cO y with
    | some x', some y' => match P.underlying t with
      | some (.int _) => some (.bin op x' y')
      | some .string => some (.bin op x' y')
      | some (.pointer e) => if isC y' = true then (match op with
          | .eql => (eqOf P t).map fun d => .eqv false d x' y'
          | .neq => (eqOf P t).map fun d => .eqv true d x' y'
          | _ => none) else (match P.info? e, op with
          | some _, .eql => some (.eqp false x' y')
          | some _, .neq => some (.eqp true x' y')
          | _, _ => none)
      | _ => match op with
        | .eql => (eqOf P t).map fun d => .eqv false d x' y'
        | .neq => (eqOf P t).map fun d => .eqv true d x' y'
        | _ => none
    | _, _ => none
  | .unOp op _ x => (cO x).map (.un op)
  | .convert s d x => match P.underlying s, P.underlying d, cO x with
    | some (.int _), some (.int k), some x' => some (.cvI k x')
    | some .string, some (.slice e), some x' => match P.underlying e with
      | some (.int .u8) => some (.cvSB e x')
      | _ => none
    | some (.slice e), some .string, some x' => match P.underlying e with
      | some (.int .u8) => some (.cvBS x')
      | _ => none
    | some (.int _), some .string, some x' => some (.cvIS x')
    | some .string, some .string, some x' => some (.cvSS x')
    | some (.slice _), some (.slice e), some x' => match P.underlying e with
      | some (.int .u8) => if s = d then some (.cvMk x') else none
      | _ => none
    | some (.pointer t), some .unsafePointer, some x' => match P.info? t with
      | some i => if i.size = 0 then none else some (.cvPU x')
      | none => none
    | some .unsafePointer, some (.pointer u), some x' => match P.info? u with
      | some _ => some (.cvUP (upOk P u) x')
      | none => none
    | _, _, _ => none
  | .makeFunc (.func f) first caps => if first.size = 0 then (mapM' cO caps.toList).map (.mkf f) else none
  | .slice t x lo hi none => match P.underlying t, cO x, cOpt lo, cOpt hi with
    | some .string, some x', some l, some h => some (.slS x' l h)
    | some (.slice e), some x', some l, some h => match P.info? e with
      | some i => some (.slA e i.size x' l h)
      | none => none
    | _, _, _, _ => none
  | .fieldAddr s x f => match P.underlying s, cO x with
    | some (.struct fs), some x' => match fs[f]? with
      | some fd => match P.info? fd.type with
        | some i => if i.size = 0 then none else some (.fa fd.offset x')
        | none => none
      | none => none
    | _, _ => none
  | .indexAddr t x i => match P.underlying t, cO x, cO i with
    | some (.slice e), some x', some i' => (P.info? e).map fun f => .ia f.size x' i'
    | some (.array n e), some x', some i' => (P.info? e).map fun f => .iaa n f.size x' i'
    | _, _, _ => none
  | .field t x f => match P.underlying t, cO x with
    | some (.struct fs), some x' => match fs[f]? with
      | some fd => (aggOf P fd.type).map fun g => .fl fd.offset g x'
      | none => none
    | _, _ => none
  | .index t x i => match P.underlying t, cO x, cO i with
    | some .string, some x', some i' => some (.ix x' i')
    | some (.array n e), some x', some i' => match P.info? e, aggOf P e with
      | some f, some g => some (.ixa n f.size g x' i')
      | _, _ => none
    | _, _, _ => none
  | .extract x k => (cO x).map (.ext k)
  | .range t x => match P.underlying t with
    | some .string => (cO x).map .rng
    | _ => none
  | .next x true => (cO x).map .nxt
  | .makeSlice t l c => match P.underlying t, cO l, cO c with
    | some (.slice e), some l', some c' => match P.info? e, zeroOf P e with
      | some i, some z => if 0 < i.size then some (.mksl e i.size i.bytes z l' c') else none
      | _, _ => none
    | _, _, _ => none
  | .call c => cCall P c
  | _ => none

/-- An empty row, for a slice variable that begins as nil. -/
def cNil (P : Program) (t : TypeId) : Op → Option I
  | .assign (.const (.slice none 0 0)) => match P.underlying t with
    | some (.slice e) => (P.info? e).map fun i => .nrow e i.size
    | _ => none
  | _ => none

def cOp (P : Program) (nt : Nat) (ops : Array Oper) (o : Oper) : Option OpI :=
  match (cNil P o.type o.op).or (cI P o.op) with
  | none => none
  | some i =>
    if o.dst.all (· < nt) then
      match o.guard with
      | none => some ⟨o.dst, i, none, 0⟩
      | some (j, b) => match (ops[j]?).bind (·.dst) with
        | some d => some ⟨o.dst, i, some (d, b), 0⟩
        | none => none
    else none

/-! ### Regions whose order is drawn -/

def O.regs : O → List Nat
  | .t n => [n]
  | _ => []

def optRegs : Option O → List Nat
  | some x => x.regs
  | none => []

def I.regs : I → List Nat
  | .mv x | .cvMk x | .box _ x | .nilc x | .un _ x | .cvI _ x | .cvSB _ x | .cvBS x | .cvIS x | .cvSS x | .fa _ x | .fl _ _ x | .ext _ x | .len _ x | .rng x | .nxt x | .ld _ x | .cvPU x | .cvUP _ x | .usd x => x.regs
  | .nrow _ _ | .alloc _ _ | .lenA _ => []
  | .pick a b c => a.regs ++ b.regs ++ c.regs
  | .build _ ps => (ps.map fun p => p.2.2.regs).flatten
  | .mks _ _ _ _ ps => (ps.map fun p => p.2.regs).flatten
  | .stv _ x y | .bin _ x y | .eqv _ _ x y | .ia _ x y | .iaa _ _ x y | .ix x y | .ixa _ _ _ x y | .app _ _ _ _ x y | .mksl _ _ _ _ x y | .eqp _ x y | .ust _ x y => x.regs ++ y.regs
  | .slS x l h | .slA _ _ x l h => x.regs ++ optRegs l ++ optRegs h
  | .mxn _ xs | .call _ xs | .mkf _ xs => (xs.map O.regs).flatten
  | .callv x xs => x.regs ++ (xs.map O.regs).flatten

def OpI.looks (o : OpI) : List Nat := o.i.regs ++ (match o.g with
  | some (d, _) => [d]
  | none => [])

/-- What an operation has to do with the heap: nothing, it reads, it is a call that leaves it, it makes an entry, it may do anything. -/
inductive Kd where
  | p | r | q | a | w

def I.kd : I → Kd
  | .mv _ | .pick .. | .build .. | .nilc _ | .bin .. | .eqv .. | .un .. | .cvI .. | .cvSB .. | .cvIS _ | .cvSS _ | .slS .. | .fa .. | .iaa .. | .fl .. | .ix .. | .ixa .. | .ext .. | .len .. | .lenA _ | .mxn .. | .mkf .. => .p
  | .ld _ x | .ia _ x _ | .cvBS x | .cvPU x | .cvUP _ x | .eqp _ x _ | .usd x => match x with
    | .c _ => .w
    | _ => .r
  | .nrow .. | .alloc .. | .box .. | .mks .. | .rng _ | .mksl .. => .a
  | .stv .. | .app .. | .cvMk _ | .nxt _ | .slA .. | .call .. | .callv .. | .ust .. => .w

def OpI.kd (o : OpI) : Kd := match o.q with
  | 0 => o.i.kd
  | 1 => .q
  | _ => .p

def Kd.ok : Kd → Kd → Bool
  | .p, _ | _, .p => true
  | .r, .r | .r, .q | .q, .r | .q, .q | .r, .a | .a, .r => true
  | _, _ => false

def freeOf (d : Option Nat) (l : List Nat) : Bool := match d with
  | some t => l.all fun u => !(u == t)
  | none => true

/-- Which of the two comes first does not matter. -/
def indep (x y : OpI) : Bool := freeOf x.dst y.looks && freeOf y.dst x.looks && freeOf x.dst y.dst.toList && Kd.ok x.kd y.kd

/-- Those that cannot come up before i has. -/
def depFrom (ops : Array Oper) (i : Nat) : List Nat → List Nat → List Nat
  | [], D => D
  | j :: l, D => depFrom ops i l (if j = i ∨ ((ops[j]?).map fun o => o.after.any fun e => Region.binds .any e && D.any (· == e.on)) = some true then j :: D else D)

def deps (ops : Array Oper) (i : Nat) : List Nat := depFrom ops i (List.range ops.size) []

def free (ops : Array Oper) (cs : List OpI) (listed : Array Bool) (i : Nat) : Bool :=
  match cs[i]? with
  | some o => (deps ops i).all (fun j => !listed.getD j true) && (List.range ops.size).all fun j => listed.getD j true || (deps ops i).any (· == j) || match cs[j]? with
    | some o' => indep o o'
    | none => true
  | none => false

def plan (ops : Array Oper) (cs : List OpI) : Nat → Array Bool → Option DT
  | 0, listed => match Region.ready .any ops listed with
    | [] => some .dn
    | _ => none
  | n + 1, listed => match Region.ready .any ops listed with
    | [] => some .dn
    | rs => match rs.find? (free ops cs listed) with
      | some i => match cs[i]?, plan ops cs n (listed.setIfInBounds i true) with
        | some o, some d => some (.op o d)
        | _, _ => none
      | none => rs.foldr (fun i acc => match cs[i]?, plan ops cs n (listed.setIfInBounds i true), acc with
        | some o, some d, some t => some (.both (.op o d) t)
        | _, _, _ => none) (some .tt)

def isCall : I → Bool
  | .call .. | .callv .. => true
  | _ => false

def isSlA : I → Bool
  | .slA .. => true
  | _ => false

def mild : I → Bool := fun i => isCall i || isSlA i || match i.kd with
  | .p | .r => true
  | _ => false

def pureI : I → Bool := fun i => match i.kd with
  | .p => true
  | _ => false

def setQ (ops : Array Oper) (cs : List OpI) : List OpI :=
  let b := Region.before ops
  (cs.zip (List.range cs.length)).map fun (o, i) =>
    if isCall o.i || isSlA o.i then
      let others := (cs.zip (List.range cs.length)).filter fun (_, j) => !(i == j) && !(b.getD i 0).testBit j && !(b.getD j 0).testBit i
      if others.all (fun x => pureI x.1.i) then o
      else if isCall o.i && others.all (fun x => mild x.1.i) then { o with q := 1 } else { o with q := 2 }
    else o

def compile (P : Program) (nt : Nat) : Code → Option C
  | .skip => some .sk
  | .region _ ops false => (mapM' (cOp P nt ops) ops.toList).map .rg
  | .region _ ops true => match mapM' (cOp P nt ops) ops.toList with
    | some cs => (plan ops (setQ ops cs) ops.size (Array.replicate ops.size false)).map .dr
    | none => none
  | .seq a b => match compile P nt a, compile P nt b with
    | some x, some y => some (.sq x y)
    | _, _ => none
  | .cond c a b => match cO c, compile P nt a, compile P nt b with
    | some c', some x, some y => some (.cd c' x y)
    | _, _, _ => none
  | .block id b => (compile P nt b).map (.bl id)
  | .loop b => (compile P nt b).map .lp
  | .exit id => some (.ex id)
  | .ret => some .rt
  | .refuse _ => some .rf
  | _ => none

end Go.Am
