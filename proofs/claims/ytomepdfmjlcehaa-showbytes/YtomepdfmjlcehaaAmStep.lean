/- What an instruction does to abstract values and the abstract heap. -/
import Derived.Test.YtomepdfmjlcehaaAmIR
import GoSem.Core.Utf8
set_option linter.unusedVariables false
namespace Go.Am

abbrev Regs := List (Nat × AV)

def look : Regs → Nat → AV
  | [], _ => .un
  | (k, a) :: r, t => if k = t then a else look r t

/-- A byte. -/
def b8 (b : UInt8) : AV := .it .u8 b.toNat

def unb8 : List AV → Option (List UInt8)
  | [] => some []
  | .it .u8 n :: l => match unb8 l with
    | some m => some (UInt8.ofNat n.toNat :: m)
    | none => none
  | _ => none

/-- A byte, and in its bounds. -/
def isB8 : AV → Bool
  | .it .u8 n => decide (0 ≤ n) && decide (n < 256)
  | _ => false

def isIt : AV → Bool
  | .it _ _ => true
  | _ => false

def AV.isOne : AV → Bool
  | .ag _ | .tp _ | .un => false
  | _ => true

section
variable (Gl : Nat → AV)

def ov (r : Regs) : O → AV
  | .t n => look r n
  | .c a => a
  | .g n => Gl n
  | .f n => .fn n []
end

def leafEq : Nat → Option AV → Option AV → Option Bool
  | 0, some (.bo a), some (.bo b) => some (a == b)
  | 1, some (.it k a), some (.it k' b) => if k = k' then some (a == b) else none
  | 2, some (.st a), some (.st b) => some (a == b)
  | _, _, _ => none

def allEq (xs ys : List AV) : List (Nat × Nat) → Option Bool
  | [] => some true
  | (o, k) :: l => match leafEq k xs[o]? ys[o]? with
    | some b => match allEq xs ys l with
      | some c => some (b && c)
      | none => none
    | none => none

def s_eq (H : List Ent) : EqD → AV → AV → Option Bool
  | .bool, .bo a, .bo b => some (a == b)
  | .ptr, .sc (.pointer none), .sc (.pointer none) => some true
  | .ptr, .ptr _ _, .sc (.pointer none) => some false
  | .ptr, .sc (.pointer none), .ptr _ _ => some false
  | .nul, .nl, .nl => some true
  | .nul, .sl (_ :: _), .nl => some false
  | .fnc, .fn _ _, .sc .nilFunc => some false
  | .fnc, .sc .nilFunc, .sc .nilFunc => some true
  | .all fs, .ag xs, .ag ys => allEq xs ys fs
  | _, _, _ => none

def s_bin : BinOp → AV → AV → Option AV
  | .add, .it k a, .it k' b => if k = k' then some (.it k (k.wrap (a + b))) else none
  | .sub, .it k a, .it k' b => if k = k' then some (.it k (k.wrap (a - b))) else none
  | .mul, .it k a, .it k' b => if k = k' then some (.it k (k.wrap (a * b))) else none
  | .quo, .it k a, .it k' b => if k = k' then (if b = 0 then none else some (.it k (k.wrap (a.tdiv b)))) else none
  | .rem, .it k a, .it k' b => if k = k' then (if b = 0 then none else some (.it k (a.tmod b))) else none
  | .and, .it k a, .it k' b => if k = k' then some (.it k (k.wrap (BitVec.ofInt k.bits a &&& BitVec.ofInt k.bits b).toNat)) else none
  | .or, .it k a, .it k' b => if k = k' then some (.it k (k.wrap (BitVec.ofInt k.bits a ||| BitVec.ofInt k.bits b).toNat)) else none
  | .xor, .it k a, .it k' b => if k = k' then some (.it k (k.wrap (BitVec.ofInt k.bits a ^^^ BitVec.ofInt k.bits b).toNat)) else none
  | .andNot, .it k a, .it k' b => if k = k' then some (.it k (k.wrap (BitVec.ofInt k.bits a &&& ~~~BitVec.ofInt k.bits b).toNat)) else none
  | .shl, .it k a, .it _ b => if b < 0 then none else some (.it k (k.wrap (a * 2 ^ (min b.toNat k.bits))))
  | .shr, .it k a, .it _ b => if b < 0 then none else some (.it k (a.fdiv (2 ^ (min b.toNat k.bits))))
  | .eql, .it k a, .it k' b => if k = k' then some (.bo (a == b)) else none
  | .neq, .it k a, .it k' b => if k = k' then some (.bo (a != b)) else none
  | .lss, .it k a, .it k' b => if k = k' then some (.bo (decide (a < b))) else none
  | .leq, .it k a, .it k' b => if k = k' then some (.bo (decide (a ≤ b))) else none
  | .gtr, .it k a, .it k' b => if k = k' then some (.bo (decide (a > b))) else none
  | .geq, .it k a, .it k' b => if k = k' then some (.bo (decide (a ≥ b))) else none
  | .add, .st a, .st b => if a.length + b.length ≤ 9223372036854775807 then some (.st (a ++ b)) else none
  | .eql, .st a, .st b => some (.bo (a == b))
  | .neq, .st a, .st b => some (.bo (!(a == b)))
  | _, _, _ => none

def s_un : UnOp → AV → Option AV
  | .neg, .it k n => some (.it k (k.wrap (0 - n)))
  | .not, .bo b => some (.bo !b)
  | _, _ => none

/-- The cells of that into which an address leads, and where it leads. -/
def cellsAt (H : List Ent) : AV → Option (List AV × Nat)
  | .ptr g o => match H[g]? with
    | some (.box _ cs) => some (cs, o)
    | _ => none
  | .el g n i o => match H[g]? with
    | some (.row _ _ xs _) => if xs.length = n then (match xs[i]? with
      | some x => some (x.cells, o)
      | none => none) else none
    | _ => none
  | .fp xs i o => match xs[i]? with
    | some x => some (x.cells, o)
    | none => none
  | _ => none

/-- A value of so many cells, or of one, out of cells. -/
def takeV (cs : List AV) (o : Nat) : Option Nat → Option AV
  | none => cs[o]?
  | some n => if o + n ≤ cs.length then some (.ag ((cs.drop o).take n)) else none

def splice (cs : List AV) (o : Nat) (ys : List AV) : List AV := cs.take o ++ ys ++ cs.drop (o + ys.length)

def putIn (x : AV) (o : Nat) (ys : List AV) : AV :=
  match x with
  | .ag cs => .ag (splice cs o ys)
  | _ => match ys with
    | [y] => y
    | _ => .un

def s_store (H : List Ent) (n : Nat) (a x : AV) : Option (Nat × Ent) :=
  if x.cells.length = n ∧ x.cells.all AV.isOne = true then
    match a with
    | .ptr g o => match H[g]? with
      | some (.box t cs) => if o + n ≤ cs.length then some (g, .box t (splice cs o x.cells)) else none
      | _ => none
    | .el g k i o => match H[g]? with
      | some (.row e sz xs f) => if xs.length = k ∧ o + n ≤ sz ∧ i < k ∧ 0 < n ∧ f ≤ i then (match xs[i]? with
        | some y => some (g, .row e sz (xs.set i (putIn y o x.cells)) f)
        | none => none) else none
      | _ => none
    | _ => none
  else none

/-- The elements of a slice that is read. -/
def elems (H : List Ent) : AV → Option (List AV)
  | .sl xs => some xs
  | .nl => some []
  | .row g n => match H[g]? with
    | some (.row _ _ xs _) => if xs.length = n then some xs else none
    | _ => none
  | _ => none

/-- What an append takes in. -/
def srcOf (H : List Ent) : Bool → AV → Option (List AV)
  | false, a => elems H a
  | true, a => match a with
    | .st s => some (s.map b8)
    | _ => none

def bnd : Option AV → Option (Option Int)
  | none => some none
  | some (.it _ n) => some (some n)
  | _ => none

/-- A slice's bounds, within so many. -/
def cutB (len : Nat) (lo hi : Option AV) : Option (Nat × Nat) :=
  match bnd lo, bnd hi with
  | some l, some h =>
    let h' : Int := h.getD len
    let l' : Int := l.getD 0
    if 0 ≤ l' ∧ l' ≤ h' ∧ h' ≤ len then some (l'.toNat, h'.toNat) else none
  | _, _ => none

def fillC (z : List AV) : List (Nat × Nat × AV) → Option (List AV)
  | [] => some z
  | (o, n, x) :: l => if x.cells.length = n ∧ o + n ≤ z.length ∧ x.cells.all AV.isOne = true then fillC (splice z o x.cells) l else none

def mxs (mx : Bool) : IntKind → Int → List AV → Option AV
  | k, a, [] => some (.it k a)
  | k, a, .it _ b :: l => mxs mx k (if mx then (if b > a then b else a) else (if b < a then b else a)) l
  | _, _, _ => none

/-- An element that may be stored: so many cells. -/
def elemOk (sz : Nat) (x : AV) : Bool := decide (x.cells.length = sz) && x.cells.all AV.isOne

def zel (z : List AV) : AV := match z with
  | [c] => c
  | cs => .ag cs

section
variable (Gl : Nat → AV)

/-- What an instruction comes to: its value, an entry that turns, and a new entry (whose number is id), if there is one. -/
def step (id : Nat) (r : Regs) (H : List Ent) : I → Option (AV × Option (Nat × Ent) × Option Ent)
  | .mv x => some (ov Gl r x, none, none)
  | .nrow e sz => some (.row id 0, none, some (.row e sz [] 0))
  | .cvMk x => match ov Gl r x with
    | .row g n => match H[g]? with
      | some (.row _ 1 xs f) => if xs.length = n ∧ 0 < n ∧ xs.all isIt = true then some (.sl xs, some (g, .dead), none) else none
      | _ => none
    | _ => none
  | .pick c a b => match ov Gl r c with
    | .bo true => some (ov Gl r a, none, none)
    | .bo false => some (ov Gl r b, none, none)
    | _ => none
  | .alloc t z => some (.ptr id 0, none, some (.box t z))
  | .box t x => if (ov Gl r x).cells.all AV.isOne = true then some (.ptr id 0, none, some (.box t (ov Gl r x).cells)) else none
  | .build z ps => match fillC z (ps.map fun p => (p.1, p.2.1, ov Gl r p.2.2)) with
    | some cs => some (.ag cs, none, none)
    | none => none
  | .mks e sz z n ps => if ps.map (·.1) = List.range n ∧ (ps.map fun p => ov Gl r p.2).all (elemOk sz) = true then
      some (.row id n, none, some (.row e sz (ps.map fun p => ov Gl r p.2) 0)) else none
  | .ld g a => match cellsAt H (ov Gl r a) with
    | some (cs, o) => match takeV cs o g with
      | some v => some (v, none, none)
      | none => none
    | none => none
  | .stv n a x => match s_store H n (ov Gl r a) (ov Gl r x) with
    | some u => some (.un, some u, none)
    | none => none
  | .nilc x => match ov Gl r x with
    | .ptr g o => some (.ptr g o, none, none)
    | .el g n i o => some (.el g n i o, none, none)
    | .fp xs i o => some (.fp xs i o, none, none)
    | .fn f cs => some (.fn f cs, none, none)
    | _ => none
  | .bin op x y => match s_bin op (ov Gl r x) (ov Gl r y) with
    | some v => some (v, none, none)
    | none => none
  | .eqv neg d x y => match s_eq H d (ov Gl r x) (ov Gl r y) with
    | some b => some (.bo (neg.xor b), none, none)
    | none => none
  | .un op x => match s_un op (ov Gl r x) with
    | some v => some (v, none, none)
    | none => none
  | .cvI k x => match ov Gl r x with
    | .it _ n => some (.it k (k.wrap n), none, none)
    | _ => none
  | .cvSB _ x => match ov Gl r x with
    | .st s => if s.length ≤ 9223372036854775807 then some (.sl (s.map b8), none, none) else none
    | _ => none
  | .cvBS x => match elems H (ov Gl r x) with
    | some xs => match unb8 xs with
      | some s => some (.st s, none, none)
      | none => none
    | none => none
  | .cvIS x => match ov Gl r x with
    | .it _ n => some (.st (Utf8.encode n).data.toList, none, none)
    | _ => none
  | .cvSS x => match ov Gl r x with
    | .st s => some (.st s, none, none)
    | _ => none
  | .slS x lo hi => match ov Gl r x with
    | .st s => match cutB s.length (lo.map (ov Gl r)) (hi.map (ov Gl r)) with
      | some (l, h) => some (.st ((s.take h).drop l), none, none)
      | none => none
    | _ => none
  | .slA e sz x lo hi => match ov Gl r x with
    | .sl xs => match cutB xs.length (lo.map (ov Gl r)) (hi.map (ov Gl r)) with
      | some (l, h) => if xs.all (fun x => decide (x.cells.length = sz)) = true then some (.sl ((xs.take h).drop l), none, none) else none
      | none => none
    | .row g n => match H[g]? with
      | some (.row e' sz' xs f) => match cutB n (lo.map (ov Gl r)) (hi.map (ov Gl r)) with
        | some (l, h) => if xs.length = n ∧ sz' = sz then
            (if f = 0 then (if l = 0 then some (.row id h, some (g, .dead), some (.row e' sz' (xs.take h) 0)) else none)
             else if h ≤ f then some (.sl ((xs.take h).drop l), none, none) else none) else none
        | none => none
      | _ => none
    | _ => none
  | .fa off x => match ov Gl r x with
    | .ptr g o => some (.ptr g (o + off), none, none)
    | .el g n i o => some (.el g n i (o + off), none, none)
    | .fp xs i o => some (.fp xs i (o + off), none, none)
    | _ => none
  | .ia sz x i => match ov Gl r x, ov Gl r i with
    | .sl xs, .it _ k => if 0 ≤ k then (match xs[k.toNat]? with
        | some y => if y.cells.length = sz then some (.fp xs k.toNat 0, none, none) else none
        | none => none) else none
    | .row g n, .it _ k => match H[g]? with
      | some (.row _ sz' xs _) => if 0 ≤ k ∧ k < n ∧ xs.length = n ∧ sz' = sz then some (.el g n k.toNat 0, none, none) else none
      | _ => none
    | _, _ => none
  | .iaa n sz x i => match ov Gl r x, ov Gl r i with
    | .fp xs 0 0, .it _ k => if 0 ≤ k ∧ k < n ∧ xs.length = n ∧ xs.all (fun x => decide (x.cells.length = sz)) = true then some (.fp xs k.toNat 0, none, none) else none
    | _, _ => none
  | .fl off g x => match ov Gl r x with
    | .ag cs => match takeV cs off g with
      | some v => some (v, none, none)
      | none => none
    | _ => none
  | .ix x i => match ov Gl r x, ov Gl r i with
    | .st s, .it _ k => if 0 ≤ k then (match s[k.toNat]? with
      | some b => some (b8 b, none, none)
      | none => none) else none
    | _, _ => none
  | .ixa n sz g x i => match ov Gl r x, ov Gl r i with
    | .ag cs, .it _ k => if 0 ≤ k ∧ k < n then (match takeV cs (k.toNat * sz) g with
      | some v => some (v, none, none)
      | none => none) else none
    | _, _ => none
  | .ext k x => match ov Gl r x with
    | .tp vs => match vs[k]? with
      | some v => some (v, none, none)
      | none => none
    | _ => none
  | .app e sz bytes str x y =>
    match srcOf H str (ov Gl r y) with
    | some ys => if ys.all (elemOk sz) = true then (match ov Gl r x with
      | .row g n => match H[g]? with
        | some (.row e' sz' xs f) => if xs.length = n ∧ e' = e ∧ sz' = sz ∧ (n + ys.length) * bytes ≤ 140737488355328 ∧ n + ys.length ≤ 9223372036854775807 then
            some (.row g (n + ys.length), some (g, .row e sz (xs ++ ys) f), none) else none
        | _ => none
      | .nl => if ys.length * bytes ≤ 140737488355328 ∧ ys.length ≤ 9223372036854775807 then some (.row id ys.length, none, some (.row e sz ys 0)) else none
      | _ => none) else none
    | none => none
  | .len true x => match ov Gl r x with
    | .st s => some (.it .i64 s.length, none, none)
    | _ => none
  | .len false x => match ov Gl r x with
    | .sl xs => some (.it .i64 xs.length, none, none)
    | .row _ n => some (.it .i64 n, none, none)
    | .nl => some (.it .i64 0, none, none)
    | _ => none
  | .lenA n => some (.it .i64 n, none, none)
  | .mxn mx xs => match xs.map (ov Gl r) with
    | .it k a :: l => match mxs mx k a l with
      | some v => some (v, none, none)
      | none => none
    | _ => none
  | .call _ _ => none
  | .callv _ _ => none
  | .mkf f cs => some (.fn f (cs.map (ov Gl r)), none, none)
  | .rng x => match ov Gl r x with
    | .st s => some (.ptr id 0, none, some (.iter s 0))
    | _ => none
  | .nxt x => match ov Gl r x with
    | .ptr g 0 => match H[g]? with
      | some (.iter s p) => if p < s.length then
          some (.tp [.bo true, .it .i64 p, .it .i32 (Utf8.decode ⟨s.toArray⟩ p).1], some (g, .iter s (p + (Utf8.decode ⟨s.toArray⟩ p).2)), none)
        else some (.tp [.bo false], none, none)
      | _ => none
    | _ => none
  | .cvPU x => match ov Gl r x with
    | .ptr g o => match H[g]? with
      | some (.box _ cs) => if o < cs.length then some (.ptr g o, none, none) else none
      | _ => none
    | _ => none
  | .cvUP l x => match ov Gl r x with
    | .ptr g o => match H[g]? with
      | some (.box t cs) => if o = 0 ∧ l.any (fun p => p.1 == t && p.2 == cs.length) = true then some (.ptr g o, none, none) else none
      | _ => none
    | _ => none
  | .eqp neg x y => match ov Gl r x, ov Gl r y with
    | .ptr g o, .ptr g' o' => match H[g]? with
      | some (.box _ _) => if g = g' ∧ o = o' then some (.bo (neg.xor true), none, none) else none
      | _ => none
    | _, _ => none
  | .usd x => match ov Gl r x with
    | .nl => some (.sc (.pointer none), none, none)
    | .row g n => match H[g]? with
      | some (.row _ _ xs _) => if xs.length = n ∧ 0 < n then some (.el g n 0 0, none, none) else none
      | _ => none
    | _ => none
  | .ust e x n => match ov Gl r x, ov Gl r n with
    | .sc (.pointer none), .it .i64 m => if m = 0 then some (.st [], none, none) else none
    | .el g k 0 0, .it .i64 m => match H[g]? with
      | some (.row e' 1 xs _) => if xs.length = k ∧ m = k ∧ 0 < k ∧ e' = e ∧ xs.all isB8 = true then (match unb8 xs with
        | some s => some (.st s, some (g, .dead), none)
        | none => none) else none
      | _ => none
    | _, _ => none
  | .mksl e sz bytes z l c => match ov Gl r l, ov Gl r c with
    | .it _ n, .it _ m => if n = m ∧ 0 ≤ n ∧ n * bytes ≤ 140737488355328 ∧ n ≤ 9223372036854775807 ∧ z.length = sz then
        some (.row id n.toNat, none, some (.row e sz (List.replicate n.toNat (zel z)) 0)) else none
    | _, _ => none
end

/-- The heap with an entry turned. -/
@[reducible] def appU (H : List Ent) : Option (Nat × Ent) → List Ent
  | none => H
  | some (g, e) => H.set g e

end Go.Am
