/- A part of the proofs of this seat: Sx2. No condition is set. -/
import Derived.Test.YtchhjighipjnnaaSx1
set_option linter.unusedVariables false
namespace Go.Sx

inductive EV where
  | val (v : AV)
  | loc (key off : Nat)

structure St where
  env : List (Nat × EV)
  L : List (Nat × List AV)
  H : List (List AV)

/-- esc: its boxes may be led to from outside · n0: how many blocks there were · fz: the slots of slice literals that nobody writes -/
structure Cfg where
  esc : Bool
  n0 : Nat
  fz : List Nat := []

def lk {α : Type} : List (Nat × α) → Nat → Option α
  | [], _ => none
  | (k, v) :: r, t => if k = t then some v else lk r t

def aOf1 : Value → AV
  | .bool b => .bool b
  | .int k n => .int k n
  | .float .f64 b => if b < 2 ^ 64 then .flt (cn b) else .junk
  | .string s => .str s
  | .slice none 0 0 => .slnil
  | .pointer a => .raw (.pointer a)
  | .nilFunc => .raw .nilFunc
  | .nilIface => .raw .nilIface
  | _ => .junk
def aOf : Value → AV
  | .agg cs => if cs.toList.all (·.oneCell') then .agg (cs.toList.map aOf1) else .junk
  | v => aOf1 v

def St.ev (st : St) : Operand → EV
  | .tmp t => (lk st.env t).getD (.val .junk)
  | .const v => .val (aOf v)
  | .func f => .val (.func f [] [])
  | .global _ => .val .junk
def St.put (st : St) (dst : Option Tmp) (v : EV) : St :=
  match dst with
  | some d => { st with env := (d, v) :: st.env }
  | none => st
def St.putL (st : St) (key : Nat) (cs : List AV) : St := { st with L := (key, cs) :: st.L }
def St.setH (st : St) (H : List (List AV)) : St := { st with H := H }

def EV.asV : EV → Option AV
  | .val v => some v
  | .loc _ _ => none
def EV.asB : EV → Option Bool
  | .val (.bool b) => some b
  | _ => none
/-- a slot whose operation was passed over -/
def EV.isU : EV → Bool
  | .val (.tup []) => true
  | _ => false
def EV.asI : EV → Option (IntKind × Int)
  | .val (.int k n) => some (k, n)
  | _ => none
def AV.asF : AV → Option Nat
  | .flt x => some x
  | .fraw b => some (cn b)
  | _ => none
/-- the cells of a value: none where they are not known -/
def AV.cells : AV → Option (List AV)
  | .agg cs => some cs
  | .junk => none
  | .tup _ => none
  | .raw v => if v.oneCell' then some [.raw v] else none
  | v => some [v]

def gc (cs : List AV) (off : Nat) : Nat → Option (List AV)
  | 0 => some []
  | n + 1 => (cs[off]?).bind fun c => (gc cs (off + 1) n).map (c :: ·)
def sc (cs : List AV) (off : Nat) : List AV → List AV
  | [] => cs
  | v :: vs => sc (cs.set off v) (off + 1) vs

def slen : AV → Option Nat
  | .slnil => some 0
  | .sl _ len _ => some len
  | .slm _ _ _ len _ => some len
  | _ => none
def sread (H : List (List AV)) : AV → Nat → Nat → Option (List AV)
  | .sl _ _ cells, off, n => gc cells off n
  | .slm id gen o _ _, off, n => (H[id]?).bind fun cs => if cs.length = gen then gc cs (o + off) n else none
  | _, _, _ => none

def tsz (P : Program) (t : TypeId) : Option Nat := (P.info? t).map (·.size)
def tkind (P : Program) (t : TypeId) : Option Bool := (P.underlying t).map (·.isRow)
def telem (P : Program) (t : TypeId) : Option TypeId :=
  match P.underlying t with
  | some (.slice e) => some e
  | _ => none
def tzero (P : Program) (t : TypeId) : Option AV := ((P.info? t).bind (·.zero)).map aOf
def ldv (P : Program) (t : TypeId) (cells : List AV) : Option AV :=
  match tkind P t, cells with
  | some true, cs => some (.agg cs)
  | some false, [c] => some c
  | _, _ => none

/-! ### values of operations -/
def fop (f : Nat → Nat → Option Nat) (x y : Nat) : Nat :=
  match f x y with
  | some r => cn r
  | none => qn
def fadd := fop Ieee.double.add
def fsub := fop Ieee.double.sub
def fmul := fop Ieee.double.mul
def fdiv := fop Ieee.double.div
def feq (x y : Nat) : Bool := Ieee.double.order x y == some .eq
def flt (x y : Nat) : Bool := Ieee.double.order x y == some .lt
def fneg (x : Nat) : Nat := cn (Op.negFloat .f64 x)

def bitsI (op : BinOp) (k : IntKind) (x y : Int) : Int :=
  let a := BitVec.ofInt k.bits x
  let b := BitVec.ofInt k.bits y
  match op with
  | .and => k.wrap (a &&& b).toNat
  | .or => k.wrap (a ||| b).toNat
  | .xor => k.wrap (a ^^^ b).toNat
  | _ => k.wrap (a &&& ~~~b).toNat
def binI (op : BinOp) (k : IntKind) (x y : Int) : Option (Prop × AV) :=
  match op with
  | .add => some (True, .int k (k.wrap (x + y)))
  | .sub => some (True, .int k (k.wrap (x - y)))
  | .mul => some (True, .int k (k.wrap (x * y)))
  | .quo => some (y ≠ 0, .int k (k.wrap (x.tdiv y)))
  | .rem => some (y ≠ 0, .int k (x.tmod y))
  | .and => some (True, .int k (bitsI .and k x y))
  | .or => some (True, .int k (bitsI .or k x y))
  | .xor => some (True, .int k (bitsI .xor k x y))
  | .andNot => some (True, .int k (bitsI .andNot k x y))
  | .eql => some (True, .bool (x == y))
  | .neq => some (True, .bool (x != y))
  | .lss => some (True, .bool (decide (x < y)))
  | .leq => some (True, .bool (decide (x ≤ y)))
  | .gtr => some (True, .bool (decide (x > y)))
  | .geq => some (True, .bool (decide (x ≥ y)))
  | _ => none
def shI (op : BinOp) (k : IntKind) (x y : Int) : Option (Prop × AV) :=
  match op with
  | .shl => some (0 ≤ y, .int k (k.wrap (x * 2 ^ (min y.toNat k.bits))))
  | .shr => some (0 ≤ y, .int k (x.fdiv (2 ^ (min y.toNat k.bits))))
  | _ => none
def binF (op : BinOp) (x y : Nat) : Option (Prop × AV) :=
  match op with
  | .add => some (True, .flt (fadd x y))
  | .sub => some (True, .flt (fsub x y))
  | .mul => some (True, .flt (fmul x y))
  | .quo => some (True, .flt (fdiv x y))
  | .eql => some (True, .bool (feq x y))
  | .neq => some (True, .bool (!feq x y))
  | .lss => some (True, .bool (flt x y))
  | .leq => some (True, .bool (flt x y || feq x y))
  | .gtr => some (True, .bool (flt y x))
  | .geq => some (True, .bool (flt y x || feq x y))
  | _ => none
/-- is this the block's length now? -/
def curG (H : List (List AV)) (id gen : Nat) : Bool :=
  match H[id]? with
  | some cs => cs.length == gen
  | none => false
/-- are two pointers into slices one? -/
def ptrEq (H : List (List AV)) : AV → Nat → AV → Nat → Option Bool
  | .slm id g o _ _, a, .slm id' g' o' _ _, b => if curG H id g && curG H id' g' then (if id = id' then some (decide (o + a = o' + b)) else some false) else none
  | .sl (some (p, o)) _ _, a, .sl (some (q, o')) _ _, b => if p = q then some (decide (o + a = o' + b)) else none
  | .slm id g _ _ _, _, .sl _ _ (_ :: _), _ => if curG H id g then some false else none
  | .sl _ _ (_ :: _), _, .slm id g _ _ _, _ => if curG H id g then some false else none
  | _, _, _, _ => none
def ptrTy (P : Program) (t : TypeId) : Bool :=
  match P.underlying t with
  | some (.pointer e) => (tsz P e).any (0 < ·)
  | _ => false
def ptrV (P : Program) (H : List (List AV)) (op : BinOp) (t : TypeId) (x y : EV) : Option AV :=
  match op, x, y with
  | .eql, .val (.eptr s a), .val (.eptr s' b) => if ptrTy P t then (ptrEq H s a s' b).map .bool else none
  | .neq, .val (.eptr s a), .val (.eptr s' b) => if ptrTy P t then (ptrEq H s a s' b).map fun r => .bool (!r) else none
  | _, _, _ => none
def isPtr (P : Program) (t : TypeId) : Bool :=
  match P.underlying t with
  | some (.pointer _) => true
  | _ => false
def isSl (P : Program) (t : TypeId) : Bool :=
  match P.underlying t with
  | some (.slice _) => true
  | _ => false
/-- one of the two is nil: are they the same? -/
def nilEq (P : Program) (t : TypeId) : AV → AV → Option Bool
  | .eptr _ _, .raw (.pointer none) => if isPtr P t then some false else none
  | .raw (.pointer none), .eptr _ _ => if isPtr P t then some false else none
  | .raw (.pointer none), .raw (.pointer none) => if isPtr P t then some true else none
  | .slnil, .slnil => if isSl P t then some true else none
  | .slm _ _ _ _ _, .slnil => if isSl P t then some false else none
  | .sl _ _ (_ :: _), .slnil => if isSl P t then some false else none
  | _, _ => none
def strV (op : BinOp) (a b : ByteArray) : Option (Prop × AV) :=
  match op with
  | .add => some (a.size + b.size ≤ 9223372036854775807, .str (a ++ b))
  | .eql => some (True, .bool (a.toList == b.toList))
  | .neq => some (True, .bool (!(a.toList == b.toList)))
  | _ => none
def othV (P : Program) (op : BinOp) (t : TypeId) (x y : AV) : Option (Prop × AV) :=
  match x, y with
  | .str a, .str b => strV op a b
  | x, y =>
    match op with
    | .eql => (nilEq P t x y).map fun r => (True, .bool r)
    | .neq => (nilEq P t x y).map fun r => (True, .bool (!r))
    | _ => none
def binV (P : Program) (op : BinOp) (t : TypeId) (x y : EV) : Option (Prop × AV) :=
  match x, y with
  | .val (.int k a), .val (.int k' b) =>
    match op with
    | .shl | .shr => shI op k a b
    | _ => if k = k' then binI op k a b else none
  | .val (.bool a), .val (.bool b) =>
    match P.underlying t, op with
    | some .bool, .eql => some (True, .bool (a == b))
    | some .bool, .neq => some (True, .bool (a != b))
    | _, _ => none
  | .val x, .val y =>
    match x.asF, y.asF with
    | some a, some b => binF op a b
    | _, _ => othV P op t x y
  | _, _ => none

def unV (op : UnOp) (x : EV) : Option (Prop × AV) :=
  match op, x with
  | .not, .val (.bool b) => some (True, .bool (!b))
  | .neg, .val (.int k n) => some (True, .int k (k.wrap (0 - n)))
  | .xor, .val (.int k n) => some (True, .int k (bitsI .xor k (if k.signed then -1 else k.max) n))
  | .neg, .val v => (v.asF).map fun x => (True, .flt (fneg x))
  | _, _ => none

def cnvV (P : Program) (dst : TypeId) (x : EV) : Option (Prop × AV) :=
  match P.underlying dst, x with
  | some (.int k), .val (.int _ n) => some (True, .int k (k.wrap n))
  | some (.float .f64), .val (.int _ n) => some (True, .flt (cn (FloatKind.f64.nearest n)))
  | some (.float .f64), .val v => (v.asF).map fun x => (True, .flt x)
  | _, _ => none

def fieldOff (P : Program) (t : TypeId) (i : Nat) : Option (Nat × TypeId) :=
  match P.underlying t with
  | some (.struct fs) => (fs[i]?).map fun f => (f.offset, f.type)
  | _ => none

def tailI (k : EV) : Option Int := match k with
  | .val (.int _ n) => some n
  | _ => none

def fillA (place : Nat → Option (Nat × Nat)) (cells : List AV) : List (Nat × Option AV) → Option (List AV)
  | [] => some cells
  | (i, v) :: rest =>
    match place i, v.bind AV.cells with
    | some (off, size), some vs => if vs.length ≠ size ∨ off + vs.length > cells.length then none else fillA place (sc cells off vs) rest
    | _, _ => none
def fieldPl (P : Program) (fs : Array Field) (i : Nat) : Option (Nat × Nat) :=
  (fs[i]?).bind fun f => (tsz P f.type).map fun s => (f.offset, s)
def buildV (P : Program) (ρ : Operand → EV) (t : TypeId) (parts : Array (Nat × Operand)) : Option AV :=
  match tzero P t, P.underlying t with
  | some z, some (.struct fs) =>
    if fs.all (fun f => (tsz P f.type).isSome) then
      (z.cells).bind fun zc => (fillA (fieldPl P fs) zc (parts.toList.map fun (i, x) => (i, (ρ x).asV))).map .agg
    else none
  | _, _ => none

/-- from where, up to where -/
def bndI (ρ : Operand → EV) (d : Int) : Option Operand → Option Int
  | none => some d
  | some o => tailI (ρ o)
/-- a slice of what has so many cells an element: from 'l' up to 'h' -/
def slcV (z : Nat) (l h : Nat) : AV → Option AV
  | .slnil => some (.sl none 0 [])
  | .sl tag _ cells => if l < h then some (.sl (tag.map fun p => (p.1, p.2 + l * z)) (h - l) ((cells.drop (l * z)).take ((h - l) * z))) else some (.sl none 0 [])
  | .slm id gen off _ sz => if sz = z then (if l < h then some (.slm id gen (off + l * z) (h - l) z) else some (.sl none 0 [])) else none
  | _ => none
def sliceV (P : Program) (t : TypeId) (x : EV) (lo : Option Int) (hi : Int → Option Int) : Option (Prop × AV) :=
  match x, lo with
  | .val (.str s), some l => (match P.underlying t with
    | some .string => (hi s.size).map fun h => (0 ≤ l ∧ l ≤ h ∧ h ≤ s.size, .str (s.extract l.toNat h.toNat))
    | _ => none)
  | .val v, some l => (telem P t).bind fun e => (tsz P e).bind fun z => (slen v).bind fun n => (hi n).bind fun h => (slcV z l.toNat h.toNat v).map fun v' => (0 ≤ l ∧ l ≤ h ∧ h ≤ n, v')
  | _, _ => none
def strAt (s : ByteArray) (i : Nat) : Int := ((s[i]?).map fun b => (b.toNat : Int)).getD 0
def indexV (P : Program) (t : TypeId) (x : EV) (i : Option Int) : Option (Prop × AV) :=
  match P.underlying t, x, i with
  | some .string, .val (.str s), some n => some (0 ≤ n ∧ n < s.size, .int .u8 (strAt s n.toNat))
  | _, _, _ => none

/-- an operation that gives a value and turns nothing: what it asks, what it gives -/
def pureV (P : Program) (ρ : Operand → EV) (lL : Nat → Option (List AV)) (H : List (List AV)) : Op → Option (Prop × EV)
  | .move x | .assign x => some (True, ρ x)
  | .pick c a b => ((ρ c).asB).map fun b0 => (True, if b0 then ρ a else ρ b)
  | .load t x =>
    match ρ x with
    | .loc key off => (lL key).bind fun cs => (tsz P t).bind fun n => (gc cs off n).bind fun l => (ldv P t l).map fun v => (True, .val v)
    | .val (.eptr s off) => (tsz P t).bind fun n => (sread H s off n).bind fun l => (ldv P t l).map fun v => (True, .val v)
    | _ => none
  | .nilCheck x =>
    match ρ x with
    | .loc key off => some (True, .loc key off)
    | .val (.eptr s off) => some (True, .val (.eptr s off))
    | .val (.func f a b) => some (True, .val (.func f a b))
    | _ => none
  | .binOp op t x y _ =>
    match binV P op t (ρ x) (ρ y) with
    | some (c, v) => some (c, .val v)
    | none => (ptrV P H op t (ρ x) (ρ y)).map fun v => (True, .val v)
  | .unOp op _ x => (unV op (ρ x)).map fun (c, v) => (c, .val v)
  | .convert src dst x => if (P.underlying src).isSome then (cnvV P dst (ρ x)).map fun (c, v) => (c, .val v) else none
  | .fieldAddr t x i => (fieldOff P t i).bind fun (o, ft) =>
      if (tsz P ft).any (0 < ·) then
        match ρ x with
        | .loc key off => some (True, .loc key (off + o))
        | .val (.eptr s off) => some (True, .val (.eptr s (off + o)))
        | _ => none
      else none
  | .field t x i => (fieldOff P t i).bind fun (o, ft) =>
      match ρ x with
      | .val (.agg cs) => (tsz P ft).bind fun n => (gc cs o n).bind fun l => (ldv P ft l).map fun v => (True, .val v)
      | _ => none
  | .indexAddr t x i =>
    match telem P t, ρ x, tailI (ρ i) with
    | some e, .val s, some n =>
      (slen s).bind fun len => (tsz P e).map fun z => (0 ≤ n ∧ n < (len : Int), .val (.eptr s (n.toNat * z)))
    | _, _, _ => none
  | .extract x i =>
    match ρ x with
    | .val (.tup vs) => (vs[i]?).map fun v => (True, .val v)
    | _ => none
  | .slice t x lo hi none => (sliceV P t (ρ x) (bndI ρ 0 lo) (fun n => bndI ρ n hi)).map fun (c, v) => (c, .val v)
  | .index t x i => (indexV P t (ρ x) (tailI (ρ i))).map fun (c, v) => (c, .val v)
  | .build t parts => (buildV P ρ t parts).map fun v => (True, .val v)
  | .makeFunc (.func f) first caps =>
      match (first.toList.map fun x => (ρ x).asV).mapM id, (caps.toList.map fun x => (ρ x).asV).mapM id with
      | some a, some b => some (True, .val (.func f a b))
      | _, _ => none
  | .call { callee := .builtin .len, args := args, argTypes := ts } =>
      match args.toList, (ts[0]?).bind P.underlying with
      | [x], some (.slice _) => ((ρ x).asV.bind slen).map fun (n : Nat) => (True, .val (.int .i64 (n : Int)))
      | [x], some .string => match ρ x with
        | .val (.str s) => some (True, .val (.int .i64 s.size))
        | _ => none
      | _, _ => none
  | .call { callee := .builtin .min, args := args, .. } =>
      match args.toList.map (fun x => (ρ x).asI) with
      | [some (k, a), some (k', b)] => if k = k' then some (True, .val (.int k (min a b))) else none
      | [some (k, a), some (k', b), some (k'', c)] => if k = k' ∧ k = k'' then some (True, .val (.int k (min (min a b) c))) else none
      | _ => none
  | .call { callee := .builtin .max, args := args, .. } =>
      match args.toList.map (fun x => (ρ x).asI) with
      | [some (k, a), some (k', b)] => if k = k' then some (True, .val (.int k (max a b))) else none
      | [some (k, a), some (k', b), some (k'', c)] => if k = k' ∧ k = k'' then some (True, .val (.int k (max (max a b) c))) else none
      | _ => none
  | _ => none

end Go.Sx
