/- A part of the proofs of this seat: XA. No condition is set. -/
import Derived.Deep.MidRow
import Derived.Laws.CopyRow
import Derived.Laws.FloatArith
import Derived.Laws.FloatBits
import Derived.WalkKit
import Derived.WalkLawsBesides
namespace Go.Sx

/-! ### floats up to a NaN's bits -/
def isNaN (b : Nat) : Bool := (Ieee.double.read b).isNaN
def qn : Nat := 9221120237041090560
def cn (b : Nat) : Nat := if isNaN b then qn else b

/-! ### abstract values -/
inductive AV where
  | junk
  | bool (b : Bool)
  | int (k : IntKind) (n : Int)
  | flt (x : Nat)
  | fraw (b : Nat)
  | str (s : ByteArray)
  | slnil
  | sl (tag : Option (Nat × Nat)) (len : Nat) (cells : List AV)
  | slm (id gen off len sz : Nat)
  | eptr (s : AV) (off : Nat)
  | agg (cells : List AV)
  | tup (vs : List AV)
  | func (f : Nat) (first caps : List AV)
  | raw (v : Value)


structure Gh where
  ρ : Nat → Nat → Option (Nat × Nat)
  Fz : Nat → Prop

def bsz (w : World) (b : Nat) : Option Nat :=
  match w.heap[b]? with
  | some (.cells c _ _) => some c.size
  | _ => none

mutual
def VRep (w : World) (g : Gh) : AV → Value → Prop
  | .junk, _ => True
  | .bool b, v => v = .bool b
  | .int k n, v => v = .int k n
  | .flt x, v => ∃ b, v = .float .f64 b ∧ b < 2 ^ 64 ∧ cn b = x
  | .fraw b, v => v = .float .f64 b ∧ b < 2 ^ 64
  | .str s, v => v = .string s
  | .slnil, v => v = .slice none 0 0
  | .sl tag len cells, v =>
    ∃ cap, len ≤ cap ∧ ((cells = [] ∧ len = 0 ∧ tag = none ∧ ∃ ao, v = .slice ao len cap) ∨
      ∃ b o, v = .slice (some ⟨b, o, none⟩) len cap ∧ (tag = none ∨ tag = some (b, o)) ∧ g.Fz b ∧ CRep w g cells b o)
  | .slm id gen off len sz, v =>
    ∃ b δ cap n, g.ρ id gen = some (b, δ) ∧ v = .slice (some ⟨b, δ + off, none⟩) len cap ∧ len ≤ cap ∧ off + len * sz ≤ gen ∧
      bsz w b = some n ∧ δ + off + cap * sz ≤ n
  | .eptr s off, v => ∃ b o, v = .pointer (some ⟨b, o + off, none⟩) ∧ SBase w g s b o
  | .agg cells, v => ∃ vs : Array Value, v = .agg vs ∧ (∀ x ∈ vs.toList, x.oneCell' = true) ∧ LRep w g cells vs.toList
  | .tup cells, v => ∃ vs : Array Value, v = .tuple vs ∧ LRep w g cells vs.toList
  | .func f first caps, v => ∃ fs cs : Array Value, v = .func (.func f) fs cs ∧ LRep w g first fs.toList ∧ LRep w g caps cs.toList
  | .raw v', v => v = v'
def SBase (w : World) (g : Gh) : AV → Nat → Nat → Prop
  | .sl tag _ cells, b, o => (tag = none ∨ tag = some (b, o)) ∧ g.Fz b ∧ CRep w g cells b o
  | .slm id gen off _ _, b, o => ∃ δ, g.ρ id gen = some (b, δ) ∧ o = δ + off
  | _, _, _ => False
def CRep (w : World) (g : Gh) : List AV → Nat → Nat → Prop
  | [], _, _ => True
  | c :: cs, b, o => (∃ v, w.cell? ⟨b, o, none⟩ = some v ∧ v.oneCell' = true ∧ VRep w g c v) ∧ CRep w g cs b (o + 1)
def LRep (w : World) (g : Gh) : List AV → List Value → Prop
  | [], vs => vs = []
  | c :: cs, vs => ∃ v rest, vs = v :: rest ∧ VRep w g c v ∧ LRep w g cs rest
end

/-! one more than the greatest block that a value leads to -/
mutual
def mx : AV → Nat
  | .sl _ _ cells => mxL cells
  | .slm id _ _ _ _ => id + 1
  | .eptr s _ => mx s
  | .agg cells => mxL cells
  | .tup cells => mxL cells
  | .func _ first caps => max (mxL first) (mxL caps)
  | _ => 0
def mxL : List AV → Nat
  | [] => 0
  | c :: cs => max (mx c) (mxL cs)
end

structure ExtN (n : Nat) (w : World) (g : Gh) (w' : World) (g' : Gh) : Prop where
  fz : ∀ b, g.Fz b → g'.Fz b
  fzw : ∀ b, g.Fz b → w'.heap[b]? = w.heap[b]?
  rho : ∀ id gen p, id < n → g.ρ id gen = some p → g'.ρ id gen = some p
  bsz : ∀ b n, bsz w b = some n → bsz w' b = some n

structure Ext (w : World) (g : Gh) (w' : World) (g' : Gh) : Prop where
  fz : ∀ b, g.Fz b → g'.Fz b
  fzw : ∀ b, g.Fz b → w'.heap[b]? = w.heap[b]?
  rho : ∀ id gen p, g.ρ id gen = some p → g'.ρ id gen = some p
  bsz : ∀ b n, bsz w b = some n → bsz w' b = some n

theorem Ext.n {w w' : World} {g g' : Gh} (h : Ext w g w' g') (n : Nat) : ExtN n w g w' g' :=
  ⟨h.fz, h.fzw, fun id gen p _ => h.rho id gen p, h.bsz⟩
theorem Ext.refl (w : World) (g : Gh) : Ext w g w g := ⟨fun _ h => h, fun _ _ => rfl, fun _ _ _ h => h, fun _ _ h => h⟩
theorem Ext.trans {w₁ w₂ w₃ : World} {g₁ g₂ g₃ : Gh} (h : Ext w₁ g₁ w₂ g₂) (k : Ext w₂ g₂ w₃ g₃) : Ext w₁ g₁ w₃ g₃ :=
  ⟨fun b hb => k.fz b (h.fz b hb), fun b hb => (k.fzw b (h.fz b hb)).trans (h.fzw b hb), fun i e p hp => k.rho i e p (h.rho i e p hp), fun b n hb => k.bsz b n (h.bsz b n hb)⟩

theorem cell_eq {w w' : World} {b o : Nat} (h : w'.heap[b]? = w.heap[b]?) : w'.cell? ⟨b, o, none⟩ = w.cell? ⟨b, o, none⟩ := by
  simp only [World.cell?, h]

mutual
theorem VRep.extN {n : Nat} {w w' : World} {g g' : Gh} (h : ExtN n w g w' g') : ∀ (a : AV) (v : Value), mx a ≤ n → VRep w g a v → VRep w' g' a v
  | .junk, _, _, _ => by simp [VRep]
  | .bool b, v, _, hv => by simpa [VRep] using hv
  | .int k n, v, _, hv => by simpa [VRep] using hv
  | .flt x, v, _, hv => by simpa [VRep] using hv
  | .fraw b, v, _, hv => by simpa [VRep] using hv
  | .str s, v, _, hv => by simpa [VRep] using hv
  | .slnil, v, _, hv => by simpa [VRep] using hv
  | .raw _, v, _, hv => by simpa [VRep] using hv
  | .sl tag len cells, v, hm, hv => by
    simp only [VRep] at hv ⊢
    obtain ⟨cap, hc, h1 | ⟨b, o, h1, h2, h3, h4⟩⟩ := hv
    · exact ⟨cap, hc, .inl h1⟩
    · exact ⟨cap, hc, .inr ⟨b, o, h1, h2, h.fz b h3, CRep.extN h cells b o (by simpa [mx] using hm) (h.fzw b h3) h4⟩⟩
  | .slm id gen off len sz, v, hm, hv => by
    simp only [VRep] at hv ⊢
    obtain ⟨b, δ, cap, m, h1, h2, h3, h4, h5, h6⟩ := hv
    exact ⟨b, δ, cap, m, h.rho id gen _ (by simp [mx] at hm; omega) h1, h2, h3, h4, h.bsz b m h5, h6⟩
  | .eptr s off, v, hm, hv => by
    simp only [VRep] at hv ⊢
    obtain ⟨b, o, h1, h2⟩ := hv
    exact ⟨b, o, h1, SBase.extN h s b o (by simpa [mx] using hm) h2⟩
  | .agg cells, v, hm, hv => by
    simp only [VRep] at hv ⊢
    obtain ⟨vs, h1, h3, h2⟩ := hv
    exact ⟨vs, h1, h3, LRep.extN h cells _ (by simpa [mx] using hm) h2⟩
  | .tup cells, v, hm, hv => by
    simp only [VRep] at hv ⊢
    obtain ⟨vs, h1, h2⟩ := hv
    exact ⟨vs, h1, LRep.extN h cells _ (by simpa [mx] using hm) h2⟩
  | .func f first caps, v, hm, hv => by
    simp only [VRep] at hv ⊢
    simp only [mx] at hm
    obtain ⟨fs, cs, h1, h2, h3⟩ := hv
    exact ⟨fs, cs, h1, LRep.extN h first _ (by omega) h2, LRep.extN h caps _ (by omega) h3⟩
theorem SBase.extN {n : Nat} {w w' : World} {g g' : Gh} (h : ExtN n w g w' g') : ∀ (a : AV) (b o : Nat), mx a ≤ n → SBase w g a b o → SBase w' g' a b o
  | .sl tag len cells, b, o, hm, hv => by
    simp only [SBase] at hv ⊢
    exact ⟨hv.1, h.fz b hv.2.1, CRep.extN h cells b o (by simpa [mx] using hm) (h.fzw b hv.2.1) hv.2.2⟩
  | .slm id gen off len sz, b, o, hm, hv => by
    simp only [SBase] at hv ⊢
    obtain ⟨δ, h1, h2⟩ := hv
    exact ⟨δ, h.rho id gen _ (by simp [mx] at hm; omega) h1, h2⟩
  | .junk, _, _, _, hv => by simp [SBase] at hv
  | .bool _, _, _, _, hv => by simp [SBase] at hv
  | .int _ _, _, _, _, hv => by simp [SBase] at hv
  | .flt _, _, _, _, hv => by simp [SBase] at hv
  | .fraw _, _, _, _, hv => by simp [SBase] at hv
  | .str _, _, _, _, hv => by simp [SBase] at hv
  | .slnil, _, _, _, hv => by simp [SBase] at hv
  | .raw _, _, _, _, hv => by simp [SBase] at hv
  | .eptr _ _, _, _, _, hv => by simp [SBase] at hv
  | .agg _, _, _, _, hv => by simp [SBase] at hv
  | .tup _, _, _, _, hv => by simp [SBase] at hv
  | .func _ _ _, _, _, _, hv => by simp [SBase] at hv
theorem CRep.extN {n : Nat} {w w' : World} {g g' : Gh} (h : ExtN n w g w' g') : ∀ (cs : List AV) (b o : Nat), mxL cs ≤ n → w'.heap[b]? = w.heap[b]? → CRep w g cs b o → CRep w' g' cs b o
  | [], _, _, _, _, _ => by simp [CRep]
  | c :: cs, b, o, hm, hb, hv => by
    simp only [mxL] at hm
    simp only [CRep] at hv ⊢
    obtain ⟨⟨v, h1, h2, h3⟩, h4⟩ := hv
    exact ⟨⟨v, (cell_eq hb).trans h1, h2, VRep.extN h c v (by omega) h3⟩, CRep.extN h cs b (o + 1) (by omega) hb h4⟩
theorem LRep.extN {n : Nat} {w w' : World} {g g' : Gh} (h : ExtN n w g w' g') : ∀ (cs : List AV) (vs : List Value), mxL cs ≤ n → LRep w g cs vs → LRep w' g' cs vs
  | [], vs, _, hv => by simpa [LRep] using hv
  | c :: cs, vs, hm, hv => by
    simp only [mxL] at hm
    simp only [LRep] at hv ⊢
    obtain ⟨v, rest, h1, h2, h3⟩ := hv
    exact ⟨v, rest, h1, VRep.extN h c v (by omega) h2, LRep.extN h cs rest (by omega) h3⟩
end
theorem VRep.ext {w w' : World} {g g' : Gh} (h : Ext w g w' g') {a : AV} {v : Value} (hv : VRep w g a v) : VRep w' g' a v := VRep.extN (h.n _) a v (Nat.le_refl _) hv
theorem SBase.ext {w w' : World} {g g' : Gh} (h : Ext w g w' g') {a : AV} {b o : Nat} (hv : SBase w g a b o) : SBase w' g' a b o := SBase.extN (h.n _) a b o (Nat.le_refl _) hv
theorem CRep.ext {w w' : World} {g g' : Gh} (h : Ext w g w' g') {cs : List AV} {b o : Nat} (hb : w'.heap[b]? = w.heap[b]?) (hv : CRep w g cs b o) : CRep w' g' cs b o :=
  CRep.extN (h.n _) cs b o (Nat.le_refl _) hb hv
theorem LRep.ext {w w' : World} {g g' : Gh} (h : Ext w g w' g') {cs : List AV} {vs : List Value} (hv : LRep w g cs vs) : LRep w' g' cs vs :=
  LRep.extN (h.n _) cs vs (Nat.le_refl _) hv

end Go.Sx

set_option linter.unusedVariables false
namespace Go.Sx

inductive EV where
  | val (v : AV)
  | loc (key off : Nat)

structure St where
  env : List (Nat × EV)
  L : List (Nat × List AV)
  H : List (List AV)

/-- esc: its boxes may be led to from outside · n0: how many blocks there were · fz: the slots of slice literals that nobody writes -/
structure Cfg where
  esc : Bool
  n0 : Nat
  fz : List Nat := []

def lk {α : Type} : List (Nat × α) → Nat → Option α
  | [], _ => none
  | (k, v) :: r, t => if k = t then some v else lk r t

def aOf1 : Value → AV
  | .bool b => .bool b
  | .int k n => .int k n
  | .float .f64 b => if b < 2 ^ 64 then .flt (cn b) else .junk
  | .string s => .str s
  | .slice none 0 0 => .slnil
  | .pointer a => .raw (.pointer a)
  | .nilFunc => .raw .nilFunc
  | .nilIface => .raw .nilIface
  | _ => .junk
def aOf : Value → AV
  | .agg cs => if cs.toList.all (·.oneCell') then .agg (cs.toList.map aOf1) else .junk
  | v => aOf1 v

def St.ev (st : St) : Operand → EV
  | .tmp t => (lk st.env t).getD (.val .junk)
  | .const v => .val (aOf v)
  | .func f => .val (.func f [] [])
  | .global _ => .val .junk
def St.put (st : St) (dst : Option Tmp) (v : EV) : St :=
  match dst with
  | some d => { st with env := (d, v) :: st.env }
  | none => st
def St.putL (st : St) (key : Nat) (cs : List AV) : St := { st with L := (key, cs) :: st.L }
def St.setH (st : St) (H : List (List AV)) : St := { st with H := H }

def EV.asV : EV → Option AV
  | .val v => some v
  | .loc _ _ => none
def EV.asB : EV → Option Bool
  | .val (.bool b) => some b
  | _ => none
/-- a slot whose operation was passed over -/
def EV.isU : EV → Bool
  | .val (.tup []) => true
  | _ => false
def EV.asI : EV → Option (IntKind × Int)
  | .val (.int k n) => some (k, n)
  | _ => none
def AV.asF : AV → Option Nat
  | .flt x => some x
  | .fraw b => some (cn b)
  | _ => none
/-- the cells of a value: none where they are not known -/
def AV.cells : AV → Option (List AV)
  | .agg cs => some cs
  | .junk => none
  | .tup _ => none
  | .raw v => if v.oneCell' then some [.raw v] else none
  | v => some [v]

def gc (cs : List AV) (off : Nat) : Nat → Option (List AV)
  | 0 => some []
  | n + 1 => (cs[off]?).bind fun c => (gc cs (off + 1) n).map (c :: ·)
def sc (cs : List AV) (off : Nat) : List AV → List AV
  | [] => cs
  | v :: vs => sc (cs.set off v) (off + 1) vs

def slen : AV → Option Nat
  | .slnil => some 0
  | .sl _ len _ => some len
  | .slm _ _ _ len _ => some len
  | _ => none
def sread (H : List (List AV)) : AV → Nat → Nat → Option (List AV)
  | .sl _ _ cells, off, n => gc cells off n
  | .slm id gen o _ _, off, n => (H[id]?).bind fun cs => if cs.length = gen then gc cs (o + off) n else none
  | _, _, _ => none

def tsz (P : Program) (t : TypeId) : Option Nat := (P.info? t).map (·.size)
def tkind (P : Program) (t : TypeId) : Option Bool := (P.underlying t).map (·.isRow)
def telem (P : Program) (t : TypeId) : Option TypeId :=
  match P.underlying t with
  | some (.slice e) => some e
  | _ => none
/-- an array's length, its elements' type -/
def tarr (P : Program) (t : TypeId) : Option (Nat × TypeId) :=
  match P.underlying t with
  | some (.array n e) => some (n, e)
  | _ => none
def tzero (P : Program) (t : TypeId) : Option AV := ((P.info? t).bind (·.zero)).map aOf
def ldv (P : Program) (t : TypeId) (cells : List AV) : Option AV :=
  match tkind P t, cells with
  | some true, cs => some (.agg cs)
  | some false, [c] => some c
  | _, _ => none

/-! ### values of operations -/
def fop (f : Nat → Nat → Option Nat) (x y : Nat) : Nat :=
  match f x y with
  | some r => cn r
  | none => qn
def fadd := fop Ieee.double.add
def fsub := fop Ieee.double.sub
def fmul := fop Ieee.double.mul
def fdiv := fop Ieee.double.div
def feq (x y : Nat) : Bool := Ieee.double.order x y == some .eq
def flt (x y : Nat) : Bool := Ieee.double.order x y == some .lt
def fneg (x : Nat) : Nat := cn (Op.negFloat .f64 x)

def bitsI (op : BinOp) (k : IntKind) (x y : Int) : Int :=
  let a := BitVec.ofInt k.bits x
  let b := BitVec.ofInt k.bits y
  match op with
  | .and => k.wrap (a &&& b).toNat
  | .or => k.wrap (a ||| b).toNat
  | .xor => k.wrap (a ^^^ b).toNat
  | _ => k.wrap (a &&& ~~~b).toNat
def binI (op : BinOp) (k : IntKind) (x y : Int) : Option (Prop × AV) :=
  match op with
  | .add => some (True, .int k (k.wrap (x + y)))
  | .sub => some (True, .int k (k.wrap (x - y)))
  | .mul => some (True, .int k (k.wrap (x * y)))
  | .quo => some (y ≠ 0, .int k (k.wrap (x.tdiv y)))
  | .rem => some (y ≠ 0, .int k (x.tmod y))
  | .and => some (True, .int k (bitsI .and k x y))
  | .or => some (True, .int k (bitsI .or k x y))
  | .xor => some (True, .int k (bitsI .xor k x y))
  | .andNot => some (True, .int k (bitsI .andNot k x y))
  | .eql => some (True, .bool (x == y))
  | .neq => some (True, .bool (x != y))
  | .lss => some (True, .bool (decide (x < y)))
  | .leq => some (True, .bool (decide (x ≤ y)))
  | .gtr => some (True, .bool (decide (x > y)))
  | .geq => some (True, .bool (decide (x ≥ y)))
  | _ => none
def shI (op : BinOp) (k : IntKind) (x y : Int) : Option (Prop × AV) :=
  match op with
  | .shl => some (0 ≤ y, .int k (k.wrap (x * 2 ^ (min y.toNat k.bits))))
  | .shr => some (0 ≤ y, .int k (x.fdiv (2 ^ (min y.toNat k.bits))))
  | _ => none
def binF (op : BinOp) (x y : Nat) : Option (Prop × AV) :=
  match op with
  | .add => some (True, .flt (fadd x y))
  | .sub => some (True, .flt (fsub x y))
  | .mul => some (True, .flt (fmul x y))
  | .quo => some (True, .flt (fdiv x y))
  | .eql => some (True, .bool (feq x y))
  | .neq => some (True, .bool (!feq x y))
  | .lss => some (True, .bool (flt x y))
  | .leq => some (True, .bool (flt x y || feq x y))
  | .gtr => some (True, .bool (flt y x))
  | .geq => some (True, .bool (flt y x || feq x y))
  | _ => none
/-- is this the block's length now? -/
def curG (H : List (List AV)) (id gen : Nat) : Bool :=
  match H[id]? with
  | some cs => cs.length == gen
  | none => false
/-- are two pointers into slices one? -/
def ptrEq (H : List (List AV)) : AV → Nat → AV → Nat → Option Bool
  | .slm id g o _ _, a, .slm id' g' o' _ _, b => if curG H id g && curG H id' g' then (if id = id' then some (decide (o + a = o' + b)) else some false) else none
  | .sl (some (p, o)) _ _, a, .sl (some (q, o')) _ _, b => if p = q then some (decide (o + a = o' + b)) else none
  | .slm id g _ _ _, _, .sl _ _ (_ :: _), _ => if curG H id g then some false else none
  | .sl _ _ (_ :: _), _, .slm id g _ _ _, _ => if curG H id g then some false else none
  | _, _, _, _ => none
def ptrTy (P : Program) (t : TypeId) : Bool :=
  match P.underlying t with
  | some (.pointer e) => (tsz P e).any (0 < ·)
  | _ => false
def ptrV (P : Program) (H : List (List AV)) (op : BinOp) (t : TypeId) (x y : EV) : Option AV :=
  match op, x, y with
  | .eql, .val (.eptr s a), .val (.eptr s' b) => if ptrTy P t then (ptrEq H s a s' b).map .bool else none
  | .neq, .val (.eptr s a), .val (.eptr s' b) => if ptrTy P t then (ptrEq H s a s' b).map fun r => .bool (!r) else none
  | _, _, _ => none
def isPtr (P : Program) (t : TypeId) : Bool :=
  match P.underlying t with
  | some (.pointer _) => true
  | _ => false
def isSl (P : Program) (t : TypeId) : Bool :=
  match P.underlying t with
  | some (.slice _) => true
  | _ => false
/-- one of the two is nil: are they the same? -/
def nilEq (P : Program) (t : TypeId) : AV → AV → Option Bool
  | .eptr _ _, .raw (.pointer none) => if isPtr P t then some false else none
  | .raw (.pointer none), .eptr _ _ => if isPtr P t then some false else none
  | .raw (.pointer none), .raw (.pointer none) => if isPtr P t then some true else none
  | .slnil, .slnil => if isSl P t then some true else none
  | .slm _ _ _ _ _, .slnil => if isSl P t then some false else none
  | .sl _ _ (_ :: _), .slnil => if isSl P t then some false else none
  | _, _ => none
def strV (op : BinOp) (a b : ByteArray) : Option (Prop × AV) :=
  match op with
  | .add => some (a.size + b.size ≤ 9223372036854775807, .str (a ++ b))
  | .eql => some (True, .bool (a.toList == b.toList))
  | .neq => some (True, .bool (!(a.toList == b.toList)))
  | _ => none
/-- are two arrays of two numbers the same? -/
def arrEq (P : Program) (t : TypeId) (xs ys : List AV) : Option Bool :=
  match P.underlying t, xs, ys with
  | some (.array 2 e), [.int k a, .int k' b], [.int l c, .int l' d] =>
    match P.underlying e, tsz P e, P.eqGuardType P.depth t with
    | some (.int k0), some 1, false => if k = k0 ∧ k' = k0 ∧ l = k0 ∧ l' = k0 then some (a == c && b == d) else none
    | _, _, _ => none
  | _, _, _ => none
def othV (P : Program) (op : BinOp) (t : TypeId) (x y : AV) : Option (Prop × AV) :=
  match x, y with
  | .str a, .str b => strV op a b
  | .agg xs, .agg ys =>
    match op with
    | .eql => (arrEq P t xs ys).map fun r => (True, .bool r)
    | .neq => (arrEq P t xs ys).map fun r => (True, .bool (!r))
    | _ => none
  | x, y =>
    match op with
    | .eql => (nilEq P t x y).map fun r => (True, .bool r)
    | .neq => (nilEq P t x y).map fun r => (True, .bool (!r))
    | _ => none
def binV (P : Program) (op : BinOp) (t : TypeId) (x y : EV) : Option (Prop × AV) :=
  match x, y with
  | .val (.int k a), .val (.int k' b) =>
    match op with
    | .shl | .shr => shI op k a b
    | _ => if k = k' then binI op k a b else none
  | .val (.bool a), .val (.bool b) =>
    match P.underlying t, op with
    | some .bool, .eql => some (True, .bool (a == b))
    | some .bool, .neq => some (True, .bool (a != b))
    | _, _ => none
  | .val x, .val y =>
    match x.asF, y.asF with
    | some a, some b => binF op a b
    | _, _ => othV P op t x y
  | _, _ => none

def unV (op : UnOp) (x : EV) : Option (Prop × AV) :=
  match op, x with
  | .not, .val (.bool b) => some (True, .bool (!b))
  | .neg, .val (.int k n) => some (True, .int k (k.wrap (0 - n)))
  | .xor, .val (.int k n) => some (True, .int k (bitsI .xor k (if k.signed then -1 else k.max) n))
  | .neg, .val v => (v.asF).map fun x => (True, .flt (fneg x))
  | _, _ => none

def cnvV (P : Program) (dst : TypeId) (x : EV) : Option (Prop × AV) :=
  match P.underlying dst, x with
  | some (.int k), .val (.int _ n) => some (True, .int k (k.wrap n))
  | some (.float .f64), .val (.int _ n) => some (True, .flt (cn (FloatKind.f64.nearest n)))
  | some (.float .f64), .val v => (v.asF).map fun x => (True, .flt x)
  | _, _ => none

def fieldOff (P : Program) (t : TypeId) (i : Nat) : Option (Nat × TypeId) :=
  match P.underlying t with
  | some (.struct fs) => (fs[i]?).map fun f => (f.offset, f.type)
  | _ => none

def tailI (k : EV) : Option Int := match k with
  | .val (.int _ n) => some n
  | _ => none

def fillA (place : Nat → Option (Nat × Nat)) (cells : List AV) : List (Nat × Option AV) → Option (List AV)
  | [] => some cells
  | (i, v) :: rest =>
    match place i, v.bind AV.cells with
    | some (off, size), some vs => if vs.length ≠ size ∨ off + vs.length > cells.length then none else fillA place (sc cells off vs) rest
    | _, _ => none
def fieldPl (P : Program) (fs : Array Field) (i : Nat) : Option (Nat × Nat) :=
  (fs[i]?).bind fun f => (tsz P f.type).map fun s => (f.offset, s)
def buildV (P : Program) (ρ : Operand → EV) (t : TypeId) (parts : Array (Nat × Operand)) : Option AV :=
  match tzero P t, P.underlying t with
  | some z, some (.struct fs) =>
    if fs.all (fun f => (tsz P f.type).isSome) then
      (z.cells).bind fun zc => (fillA (fieldPl P fs) zc (parts.toList.map fun (i, x) => (i, (ρ x).asV))).map .agg
    else none
  | some z, some (.array _ e) => (tsz P e).bind fun s => (z.cells).bind fun zc => (fillA (fun i => some (i * s, s)) zc (parts.toList.map fun (i, x) => (i, (ρ x).asV))).map .agg
  | _, _ => none

/-- from where, up to where -/
def bndI (ρ : Operand → EV) (d : Int) : Option Operand → Option Int
  | none => some d
  | some o => tailI (ρ o)
/-- a slice of what has so many cells an element: from 'l' up to 'h' -/
def slcV (z : Nat) (l h : Nat) : AV → Option AV
  | .slnil => some (.sl none 0 [])
  | .sl tag _ cells => if l < h then some (.sl (tag.map fun p => (p.1, p.2 + l * z)) (h - l) ((cells.drop (l * z)).take ((h - l) * z))) else some (.sl none 0 [])
  | .slm id gen off _ sz => if sz = z then (if l < h then some (.slm id gen (off + l * z) (h - l) z) else some (.sl none 0 [])) else none
  | _ => none
def sliceV (P : Program) (t : TypeId) (x : EV) (lo : Option Int) (hi : Int → Option Int) : Option (Prop × AV) :=
  match x, lo with
  | .val (.str s), some l => (match P.underlying t with
    | some .string => (hi s.size).map fun h => (0 ≤ l ∧ l ≤ h ∧ h ≤ s.size, .str (s.extract l.toNat h.toNat))
    | _ => none)
  | .val v, some l => (telem P t).bind fun e => (tsz P e).bind fun z => (slen v).bind fun n => (hi n).bind fun h => (slcV z l.toNat h.toNat v).map fun v' => (0 ≤ l ∧ l ≤ h ∧ h ≤ n, v')
  | _, _ => none
def strAt (s : ByteArray) (i : Nat) : Int := ((s[i]?).map fun b => (b.toNat : Int)).getD 0
def indexV (P : Program) (t : TypeId) (x : EV) (i : Option Int) : Option (Prop × AV) :=
  match P.underlying t, x, i with
  | some .string, .val (.str s), some n => some (0 ≤ n ∧ n < s.size, .int .u8 (strAt s n.toNat))
  | _, _, _ => none

/-- an operation that gives a value and turns nothing: what it asks, what it gives -/
def pureV (P : Program) (ρ : Operand → EV) (lL : Nat → Option (List AV)) (H : List (List AV)) : Op → Option (Prop × EV)
  | .move x | .assign x => some (True, ρ x)
  | .pick c a b => ((ρ c).asB).map fun b0 => (True, if b0 then ρ a else ρ b)
  | .load t x =>
    match ρ x with
    | .loc key off => (lL key).bind fun cs => (tsz P t).bind fun n => (gc cs off n).bind fun l => (ldv P t l).map fun v => (True, .val v)
    | .val (.eptr s off) => (tsz P t).bind fun n => (sread H s off n).bind fun l => (ldv P t l).map fun v => (True, .val v)
    | _ => none
  | .nilCheck x =>
    match ρ x with
    | .loc key off => some (True, .loc key off)
    | .val (.eptr s off) => some (True, .val (.eptr s off))
    | .val (.func f a b) => some (True, .val (.func f a b))
    | _ => none
  | .binOp op t x y _ =>
    match binV P op t (ρ x) (ρ y) with
    | some (c, v) => some (c, .val v)
    | none => (ptrV P H op t (ρ x) (ρ y)).map fun v => (True, .val v)
  | .unOp op _ x => (unV op (ρ x)).map fun (c, v) => (c, .val v)
  | .convert src dst x => if (P.underlying src).isSome then (cnvV P dst (ρ x)).map fun (c, v) => (c, .val v) else none
  | .fieldAddr t x i => (fieldOff P t i).bind fun (o, ft) =>
      if (tsz P ft).any (0 < ·) then
        match ρ x with
        | .loc key off => some (True, .loc key (off + o))
        | .val (.eptr s off) => some (True, .val (.eptr s (off + o)))
        | _ => none
      else none
  | .field t x i => (fieldOff P t i).bind fun (o, ft) =>
      match ρ x with
      | .val (.agg cs) => (tsz P ft).bind fun n => (gc cs o n).bind fun l => (ldv P ft l).map fun v => (True, .val v)
      | _ => none
  | .indexAddr t x i =>
    match telem P t, ρ x, tailI (ρ i) with
    | some e, .val s, some n =>
      (slen s).bind fun len => (tsz P e).map fun z => (0 ≤ n ∧ n < (len : Int), .val (.eptr s (n.toNat * z)))
    | none, _, some n => (tarr P t).bind fun (len, e) => (tsz P e).bind fun z =>
      match ρ x with
      | .loc key off => some (0 ≤ n ∧ n < (len : Int), .loc key (off + n.toNat * z))
      | .val (.eptr s off) => some (0 ≤ n ∧ n < (len : Int), .val (.eptr s (off + n.toNat * z)))
      | _ => none
    | _, _, _ => none
  | .extract x i =>
    match ρ x with
    | .val (.tup vs) => (vs[i]?).map fun v => (True, .val v)
    | _ => none
  | .slice t x lo hi none => (sliceV P t (ρ x) (bndI ρ 0 lo) (fun n => bndI ρ n hi)).map fun (c, v) => (c, .val v)
  | .index t x i => (indexV P t (ρ x) (tailI (ρ i))).map fun (c, v) => (c, .val v)
  | .build t parts => (buildV P ρ t parts).map fun v => (True, .val v)
  | .makeFunc (.func f) first caps =>
      match (first.toList.map fun x => (ρ x).asV).mapM id, (caps.toList.map fun x => (ρ x).asV).mapM id with
      | some a, some b => some (True, .val (.func f a b))
      | _, _ => none
  | .call { callee := .builtin .len, args := args, argTypes := ts } =>
      match args.toList, (ts[0]?).bind P.underlying with
      | [x], some (.slice _) => ((ρ x).asV.bind slen).map fun (n : Nat) => (True, .val (.int .i64 (n : Int)))
      | [x], some .string => match ρ x with
        | .val (.str s) => some (True, .val (.int .i64 s.size))
        | _ => none
      | _, _ => none
  | .call { callee := .builtin .min, args := args, .. } =>
      match args.toList.map (fun x => (ρ x).asI) with
      | [some (k, a), some (k', b)] => if k = k' then some (True, .val (.int k (min a b))) else none
      | [some (k, a), some (k', b), some (k'', c)] => if k = k' ∧ k = k'' then some (True, .val (.int k (min (min a b) c))) else none
      | _ => none
  | .call { callee := .builtin .max, args := args, .. } =>
      match args.toList.map (fun x => (ρ x).asI) with
      | [some (k, a), some (k', b)] => if k = k' then some (True, .val (.int k (max a b))) else none
      | [some (k, a), some (k', b), some (k'', c)] => if k = k' ∧ k = k'' then some (True, .val (.int k (max (max a b) c))) else none
      | _ => none
  | _ => none

end Go.Sx

set_option linter.unusedVariables false
namespace Go.Sx

/-! ### the world that a list of blocks stands for -/
structure WRep (w : World) (g : Gh) (H : List (List AV)) : Prop where
  blk : ∀ id cs, H[id]? = some cs → ∃ b δ c e, g.ρ id cs.length = some (b, δ) ∧ w.heap[b]? = some (.cells c e (0, 0)) ∧ δ + cs.length ≤ c.size ∧
    CRep w g cs b δ ∧ ¬ g.Fz b ∧ mxL cs ≤ H.length
  inj : ∀ id id' cs cs' b δ δ', H[id]? = some cs → H[id']? = some cs' → g.ρ id cs.length = some (b, δ) → g.ρ id' cs'.length = some (b, δ') → id = id'
  fzlt : ∀ b, g.Fz b → b < w.heap.size
  rholt : ∀ id gen b δ, g.ρ id gen = some (b, δ) → b < w.heap.size
  rhoid : ∀ id gen p, g.ρ id gen = some p → ∃ cs, H[id]? = some cs ∧ gen ≤ cs.length

def HB (g : Gh) (H : List (List AV)) (b : Nat) : Prop := ∃ id cs δ, H[id]? = some cs ∧ g.ρ id cs.length = some (b, δ)

/-- what has become since a call began -/
structure Since (w₀ : World) (g₀ : Gh) (H₀ : List (List AV)) (w : World) (g : Gh) (H : List (List AV)) : Prop where
  sz : w₀.heap.size ≤ w.heap.size
  keep : ∀ b, b < w₀.heap.size → ¬ HB g₀ H₀ b → w.heap[b]? = w₀.heap[b]?
  bszk : ∀ b n, bsz w₀ b = some n → bsz w b = some n
  fro : ∀ a : Addr, a.block < w₀.heap.size → w.frozen? a = w₀.frozen? a
  fz : ∀ b, g₀.Fz b → g.Fz b
  fznew : ∀ b, g.Fz b → b < w₀.heap.size → g₀.Fz b
  rho : ∀ id gen p, g₀.ρ id gen = some p → g.ρ id gen = some p
  hbi : ∀ id cs b δ, b < w₀.heap.size → H[id]? = some cs → g.ρ id cs.length = some (b, δ) → ∃ cs₀, H₀[id]? = some cs₀ ∧ g₀.ρ id cs₀.length = some (b, δ)
  len : H₀.length ≤ H.length
  same : w.os = w₀.os ∧ w.output = w₀.output ∧ w.tape = w₀.tape

theorem Since.hb {w₀ : World} {g₀ : Gh} {H₀ : List (List AV)} {w : World} {g : Gh} {H : List (List AV)} (h : Since w₀ g₀ H₀ w g H) : ∀ b, b < w₀.heap.size → HB g H b → HB g₀ H₀ b := by
  rintro b hb ⟨id, cs, δ, h1, h2⟩
  obtain ⟨cs₀, h3, h4⟩ := h.hbi id cs b δ hb h1 h2
  exact ⟨id, cs₀, δ, h3, h4⟩

def VReps (w : World) (g : Gh) (as : List AV) (vs : List Value) : Prop := LRep w g as vs

/-- THE CONTRACT OF A FUNCTION: called with values that stand for 'args' where memory stands for 'H', it returns what stands for 'r', memory standing for 'H'' -/
def Spec (P : Program) (f : Nat) (args : List AV) (H : List (List AV)) (r : AV) (H' : List (List AV)) : Prop :=
  ∀ (w : World) (g : Gh) (cargs : Array Value), WRep w g H → LRep w g args cargs.toList →
    Calls P f cargs w fun e w' => ∃ v g', e = .returned v ∧ WRep w' g' H' ∧ Since w g H w' g' H' ∧ VRep w' g' r v

def Enters (P : Program) (f : Nat) : Prop := ∀ (args : Array Value) (w : World), (callFunc f args).run P w = .ok (.enter f args) w
/-- a call: of a function with a body, or of one that the model answers by itself -/
def CSpec (P : Program) (f : Nat) (args : List AV) (H : List (List AV)) (r : AV) (H' : List (List AV)) : Prop :=
  (Enters P f ∧ Spec P f args H r H') ∨
  (H' = H ∧ ∀ (w : World) (g : Gh) (cargs : Array Value), LRep w g args cargs.toList → ∃ v, (callFunc f cargs).run P w = .ok (.value v) w ∧ VRep w g r v)
/-- what was there before leads to nothing new -/
def OldOk (n : Nat) (H H' : List (List AV)) : Prop := ∀ (id : Nat) cs, id < n → H'[id]? = some cs → H[id]? = some cs ∨ mxL cs ≤ n
@[simp] theorem OldOk.refl (n : Nat) (H : List (List AV)) : OldOk n H H := fun _ _ _ h => .inl h

/-! ### the predicate transformer -/
def noLoc (key : Nat) : List (Nat × EV) → Bool
  | [] => true
  | (_, .val _) :: r => noLoc key r
  | (_, .loc k _) :: r => if k = key then false else noLoc key r
/-- no variable points to the box of this key -/
def NoLoc (ρ : Operand → EV) (key : Nat) : Prop := ∀ t off, ρ (.tmp t) ≠ .loc key off

def zrep (n : Nat) (zc : List AV) : List AV :=
  match zc with
  | [z] => List.replicate n z
  | _ => (List.replicate n zc).flatten

/-- what an operation does: the value for its slot, a box that is written, the blocks -/
structure Eff where
  v : Option EV
  l : Option (Nat × List AV)
  H : List (List AV)

def St.app (st : St) (dst : Option Tmp) (e : Eff) : St :=
  { env := match dst, e.v with
      | some d, some v => (d, v) :: st.env
      | some d, none => (d, .val .junk) :: st.env
      | none, _ => st.env
    L := match e.l with
      | some x => x :: st.L
      | none => st.L
    H := e.H }

def newX (cfg : Cfg) (NL : Nat → Prop) (H : List (List AV)) (dst : Option Tmp) (cs : List AV) (K : Eff → Prop) : Prop :=
  match dst with
  | none => False
  | some d =>
    if cfg.esc then K ⟨some (.val (.eptr (.slm H.length cs.length 0 1 cs.length) 0)), none, H ++ [cs]⟩
    else NL d ∧ K ⟨some (.loc d 0), some (d, cs), H⟩

def storeX (cfg : Cfg) (lL : Nat → Option (List AV)) (H : List (List AV)) (x : EV) (vs : List AV) (K : Eff → Prop) : Prop :=
  match x with
  | .loc key off =>
    match lL key with
    | some cs => off + vs.length ≤ cs.length ∧ K ⟨none, some (key, sc cs off vs), H⟩
    | none => False
  | .val (.eptr (.slm id gen o _ _) off) =>
    match H[id]? with
    | some cs => cs.length = gen ∧ o + off + vs.length ≤ cs.length ∧ (cfg.n0 ≤ id ∨ mxL vs ≤ cfg.n0) ∧ K ⟨none, none, H.set id (sc cs (o + off) vs)⟩
    | none => False
  | _ => False

/-- what is appended: the number of its elements, its cells -/
def srcX (H : List (List AV)) (sz : Nat) (x : AV) : Option (Nat × List AV) :=
  match x with
  | .slnil => some (0, [])
  | x => (slen x).bind fun n => (sread H x 0 (n * sz)).map fun xs => (n, xs)

def appX (cfg : Cfg) (sz : Nat) (H : List (List AV)) (s : AV) (n : Nat) (xs : List AV) (K : Eff → Prop) : Prop :=
  match s with
  | .slnil => n ≤ 2 ^ 32 ∧ (n = 0 → K ⟨some (.val .slnil), none, H⟩) ∧
      (n ≠ 0 → K ⟨some (.val (.slm H.length xs.length 0 n sz)), none, H ++ [xs]⟩)
  | .slm id gen o len z =>
    match H[id]? with
    | some cs => z = sz ∧ cs.length = gen ∧ o = 0 ∧ len * sz = gen ∧ len + n ≤ 2 ^ 32 ∧ (cfg.n0 ≤ id ∨ mxL xs ≤ cfg.n0) ∧
        K ⟨some (.val (.slm id (cs.length + xs.length) 0 (len + n) sz)), none, H.set id (cs ++ xs)⟩
    | none => False
  | _ => False

def cpyX (cfg : Cfg) (sz : Nat) (H : List (List AV)) (d : AV) (n : Nat) (xs : List AV) (K : Eff → Prop) : Prop :=
  match d with
  | .slm id gen o len z =>
    match H[id]? with
    | some cs => z = sz ∧ cs.length = gen ∧ (cfg.n0 ≤ id ∨ mxL xs ≤ cfg.n0) ∧ o + len * sz ≤ cs.length ∧
        K ⟨some (.val (.int .i64 (min n len : Nat))), none, H.set id (sc cs o (xs.take (min n len * sz)))⟩
    | none => False
  | _ => False

def argsX (ρ : Operand → EV) (xs : List Operand) : Option (List AV) := (xs.map fun x => (ρ x).asV).mapM id
/-- of an element type: its size, its bytes, its zero's cells -/
def einfo (P : Program) (t : TypeId) : Option (Nat × Nat × List AV) :=
  (telem P t).bind fun e => (P.info? e).bind fun i => (i.zero.map aOf).bind fun z => z.cells.map fun zc => (i.size, i.bytes, zc)

def opE (P : Program) (cfg : Cfg) (ρ : Operand → EV) (NL : Nat → Prop) (lL : Nat → Option (List AV)) (H : List (List AV)) (o : Oper) (K : Eff → Prop) : Prop :=
  match o.op with
  | .alloc t =>
    match (tzero P t).bind AV.cells with
    | some cs => newX cfg NL H o.dst cs K
    | none => False
  | .box t x =>
    match ((ρ x).asV).bind AV.cells with
    | some cs => newX cfg NL H o.dst cs K
    | none => False
  | .store t x v =>
    match ((ρ v).asV).bind AV.cells with
    | some vs => tsz P t = some vs.length ∧ o.dst = none ∧ storeX cfg lL H (ρ x) vs K
    | none => False
  | .buildSlice t len parts =>
    match einfo P t with
    | some (s, _, zc) =>
      match fillA (fun i => some (i * s, s)) (zrep len zc) (parts.toList.map fun (i, x) => (i, (ρ x).asV)) with
      | some cs => zc.length = s ∧ 0 < s ∧ len * s ≤ 2 ^ 24 ∧
          if o.dst.any cfg.fz.contains then K ⟨some (.val (.sl none len cs)), none, H⟩ else K ⟨some (.val (.slm H.length cs.length 0 len s)), none, H ++ [cs]⟩
      | none => False
    | none => False
  | .makeSlice t l c =>
    match einfo P t, (ρ l).asI, (ρ c).asI with
    | some (s, by_, zc), some (_, n), some (_, m) =>
      n = m ∧ 0 ≤ n ∧ n ≤ 2 ^ 32 ∧ by_ ≤ 2 ^ 10 ∧ zc.length = s ∧ 0 < s ∧
        K ⟨some (.val (.slm H.length (zrep n.toNat zc).length 0 n.toNat s)), none, H ++ [zrep n.toNat zc]⟩
    | _, _, _ => False
  | .call { callee := .builtin .append, args := args, argTypes := ts } =>
    match args.toList.map (fun x => (ρ x).asV), ts.toList with
    | [some s, some x], [t, tx] =>
      match einfo P t, telem P tx with
      | some (sz, by_, zc), some _ =>
        match srcX H sz x with
        | some (n, xs) => by_ ≤ 2 ^ 10 ∧ 0 < by_ ∧ zc.length = sz ∧ 0 < sz ∧ appX cfg sz H s n xs K
        | none => False
      | _, _ => False
    | _, _ => False
  | .call { callee := .builtin .copy, args := args, argTypes := ts } =>
    match args.toList.map (fun x => (ρ x).asV), ts.toList with
    | [some d, some x], [t, tx] =>
      match (telem P t).bind (tsz P), telem P tx with
      | some sz, some _ =>
        match srcX H sz x with
        | some (n, xs) => 0 < sz ∧ cpyX cfg sz H d n xs K
        | none => False
      | _, _ => False
    | _, _ => False
  | .call { callee := .value f, args := args, .. } =>
    match ρ f, argsX ρ args.toList with
    | .val (.func id first caps), some vs => ∃ r H', CSpec P id (first ++ vs ++ caps) H r H' ∧ OldOk cfg.n0 H H' ∧ K ⟨some (.val r), none, H'⟩
    | _, _ => False
  | op =>
    match pureV P ρ lL H op with
    | some (c, v) => c ∧ K ⟨some v, none, H⟩
    | none => False

def opX (P : Program) (cfg : Cfg) (o : Oper) (K : St → Prop) (st : St) : Prop :=
  opE P cfg st.ev (fun d => noLoc d st.env = true ∨ NoLoc st.ev d) (lk st.L) st.H o fun e => K (st.app o.dst e)

/-- a variable's value, where it is there, told anew -/
def upd (t : Nat) (v : EV) : List (Nat × EV) → List (Nat × EV)
  | [] => []
  | (k, x) :: r => if k = t then (k, v) :: r else (k, x) :: upd t v r

/-- the operations of a region in the text's order; 'kn': what is known of a guard -/
def exOps (P : Program) (cfg : Cfg) (ops : Array Oper) : Option (Nat × Bool) → List Oper → (St → Prop) → St → Prop
  | _, [], Q, st => Q st
  | kn, o :: rest, Q, st =>
    match o.guard with
    | none => opX P cfg o (exOps P cfg ops (if kn.any (fun p => ((ops[p.1]?).bind (·.dst)) == o.dst) then none else kn) rest Q) st
    | some (j, want) =>
      match (ops[j]?).bind (·.dst) with
      | none => False
      | some t =>
        if o.dst = some t then False else
        if kn = some (j, want) then opX P cfg o (exOps P cfg ops kn rest Q) st else
        if kn = some (j, !want) then exOps P cfg ops kn rest Q (st.put o.dst (.val (.tup []))) else
        match (st.ev (.tmp t)).asB with
        | none => if (st.ev (.tmp t)).isU then exOps P cfg ops (if kn.any (fun p => ((ops[p.1]?).bind (·.dst)) == o.dst) then none else kn) rest Q (st.put o.dst (.val (.tup []))) else False
        | some b =>
          (b = want → opX P cfg o (exOps P cfg ops (some (j, want)) rest Q) ⟨upd t (.val (.bool want)) st.env, st.L, st.H⟩) ∧
          (b = !want → exOps P cfg ops (some (j, !want)) rest Q (St.put ⟨upd t (.val (.bool (!want))) st.env, st.L, st.H⟩ o.dst (.val (.tup []))))

inductive XE where
  | normal
  | exit (id : Nat)
  | ret

def prune (ks : List Nat) (st : St) : St :=
  ⟨ks.filterMap (fun k => (lk st.env k).map (k, ·)), ks.filterMap (fun k => (lk st.L k).map (k, ·)), st.H⟩

def roundsX (X : (XE → St → Prop) → St → Prop) (ks : List Nat) (Q : XE → St → Prop) : Nat → St → Prop
  | 0, _ => False
  | n + 1, st => X (fun e s => match e with | .normal => roundsX X ks Q n (prune ks s) | e => Q e s) st

end Go.Sx

set_option linter.unusedVariables false
namespace Go.Sx

theorem CRep_iff {w : World} {g : Gh} : ∀ {cs : List AV} {b o : Nat}, CRep w g cs b o ↔ ∀ (i : Nat) c, cs[i]? = some c → ∃ v, w.cell? ⟨b, o + i, none⟩ = some v ∧ v.oneCell' = true ∧ VRep w g c v
  | [], b, o => by simp [CRep]
  | c :: cs, b, o => by
    rw [CRep, CRep_iff (cs := cs)]
    constructor
    · rintro ⟨h1, h2⟩ i d hi
      cases i with
      | zero => simp at hi; subst hi; simpa using h1
      | succ i => simp at hi; have := h2 i d hi; rwa [show o + 1 + i = o + (i + 1) from by omega] at this
    · intro h
      refine ⟨by simpa using h 0 c (by simp), fun i d hi => ?_⟩
      have := h (i + 1) d (by simpa using hi)
      rwa [show o + (i + 1) = o + 1 + i from by omega] at this

theorem LRep_length {w : World} {g : Gh} : ∀ {cs : List AV} {vs : List Value}, LRep w g cs vs → vs.length = cs.length
  | [], vs, h => by simp [LRep] at h; simp [h]
  | c :: cs, vs, h => by
    simp only [LRep] at h
    obtain ⟨v, rest, rfl, _, h⟩ := h
    simp [LRep_length h]
theorem LRep_iff {w : World} {g : Gh} : ∀ {cs : List AV} {vs : List Value}, LRep w g cs vs ↔ vs.length = cs.length ∧ ∀ (i : Nat) c v, cs[i]? = some c → vs[i]? = some v → VRep w g c v
  | [], vs => by simp [LRep]
  | c :: cs, vs => by
    rw [LRep]
    constructor
    · rintro ⟨v, rest, rfl, h1, h2⟩
      rw [LRep_iff] at h2
      refine ⟨by simp [h2.1], fun i d x hi hx => ?_⟩
      cases i with
      | zero => simp at hi hx; subst hi hx; exact h1
      | succ i => simp at hi hx; exact h2.2 i d x hi hx
    · rintro ⟨hl, h⟩
      cases vs with
      | nil => simp at hl
      | cons v rest =>
        refine ⟨v, rest, rfl, h 0 c v (by simp) (by simp), LRep_iff.2 ⟨by simpa using hl, fun i d x hi hx => h (i + 1) d x (by simpa using hi) (by simpa using hx)⟩⟩

/-! ### what a value leads to is there -/
mutual
theorem VRep.mx {w : World} {g : Gh} {n : Nat} (hn : ∀ id gen p, g.ρ id gen = some p → id < n) : ∀ (a : AV) (v : Value), VRep w g a v → mx a ≤ n
  | .sl tag len cells, v, hv => by
    simp only [VRep] at hv
    simp only [Sx.mx]
    obtain ⟨cap, hc, ⟨rfl, _⟩ | ⟨b, o, h1, h2, h3, h4⟩⟩ := hv
    · simp [mxL]
    · exact CRep.mx hn cells b o h4
  | .slm id gen off len sz, v, hv => by
    simp only [VRep] at hv
    obtain ⟨b, δ, cap, m, h1, _⟩ := hv
    have := hn id gen _ h1
    simp only [Sx.mx]; omega
  | .eptr s off, v, hv => by
    simp only [VRep] at hv
    obtain ⟨b, o, h1, h2⟩ := hv
    simpa [Sx.mx] using SBase.mx hn s b o h2
  | .agg cells, v, hv => by
    simp only [VRep] at hv
    obtain ⟨vs, h1, _, h2⟩ := hv
    simpa [Sx.mx] using LRep.mx hn cells _ h2
  | .tup cells, v, hv => by
    simp only [VRep] at hv
    obtain ⟨vs, h1, h2⟩ := hv
    simpa [Sx.mx] using LRep.mx hn cells _ h2
  | .func f first caps, v, hv => by
    simp only [VRep] at hv
    obtain ⟨fs, cs, h1, h2, h3⟩ := hv
    have a := LRep.mx hn first _ h2
    have b := LRep.mx hn caps _ h3
    simp only [Sx.mx]; omega
  | .junk, _, _ => by simp [Sx.mx]
  | .bool _, _, _ => by simp [Sx.mx]
  | .int _ _, _, _ => by simp [Sx.mx]
  | .flt _, _, _ => by simp [Sx.mx]
  | .fraw _, _, _ => by simp [Sx.mx]
  | .str _, _, _ => by simp [Sx.mx]
  | .slnil, _, _ => by simp [Sx.mx]
  | .raw _, _, _ => by simp [Sx.mx]
theorem SBase.mx {w : World} {g : Gh} {n : Nat} (hn : ∀ id gen p, g.ρ id gen = some p → id < n) : ∀ (a : AV) (b o : Nat), SBase w g a b o → Sx.mx a ≤ n
  | .sl tag len cells, b, o, hv => by
    simp only [SBase] at hv
    simpa [Sx.mx] using CRep.mx hn cells b o hv.2.2
  | .slm id gen off len sz, b, o, hv => by
    simp only [SBase] at hv
    obtain ⟨δ, h1, _⟩ := hv
    have := hn id gen _ h1
    simp only [Sx.mx]; omega
  | .eptr _ _, _, _, hv => by simp [SBase] at hv
  | .agg _, _, _, hv => by simp [SBase] at hv
  | .tup _, _, _, hv => by simp [SBase] at hv
  | .func _ _ _, _, _, hv => by simp [SBase] at hv
  | .junk, _, _, _ => by simp [Sx.mx]
  | .bool _, _, _, _ => by simp [Sx.mx]
  | .int _ _, _, _, _ => by simp [Sx.mx]
  | .flt _, _, _, _ => by simp [Sx.mx]
  | .fraw _, _, _, _ => by simp [Sx.mx]
  | .str _, _, _, _ => by simp [Sx.mx]
  | .slnil, _, _, _ => by simp [Sx.mx]
  | .raw _, _, _, _ => by simp [Sx.mx]
theorem CRep.mx {w : World} {g : Gh} {n : Nat} (hn : ∀ id gen p, g.ρ id gen = some p → id < n) : ∀ (cs : List AV) (b o : Nat), CRep w g cs b o → mxL cs ≤ n
  | [], _, _, _ => by simp [mxL]
  | c :: cs, b, o, hv => by
    simp only [CRep] at hv
    obtain ⟨⟨v, h1, h2, h3⟩, h4⟩ := hv
    have a := VRep.mx hn c v h3
    have b := CRep.mx hn cs b (o + 1) h4
    simp only [mxL]; omega
theorem LRep.mx {w : World} {g : Gh} {n : Nat} (hn : ∀ id gen p, g.ρ id gen = some p → id < n) : ∀ (cs : List AV) (vs : List Value), LRep w g cs vs → mxL cs ≤ n
  | [], _, _ => by simp [mxL]
  | c :: cs, vs, hv => by
    simp only [LRep] at hv
    obtain ⟨v, rest, h1, h2, h3⟩ := hv
    have a := VRep.mx hn c v h2
    have b := LRep.mx hn cs rest h3
    simp only [mxL]; omega
end
theorem WRep.ids {w : World} {g : Gh} {H : List (List AV)} (h : WRep w g H) : ∀ id gen p, g.ρ id gen = some p → id < H.length := by
  intro id gen p hp
  obtain ⟨cs, hc, _⟩ := h.rhoid id gen p hp
  exact (List.getElem?_eq_some_iff.1 hc).1

theorem mxL_append (a b : List AV) : mxL (a ++ b) = max (mxL a) (mxL b) := by
  induction a with
  | nil => simp [mxL]
  | cons c a ih => simp only [List.cons_append, mxL, ih]; omega
theorem mxL_le {cs : List AV} {n : Nat} : mxL cs ≤ n ↔ ∀ (i : Nat) c, cs[i]? = some c → mx c ≤ n := by
  induction cs with
  | nil => simp [mxL]
  | cons c cs ih =>
    simp only [mxL]
    constructor
    · intro h i d hi
      cases i with
      | zero => simp at hi; subst hi; omega
      | succ i => simp at hi; exact ih.1 (by omega) i d hi
    · intro h
      have h0 := h 0 c (by simp)
      have h1 := ih.2 fun i d hi => h (i + 1) d (by simpa using hi)
      omega

theorem sc_length (cs : List AV) (off : Nat) (vs : List AV) : (sc cs off vs).length = cs.length := by
  induction vs generalizing cs off with
  | nil => rfl
  | cons v vs ih => simp [sc, ih]
theorem sc_get (cs : List AV) (off : Nat) (vs : List AV) (i : Nat) (h : off + vs.length ≤ cs.length) :
    (sc cs off vs)[i]? = if off ≤ i ∧ i < off + vs.length then vs[i - off]? else cs[i]? := by
  induction vs generalizing cs off with
  | nil => simp [sc]; omega
  | cons v vs ih =>
    simp only [List.length_cons] at h
    rw [sc, ih _ _ (by simp; omega)]
    by_cases h1 : off + 1 ≤ i ∧ i < off + 1 + vs.length
    · rw [if_pos h1, if_pos (by simp; omega)]
      rw [show i - off = (i - (off + 1)) + 1 from by omega]; simp
    · rw [if_neg h1]
      by_cases h2 : i = off
      · subst h2; rw [if_pos (by simp)]; simp; rw [List.getElem?_set_self (by omega)]
      · rw [List.getElem?_set_ne (Ne.symm h2), if_neg (by simp; omega)]
theorem mxL_sc {cs : List AV} {off : Nat} {vs : List AV} {n : Nat} (h : off + vs.length ≤ cs.length) (hc : mxL cs ≤ n) (hv : mxL vs ≤ n) : mxL (sc cs off vs) ≤ n := by
  rw [mxL_le] at hc hv ⊢
  intro i c hi
  rw [sc_get _ _ _ _ h] at hi
  split at hi
  · exact hv _ _ hi
  · exact hc _ _ hi

theorem gc_get {cs : List AV} {n : Nat} : ∀ {off : Nat} {l : List AV}, gc cs off n = some l → l.length = n ∧ ∀ i, i < n → l[i]? = cs[off + i]? := by
  induction n with
  | zero => intro off l h; simp [gc] at h; subst h; simp
  | succ n ih =>
    intro off l h
    simp only [gc, Option.bind_eq_some_iff, Option.map_eq_some_iff] at h
    obtain ⟨c, hc, r, hr, rfl⟩ := h
    obtain ⟨h1, h2⟩ := ih hr
    refine ⟨by simp [h1], fun i hi => ?_⟩
    cases i with
    | zero => simpa using hc.symm
    | succ i => simpa [show off + (i + 1) = off + 1 + i from by omega] using h2 i (by omega)

theorem CRep_gc {w : World} {g : Gh} {cs : List AV} {b o off n : Nat} {l : List AV} (h : CRep w g cs b o) (hl : gc cs off n = some l) : CRep w g l b (o + off) := by
  rw [CRep_iff] at h ⊢
  intro i c hi
  obtain ⟨h1, h2⟩ := gc_get hl
  have hlt : i < n := by have := (List.getElem?_eq_some_iff.1 hi).1; omega
  rw [h2 i hlt] at hi
  have := h (off + i) c hi
  rwa [show o + (off + i) = o + off + i from by omega] at this

/-! ### worlds -/
theorem bsz_row {w : World} {b : Nat} {c : Array Value} {e : TypeId} {fr : Nat × Nat} (h : w.heap[b]? = some (.cells c e fr)) : bsz w b = some c.size := by simp [bsz, h]
theorem Ext.heap {w w' : World} (g : Gh) (h : w'.heap = w.heap) : Ext w g w' g :=
  ⟨fun _ h => h, fun _ _ => by rw [h], fun _ _ _ h => h, fun b n hb => by unfold Sx.bsz at hb ⊢; rw [h]; exact hb⟩
theorem WRep.heap {w w' : World} {g : Gh} {H : List (List AV)} (hw : WRep w g H) (h : w'.heap = w.heap) : WRep w' g H where
  blk id cs hc := by
    obtain ⟨b, δ, c, e, h1, h2, h3, h4, h5⟩ := hw.blk id cs hc
    exact ⟨b, δ, c, e, h1, by rw [h]; exact h2, h3, CRep.ext (Ext.heap g h) (by rw [h]) h4, h5⟩
  inj := hw.inj
  fzlt b hb := by rw [h]; exact hw.fzlt b hb
  rholt := by rw [h]; exact hw.rholt
  rhoid := hw.rhoid
structure Sames (w w' : World) : Prop where
  os : w'.os = w.os
  output : w'.output = w.output
  tape : w'.tape = w.tape
theorem Since.step {w₀ w w' : World} {g₀ g g' : Gh} {H₀ H H' : List (List AV)} (h : Since w₀ g₀ H₀ w g H) (he : Ext w g w' g')
    (hsz : w.heap.size ≤ w'.heap.size) (hk : ∀ b, b < w.heap.size → ¬ HB g H b → w'.heap[b]? = w.heap[b]?)
    (hf : ∀ a : Addr, a.block < w.heap.size → w'.frozen? a = w.frozen? a)
    (hfz : ∀ b, g'.Fz b → b < w.heap.size → g.Fz b)
    (hhb : ∀ id cs b δ, b < w.heap.size → H'[id]? = some cs → g'.ρ id cs.length = some (b, δ) → ∃ cs₁, H[id]? = some cs₁ ∧ g.ρ id cs₁.length = some (b, δ)) (hl : H.length ≤ H'.length)
    (hs : Sames w w') : Since w₀ g₀ H₀ w' g' H' where
  sz := Nat.le_trans h.sz hsz
  keep b hb hn := by
    rw [hk b (Nat.lt_of_lt_of_le hb h.sz) (fun hc => hn (h.hb b hb hc)), h.keep b hb hn]
  bszk b n hn := he.bsz b n (h.bszk b n hn)
  fro a ha := by rw [hf a (Nat.lt_of_lt_of_le ha h.sz), h.fro a ha]
  fz b hb := he.fz b (h.fz b hb)
  fznew b hb hlt := h.fznew b (hfz b hb (Nat.lt_of_lt_of_le hlt h.sz)) hlt
  rho id gen p hp := he.rho id gen p (h.rho id gen p hp)
  hbi id cs b δ hb h1 h2 := by
    obtain ⟨cs₁, h3, h4⟩ := hhb id cs b δ (Nat.lt_of_lt_of_le hb h.sz) h1 h2
    exact h.hbi id cs₁ b δ hb h3 h4
  len := Nat.le_trans h.len hl
  same := ⟨hs.os.trans h.same.1, hs.output.trans h.same.2.1, hs.tape.trans h.same.2.2⟩
theorem Since.refl {w : World} {g : Gh} {H : List (List AV)} (h : WRep w g H) : Since w g H w g H where
  sz := Nat.le_refl _
  keep _ _ _ := rfl
  bszk _ _ h := h
  fro _ _ := rfl
  fz _ h := h
  fznew _ h _ := h
  rho _ _ _ h := h
  hbi _ cs _ _ _ h1 h2 := ⟨cs, h1, h2⟩
  len := Nat.le_refl _
  same := ⟨rfl, rfl, rfl⟩

/-! ### local boxes -/
structure LRp (n₀ : Nat) (w : World) (g : Gh) (H : List (List AV)) (lam : Nat → Nat) (lL : Nat → Option (List AV)) : Prop where
  box : ∀ key cs, lL key = some cs → ∃ c e, w.heap[lam key]? = some (.cells c e (0, 0)) ∧ cs.length ≤ c.size ∧ CRep w g cs (lam key) 0 ∧
    ¬ g.Fz (lam key) ∧ ¬ HB g H (lam key) ∧ n₀ ≤ lam key
  inj : ∀ key key', lL key ≠ none → lL key' ≠ none → lam key = lam key' → key = key'
def ERep (w : World) (g : Gh) (lam : Nat → Nat) : EV → Value → Prop
  | .val v, x => VRep w g v x
  | .loc key off, x => x = .pointer (some ⟨lam key, off, none⟩)
theorem isU_eq {e : EV} (h : e.isU = true) : e = .val (.tup []) := by
  unfold EV.isU at h; split at h
  · rfl
  · cases h
theorem ERep.ext {w w' : World} {g g' : Gh} {lam : Nat → Nat} (h : Ext w g w' g') : ∀ {e : EV} {x : Value}, ERep w g lam e x → ERep w' g' lam e x
  | .val _, _, hv => VRep.ext h hv
  | .loc _ _, _, hv => hv
theorem LRp.step {n₀ : Nat} {w w' : World} {g g' : Gh} {H H' : List (List AV)} {lam : Nat → Nat} {lL : Nat → Option (List AV)} (h : LRp n₀ w g H lam lL) (he : Ext w g w' g')
    (hk : ∀ b, b < w.heap.size → ¬ HB g H b → w'.heap[b]? = w.heap[b]?) (hfz : ∀ b, g'.Fz b → b < w.heap.size → g.Fz b)
    (hhb : ∀ b, b < w.heap.size → HB g' H' b → HB g H b) : LRp n₀ w' g' H' lam lL where
  box key cs hc := by
    obtain ⟨c, e, h1, h2, h3, h4, h5, h6⟩ := h.box key cs hc
    have hlt : lam key < w.heap.size := (Array.getElem?_eq_some_iff.1 h1).1
    have hh := hk _ hlt h5
    exact ⟨c, e, hh.trans h1, h2, CRep.ext he hh h3, fun hf => h4 (hfz _ hf hlt), fun hb => h5 (hhb _ hlt hb), h6⟩
  inj := h.inj

structure Cx where
  P : Program
  cfg : Cfg
  w₀ : World
  g₀ : Gh
  H₀ : List (List AV)
  N : Nat

structure SRepG (C : Cx) (st : St) (a : Act) (w : World) (g : Gh) (lam : Nat → Nat) : Prop where
  wr : WRep w g st.H
  si : Since C.w₀ C.g₀ C.H₀ w g st.H
  lr : LRp C.w₀.heap.size w g st.H lam (lk st.L)
  env : ∀ t e, lk st.env t = some e → ∃ x, a.tmps[t]? = some x ∧ ERep w g lam e x
  defs : a.defers = []
  size : a.tmps.size = C.N
  n0 : C.cfg.n0 ≤ C.H₀.length
  om : ∀ id cs, id < C.cfg.n0 → st.H[id]? = some cs → mxL cs ≤ C.cfg.n0
def SRep (C : Cx) (st : St) (a : Act) (w : World) : Prop := ∃ g lam, SRepG C st a w g lam

end Go.Sx

set_option linter.unusedVariables false
namespace Go.Sx

theorem al_new (w : World) (o : Obj) : (w.alloc o).heap[w.heap.size]? = some o := by
  show (w.heap.push o)[w.heap.size]? = some o
  simp
theorem al_old (w : World) (o : Obj) {i : Nat} (h : i < w.heap.size) : (w.alloc o).heap[i]? = w.heap[i]? := by
  show (w.heap.push o)[i]? = w.heap[i]?
  rw [Array.getElem?_push, if_neg (Nat.ne_of_lt h)]
theorem al_size (w : World) (o : Obj) : (w.alloc o).heap.size = w.heap.size + 1 := by
  show (w.heap.push o).size = _
  simp
theorem fro_eq {w w' : World} {a : Addr} (h : w'.heap[a.block]? = w.heap[a.block]?) : w'.frozen? a = w.frozen? a := by
  simp only [World.frozen?, h]
theorem bsz_lt {w : World} {b n : Nat} (h : bsz w b = some n) : b < w.heap.size := by
  unfold bsz at h
  rcases Nat.lt_or_ge b w.heap.size with hl | hl
  · exact hl
  · rw [Array.getElem?_eq_none hl] at h; simp at h
theorem bsz_eq {w w' : World} {b : Nat} (h : w'.heap[b]? = w.heap[b]?) : bsz w' b = bsz w b := by
  unfold bsz; rw [h]
theorem setRow_size (w : World) (b : Nat) (c : Array Value) : (w.setRow b c).heap.size = w.heap.size := by simp [World.setRow]

section
variable {C : Cx} {st : St} {a : Act} {w : World} {g : Gh} {lam : Nat → Nat}

theorem SRepG.lt0 (h : SRepG C st a w g lam) (cs : List AV) (vs : List Value) (hv : LRep w g cs vs) : mxL cs ≤ st.H.length := LRep.mx h.wr.ids cs vs hv

/-- the world turns, blocks and boxes as they were -/
theorem SRepG.still {w' : World} (h : SRepG C st a w g lam) (hh : w'.heap = w.heap) (hs : Sames w w') : SRepG C st a w' g lam where
  wr := h.wr.heap hh
  si := h.si.step (Ext.heap g hh) (by rw [hh]; exact Nat.le_refl _) (fun b _ _ => by rw [hh]) (fun a _ => fro_eq (by rw [hh])) (fun _ h _ => h) (fun _ cs _ _ _ h1 h2 => ⟨cs, h1, h2⟩) (Nat.le_refl _)
    hs
  lr := h.lr.step (Ext.heap g hh) (fun b _ _ => by rw [hh]) (fun _ h _ => h) (fun _ _ h => h)
  env t e he := by obtain ⟨x, h1, h2⟩ := h.env t e he; exact ⟨x, h1, h2.ext (Ext.heap g hh)⟩
  defs := h.defs
  size := h.size
  n0 := h.n0
  om := h.om

theorem SRepG.put (h : SRepG C st a w g lam) {d : Nat} (hd : d < C.N) {e : EV} {v : Value} (hv : ERep w g lam e v) :
    SRepG C { st with env := (d, e) :: st.env } (a.put (some d) v) w g lam where
  wr := h.wr
  si := h.si
  lr := h.lr
  env t e' he := by
    simp only [lk] at he
    by_cases ht : d = t
    · subst ht; simp at he; subst he
      exact ⟨v, by simp [Act.put, h.size, hd], hv⟩
    · simp only [if_neg ht] at he
      obtain ⟨x, h1, h2⟩ := h.env t e' he
      exact ⟨x, by simp [Act.put, ht, h1], h2⟩
  defs := h.defs
  size := by simp [Act.put, h.size]
  n0 := h.n0
  om := h.om

def newG (g : Gh) (id gen b : Nat) : Gh := { g with ρ := fun i n => if i = id ∧ n = gen then some (b, 0) else g.ρ i n }
def movG (g : Gh) (id gen b δ : Nat) : Gh := { g with ρ := fun i n => if i = id ∧ n = gen then some (b, δ) else g.ρ i n }

theorem Ext.alloc {w : World} {g g' : Gh} {H : List (List AV)} (hw : WRep w g H) (o : Obj) (hf : g'.Fz = g.Fz) (hr : ∀ id gen p, g.ρ id gen = some p → g'.ρ id gen = some p) : Ext w g (w.alloc o) g' where
  fz b hb := by rw [hf]; exact hb
  fzw b hb := al_old w o (hw.fzlt b hb)
  rho := hr
  bsz b n hb := by rw [bsz_eq (al_old w o (bsz_lt hb))]; exact hb

/-- cells, value by value -/
def Vals (w : World) (g : Gh) (cs : List AV) (c : Array Value) (o : Nat) : Prop :=
  ∀ (i : Nat) cv, cs[i]? = some cv → ∃ v, c[o + i]? = some v ∧ v.oneCell' = true ∧ VRep w g cv v
theorem Vals.crep {w w' : World} {g g' : Gh} {cs : List AV} {c : Array Value} {o b : Nat} {e : TypeId} {fr : Nat × Nat} (h : Vals w g cs c o) (he : Ext w g w' g')
    (hb : w'.heap[b]? = some (.cells c e fr)) : CRep w' g' cs b o := by
  rw [CRep_iff]
  intro i cv hi
  obtain ⟨v, h1, h2, h3⟩ := h i cv hi
  exact ⟨v, by simp [World.cell?, hb, h1], h2, h3.ext he⟩
theorem Vals.of_crep {w : World} {g : Gh} {cs : List AV} {c : Array Value} {o b : Nat} {e : TypeId} {fr : Nat × Nat} (h : CRep w g cs b o)
    (hb : w.heap[b]? = some (.cells c e fr)) : Vals w g cs c o := by
  rw [CRep_iff] at h
  intro i cv hi
  obtain ⟨v, h1, h2, h3⟩ := h i cv hi
  exact ⟨v, by simpa [World.cell?, hb] using h1, h2, h3⟩
theorem Vals.mx {w : World} {g : Gh} {H : List (List AV)} (hw : WRep w g H) {cs : List AV} {c : Array Value} {o : Nat} (h : Vals w g cs c o) : mxL cs ≤ H.length := by
  rw [mxL_le]
  intro i cv hi
  obtain ⟨v, _, _, h3⟩ := h i cv hi
  exact VRep.mx hw.ids cv v h3

/-- A NEW BLOCK -/
theorem SRepG.newH (h : SRepG C st a w g lam) {cs : List AV} {c : Array Value} {e : TypeId} (hv : Vals w g cs c 0) (hl : cs.length ≤ c.size) :
    SRepG C { st with H := st.H ++ [cs] } a (w.alloc (.cells c e)) (newG g st.H.length cs.length w.heap.size) lam ∧
    Ext w g (w.alloc (.cells c e)) (newG g st.H.length cs.length w.heap.size) := by
  have hw := h.wr
  have hno : ∀ gen p, g.ρ st.H.length gen ≠ some p := fun gen p hp => Nat.lt_irrefl _ (hw.ids _ _ _ hp)
  have hx : Ext w g (w.alloc (.cells c e)) (newG g st.H.length cs.length w.heap.size) := by
    refine Ext.alloc hw _ rfl fun id gen p hp => ?_
    simp only [newG]
    rw [if_neg]
    · exact hp
    · rintro ⟨rfl, _⟩; exact hno _ _ hp
  have hold : ∀ id cs', id < st.H.length → (st.H ++ [cs])[id]? = some cs' → st.H[id]? = some cs' := by
    intro id cs' hid hc; rwa [List.getElem?_append_left hid] at hc
  have hrn : ∀ id gen, id < st.H.length → (newG g st.H.length cs.length w.heap.size).ρ id gen = g.ρ id gen := by
    intro id gen hid; simp only [newG]; rw [if_neg (by omega)]
  have hmx := Vals.mx hw hv
  have hcase : ∀ id cs', (st.H ++ [cs])[id]? = some cs' → (id < st.H.length ∧ st.H[id]? = some cs') ∨ (id = st.H.length ∧ cs' = cs) := by
    intro id cs' hc
    rcases Nat.lt_or_ge id st.H.length with hlt | hge
    · exact .inl ⟨hlt, hold id cs' hlt hc⟩
    · have h1 := (List.getElem?_eq_some_iff.1 hc).1
      have : id = st.H.length := by simp at h1; omega
      subst this
      simp at hc
      exact .inr ⟨rfl, hc.symm⟩
  have hwr : WRep (w.alloc (.cells c e)) (newG g st.H.length cs.length w.heap.size) (st.H ++ [cs]) := by
    refine ⟨fun id cs' hc => ?_, fun id id' cs₁ cs₂ b δ δ' h1 h2 h3 h4 => ?_, fun b hb => ?_, fun id gen b δ hp => ?_, fun id gen p hp => ?_⟩
    · rcases hcase id cs' hc with ⟨hlt, hc⟩ | ⟨rfl, rfl⟩
      · obtain ⟨b, δ, c', e', h1, h2, h3, h4, h5, h6⟩ := hw.blk id cs' hc
        have hb := al_old w (.cells c e) (Array.getElem?_eq_some_iff.1 h2).1
        exact ⟨b, δ, c', e', by rw [hrn _ _ hlt]; exact h1, hb.trans h2, h3, CRep.ext hx hb h4, h5, by simp; omega⟩
      · exact ⟨w.heap.size, 0, c, e, by simp [newG], al_new _ _, by omega, hv.crep hx (al_new _ _), fun hf => Nat.lt_irrefl _ (hw.fzlt _ hf), by simp; omega⟩
    · rcases hcase id cs₁ h1 with ⟨l1, k1⟩ | ⟨rfl, rfl⟩
      · rcases hcase id' cs₂ h2 with ⟨l2, k2⟩ | ⟨rfl, rfl⟩
        · rw [hrn _ _ l1] at h3; rw [hrn _ _ l2] at h4
          exact hw.inj id id' cs₁ cs₂ b δ δ' k1 k2 h3 h4
        · rw [hrn _ _ l1] at h3; simp [newG] at h4
          have := hw.rholt _ _ _ _ h3; omega
      · rcases hcase id' cs₂ h2 with ⟨l2, k2⟩ | ⟨rfl, rfl⟩
        · rw [hrn _ _ l2] at h4; simp [newG] at h3
          have := hw.rholt _ _ _ _ h4; omega
        · rfl
    · rw [al_size]; exact Nat.lt_succ_of_lt (hw.fzlt b hb)
    · rw [al_size]
      simp only [newG] at hp
      split at hp
      · simp at hp; omega
      · exact Nat.lt_succ_of_lt (hw.rholt _ _ _ _ hp)
    · simp only [newG] at hp
      split at hp
      · rename_i hh; obtain ⟨rfl, rfl⟩ := hh; exact ⟨cs, by simp, Nat.le_refl _⟩
      · obtain ⟨cs', k1, k2⟩ := hw.rhoid _ _ _ hp
        exact ⟨cs', by rw [List.getElem?_append_left (List.getElem?_eq_some_iff.1 k1).1]; exact k1, k2⟩
  have hhi : ∀ id cs' b δ, b < w.heap.size → (st.H ++ [cs])[id]? = some cs' → (newG g st.H.length cs.length w.heap.size).ρ id cs'.length = some (b, δ) →
      ∃ cs₁, st.H[id]? = some cs₁ ∧ g.ρ id cs₁.length = some (b, δ) := by
    intro id cs' b δ hb hc hp
    rcases hcase id cs' hc with ⟨hlt, hc⟩ | ⟨rfl, rfl⟩
    · rw [hrn _ _ hlt] at hp; exact ⟨cs', hc, hp⟩
    · simp [newG] at hp; omega
  have hhb : ∀ b, b < w.heap.size → HB (newG g st.H.length cs.length w.heap.size) (st.H ++ [cs]) b → HB g st.H b := by
    rintro b hb ⟨id, cs', δ, hc, hp⟩
    obtain ⟨cs₁, h1, h2⟩ := hhi id cs' b δ hb hc hp
    exact ⟨id, cs₁, δ, h1, h2⟩
  refine ⟨⟨hwr, ?_, ?_, fun t e' he => ?_, h.defs, h.size, h.n0, fun id cs' hid hc => ?_⟩, hx⟩
  · exact h.si.step hx (by rw [al_size]; omega) (fun b hb _ => al_old _ _ hb) (fun a' ha => fro_eq (al_old _ _ ha)) (fun b hb _ => hb) hhi (by simp) ⟨rfl, rfl, rfl⟩
  · exact h.lr.step hx (fun b hb _ => al_old _ _ hb) (fun b hb _ => hb) hhb
  · obtain ⟨x, h1, h2⟩ := h.env t e' he
    exact ⟨x, h1, h2.ext hx⟩
  · rcases hcase id cs' hc with ⟨hlt, hc⟩ | ⟨rfl, rfl⟩
    · exact h.om id cs' hid hc
    · have := h.si.len; have := h.n0; omega

def fzG (g : Gh) (b : Nat) : Gh := { g with Fz := fun k => g.Fz k ∨ k = b }
/-- A NEW BLOCK THAT NOBODY WRITES -/
theorem SRepG.newF (h : SRepG C st a w g lam) (c : Array Value) (e : TypeId) :
    SRepG C st a (w.alloc (.cells c e)) (fzG g w.heap.size) lam ∧ Ext w g (w.alloc (.cells c e)) (fzG g w.heap.size) := by
  have hx : Ext w g (w.alloc (.cells c e)) (fzG g w.heap.size) :=
    ⟨fun b hb => .inl hb, fun b hb => al_old w _ (h.wr.fzlt b hb), fun _ _ _ h => h, fun b n hb => by rw [bsz_eq (al_old w _ (bsz_lt hb))]; exact hb⟩
  have hfz : ∀ b, (fzG g w.heap.size).Fz b → b < w.heap.size → g.Fz b := by
    rintro b (hb | hb) hlt
    · exact hb
    · omega
  have hwr : WRep (w.alloc (.cells c e)) (fzG g w.heap.size) st.H := by
    refine ⟨fun id cs₁ hc => ?_, h.wr.inj, fun b hb => ?_, fun id gen b δ hp => by rw [al_size]; exact Nat.lt_succ_of_lt (h.wr.rholt _ _ _ _ hp), h.wr.rhoid⟩
    · obtain ⟨b, δ, c₂, e₂, k1, k2, k3, k4, k5, k6⟩ := h.wr.blk id cs₁ hc
      have hlt := (Array.getElem?_eq_some_iff.1 k2).1
      have hb := al_old w (.cells c e) hlt
      exact ⟨b, δ, c₂, e₂, k1, hb.trans k2, k3, CRep.ext hx hb k4, fun hf => k5 (hfz b hf hlt), k6⟩
    · rw [al_size]
      rcases hb with hb | hb
      · exact Nat.lt_succ_of_lt (h.wr.fzlt b hb)
      · omega
  refine ⟨⟨hwr, ?_, ?_, fun t e' he => ?_, h.defs, h.size, h.n0, h.om⟩, hx⟩
  · exact h.si.step hx (by rw [al_size]; omega) (fun b hb _ => al_old _ _ hb) (fun a' ha => fro_eq (al_old _ _ ha)) hfz (fun _ cs _ _ _ h1 h2 => ⟨cs, h1, h2⟩) (Nat.le_refl _) ⟨rfl, rfl, rfl⟩
  · exact h.lr.step hx (fun b hb _ => al_old _ _ hb) hfz (fun _ _ hb => hb)
  · obtain ⟨x, h1, h2⟩ := h.env t e' he
    exact ⟨x, h1, h2.ext hx⟩

/-- A BLOCK WHOSE CELLS TURN: in place, or (a slice that grew) in a new place -/
theorem SRepG.repl (h : SRepG C st a w g lam) {id : Nat} {cs cs' : List AV} {b δ : Nat} (hid : st.H[id]? = some cs) (hcur : g.ρ id cs.length = some (b, δ)) (hle : cs.length ≤ cs'.length)
    (hold : C.cfg.n0 ≤ id ∨ mxL cs' ≤ C.cfg.n0)
    {w' : World} {b' δ' : Nat} {c' : Array Value} {e : TypeId} (hsz : w.heap.size ≤ w'.heap.size) (hk : ∀ k, k < w.heap.size → k ≠ b → w'.heap[k]? = w.heap[k]?)
    (hbs : ∀ n, bsz w b = some n → bsz w' b = some n) (hfb : ∀ o, w'.frozen? ⟨b, o, none⟩ = w.frozen? ⟨b, o, none⟩)
    (hs : Sames w w') (hb' : w'.heap[b']? = some (.cells c' e (0, 0))) (hpl : (b' = b ∧ δ' = δ) ∨ (b' = w.heap.size ∧ cs.length < cs'.length))
    (hv : Vals w g cs' c' δ') (hl : δ' + cs'.length ≤ c'.size) (hfs : ∀ a : Addr, a.block = b → w'.frozen? a = w.frozen? a) :
    SRepG C { st with H := st.H.set id cs' } a w' (movG g id cs'.length b' δ') lam ∧ Ext w g w' (movG g id cs'.length b' δ') := by
  have hw := h.wr
  have hidl : id < st.H.length := (List.getElem?_eq_some_iff.1 hid).1
  obtain ⟨b₀, δ₀, c₀, e₀, k1, k2, k3, k4, k5, k6⟩ := hw.blk id cs hid
  rw [hcur] at k1; simp only [Option.some.injEq, Prod.mk.injEq] at k1; obtain ⟨rfl, rfl⟩ := k1
  have hblt : b < w.heap.size := (Array.getElem?_eq_some_iff.1 k2).1
  have hx : Ext w g w' (movG g id cs'.length b' δ') := by
    refine ⟨fun _ h => h, fun k hk' => hk k (hw.fzlt k hk') (fun hh => k5 (hh ▸ hk')), fun i n p hp => ?_, fun k n hn => ?_⟩
    · simp only [movG]
      split
      · rename_i hh
        obtain ⟨rfl, rfl⟩ := hh
        obtain ⟨cs₂, j1, j2⟩ := hw.rhoid _ _ _ hp
        rw [hid] at j1; simp only [Option.some.injEq] at j1; subst j1
        have hlen : cs'.length = cs.length := by omega
        rw [hlen, hcur] at hp
        rcases hpl with ⟨rfl, rfl⟩ | ⟨_, hlt⟩
        · exact hp
        · omega
      · exact hp
    · by_cases hkb : k = b
      · subst hkb; exact hbs n hn
      · rw [bsz_eq (hk k (bsz_lt hn) hkb)]; exact hn
  have hmx := Vals.mx hw hv
  have hget : ∀ j cs₂, (st.H.set id cs')[j]? = some cs₂ → (j = id ∧ cs₂ = cs') ∨ (j ≠ id ∧ st.H[j]? = some cs₂) := by
    intro j cs₂ hj
    by_cases hji : j = id
    · subst hji; rw [List.getElem?_set_self hidl] at hj; simp at hj; exact .inl ⟨rfl, hj.symm⟩
    · rw [List.getElem?_set_ne (Ne.symm hji)] at hj; exact .inr ⟨hji, hj⟩
  have hro : ∀ j n, j ≠ id → (movG g id cs'.length b' δ').ρ j n = g.ρ j n := by
    intro j n hj; simp only [movG]; rw [if_neg (fun hh => hj hh.1)]
  have hnb : ∀ j cs₂ b₂ δ₂, j ≠ id → st.H[j]? = some cs₂ → g.ρ j cs₂.length = some (b₂, δ₂) → b₂ ≠ b := by
    rintro j cs₂ b₂ δ₂ hj hc hp rfl
    exact hj (hw.inj j id cs₂ cs b₂ δ₂ _ hc hid hp hcur)
  have hb'f : ¬ g.Fz b' := by
    rcases hpl with ⟨rfl, _⟩ | ⟨rfl, _⟩
    · exact k5
    · exact fun hf => Nat.lt_irrefl _ (hw.fzlt _ hf)
  have hb'n : ∀ j cs₂ b₂ δ₂, j ≠ id → st.H[j]? = some cs₂ → g.ρ j cs₂.length = some (b₂, δ₂) → b₂ ≠ b' := by
    intro j cs₂ b₂ δ₂ hj hc hp
    rcases hpl with ⟨rfl, _⟩ | ⟨rfl, _⟩
    · exact hnb j cs₂ b₂ δ₂ hj hc hp
    · exact Nat.ne_of_lt (hw.rholt _ _ _ _ hp)
  have hwr : WRep w' (movG g id cs'.length b' δ') (st.H.set id cs') := by
    refine ⟨fun j cs₂ hc => ?_, fun i j cs₁ cs₂ b₂ δ₁ δ₂ h1 h2 h3 h4 => ?_, fun k hk' => Nat.lt_of_lt_of_le (hw.fzlt k hk') hsz, fun i n b₂ δ₂ hp => ?_, fun i n p hp => ?_⟩
    · rcases hget j cs₂ hc with ⟨rfl, rfl⟩ | ⟨hj, hc⟩
      · exact ⟨b', δ', c', e, by simp [movG], hb', hl, hv.crep hx hb', hb'f, by simpa using hmx⟩
      · obtain ⟨b₂, δ₂, c₂, e₂, j1, j2, j3, j4, j5, j6⟩ := hw.blk j cs₂ hc
        have hh := hk b₂ (Array.getElem?_eq_some_iff.1 j2).1 (hnb j cs₂ b₂ δ₂ hj hc j1)
        exact ⟨b₂, δ₂, c₂, e₂, by rw [hro _ _ hj]; exact j1, hh.trans j2, j3, CRep.ext hx hh j4, j5, by simpa using j6⟩
    · rcases hget i cs₁ h1 with ⟨rfl, rfl⟩ | ⟨hi, j1⟩
      · rcases hget j cs₂ h2 with ⟨rfl, rfl⟩ | ⟨hj, j2⟩
        · rfl
        · rw [hro _ _ hj] at h4; simp [movG] at h3
          exact absurd h3.1.symm (hb'n j cs₂ b₂ δ₂ hj j2 h4)
      · rcases hget j cs₂ h2 with ⟨rfl, rfl⟩ | ⟨hj, j2⟩
        · rw [hro _ _ hi] at h3; simp [movG] at h4
          exact absurd h4.1.symm (hb'n i cs₁ b₂ δ₁ hi j1 h3)
        · rw [hro _ _ hi] at h3; rw [hro _ _ hj] at h4
          exact hw.inj i j cs₁ cs₂ b₂ δ₁ δ₂ j1 j2 h3 h4
    · simp only [movG] at hp
      split at hp
      · simp at hp; obtain ⟨rfl, _⟩ := hp; exact (Array.getElem?_eq_some_iff.1 hb').1
      · exact Nat.lt_of_lt_of_le (hw.rholt _ _ _ _ hp) hsz
    · simp only [movG] at hp
      split at hp
      · rename_i hh; obtain ⟨rfl, rfl⟩ := hh; exact ⟨cs', List.getElem?_set_self hidl, Nat.le_refl _⟩
      · obtain ⟨cs₂, j1, j2⟩ := hw.rhoid _ _ _ hp
        by_cases hi : i = id
        · subst hi; rw [hid] at j1; simp only [Option.some.injEq] at j1; subst j1
          exact ⟨cs', List.getElem?_set_self hidl, Nat.le_trans j2 hle⟩
        · exact ⟨cs₂, by rw [List.getElem?_set_ne (Ne.symm hi)]; exact j1, j2⟩
  have hhi : ∀ j cs₂ k δ₂, k < w.heap.size → (st.H.set id cs')[j]? = some cs₂ → (movG g id cs'.length b' δ').ρ j cs₂.length = some (k, δ₂) →
      ∃ cs₁, st.H[j]? = some cs₁ ∧ g.ρ j cs₁.length = some (k, δ₂) := by
    intro j cs₂ k δ₂ hk' hc hp
    rcases hget j cs₂ hc with ⟨rfl, rfl⟩ | ⟨hj, hc⟩
    · simp [movG] at hp; obtain ⟨rfl, rfl⟩ := hp
      rcases hpl with ⟨rfl, rfl⟩ | ⟨rfl, _⟩
      · exact ⟨cs, hid, hcur⟩
      · omega
    · rw [hro _ _ hj] at hp; exact ⟨cs₂, hc, hp⟩
  have hhb : ∀ k, k < w.heap.size → HB (movG g id cs'.length b' δ') (st.H.set id cs') k → HB g st.H k := by
    rintro k hk' ⟨j, cs₂, δ₂, hc, hp⟩
    obtain ⟨cs₁, h1, h2⟩ := hhi j cs₂ k δ₂ hk' hc hp
    exact ⟨j, cs₁, δ₂, h1, h2⟩
  have hHB : HB g st.H b := ⟨id, cs, δ, hid, hcur⟩
  have hkk : ∀ k, k < w.heap.size → ¬ HB g st.H k → w'.heap[k]? = w.heap[k]? := fun k hk' hn => hk k hk' fun hh => hn (hh ▸ hHB)
  refine ⟨⟨hwr, ?_, ?_, fun t e' he => ?_, h.defs, h.size, h.n0, fun j cs₂ hj hc => ?_⟩, hx⟩
  · refine h.si.step hx hsz hkk (fun a' ha => ?_) (fun k hk' _ => hk') hhi (by simp) hs
    · by_cases hab : a'.block = b
      · exact hfs a' hab
      · exact fro_eq (hk _ ha hab)
  · exact h.lr.step hx hkk (fun k hk' _ => hk') hhb
  · obtain ⟨x, h1, h2⟩ := h.env t e' he
    exact ⟨x, h1, h2.ext hx⟩
  · rcases hget j cs₂ hc with ⟨rfl, rfl⟩ | ⟨hji, hc⟩
    · omega
    · exact h.om j cs₂ hj hc

/-- A BOX IS WRITTEN -/
theorem SRepG.box (h : SRepG C st a w g lam) {key : Nat} {cs cs' : List AV} {c c' : Array Value} {e : TypeId} (hk : lk st.L key = some cs)
    (hc : w.heap[lam key]? = some (.cells c e (0, 0))) (hz : c'.size = c.size) (hl : cs'.length ≤ c.size) (hv : Vals w g cs' c' 0) :
    SRepG C { st with L := (key, cs') :: st.L } a (w.setRow (lam key) c') g lam ∧ Ext w g (w.setRow (lam key) c') g := by
  obtain ⟨c₁, e₁, h1, h2, h3, h4, h5, h6⟩ := h.lr.box key cs hk
  have hother : ∀ k, k ≠ lam key → (w.setRow (lam key) c').heap[k]? = w.heap[k]? := fun k hk => setRow_other w _ k c' hk
  have hnew : (w.setRow (lam key) c').heap[lam key]? = some (.cells c' e (0, 0)) := setRow_heap w _ c c' e _ hc
  have hx : Ext w g (w.setRow (lam key) c') g := by
    refine ⟨fun _ h => h, fun b hb => hother b (fun hh => h4 (hh ▸ hb)), fun _ _ _ h => h, fun b n hb => ?_⟩
    by_cases hbk : b = lam key
    · subst hbk; rw [bsz_row hc] at hb; rw [bsz_row hnew, hz]; exact hb
    · rw [bsz_eq (hother b hbk)]; exact hb
  have hwr : WRep (w.setRow (lam key) c') g st.H := by
    refine ⟨fun id cs₁ hc₁ => ?_, h.wr.inj, fun b hb => by rw [setRow_size]; exact h.wr.fzlt b hb, fun id gen b δ hp => by rw [setRow_size]; exact h.wr.rholt id gen b δ hp, h.wr.rhoid⟩
    obtain ⟨b, δ, c₂, e₂, k1, k2, k3, k4, k5⟩ := h.wr.blk id cs₁ hc₁
    have hb : b ≠ lam key := fun hh => h5 (hh ▸ ⟨id, cs₁, δ, hc₁, k1⟩)
    exact ⟨b, δ, c₂, e₂, k1, (hother b hb).trans k2, k3, CRep.ext hx (hother b hb) k4, k5⟩
  refine ⟨⟨hwr, ?_, ⟨fun k cs₁ hk₁ => ?_, ?_⟩, fun t e' he => ?_, h.defs, h.size, h.n0, h.om⟩, hx⟩
  · refine ⟨by rw [setRow_size]; exact h.si.sz, fun b hb hn => ?_, fun b n hn => hx.bsz b n (h.si.bszk b n hn), fun a' ha => ?_, h.si.fz, h.si.fznew, h.si.rho, h.si.hbi, h.si.len, h.si.same⟩
    · rw [hother b (fun hh => by omega), h.si.keep b hb hn]
    · rw [← h.si.fro a' ha]; exact fro_eq (hother _ (fun hh => by omega))
  · by_cases hkk : key = k
    · subst hkk; simp only [lk, if_true, Option.some.injEq] at hk₁; subst hk₁
      exact ⟨c', e, hnew, by omega, hv.crep hx hnew, h4, h5, h6⟩
    · simp only [lk, if_neg hkk] at hk₁
      obtain ⟨c₂, e₂, k1, k2, k3, k4, k5, k6⟩ := h.lr.box k cs₁ hk₁
      have hne : lam k ≠ lam key := fun hh => hkk (h.lr.inj key k (by simp [hk]) (by simp [hk₁]) hh.symm)
      exact ⟨c₂, e₂, (hother _ hne).trans k1, k2, CRep.ext hx (hother _ hne) k3, k4, k5, k6⟩
  · intro k k' h1' h2' hh
    have conv : ∀ j, lk ((key, cs') :: st.L) j ≠ none → lk st.L j ≠ none := by
      intro j hj
      by_cases hkj : key = j
      · subst hkj; simp [hk]
      · simpa [lk, hkj] using hj
    exact h.lr.inj k k' (conv k h1') (conv k' h2') hh
  · obtain ⟨x, j1, j2⟩ := h.env t e' he
    exact ⟨x, j1, j2.ext hx⟩

/-- A NEW BOX -/
theorem SRepG.newL (h : SRepG C st a w g lam) {d : Nat} {cs : List AV} {c : Array Value} {e : TypeId} (hn : NoLoc st.ev d) (hv : Vals w g cs c 0) (hl : cs.length ≤ c.size) (hw0 : C.w₀.heap.size ≤ w.heap.size) :
    SRepG C { st with L := (d, cs) :: st.L } a (w.alloc (.cells c e)) g (fun k => if k = d then w.heap.size else lam k) := by
  have hx : Ext w g (w.alloc (.cells c e)) g := Ext.alloc h.wr _ rfl fun _ _ _ h => h
  have hlr : LRp C.w₀.heap.size (w.alloc (.cells c e)) g st.H lam (lk st.L) := h.lr.step hx (fun b hb _ => al_old _ _ hb) (fun b hb _ => hb) fun b _ hb => hb
  have hlt : ∀ k cs₁, lk st.L k = some cs₁ → lam k < w.heap.size := by
    intro k cs₁ hk
    obtain ⟨c₁, e₁, h1, _⟩ := h.lr.box k cs₁ hk
    exact (Array.getElem?_eq_some_iff.1 h1).1
  have hwr : WRep (w.alloc (.cells c e)) g st.H := by
    refine ⟨fun id cs₁ hc => ?_, h.wr.inj, fun b hb => by rw [al_size]; exact Nat.lt_succ_of_lt (h.wr.fzlt b hb), fun id gen b δ hp => by rw [al_size]; exact Nat.lt_succ_of_lt (h.wr.rholt _ _ _ _ hp), h.wr.rhoid⟩
    obtain ⟨b, δ, c₂, e₂, k1, k2, k3, k4, k5⟩ := h.wr.blk id cs₁ hc
    have hb := al_old w (.cells c e) (Array.getElem?_eq_some_iff.1 k2).1
    exact ⟨b, δ, c₂, e₂, k1, hb.trans k2, k3, CRep.ext hx hb k4, k5⟩
  refine ⟨hwr, ?_, ⟨fun k cs₁ hk => ?_, fun k k' h1 h2 hh => ?_⟩, fun t e' he => ?_, h.defs, h.size, h.n0, h.om⟩
  · exact h.si.step hx (by rw [al_size]; omega) (fun b hb _ => al_old _ _ hb) (fun a' ha => fro_eq (al_old _ _ ha)) (fun b hb _ => hb) (fun _ cs _ _ _ h1 h2 => ⟨cs, h1, h2⟩) (Nat.le_refl _) ⟨rfl, rfl, rfl⟩
  · by_cases hkd : d = k
    · subst hkd; simp only [lk, if_true, Option.some.injEq] at hk; subst hk
      refine ⟨c, e, by simp only [if_true]; exact al_new _ _, hl, by simp only [if_true]; exact hv.crep hx (al_new _ _), ?_, ?_, by simp only [if_true]; exact hw0⟩
      · simp only [if_true]; exact fun hf => Nat.lt_irrefl _ (h.wr.fzlt _ hf)
      · simp only [if_true]; rintro ⟨id, cs₂, δ, j1, j2⟩; exact Nat.lt_irrefl _ (h.wr.rholt _ _ _ _ j2)
    · simp only [lk, if_neg hkd] at hk
      simp only [if_neg (Ne.symm hkd)]
      exact hlr.box k cs₁ hk
  · by_cases hk : k = d
    · by_cases hk' : k' = d
      · rw [hk, hk']
      · simp only [if_pos hk, if_neg hk'] at hh
        have : lk st.L k' ≠ none := by simpa [lk, Ne.symm hk'] using h2
        obtain ⟨cs₁, hc₁⟩ := Option.ne_none_iff_exists'.1 this
        have := hlt k' cs₁ hc₁; omega
    · by_cases hk' : k' = d
      · simp only [if_neg hk, if_pos hk'] at hh
        have : lk st.L k ≠ none := by simpa [lk, Ne.symm hk] using h1
        obtain ⟨cs₁, hc₁⟩ := Option.ne_none_iff_exists'.1 this
        have := hlt k cs₁ hc₁; omega
      · simp only [if_neg hk, if_neg hk'] at hh
        exact h.lr.inj k k' (by simpa [lk, Ne.symm hk] using h1) (by simpa [lk, Ne.symm hk'] using h2) hh
  · obtain ⟨x, j1, j2⟩ := h.env t e' he
    refine ⟨x, j1, ?_⟩
    cases e' with
    | val v => exact ERep.ext (lam := lam) hx j2
    | loc key off =>
      have hne : key ≠ d := by
        rintro rfl
        exact hn t off (by simp [St.ev, he])
      simp only [ERep, if_neg hne]
      exact j2
end
end Go.Sx
