/- A part of the proofs of this seat: YA. No condition is set. -/
import Derived.Deep.MidRow
import Derived.IntWalk
import Derived.Laws.CopyRow
import Derived.Laws.FloatArith
import Derived.Laws.FloatBits
import Derived.WalkKit
import Derived.WalkLawsBesides
namespace Go.Sx
def isNaN (b : Nat) : Bool := (Ieee.double.read b).isNaN
def qn : Nat := 9221120237041090560
def cn (b : Nat) : Nat := if isNaN b then qn else b
inductive AV where
  | junk
  | bool (b : Bool)
  | int (k : IntKind) (n : Int)
  | flt (x : Nat)
  | fraw (b : Nat)
  | str (s : ByteArray)
  | slnil
  | sl (tag : Option (Nat × Nat)) (len : Nat) (cells : List AV)
  | slm (id gen off len sz : Nat)
  | eptr (s : AV) (off : Nat)
  | agg (cells : List AV)
  | tup (vs : List AV)
  | func (f : Nat) (first caps : List AV)
  | raw (v : Value)
structure Gh where
  ρ : Nat → Nat → Option (Nat × Nat)
  Fz : Nat → Prop
def bsz (w : World) (b : Nat) : Option Nat :=
  match w.heap[b]? with
  | some (.cells c _ _) => some c.size
  | _ => none
mutual
def zah (w : World) (g : Gh) : AV → Value → Prop
  | .junk, _ => True
  | .bool b, v => v = .bool b
  | .int k n, v => v = .int k n
  | .flt x, v => ∃ b, v = .float .f64 b ∧ b < 2 ^ 64 ∧ cn b = x
  | .fraw b, v => v = .float .f64 b ∧ b < 2 ^ 64
  | .str s, v => v = .string s
  | .slnil, v => v = .slice none 0 0
  | .sl tag len cells, v =>
    ∃ cap, len ≤ cap ∧ ((cells = [] ∧ len = 0 ∧ tag = none ∧ ∃ ao, v = .slice ao len cap) ∨
      ∃ b o, v = .slice (some ⟨b, o, none⟩) len cap ∧ (tag = none ∨ tag = some (b, o)) ∧ g.Fz b ∧ zcn w g cells b o)
  | .slm id gen off len sz, v =>
    ∃ b δ cap n, g.ρ id gen = some (b, δ) ∧ v = .slice (some ⟨b, δ + off, none⟩) len cap ∧ len ≤ cap ∧ off + len * sz ≤ gen ∧
      bsz w b = some n ∧ δ + off + cap * sz ≤ n
  | .eptr s off, v => ∃ b o, v = .pointer (some ⟨b, o + off, none⟩) ∧ za8 w g s b o
  | .agg cells, v => ∃ vs : Array Value, v = .agg vs ∧ (∀ x ∈ vs.toList, x.oneCell' = true) ∧ za7 w g cells vs.toList
  | .tup cells, v => ∃ vs : Array Value, v = .tuple vs ∧ za7 w g cells vs.toList
  | .func f first caps, v => ∃ fs cs : Array Value, v = .func (.func f) fs cs ∧ za7 w g first fs.toList ∧ za7 w g caps cs.toList
  | .raw v', v => v = v'
def za8 (w : World) (g : Gh) : AV → Nat → Nat → Prop
  | .sl tag _ cells, b, o => (tag = none ∨ tag = some (b, o)) ∧ g.Fz b ∧ zcn w g cells b o
  | .slm id gen off _ _, b, o => ∃ δ, g.ρ id gen = some (b, δ) ∧ o = δ + off
  | _, _, _ => False
def zcn (w : World) (g : Gh) : List AV → Nat → Nat → Prop
  | [], _, _ => True
  | c :: cs, b, o => (∃ v, w.cell? ⟨b, o, none⟩ = some v ∧ v.oneCell' = true ∧ zah w g c v) ∧ zcn w g cs b (o + 1)
def za7 (w : World) (g : Gh) : List AV → List Value → Prop
  | [], vs => vs = []
  | c :: cs, vs => ∃ v rest, vs = v :: rest ∧ zah w g c v ∧ za7 w g cs rest
end
mutual
def mx : AV → Nat
  | .sl _ _ cells => mxL cells
  | .slm id _ _ _ _ => id + 1
  | .eptr s _ => mx s
  | .agg cells => mxL cells
  | .tup cells => mxL cells
  | .func _ first caps => max (mxL first) (mxL caps)
  | _ => 0
def mxL : List AV → Nat
  | [] => 0
  | c :: cs => max (mx c) (mxL cs)
end
structure ExtN (n : Nat) (w : World) (g : Gh) (w' : World) (g' : Gh) : Prop where
  fz : ∀ b, g.Fz b → g'.Fz b
  fzw : ∀ b, g.Fz b → w'.heap[b]? = w.heap[b]?
  rho : ∀ id gen p, id < n → g.ρ id gen = some p → g'.ρ id gen = some p
  bsz : ∀ b n, bsz w b = some n → bsz w' b = some n
structure Ext (w : World) (g : Gh) (w' : World) (g' : Gh) : Prop where
  fz : ∀ b, g.Fz b → g'.Fz b
  fzw : ∀ b, g.Fz b → w'.heap[b]? = w.heap[b]?
  rho : ∀ id gen p, g.ρ id gen = some p → g'.ρ id gen = some p
  bsz : ∀ b n, bsz w b = some n → bsz w' b = some n
theorem Ext.n {w w' : World} {g g' : Gh} (h : Ext w g w' g') (n : Nat) : ExtN n w g w' g' :=
  ⟨h.fz, h.fzw, fun id gen p _ => h.rho id gen p, h.bsz⟩
theorem Ext.refl (w : World) (g : Gh) : Ext w g w g := ⟨fun _ h => h, fun _ _ => rfl, fun _ _ _ h => h, fun _ _ h => h⟩
theorem Ext.trans {w₁ w₂ w₃ : World} {g₁ g₂ g₃ : Gh} (h : Ext w₁ g₁ w₂ g₂) (k : Ext w₂ g₂ w₃ g₃) : Ext w₁ g₁ w₃ g₃ :=
  ⟨fun b hb => k.fz b (h.fz b hb), fun b hb => (k.fzw b (h.fz b hb)).trans (h.fzw b hb), fun i e p hp => k.rho i e p (h.rho i e p hp), fun b n hb => k.bsz b n (h.bsz b n hb)⟩
theorem zm7 {w w' : World} {b o : Nat} (h : w'.heap[b]? = w.heap[b]?) : w'.cell? ⟨b, o, none⟩ = w.cell? ⟨b, o, none⟩ := by
  simp only [World.cell?, h]
mutual
theorem zah.extN {n : Nat} {w w' : World} {g g' : Gh} (h : ExtN n w g w' g') : ∀ (a : AV) (v : Value), mx a ≤ n → zah w g a v → zah w' g' a v
  | .junk, _, _, _ => by simp [zah]
  | .bool b, v, _, hv => by simpa [zah] using hv
  | .int k n, v, _, hv => by simpa [zah] using hv
  | .flt x, v, _, hv => by simpa [zah] using hv
  | .fraw b, v, _, hv => by simpa [zah] using hv
  | .str s, v, _, hv => by simpa [zah] using hv
  | .slnil, v, _, hv => by simpa [zah] using hv
  | .raw _, v, _, hv => by simpa [zah] using hv
  | .sl tag len cells, v, hm, hv => by
    simp only [zah] at hv ⊢
    obtain ⟨cap, hc, h1 | ⟨b, o, h1, h2, h3, h4⟩⟩ := hv
    · exact ⟨cap, hc, .inl h1⟩
    · exact ⟨cap, hc, .inr ⟨b, o, h1, h2, h.fz b h3, zcn.extN h cells b o (by simpa [mx] using hm) (h.fzw b h3) h4⟩⟩
  | .slm id gen off len sz, v, hm, hv => by
    simp only [zah] at hv ⊢
    obtain ⟨b, δ, cap, m, h1, h2, h3, h4, h5, h6⟩ := hv
    exact ⟨b, δ, cap, m, h.rho id gen _ (by simp [mx] at hm; omega) h1, h2, h3, h4, h.bsz b m h5, h6⟩
  | .eptr s off, v, hm, hv => by
    simp only [zah] at hv ⊢
    obtain ⟨b, o, h1, h2⟩ := hv
    exact ⟨b, o, h1, za8.extN h s b o (by simpa [mx] using hm) h2⟩
  | .agg cells, v, hm, hv => by
    simp only [zah] at hv ⊢
    obtain ⟨vs, h1, h3, h2⟩ := hv
    exact ⟨vs, h1, h3, za7.extN h cells _ (by simpa [mx] using hm) h2⟩
  | .tup cells, v, hm, hv => by
    simp only [zah] at hv ⊢
    obtain ⟨vs, h1, h2⟩ := hv
    exact ⟨vs, h1, za7.extN h cells _ (by simpa [mx] using hm) h2⟩
  | .func f first caps, v, hm, hv => by
    simp only [zah] at hv ⊢
    simp only [mx] at hm
    obtain ⟨fs, cs, h1, h2, h3⟩ := hv
    exact ⟨fs, cs, h1, za7.extN h first _ (by omega) h2, za7.extN h caps _ (by omega) h3⟩
theorem za8.extN {n : Nat} {w w' : World} {g g' : Gh} (h : ExtN n w g w' g') : ∀ (a : AV) (b o : Nat), mx a ≤ n → za8 w g a b o → za8 w' g' a b o
  | .sl tag len cells, b, o, hm, hv => by
    simp only [za8] at hv ⊢
    exact ⟨hv.1, h.fz b hv.2.1, zcn.extN h cells b o (by simpa [mx] using hm) (h.fzw b hv.2.1) hv.2.2⟩
  | .slm id gen off len sz, b, o, hm, hv => by
    simp only [za8] at hv ⊢
    obtain ⟨δ, h1, h2⟩ := hv
    exact ⟨δ, h.rho id gen _ (by simp [mx] at hm; omega) h1, h2⟩
  | .junk, _, _, _, hv => by simp [za8] at hv
  | .bool _, _, _, _, hv => by simp [za8] at hv
  | .int _ _, _, _, _, hv => by simp [za8] at hv
  | .flt _, _, _, _, hv => by simp [za8] at hv
  | .fraw _, _, _, _, hv => by simp [za8] at hv
  | .str _, _, _, _, hv => by simp [za8] at hv
  | .slnil, _, _, _, hv => by simp [za8] at hv
  | .raw _, _, _, _, hv => by simp [za8] at hv
  | .eptr _ _, _, _, _, hv => by simp [za8] at hv
  | .agg _, _, _, _, hv => by simp [za8] at hv
  | .tup _, _, _, _, hv => by simp [za8] at hv
  | .func _ _ _, _, _, _, hv => by simp [za8] at hv
theorem zcn.extN {n : Nat} {w w' : World} {g g' : Gh} (h : ExtN n w g w' g') : ∀ (cs : List AV) (b o : Nat), mxL cs ≤ n → w'.heap[b]? = w.heap[b]? → zcn w g cs b o → zcn w' g' cs b o
  | [], _, _, _, _, _ => by simp [zcn]
  | c :: cs, b, o, hm, hb, hv => by
    simp only [mxL] at hm
    simp only [zcn] at hv ⊢
    obtain ⟨⟨v, h1, h2, h3⟩, h4⟩ := hv
    exact ⟨⟨v, (zm7 hb).trans h1, h2, zah.extN h c v (by omega) h3⟩, zcn.extN h cs b (o + 1) (by omega) hb h4⟩
theorem za7.extN {n : Nat} {w w' : World} {g g' : Gh} (h : ExtN n w g w' g') : ∀ (cs : List AV) (vs : List Value), mxL cs ≤ n → za7 w g cs vs → za7 w' g' cs vs
  | [], vs, _, hv => by simpa [za7] using hv
  | c :: cs, vs, hm, hv => by
    simp only [mxL] at hm
    simp only [za7] at hv ⊢
    obtain ⟨v, rest, h1, h2, h3⟩ := hv
    exact ⟨v, rest, h1, zah.extN h c v (by omega) h2, za7.extN h cs rest (by omega) h3⟩
end
theorem zah.ext {w w' : World} {g g' : Gh} (h : Ext w g w' g') {a : AV} {v : Value} (hv : zah w g a v) : zah w' g' a v := zah.extN (h.n _) a v (Nat.le_refl _) hv
theorem za8.ext {w w' : World} {g g' : Gh} (h : Ext w g w' g') {a : AV} {b o : Nat} (hv : za8 w g a b o) : za8 w' g' a b o := za8.extN (h.n _) a b o (Nat.le_refl _) hv
theorem zcn.ext {w w' : World} {g g' : Gh} (h : Ext w g w' g') {cs : List AV} {b o : Nat} (hb : w'.heap[b]? = w.heap[b]?) (hv : zcn w g cs b o) : zcn w' g' cs b o :=
  zcn.extN (h.n _) cs b o (Nat.le_refl _) hb hv
theorem za7.ext {w w' : World} {g g' : Gh} (h : Ext w g w' g') {cs : List AV} {vs : List Value} (hv : za7 w g cs vs) : za7 w' g' cs vs :=
  za7.extN (h.n _) cs vs (Nat.le_refl _) hv
end Go.Sx
set_option linter.unusedVariables false
namespace Go.Sx
inductive EV where
  | val (v : AV)
  | loc (key off : Nat)
structure St where
  env : List (Nat × EV)
  L : List (Nat × List AV)
  H : List (List AV)
structure Cfg where
  esc : Bool
  n0 : Nat
  fz : List Nat := []
def lk {α : Type} : List (Nat × α) → Nat → Option α
  | [], _ => none
  | (k, v) :: r, t => if k = t then some v else lk r t
def zb5 : Value → AV
  | .bool b => .bool b
  | .int k n => .int k n
  | .float .f64 b => if b < 2 ^ 64 then .flt (cn b) else .junk
  | .string s => .str s
  | .slice none 0 0 => .slnil
  | .pointer a => .raw (.pointer a)
  | .nilFunc => .raw .nilFunc
  | .nilIface => .raw .nilIface
  | _ => .junk
def aOf : Value → AV
  | .agg cs => if cs.toList.all (·.oneCell') then .agg (cs.toList.map zb5) else .junk
  | v => zb5 v
def St.ev (st : St) : Operand → EV
  | .tmp t => (lk st.env t).getD (.val .junk)
  | .const v => .val (aOf v)
  | .func f => .val (.func f [] [])
  | .global _ => .val .junk
def St.put (st : St) (dst : Option Tmp) (v : EV) : St :=
  match dst with
  | some d => { st with env := (d, v) :: st.env }
  | none => st
def EV.asV : EV → Option AV
  | .val v => some v
  | .loc _ _ => none
def EV.asB : EV → Option Bool
  | .val (.bool b) => some b
  | _ => none
def EV.isU : EV → Bool
  | .val (.tup []) => true
  | _ => false
def EV.asI : EV → Option (IntKind × Int)
  | .val (.int k n) => some (k, n)
  | _ => none
def AV.asF : AV → Option Nat
  | .flt x => some x
  | .fraw b => some (cn b)
  | _ => none
def AV.cells : AV → Option (List AV)
  | .agg cs => some cs
  | .junk => none
  | .tup _ => none
  | .raw v => if v.oneCell' then some [.raw v] else none
  | v => some [v]
def gc (cs : List AV) (off : Nat) : Nat → Option (List AV)
  | 0 => some []
  | n + 1 => (cs[off]?).bind fun c => (gc cs (off + 1) n).map (c :: ·)
def sc (cs : List AV) (off : Nat) : List AV → List AV
  | [] => cs
  | v :: vs => sc (cs.set off v) (off + 1) vs
def slen : AV → Option Nat
  | .slnil => some 0
  | .sl _ len _ => some len
  | .slm _ _ _ len _ => some len
  | _ => none
def zb4 (H : List (List AV)) : AV → Nat → Nat → Option (List AV)
  | .sl _ _ cells, off, n => gc cells off n
  | .slm id gen o _ _, off, n => (H[id]?).bind fun cs => if cs.length = gen then gc cs (o + off) n else none
  | _, _, _ => none
def tsz (P : Program) (t : TypeId) : Option Nat := (P.info? t).map (·.size)
def zj3 (P : Program) (t : TypeId) : Option Bool := (P.underlying t).map (·.isRow)
def zd5 (P : Program) (t : TypeId) : Option TypeId :=
  match P.underlying t with
  | some (.slice e) => some e
  | _ => none
def zue (P : Program) (t : TypeId) : Option (Nat × TypeId) :=
  match P.underlying t with
  | some (.array n e) => some (n, e)
  | _ => none
def zg6 (P : Program) (t : TypeId) : Option AV := ((P.info? t).bind (·.zero)).map aOf
def ldv (P : Program) (t : TypeId) (cells : List AV) : Option AV :=
  match zj3 P t, cells with
  | some true, cs => some (.agg cs)
  | some false, [c] => some c
  | _, _ => none
def fop (f : Nat → Nat → Option Nat) (x y : Nat) : Nat :=
  match f x y with
  | some r => cn r
  | none => qn
def zpb := fop Ieee.double.add
def zyg := fop Ieee.double.sub
def zjc := fop Ieee.double.mul
def fdiv := fop Ieee.double.div
def feq (x y : Nat) : Bool := Ieee.double.order x y == some .eq
def flt (x y : Nat) : Bool := Ieee.double.order x y == some .lt
def zxt (x : Nat) : Nat := cn (Op.negFloat .f64 x)
def zg8 (op : BinOp) (k : IntKind) (x y : Int) : Int :=
  let a := BitVec.ofInt k.bits x
  let b := BitVec.ofInt k.bits y
  match op with
  | .and => k.wrap (a &&& b).toNat
  | .or => k.wrap (a ||| b).toNat
  | .xor => k.wrap (a ^^^ b).toNat
  | _ => k.wrap (a &&& ~~~b).toNat
def zxi (op : BinOp) (k : IntKind) (x y : Int) : Option (Prop × AV) :=
  match op with
  | .add => some (True, .int k (k.wrap (x + y)))
  | .sub => some (True, .int k (k.wrap (x - y)))
  | .mul => some (True, .int k (k.wrap (x * y)))
  | .quo => some (y ≠ 0, .int k (k.wrap (x.tdiv y)))
  | .rem => some (y ≠ 0, .int k (x.tmod y))
  | .and => some (True, .int k (zg8 .and k x y))
  | .or => some (True, .int k (zg8 .or k x y))
  | .xor => some (True, .int k (zg8 .xor k x y))
  | .andNot => some (True, .int k (zg8 .andNot k x y))
  | .eql => some (True, .bool (x == y))
  | .neq => some (True, .bool (x != y))
  | .lss => some (True, .bool (decide (x < y)))
  | .leq => some (True, .bool (decide (x ≤ y)))
  | .gtr => some (True, .bool (decide (x > y)))
  | .geq => some (True, .bool (decide (x ≥ y)))
  | _ => none
def shI (op : BinOp) (k : IntKind) (x y : Int) : Option (Prop × AV) :=
  match op with
  | .shl => some (0 ≤ y, .int k (k.wrap (x * 2 ^ (min y.toNat k.bits))))
  | .shr => some (0 ≤ y, .int k (x.fdiv (2 ^ (min y.toNat k.bits))))
  | _ => none
def zxh (op : BinOp) (x y : Nat) : Option (Prop × AV) :=
  match op with
  | .add => some (True, .flt (zpb x y))
  | .sub => some (True, .flt (zyg x y))
  | .mul => some (True, .flt (zjc x y))
  | .quo => some (True, .flt (fdiv x y))
  | .eql => some (True, .bool (feq x y))
  | .neq => some (True, .bool (!feq x y))
  | .lss => some (True, .bool (flt x y))
  | .leq => some (True, .bool (flt x y || feq x y))
  | .gtr => some (True, .bool (flt y x))
  | .geq => some (True, .bool (flt y x || feq x y))
  | _ => none
def znb (H : List (List AV)) (id gen : Nat) : Bool :=
  match H[id]? with
  | some cs => cs.length == gen
  | none => false
def ptrEq (H : List (List AV)) : AV → Nat → AV → Nat → Option Bool
  | .slm id g o _ _, a, .slm id' g' o' _ _, b => if znb H id g && znb H id' g' then (if id = id' then some (decide (o + a = o' + b)) else some false) else none
  | .sl (some (p, o)) _ _, a, .sl (some (q, o')) _ _, b => if p = q then some (decide (o + a = o' + b)) else none
  | .slm id g _ _ _, _, .sl _ _ (_ :: _), _ => if znb H id g then some false else none
  | .sl _ _ (_ :: _), _, .slm id g _ _ _, _ => if znb H id g then some false else none
  | _, _, _, _ => none
def zoi (P : Program) (t : TypeId) : Bool :=
  match P.underlying t with
  | some (.pointer e) => (tsz P e).any (0 < ·)
  | _ => false
def ztr (P : Program) (H : List (List AV)) (op : BinOp) (t : TypeId) (x y : EV) : Option AV :=
  match op, x, y with
  | .eql, .val (.eptr s a), .val (.eptr s' b) => if zoi P t then (ptrEq H s a s' b).map .bool else none
  | .neq, .val (.eptr s a), .val (.eptr s' b) => if zoi P t then (ptrEq H s a s' b).map fun r => .bool (!r) else none
  | _, _, _ => none
def zl9 (P : Program) (t : TypeId) : Bool :=
  match P.underlying t with
  | some (.pointer _) => true
  | _ => false
def zua (P : Program) (t : TypeId) : Bool :=
  match P.underlying t with
  | some (.slice _) => true
  | _ => false
def zmd (P : Program) (t : TypeId) : AV → AV → Option Bool
  | .eptr _ _, .raw (.pointer none) => if zl9 P t then some false else none
  | .raw (.pointer none), .eptr _ _ => if zl9 P t then some false else none
  | .raw (.pointer none), .raw (.pointer none) => if zl9 P t then some true else none
  | .slnil, .slnil => if zua P t then some true else none
  | .slm _ _ _ _ _, .slnil => if zua P t then some false else none
  | .sl _ _ (_ :: _), .slnil => if zua P t then some false else none
  | _, _ => none
def zyn (op : BinOp) (a b : ByteArray) : Option (Prop × AV) :=
  match op with
  | .add => some (a.size + b.size ≤ 9223372036854775807, .str (a ++ b))
  | .eql => some (True, .bool (a.toList == b.toList))
  | .neq => some (True, .bool (!(a.toList == b.toList)))
  | _ => none
def zpg (P : Program) (t : TypeId) (xs ys : List AV) : Option Bool :=
  match P.underlying t, xs, ys with
  | some (.array 2 e), [.int k a, .int k' b], [.int l c, .int l' d] =>
    match P.underlying e, tsz P e, P.eqGuardType P.depth t with
    | some (.int k0), some 1, false => if k = k0 ∧ k' = k0 ∧ l = k0 ∧ l' = k0 then some (a == c && b == d) else none
    | _, _, _ => none
  | _, _, _ => none
def zwc (P : Program) (op : BinOp) (t : TypeId) (x y : AV) : Option (Prop × AV) :=
  match x, y with
  | .str a, .str b => zyn op a b
  | .agg xs, .agg ys =>
    match op with
    | .eql => (zpg P t xs ys).map fun r => (True, .bool r)
    | .neq => (zpg P t xs ys).map fun r => (True, .bool (!r))
    | _ => none
  | x, y =>
    match op with
    | .eql => (zmd P t x y).map fun r => (True, .bool r)
    | .neq => (zmd P t x y).map fun r => (True, .bool (!r))
    | _ => none
def zmo (P : Program) (op : BinOp) (t : TypeId) (x y : EV) : Option (Prop × AV) :=
  match x, y with
  | .val (.int k a), .val (.int k' b) =>
    match op with
    | .shl | .shr => shI op k a b
    | _ => if k = k' then zxi op k a b else none
  | .val (.bool a), .val (.bool b) =>
    match P.underlying t, op with
    | some .bool, .eql => some (True, .bool (a == b))
    | some .bool, .neq => some (True, .bool (a != b))
    | _, _ => none
  | .val x, .val y =>
    match x.asF, y.asF with
    | some a, some b => zxh op a b
    | _, _ => zwc P op t x y
  | _, _ => none
def unV (op : UnOp) (x : EV) : Option (Prop × AV) :=
  match op, x with
  | .not, .val (.bool b) => some (True, .bool (!b))
  | .neg, .val (.int k n) => some (True, .int k (k.wrap (0 - n)))
  | .xor, .val (.int k n) => some (True, .int k (zg8 .xor k (if k.signed then -1 else k.max) n))
  | .neg, .val v => (v.asF).map fun x => (True, .flt (zxt x))
  | _, _ => none
def zsr (P : Program) (dst : TypeId) (x : EV) : Option (Prop × AV) :=
  match P.underlying dst, x with
  | some (.int k), .val (.int _ n) => some (True, .int k (k.wrap n))
  | some (.float .f64), .val (.int _ n) => some (True, .flt (cn (FloatKind.f64.nearest n)))
  | some (.float .f64), .val v => (v.asF).map fun x => (True, .flt x)
  | _, _ => none
def zfa (P : Program) (t : TypeId) (i : Nat) : Option (Nat × TypeId) :=
  match P.underlying t with
  | some (.struct fs) => (fs[i]?).map fun f => (f.offset, f.type)
  | _ => none
def zj2 (k : EV) : Option Int := match k with
  | .val (.int _ n) => some n
  | _ => none
def zct (place : Nat → Option (Nat × Nat)) (cells : List AV) : List (Nat × Option AV) → Option (List AV)
  | [] => some cells
  | (i, v) :: rest =>
    match place i, v.bind AV.cells with
    | some (off, size), some vs => if vs.length ≠ size ∨ off + vs.length > cells.length then none else zct place (sc cells off vs) rest
    | _, _ => none
def zh3 (P : Program) (fs : Array Field) (i : Nat) : Option (Nat × Nat) :=
  (fs[i]?).bind fun f => (tsz P f.type).map fun s => (f.offset, s)
def zgr (P : Program) (ρ : Operand → EV) (t : TypeId) (parts : Array (Nat × Operand)) : Option AV :=
  match zg6 P t, P.underlying t with
  | some z, some (.struct fs) =>
    if fs.all (fun f => (tsz P f.type).isSome) then
      (z.cells).bind fun zc => (zct (zh3 P fs) zc (parts.toList.map fun (i, x) => (i, (ρ x).asV))).map .agg
    else none
  | some z, some (.array _ e) => (tsz P e).bind fun s => (z.cells).bind fun zc => (zct (fun i => some (i * s, s)) zc (parts.toList.map fun (i, x) => (i, (ρ x).asV))).map .agg
  | _, _ => none
def ziu (ρ : Operand → EV) (d : Int) : Option Operand → Option Int
  | none => some d
  | some o => zj2 (ρ o)
def zr0 (z : Nat) (l h : Nat) : AV → Option AV
  | .slnil => some (.sl none 0 [])
  | .sl tag _ cells => if l < h then some (.sl (tag.map fun p => (p.1, p.2 + l * z)) (h - l) ((cells.drop (l * z)).take ((h - l) * z))) else some (.sl none 0 [])
  | .slm id gen off _ sz => if sz = z then (if l < h then some (.slm id gen (off + l * z) (h - l) z) else some (.sl none 0 [])) else none
  | _ => none
def zjx (P : Program) (t : TypeId) (x : EV) (lo : Option Int) (hi : Int → Option Int) : Option (Prop × AV) :=
  match x, lo with
  | .val (.str s), some l => (match P.underlying t with
    | some .string => (hi s.size).map fun h => (0 ≤ l ∧ l ≤ h ∧ h ≤ s.size, .str (s.extract l.toNat h.toNat))
    | _ => none)
  | .val v, some l => (zd5 P t).bind fun e => (tsz P e).bind fun z => (slen v).bind fun n => (hi n).bind fun h => (zr0 z l.toNat h.toNat v).map fun v' => (0 ≤ l ∧ l ≤ h ∧ h ≤ n, v')
  | _, _ => none
def zqx (s : ByteArray) (i : Nat) : Int := ((s[i]?).map fun b => (b.toNat : Int)).getD 0
def zrn (P : Program) (t : TypeId) (x : EV) (i : Option Int) : Option (Prop × AV) :=
  match P.underlying t, x, i with
  | some .string, .val (.str s), some n => some (0 ≤ n ∧ n < s.size, .int .u8 (zqx s n.toNat))
  | _, _, _ => none
def zak (P : Program) (ρ : Operand → EV) (lL : Nat → Option (List AV)) (H : List (List AV)) : Op → Option (Prop × EV)
  | .move x | .assign x => some (True, ρ x)
  | .pick c a b => ((ρ c).asB).map fun b0 => (True, if b0 then ρ a else ρ b)
  | .load t x =>
    match ρ x with
    | .loc key off => (lL key).bind fun cs => (tsz P t).bind fun n => (gc cs off n).bind fun l => (ldv P t l).map fun v => (True, .val v)
    | .val (.eptr s off) => (tsz P t).bind fun n => (zb4 H s off n).bind fun l => (ldv P t l).map fun v => (True, .val v)
    | _ => none
  | .nilCheck x =>
    match ρ x with
    | .loc key off => some (True, .loc key off)
    | .val (.eptr s off) => some (True, .val (.eptr s off))
    | .val (.func f a b) => some (True, .val (.func f a b))
    | _ => none
  | .binOp op t x y _ =>
    match zmo P op t (ρ x) (ρ y) with
    | some (c, v) => some (c, .val v)
    | none => (ztr P H op t (ρ x) (ρ y)).map fun v => (True, .val v)
  | .unOp op _ x => (unV op (ρ x)).map fun (c, v) => (c, .val v)
  | .convert src dst x => if (P.underlying src).isSome then (zsr P dst (ρ x)).map fun (c, v) => (c, .val v) else none
  | .fieldAddr t x i => (zfa P t i).bind fun (o, ft) =>
      if (tsz P ft).any (0 < ·) then
        match ρ x with
        | .loc key off => some (True, .loc key (off + o))
        | .val (.eptr s off) => some (True, .val (.eptr s (off + o)))
        | _ => none
      else none
  | .field t x i => (zfa P t i).bind fun (o, ft) =>
      match ρ x with
      | .val (.agg cs) => (tsz P ft).bind fun n => (gc cs o n).bind fun l => (ldv P ft l).map fun v => (True, .val v)
      | _ => none
  | .indexAddr t x i =>
    match zd5 P t, ρ x, zj2 (ρ i) with
    | some e, .val s, some n =>
      (slen s).bind fun len => (tsz P e).map fun z => (0 ≤ n ∧ n < (len : Int), .val (.eptr s (n.toNat * z)))
    | none, _, some n => (zue P t).bind fun (len, e) => (tsz P e).bind fun z =>
      match ρ x with
      | .loc key off => some (0 ≤ n ∧ n < (len : Int), .loc key (off + n.toNat * z))
      | .val (.eptr s off) => some (0 ≤ n ∧ n < (len : Int), .val (.eptr s (off + n.toNat * z)))
      | _ => none
    | _, _, _ => none
  | .extract x i =>
    match ρ x with
    | .val (.tup vs) => (vs[i]?).map fun v => (True, .val v)
    | _ => none
  | .slice t x lo hi none => (zjx P t (ρ x) (ziu ρ 0 lo) (fun n => ziu ρ n hi)).map fun (c, v) => (c, .val v)
  | .index t x i => (zrn P t (ρ x) (zj2 (ρ i))).map fun (c, v) => (c, .val v)
  | .build t parts => (zgr P ρ t parts).map fun v => (True, .val v)
  | .makeFunc (.func f) first caps =>
      match (first.toList.map fun x => (ρ x).asV).mapM id, (caps.toList.map fun x => (ρ x).asV).mapM id with
      | some a, some b => some (True, .val (.func f a b))
      | _, _ => none
  | .call { callee := .builtin .len, args := args, argTypes := ts } =>
      match args.toList, (ts[0]?).bind P.underlying with
      | [x], some (.slice _) => ((ρ x).asV.bind slen).map fun (n : Nat) => (True, .val (.int .i64 (n : Int)))
      | [x], some .string => match ρ x with
        | .val (.str s) => some (True, .val (.int .i64 s.size))
        | _ => none
      | _, _ => none
  | .call { callee := .builtin .min, args := args, .. } =>
      match args.toList.map (fun x => (ρ x).asI) with
      | [some (k, a), some (k', b)] => if k = k' then some (True, .val (.int k (min a b))) else none
      | [some (k, a), some (k', b), some (k'', c)] => if k = k' ∧ k = k'' then some (True, .val (.int k (min (min a b) c))) else none
      | _ => none
  | .call { callee := .builtin .max, args := args, .. } =>
      match args.toList.map (fun x => (ρ x).asI) with
      | [some (k, a), some (k', b)] => if k = k' then some (True, .val (.int k (max a b))) else none
      | [some (k, a), some (k', b), some (k'', c)] => if k = k' ∧ k = k'' then some (True, .val (.int k (max (max a b) c))) else none
      | _ => none
  | _ => none
structure WRep (w : World) (g : Gh) (H : List (List AV)) : Prop where
  blk : ∀ id cs, H[id]? = some cs → ∃ b δ c e, g.ρ id cs.length = some (b, δ) ∧ w.heap[b]? = some (.cells c e (0, 0)) ∧ δ + cs.length ≤ c.size ∧
    zcn w g cs b δ ∧ ¬ g.Fz b ∧ mxL cs ≤ H.length
  inj : ∀ id id' cs cs' b δ δ', H[id]? = some cs → H[id']? = some cs' → g.ρ id cs.length = some (b, δ) → g.ρ id' cs'.length = some (b, δ') → id = id'
  fzlt : ∀ b, g.Fz b → b < w.heap.size
  rholt : ∀ id gen b δ, g.ρ id gen = some (b, δ) → b < w.heap.size
  rhoid : ∀ id gen p, g.ρ id gen = some p → ∃ cs, H[id]? = some cs ∧ gen ≤ cs.length
def HB (g : Gh) (H : List (List AV)) (b : Nat) : Prop := ∃ id cs δ, H[id]? = some cs ∧ g.ρ id cs.length = some (b, δ)
structure Since (w₀ : World) (g₀ : Gh) (H₀ : List (List AV)) (w : World) (g : Gh) (H : List (List AV)) : Prop where
  sz : w₀.heap.size ≤ w.heap.size
  keep : ∀ b, b < w₀.heap.size → ¬ HB g₀ H₀ b → w.heap[b]? = w₀.heap[b]?
  bszk : ∀ b n, bsz w₀ b = some n → bsz w b = some n
  fro : ∀ a : Addr, a.block < w₀.heap.size → w.frozen? a = w₀.frozen? a
  fz : ∀ b, g₀.Fz b → g.Fz b
  fznew : ∀ b, g.Fz b → b < w₀.heap.size → g₀.Fz b
  rho : ∀ id gen p, g₀.ρ id gen = some p → g.ρ id gen = some p
  hbi : ∀ id cs b δ, b < w₀.heap.size → H[id]? = some cs → g.ρ id cs.length = some (b, δ) → ∃ cs₀, H₀[id]? = some cs₀ ∧ g₀.ρ id cs₀.length = some (b, δ)
  len : H₀.length ≤ H.length
  same : w.os = w₀.os ∧ w.output = w₀.output ∧ w.tape = w₀.tape
theorem Since.hb {w₀ : World} {g₀ : Gh} {H₀ : List (List AV)} {w : World} {g : Gh} {H : List (List AV)} (h : Since w₀ g₀ H₀ w g H) : ∀ b, b < w₀.heap.size → HB g H b → HB g₀ H₀ b := by
  rintro b hb ⟨id, cs, δ, h1, h2⟩
  obtain ⟨cs₀, h3, h4⟩ := h.hbi id cs b δ hb h1 h2
  exact ⟨id, cs₀, δ, h3, h4⟩
def Spec (P : Program) (f : Nat) (args : List AV) (H : List (List AV)) (r : AV) (H' : List (List AV)) : Prop :=
  ∀ (w : World) (g : Gh) (cargs : Array Value), WRep w g H → za7 w g args cargs.toList →
    Calls P f cargs w fun e w' => ∃ v g', e = .returned v ∧ WRep w' g' H' ∧ Since w g H w' g' H' ∧ zah w' g' r v
def Enters (P : Program) (f : Nat) : Prop := ∀ (args : Array Value) (w : World), (callFunc f args).run P w = .ok (.enter f args) w
def zab (P : Program) (f : Nat) (args : List AV) (H : List (List AV)) (r : AV) (H' : List (List AV)) : Prop :=
  (Enters P f ∧ Spec P f args H r H') ∨
  (H' = H ∧ ∀ (w : World) (g : Gh) (cargs : Array Value), za7 w g args cargs.toList → ∃ v, (callFunc f cargs).run P w = .ok (.value v) w ∧ zah w g r v)
def zb7 (n : Nat) (H H' : List (List AV)) : Prop := ∀ (id : Nat) cs, id < n → H'[id]? = some cs → H[id]? = some cs ∨ mxL cs ≤ n
@[simp] theorem zb7.refl (n : Nat) (H : List (List AV)) : zb7 n H H := fun _ _ _ h => .inl h
def zf3 (key : Nat) : List (Nat × EV) → Bool
  | [] => true
  | (_, .val _) :: r => zf3 key r
  | (_, .loc k _) :: r => if k = key then false else zf3 key r
def zco (ρ : Operand → EV) (key : Nat) : Prop := ∀ t off, ρ (.tmp t) ≠ .loc key off
def ziw (n : Nat) (zc : List AV) : List AV :=
  match zc with
  | [z] => List.replicate n z
  | _ => (List.replicate n zc).flatten
structure Eff where
  v : Option EV
  l : Option (Nat × List AV)
  H : List (List AV)
def St.app (st : St) (dst : Option Tmp) (e : Eff) : St :=
  { env := match dst, e.v with
      | some d, some v => (d, v) :: st.env
      | some d, none => (d, .val .junk) :: st.env
      | none, _ => st.env
    L := match e.l with
      | some x => x :: st.L
      | none => st.L
    H := e.H }
def newX (cfg : Cfg) (NL : Nat → Prop) (H : List (List AV)) (dst : Option Tmp) (cs : List AV) (K : Eff → Prop) : Prop :=
  match dst with
  | none => False
  | some d =>
    if cfg.esc then K ⟨some (.val (.eptr (.slm H.length cs.length 0 1 cs.length) 0)), none, H ++ [cs]⟩
    else NL d ∧ K ⟨some (.loc d 0), some (d, cs), H⟩
def zef (cfg : Cfg) (lL : Nat → Option (List AV)) (H : List (List AV)) (x : EV) (vs : List AV) (K : Eff → Prop) : Prop :=
  match x with
  | .loc key off =>
    match lL key with
    | some cs => off + vs.length ≤ cs.length ∧ K ⟨none, some (key, sc cs off vs), H⟩
    | none => False
  | .val (.eptr (.slm id gen o _ _) off) =>
    match H[id]? with
    | some cs => cs.length = gen ∧ o + off + vs.length ≤ cs.length ∧ (cfg.n0 ≤ id ∨ mxL vs ≤ cfg.n0) ∧ K ⟨none, none, H.set id (sc cs (o + off) vs)⟩
    | none => False
  | _ => False
def zj5 (H : List (List AV)) (sz : Nat) (x : AV) : Option (Nat × List AV) :=
  match x with
  | .slnil => some (0, [])
  | x => (slen x).bind fun n => (zb4 H x 0 (n * sz)).map fun xs => (n, xs)
def zmu (cfg : Cfg) (sz : Nat) (H : List (List AV)) (s : AV) (n : Nat) (xs : List AV) (K : Eff → Prop) : Prop :=
  match s with
  | .slnil => n ≤ 2 ^ 32 ∧ (n = 0 → K ⟨some (.val .slnil), none, H⟩) ∧
      (n ≠ 0 → K ⟨some (.val (.slm H.length xs.length 0 n sz)), none, H ++ [xs]⟩)
  | .slm id gen o len z =>
    match H[id]? with
    | some cs => z = sz ∧ cs.length = gen ∧ o = 0 ∧ len * sz = gen ∧ len + n ≤ 2 ^ 32 ∧ (cfg.n0 ≤ id ∨ mxL xs ≤ cfg.n0) ∧
        K ⟨some (.val (.slm id (cs.length + xs.length) 0 (len + n) sz)), none, H.set id (cs ++ xs)⟩
    | none => False
  | _ => False
def zpa (cfg : Cfg) (sz : Nat) (H : List (List AV)) (d : AV) (n : Nat) (xs : List AV) (K : Eff → Prop) : Prop :=
  match d with
  | .slm id gen o len z =>
    match H[id]? with
    | some cs => z = sz ∧ cs.length = gen ∧ (cfg.n0 ≤ id ∨ mxL xs ≤ cfg.n0) ∧ o + len * sz ≤ cs.length ∧
        K ⟨some (.val (.int .i64 (min n len : Nat))), none, H.set id (sc cs o (xs.take (min n len * sz)))⟩
    | none => False
  | _ => False
def zez (ρ : Operand → EV) (xs : List Operand) : Option (List AV) := (xs.map fun x => (ρ x).asV).mapM id
def zhc (P : Program) (t : TypeId) : Option (Nat × Nat × List AV) :=
  (zd5 P t).bind fun e => (P.info? e).bind fun i => (i.zero.map aOf).bind fun z => z.cells.map fun zc => (i.size, i.bytes, zc)
def opE (P : Program) (cfg : Cfg) (ρ : Operand → EV) (NL : Nat → Prop) (lL : Nat → Option (List AV)) (H : List (List AV)) (o : Oper) (K : Eff → Prop) : Prop :=
  match o.op with
  | .alloc t =>
    match (zg6 P t).bind AV.cells with
    | some cs => newX cfg NL H o.dst cs K
    | none => False
  | .box t x =>
    match ((ρ x).asV).bind AV.cells with
    | some cs => newX cfg NL H o.dst cs K
    | none => False
  | .store t x v =>
    match ((ρ v).asV).bind AV.cells with
    | some vs => tsz P t = some vs.length ∧ o.dst = none ∧ zef cfg lL H (ρ x) vs K
    | none => False
  | .buildSlice t len parts =>
    match zhc P t with
    | some (s, _, zc) =>
      match zct (fun i => some (i * s, s)) (ziw len zc) (parts.toList.map fun (i, x) => (i, (ρ x).asV)) with
      | some cs => zc.length = s ∧ 0 < s ∧ len * s ≤ 2 ^ 24 ∧
          if o.dst.any cfg.fz.contains then K ⟨some (.val (.sl none len cs)), none, H⟩ else K ⟨some (.val (.slm H.length cs.length 0 len s)), none, H ++ [cs]⟩
      | none => False
    | none => False
  | .makeSlice t l c =>
    match zhc P t, (ρ l).asI, (ρ c).asI with
    | some (s, by_, zc), some (_, n), some (_, m) =>
      n = m ∧ 0 ≤ n ∧ n ≤ 2 ^ 32 ∧ by_ ≤ 2 ^ 10 ∧ zc.length = s ∧ 0 < s ∧
        K ⟨some (.val (.slm H.length (ziw n.toNat zc).length 0 n.toNat s)), none, H ++ [ziw n.toNat zc]⟩
    | _, _, _ => False
  | .call { callee := .builtin .append, args := args, argTypes := ts } =>
    match args.toList.map (fun x => (ρ x).asV), ts.toList with
    | [some s, some x], [t, tx] =>
      match zhc P t, zd5 P tx with
      | some (sz, by_, zc), some _ =>
        match zj5 H sz x with
        | some (n, xs) => by_ ≤ 2 ^ 10 ∧ 0 < by_ ∧ zc.length = sz ∧ 0 < sz ∧ zmu cfg sz H s n xs K
        | none => False
      | _, _ => False
    | _, _ => False
  | .call { callee := .builtin .copy, args := args, argTypes := ts } =>
    match args.toList.map (fun x => (ρ x).asV), ts.toList with
    | [some d, some x], [t, tx] =>
      match (zd5 P t).bind (tsz P), zd5 P tx with
      | some sz, some _ =>
        match zj5 H sz x with
        | some (n, xs) => 0 < sz ∧ zpa cfg sz H d n xs K
        | none => False
      | _, _ => False
    | _, _ => False
  | .call { callee := .value f, args := args, .. } =>
    match ρ f, zez ρ args.toList with
    | .val (.func id first caps), some vs => ∃ r H', zab P id (first ++ vs ++ caps) H r H' ∧ zb7 cfg.n0 H H' ∧ K ⟨some (.val r), none, H'⟩
    | _, _ => False
  | op =>
    match zak P ρ lL H op with
    | some (c, v) => c ∧ K ⟨some v, none, H⟩
    | none => False
def opX (P : Program) (cfg : Cfg) (o : Oper) (K : St → Prop) (st : St) : Prop :=
  opE P cfg st.ev (fun d => zf3 d st.env = true ∨ zco st.ev d) (lk st.L) st.H o fun e => K (st.app o.dst e)
def upd (t : Nat) (v : EV) : List (Nat × EV) → List (Nat × EV)
  | [] => []
  | (k, x) :: r => if k = t then (k, v) :: r else (k, x) :: upd t v r
def zas (P : Program) (cfg : Cfg) (ops : Array Oper) : Option (Nat × Bool) → List Oper → (St → Prop) → St → Prop
  | _, [], Q, st => Q st
  | kn, o :: rest, Q, st =>
    match o.guard with
    | none => opX P cfg o (zas P cfg ops (if kn.any (fun p => ((ops[p.1]?).bind (·.dst)) == o.dst) then none else kn) rest Q) st
    | some (j, want) =>
      match (ops[j]?).bind (·.dst) with
      | none => False
      | some t =>
        if o.dst = some t then False else
        if kn = some (j, want) then opX P cfg o (zas P cfg ops kn rest Q) st else
        if kn = some (j, !want) then zas P cfg ops kn rest Q (st.put o.dst (.val (.tup []))) else
        match (st.ev (.tmp t)).asB with
        | none => if (st.ev (.tmp t)).isU then zas P cfg ops (if kn.any (fun p => ((ops[p.1]?).bind (·.dst)) == o.dst) then none else kn) rest Q (st.put o.dst (.val (.tup []))) else False
        | some b =>
          (b = want → opX P cfg o (zas P cfg ops (some (j, want)) rest Q) ⟨upd t (.val (.bool want)) st.env, st.L, st.H⟩) ∧
          (b = !want → zas P cfg ops (some (j, !want)) rest Q (St.put ⟨upd t (.val (.bool (!want))) st.env, st.L, st.H⟩ o.dst (.val (.tup []))))
inductive XE where
  | normal
  | exit (id : Nat)
  | ret
def prune (ks : List Nat) (st : St) : St :=
  ⟨ks.filterMap (fun k => (lk st.env k).map (k, ·)), ks.filterMap (fun k => (lk st.L k).map (k, ·)), st.H⟩
def ze2 (X : (XE → St → Prop) → St → Prop) (ks : List Nat) (Q : XE → St → Prop) : Nat → St → Prop
  | 0, _ => False
  | n + 1, st => X (fun e s => match e with | .normal => ze2 X ks Q n (prune ks s) | e => Q e s) st
theorem zdf {w : World} {g : Gh} : ∀ {cs : List AV} {b o : Nat}, zcn w g cs b o ↔ ∀ (i : Nat) c, cs[i]? = some c → ∃ v, w.cell? ⟨b, o + i, none⟩ = some v ∧ v.oneCell' = true ∧ zah w g c v
  | [], b, o => by simp [zcn]
  | c :: cs, b, o => by
    rw [zcn, zdf (cs := cs)]
    constructor
    · rintro ⟨h1, h2⟩ i d hi
      cases i with
      | zero => simp at hi; subst hi; simpa using h1
      | succ i => simp at hi; have := h2 i d hi; rwa [show o + 1 + i = o + (i + 1) from by omega] at this
    · intro h
      refine ⟨by simpa using h 0 c (by simp), fun i d hi => ?_⟩
      have := h (i + 1) d (by simpa using hi)
      rwa [show o + (i + 1) = o + 1 + i from by omega] at this
theorem zat {w : World} {g : Gh} : ∀ {cs : List AV} {vs : List Value}, za7 w g cs vs → vs.length = cs.length
  | [], vs, h => by simp [za7] at h; simp [h]
  | c :: cs, vs, h => by
    simp only [za7] at h
    obtain ⟨v, rest, rfl, _, h⟩ := h
    simp [zat h]
theorem zb6 {w : World} {g : Gh} : ∀ {cs : List AV} {vs : List Value}, za7 w g cs vs ↔ vs.length = cs.length ∧ ∀ (i : Nat) c v, cs[i]? = some c → vs[i]? = some v → zah w g c v
  | [], vs => by simp [za7]
  | c :: cs, vs => by
    rw [za7]
    constructor
    · rintro ⟨v, rest, rfl, h1, h2⟩
      rw [zb6] at h2
      refine ⟨by simp [h2.1], fun i d x hi hx => ?_⟩
      cases i with
      | zero => simp at hi hx; subst hi hx; exact h1
      | succ i => simp at hi hx; exact h2.2 i d x hi hx
    · rintro ⟨hl, h⟩
      cases vs with
      | nil => simp at hl
      | cons v rest =>
        refine ⟨v, rest, rfl, h 0 c v (by simp) (by simp), zb6.2 ⟨by simpa using hl, fun i d x hi hx => h (i + 1) d x (by simpa using hi) (by simpa using hx)⟩⟩
mutual
theorem zah.mx {w : World} {g : Gh} {n : Nat} (hn : ∀ id gen p, g.ρ id gen = some p → id < n) : ∀ (a : AV) (v : Value), zah w g a v → mx a ≤ n
  | .sl tag len cells, v, hv => by
    simp only [zah] at hv
    simp only [Sx.mx]
    obtain ⟨cap, hc, ⟨rfl, _⟩ | ⟨b, o, h1, h2, h3, h4⟩⟩ := hv
    · simp [mxL]
    · exact zcn.mx hn cells b o h4
  | .slm id gen off len sz, v, hv => by
    simp only [zah] at hv
    obtain ⟨b, δ, cap, m, h1, _⟩ := hv
    have := hn id gen _ h1
    simp only [Sx.mx]; omega
  | .eptr s off, v, hv => by
    simp only [zah] at hv
    obtain ⟨b, o, h1, h2⟩ := hv
    simpa [Sx.mx] using za8.mx hn s b o h2
  | .agg cells, v, hv => by
    simp only [zah] at hv
    obtain ⟨vs, h1, _, h2⟩ := hv
    simpa [Sx.mx] using za7.mx hn cells _ h2
  | .tup cells, v, hv => by
    simp only [zah] at hv
    obtain ⟨vs, h1, h2⟩ := hv
    simpa [Sx.mx] using za7.mx hn cells _ h2
  | .func f first caps, v, hv => by
    simp only [zah] at hv
    obtain ⟨fs, cs, h1, h2, h3⟩ := hv
    have a := za7.mx hn first _ h2
    have b := za7.mx hn caps _ h3
    simp only [Sx.mx]; omega
  | .junk, _, _ => by simp [Sx.mx]
  | .bool _, _, _ => by simp [Sx.mx]
  | .int _ _, _, _ => by simp [Sx.mx]
  | .flt _, _, _ => by simp [Sx.mx]
  | .fraw _, _, _ => by simp [Sx.mx]
  | .str _, _, _ => by simp [Sx.mx]
  | .slnil, _, _ => by simp [Sx.mx]
  | .raw _, _, _ => by simp [Sx.mx]
theorem za8.mx {w : World} {g : Gh} {n : Nat} (hn : ∀ id gen p, g.ρ id gen = some p → id < n) : ∀ (a : AV) (b o : Nat), za8 w g a b o → Sx.mx a ≤ n
  | .sl tag len cells, b, o, hv => by
    simp only [za8] at hv
    simpa [Sx.mx] using zcn.mx hn cells b o hv.2.2
  | .slm id gen off len sz, b, o, hv => by
    simp only [za8] at hv
    obtain ⟨δ, h1, _⟩ := hv
    have := hn id gen _ h1
    simp only [Sx.mx]; omega
  | .eptr _ _, _, _, hv => by simp [za8] at hv
  | .agg _, _, _, hv => by simp [za8] at hv
  | .tup _, _, _, hv => by simp [za8] at hv
  | .func _ _ _, _, _, hv => by simp [za8] at hv
  | .junk, _, _, _ => by simp [Sx.mx]
  | .bool _, _, _, _ => by simp [Sx.mx]
  | .int _ _, _, _, _ => by simp [Sx.mx]
  | .flt _, _, _, _ => by simp [Sx.mx]
  | .fraw _, _, _, _ => by simp [Sx.mx]
  | .str _, _, _, _ => by simp [Sx.mx]
  | .slnil, _, _, _ => by simp [Sx.mx]
  | .raw _, _, _, _ => by simp [Sx.mx]
theorem zcn.mx {w : World} {g : Gh} {n : Nat} (hn : ∀ id gen p, g.ρ id gen = some p → id < n) : ∀ (cs : List AV) (b o : Nat), zcn w g cs b o → mxL cs ≤ n
  | [], _, _, _ => by simp [mxL]
  | c :: cs, b, o, hv => by
    simp only [zcn] at hv
    obtain ⟨⟨v, h1, h2, h3⟩, h4⟩ := hv
    have a := zah.mx hn c v h3
    have b := zcn.mx hn cs b (o + 1) h4
    simp only [mxL]; omega
theorem za7.mx {w : World} {g : Gh} {n : Nat} (hn : ∀ id gen p, g.ρ id gen = some p → id < n) : ∀ (cs : List AV) (vs : List Value), za7 w g cs vs → mxL cs ≤ n
  | [], _, _ => by simp [mxL]
  | c :: cs, vs, hv => by
    simp only [za7] at hv
    obtain ⟨v, rest, h1, h2, h3⟩ := hv
    have a := zah.mx hn c v h2
    have b := za7.mx hn cs rest h3
    simp only [mxL]; omega
end
theorem WRep.ids {w : World} {g : Gh} {H : List (List AV)} (h : WRep w g H) : ∀ id gen p, g.ρ id gen = some p → id < H.length := by
  intro id gen p hp
  obtain ⟨cs, hc, _⟩ := h.rhoid id gen p hp
  exact (List.getElem?_eq_some_iff.1 hc).1
theorem zmb (a b : List AV) : mxL (a ++ b) = max (mxL a) (mxL b) := by
  induction a with
  | nil => simp [mxL]
  | cons c a ih => simp only [List.cons_append, mxL, ih]; omega
theorem zjk {cs : List AV} {n : Nat} : mxL cs ≤ n ↔ ∀ (i : Nat) c, cs[i]? = some c → mx c ≤ n := by
  induction cs with
  | nil => simp [mxL]
  | cons c cs ih =>
    simp only [mxL]
    constructor
    · intro h i d hi
      cases i with
      | zero => simp at hi; subst hi; omega
      | succ i => simp at hi; exact ih.1 (by omega) i d hi
    · intro h
      have h0 := h 0 c (by simp)
      have h1 := ih.2 fun i d hi => h (i + 1) d (by simpa using hi)
      omega
theorem zee (cs : List AV) (off : Nat) (vs : List AV) : (sc cs off vs).length = cs.length := by
  induction vs generalizing cs off with
  | nil => rfl
  | cons v vs ih => simp [sc, ih]
theorem zow (cs : List AV) (off : Nat) (vs : List AV) (i : Nat) (h : off + vs.length ≤ cs.length) :
    (sc cs off vs)[i]? = if off ≤ i ∧ i < off + vs.length then vs[i - off]? else cs[i]? := by
  induction vs generalizing cs off with
  | nil => simp [sc]; omega
  | cons v vs ih =>
    simp only [List.length_cons] at h
    rw [sc, ih _ _ (by simp; omega)]
    by_cases h1 : off + 1 ≤ i ∧ i < off + 1 + vs.length
    · rw [if_pos h1, if_pos (by simp; omega)]
      rw [show i - off = (i - (off + 1)) + 1 from by omega]; simp
    · rw [if_neg h1]
      by_cases h2 : i = off
      · subst h2; rw [if_pos (by simp)]; simp; rw [List.getElem?_set_self (by omega)]
      · rw [List.getElem?_set_ne (Ne.symm h2), if_neg (by simp; omega)]
theorem zv8 {cs : List AV} {off : Nat} {vs : List AV} {n : Nat} (h : off + vs.length ≤ cs.length) (hc : mxL cs ≤ n) (hv : mxL vs ≤ n) : mxL (sc cs off vs) ≤ n := by
  rw [zjk] at hc hv ⊢
  intro i c hi
  rw [zow _ _ _ _ h] at hi
  split at hi
  · exact hv _ _ hi
  · exact hc _ _ hi
theorem zdz {cs : List AV} {n : Nat} : ∀ {off : Nat} {l : List AV}, gc cs off n = some l → l.length = n ∧ ∀ i, i < n → l[i]? = cs[off + i]? := by
  induction n with
  | zero => intro off l h; simp [gc] at h; subst h; simp
  | succ n ih =>
    intro off l h
    simp only [gc, Option.bind_eq_some_iff, Option.map_eq_some_iff] at h
    obtain ⟨c, hc, r, hr, rfl⟩ := h
    obtain ⟨h1, h2⟩ := ih hr
    refine ⟨by simp [h1], fun i hi => ?_⟩
    cases i with
    | zero => simpa using hc.symm
    | succ i => simpa [show off + (i + 1) = off + 1 + i from by omega] using h2 i (by omega)
theorem zgj {w : World} {g : Gh} {cs : List AV} {b o off n : Nat} {l : List AV} (h : zcn w g cs b o) (hl : gc cs off n = some l) : zcn w g l b (o + off) := by
  rw [zdf] at h ⊢
  intro i c hi
  obtain ⟨h1, h2⟩ := zdz hl
  have hlt : i < n := by have := (List.getElem?_eq_some_iff.1 hi).1; omega
  rw [h2 i hlt] at hi
  have := h (off + i) c hi
  rwa [show o + (off + i) = o + off + i from by omega] at this
theorem zdp {w : World} {b : Nat} {c : Array Value} {e : TypeId} {fr : Nat × Nat} (h : w.heap[b]? = some (.cells c e fr)) : bsz w b = some c.size := by simp [bsz, h]
theorem Ext.heap {w w' : World} (g : Gh) (h : w'.heap = w.heap) : Ext w g w' g :=
  ⟨fun _ h => h, fun _ _ => by rw [h], fun _ _ _ h => h, fun b n hb => by unfold Sx.bsz at hb ⊢; rw [h]; exact hb⟩
theorem WRep.heap {w w' : World} {g : Gh} {H : List (List AV)} (hw : WRep w g H) (h : w'.heap = w.heap) : WRep w' g H where
  blk id cs hc := by
    obtain ⟨b, δ, c, e, h1, h2, h3, h4, h5⟩ := hw.blk id cs hc
    exact ⟨b, δ, c, e, h1, by rw [h]; exact h2, h3, zcn.ext (Ext.heap g h) (by rw [h]) h4, h5⟩
  inj := hw.inj
  fzlt b hb := by rw [h]; exact hw.fzlt b hb
  rholt := by rw [h]; exact hw.rholt
  rhoid := hw.rhoid
structure Sames (w w' : World) : Prop where
  os : w'.os = w.os
  output : w'.output = w.output
  tape : w'.tape = w.tape
theorem Since.step {w₀ w w' : World} {g₀ g g' : Gh} {H₀ H H' : List (List AV)} (h : Since w₀ g₀ H₀ w g H) (he : Ext w g w' g')
    (hsz : w.heap.size ≤ w'.heap.size) (hk : ∀ b, b < w.heap.size → ¬ HB g H b → w'.heap[b]? = w.heap[b]?)
    (hf : ∀ a : Addr, a.block < w.heap.size → w'.frozen? a = w.frozen? a)
    (hfz : ∀ b, g'.Fz b → b < w.heap.size → g.Fz b)
    (hhb : ∀ id cs b δ, b < w.heap.size → H'[id]? = some cs → g'.ρ id cs.length = some (b, δ) → ∃ cs₁, H[id]? = some cs₁ ∧ g.ρ id cs₁.length = some (b, δ)) (hl : H.length ≤ H'.length)
    (hs : Sames w w') : Since w₀ g₀ H₀ w' g' H' where
  sz := Nat.le_trans h.sz hsz
  keep b hb hn := by
    rw [hk b (Nat.lt_of_lt_of_le hb h.sz) (fun hc => hn (h.hb b hb hc)), h.keep b hb hn]
  bszk b n hn := he.bsz b n (h.bszk b n hn)
  fro a ha := by rw [hf a (Nat.lt_of_lt_of_le ha h.sz), h.fro a ha]
  fz b hb := he.fz b (h.fz b hb)
  fznew b hb hlt := h.fznew b (hfz b hb (Nat.lt_of_lt_of_le hlt h.sz)) hlt
  rho id gen p hp := he.rho id gen p (h.rho id gen p hp)
  hbi id cs b δ hb h1 h2 := by
    obtain ⟨cs₁, h3, h4⟩ := hhb id cs b δ (Nat.lt_of_lt_of_le hb h.sz) h1 h2
    exact h.hbi id cs₁ b δ hb h3 h4
  len := Nat.le_trans h.len hl
  same := ⟨hs.os.trans h.same.1, hs.output.trans h.same.2.1, hs.tape.trans h.same.2.2⟩
theorem Since.refl {w : World} {g : Gh} {H : List (List AV)} (h : WRep w g H) : Since w g H w g H where
  sz := Nat.le_refl _
  keep _ _ _ := rfl
  bszk _ _ h := h
  fro _ _ := rfl
  fz _ h := h
  fznew _ h _ := h
  rho _ _ _ h := h
  hbi _ cs _ _ _ h1 h2 := ⟨cs, h1, h2⟩
  len := Nat.le_refl _
  same := ⟨rfl, rfl, rfl⟩
structure LRp (n₀ : Nat) (w : World) (g : Gh) (H : List (List AV)) (lam : Nat → Nat) (lL : Nat → Option (List AV)) : Prop where
  box : ∀ key cs, lL key = some cs → ∃ c e, w.heap[lam key]? = some (.cells c e (0, 0)) ∧ cs.length ≤ c.size ∧ zcn w g cs (lam key) 0 ∧
    ¬ g.Fz (lam key) ∧ ¬ HB g H (lam key) ∧ n₀ ≤ lam key
  inj : ∀ key key', lL key ≠ none → lL key' ≠ none → lam key = lam key' → key = key'
def zcj (w : World) (g : Gh) (lam : Nat → Nat) : EV → Value → Prop
  | .val v, x => zah w g v x
  | .loc key off, x => x = .pointer (some ⟨lam key, off, none⟩)
theorem znt {e : EV} (h : e.isU = true) : e = .val (.tup []) := by
  unfold EV.isU at h; split at h
  · rfl
  · cases h
theorem zcj.ext {w w' : World} {g g' : Gh} {lam : Nat → Nat} (h : Ext w g w' g') : ∀ {e : EV} {x : Value}, zcj w g lam e x → zcj w' g' lam e x
  | .val _, _, hv => zah.ext h hv
  | .loc _ _, _, hv => hv
theorem LRp.step {n₀ : Nat} {w w' : World} {g g' : Gh} {H H' : List (List AV)} {lam : Nat → Nat} {lL : Nat → Option (List AV)} (h : LRp n₀ w g H lam lL) (he : Ext w g w' g')
    (hk : ∀ b, b < w.heap.size → ¬ HB g H b → w'.heap[b]? = w.heap[b]?) (hfz : ∀ b, g'.Fz b → b < w.heap.size → g.Fz b)
    (hhb : ∀ b, b < w.heap.size → HB g' H' b → HB g H b) : LRp n₀ w' g' H' lam lL where
  box key cs hc := by
    obtain ⟨c, e, h1, h2, h3, h4, h5, h6⟩ := h.box key cs hc
    have hlt : lam key < w.heap.size := (Array.getElem?_eq_some_iff.1 h1).1
    have hh := hk _ hlt h5
    exact ⟨c, e, hh.trans h1, h2, zcn.ext he hh h3, fun hf => h4 (hfz _ hf hlt), fun hb => h5 (hhb _ hlt hb), h6⟩
  inj := h.inj
structure Cx where
  P : Program
  cfg : Cfg
  w₀ : World
  g₀ : Gh
  H₀ : List (List AV)
  N : Nat
structure SRepG (C : Cx) (st : St) (a : Act) (w : World) (g : Gh) (lam : Nat → Nat) : Prop where
  wr : WRep w g st.H
  si : Since C.w₀ C.g₀ C.H₀ w g st.H
  lr : LRp C.w₀.heap.size w g st.H lam (lk st.L)
  env : ∀ t e, lk st.env t = some e → ∃ x, a.tmps[t]? = some x ∧ zcj w g lam e x
  defs : a.defers = []
  size : a.tmps.size = C.N
  n0 : C.cfg.n0 ≤ C.H₀.length
  om : ∀ id cs, id < C.cfg.n0 → st.H[id]? = some cs → mxL cs ≤ C.cfg.n0
def zf5 (C : Cx) (st : St) (a : Act) (w : World) : Prop := ∃ g lam, SRepG C st a w g lam
theorem zft (w : World) (o : Obj) : (w.alloc o).heap[w.heap.size]? = some o := by
  show (w.heap.push o)[w.heap.size]? = some o
  simp
theorem zcc (w : World) (o : Obj) {i : Nat} (h : i < w.heap.size) : (w.alloc o).heap[i]? = w.heap[i]? := by
  show (w.heap.push o)[i]? = w.heap[i]?
  rw [Array.getElem?_push, if_neg (Nat.ne_of_lt h)]
theorem zdo (w : World) (o : Obj) : (w.alloc o).heap.size = w.heap.size + 1 := by
  show (w.heap.push o).size = _
  simp
theorem zfw {w w' : World} {a : Addr} (h : w'.heap[a.block]? = w.heap[a.block]?) : w'.frozen? a = w.frozen? a := by
  simp only [World.frozen?, h]
theorem zhi {w : World} {b n : Nat} (h : bsz w b = some n) : b < w.heap.size := by
  unfold bsz at h
  rcases Nat.lt_or_ge b w.heap.size with hl | hl
  · exact hl
  · rw [Array.getElem?_eq_none hl] at h; simp at h
theorem zi5 {w w' : World} {b : Nat} (h : w'.heap[b]? = w.heap[b]?) : bsz w' b = bsz w b := by
  unfold bsz; rw [h]
theorem setRow_size (w : World) (b : Nat) (c : Array Value) : (w.setRow b c).heap.size = w.heap.size := by simp [World.setRow]
section
variable {C : Cx} {st : St} {a : Act} {w : World} {g : Gh} {lam : Nat → Nat}
theorem SRepG.still {w' : World} (h : SRepG C st a w g lam) (hh : w'.heap = w.heap) (hs : Sames w w') : SRepG C st a w' g lam where
  wr := h.wr.heap hh
  si := h.si.step (Ext.heap g hh) (by rw [hh]; exact Nat.le_refl _) (fun b _ _ => by rw [hh]) (fun a _ => zfw (by rw [hh])) (fun _ h _ => h) (fun _ cs _ _ _ h1 h2 => ⟨cs, h1, h2⟩) (Nat.le_refl _)
    hs
  lr := h.lr.step (Ext.heap g hh) (fun b _ _ => by rw [hh]) (fun _ h _ => h) (fun _ _ h => h)
  env t e he := by obtain ⟨x, h1, h2⟩ := h.env t e he; exact ⟨x, h1, h2.ext (Ext.heap g hh)⟩
  defs := h.defs
  size := h.size
  n0 := h.n0
  om := h.om
theorem SRepG.put (h : SRepG C st a w g lam) {d : Nat} (hd : d < C.N) {e : EV} {v : Value} (hv : zcj w g lam e v) :
    SRepG C { st with env := (d, e) :: st.env } (a.put (some d) v) w g lam where
  wr := h.wr
  si := h.si
  lr := h.lr
  env t e' he := by
    simp only [lk] at he
    by_cases ht : d = t
    · subst ht; simp at he; subst he
      exact ⟨v, by simp [Act.put, h.size, hd], hv⟩
    · simp only [if_neg ht] at he
      obtain ⟨x, h1, h2⟩ := h.env t e' he
      exact ⟨x, by simp [Act.put, ht, h1], h2⟩
  defs := h.defs
  size := by simp [Act.put, h.size]
  n0 := h.n0
  om := h.om
def newG (g : Gh) (id gen b : Nat) : Gh := { g with ρ := fun i n => if i = id ∧ n = gen then some (b, 0) else g.ρ i n }
def zhn (g : Gh) (id gen b δ : Nat) : Gh := { g with ρ := fun i n => if i = id ∧ n = gen then some (b, δ) else g.ρ i n }
theorem Ext.alloc {w : World} {g g' : Gh} {H : List (List AV)} (hw : WRep w g H) (o : Obj) (hf : g'.Fz = g.Fz) (hr : ∀ id gen p, g.ρ id gen = some p → g'.ρ id gen = some p) : Ext w g (w.alloc o) g' where
  fz b hb := by rw [hf]; exact hb
  fzw b hb := zcc w o (hw.fzlt b hb)
  rho := hr
  bsz b n hb := by rw [zi5 (zcc w o (zhi hb))]; exact hb
def zf6 (w : World) (g : Gh) (cs : List AV) (c : Array Value) (o : Nat) : Prop :=
  ∀ (i : Nat) cv, cs[i]? = some cv → ∃ v, c[o + i]? = some v ∧ v.oneCell' = true ∧ zah w g cv v
theorem zf6.crep {w w' : World} {g g' : Gh} {cs : List AV} {c : Array Value} {o b : Nat} {e : TypeId} {fr : Nat × Nat} (h : zf6 w g cs c o) (he : Ext w g w' g')
    (hb : w'.heap[b]? = some (.cells c e fr)) : zcn w' g' cs b o := by
  rw [zdf]
  intro i cv hi
  obtain ⟨v, h1, h2, h3⟩ := h i cv hi
  exact ⟨v, by simp [World.cell?, hb, h1], h2, h3.ext he⟩
theorem zf6.of_crep {w : World} {g : Gh} {cs : List AV} {c : Array Value} {o b : Nat} {e : TypeId} {fr : Nat × Nat} (h : zcn w g cs b o)
    (hb : w.heap[b]? = some (.cells c e fr)) : zf6 w g cs c o := by
  rw [zdf] at h
  intro i cv hi
  obtain ⟨v, h1, h2, h3⟩ := h i cv hi
  exact ⟨v, by simpa [World.cell?, hb] using h1, h2, h3⟩
theorem zf6.mx {w : World} {g : Gh} {H : List (List AV)} (hw : WRep w g H) {cs : List AV} {c : Array Value} {o : Nat} (h : zf6 w g cs c o) : mxL cs ≤ H.length := by
  rw [zjk]
  intro i cv hi
  obtain ⟨v, _, _, h3⟩ := h i cv hi
  exact zah.mx hw.ids cv v h3
theorem SRepG.newH (h : SRepG C st a w g lam) {cs : List AV} {c : Array Value} {e : TypeId} (hv : zf6 w g cs c 0) (hl : cs.length ≤ c.size) :
    SRepG C { st with H := st.H ++ [cs] } a (w.alloc (.cells c e)) (newG g st.H.length cs.length w.heap.size) lam ∧
    Ext w g (w.alloc (.cells c e)) (newG g st.H.length cs.length w.heap.size) := by
  have hw := h.wr
  have hno : ∀ gen p, g.ρ st.H.length gen ≠ some p := fun gen p hp => Nat.lt_irrefl _ (hw.ids _ _ _ hp)
  have hx : Ext w g (w.alloc (.cells c e)) (newG g st.H.length cs.length w.heap.size) := by
    refine Ext.alloc hw _ rfl fun id gen p hp => ?_
    simp only [newG]
    rw [if_neg]
    · exact hp
    · rintro ⟨rfl, _⟩; exact hno _ _ hp
  have hold : ∀ id cs', id < st.H.length → (st.H ++ [cs])[id]? = some cs' → st.H[id]? = some cs' := by
    intro id cs' hid hc; rwa [List.getElem?_append_left hid] at hc
  have hrn : ∀ id gen, id < st.H.length → (newG g st.H.length cs.length w.heap.size).ρ id gen = g.ρ id gen := by
    intro id gen hid; simp only [newG]; rw [if_neg (by omega)]
  have hmx := zf6.mx hw hv
  have hcase : ∀ id cs', (st.H ++ [cs])[id]? = some cs' → (id < st.H.length ∧ st.H[id]? = some cs') ∨ (id = st.H.length ∧ cs' = cs) := by
    intro id cs' hc
    rcases Nat.lt_or_ge id st.H.length with hlt | hge
    · exact .inl ⟨hlt, hold id cs' hlt hc⟩
    · have h1 := (List.getElem?_eq_some_iff.1 hc).1
      have : id = st.H.length := by simp at h1; omega
      subst this
      simp at hc
      exact .inr ⟨rfl, hc.symm⟩
  have hwr : WRep (w.alloc (.cells c e)) (newG g st.H.length cs.length w.heap.size) (st.H ++ [cs]) := by
    refine ⟨fun id cs' hc => ?_, fun id id' cs₁ cs₂ b δ δ' h1 h2 h3 h4 => ?_, fun b hb => ?_, fun id gen b δ hp => ?_, fun id gen p hp => ?_⟩
    · rcases hcase id cs' hc with ⟨hlt, hc⟩ | ⟨rfl, rfl⟩
      · obtain ⟨b, δ, c', e', h1, h2, h3, h4, h5, h6⟩ := hw.blk id cs' hc
        have hb := zcc w (.cells c e) (Array.getElem?_eq_some_iff.1 h2).1
        exact ⟨b, δ, c', e', by rw [hrn _ _ hlt]; exact h1, hb.trans h2, h3, zcn.ext hx hb h4, h5, by simp; omega⟩
      · exact ⟨w.heap.size, 0, c, e, by simp [newG], zft _ _, by omega, hv.crep hx (zft _ _), fun hf => Nat.lt_irrefl _ (hw.fzlt _ hf), by simp; omega⟩
    · rcases hcase id cs₁ h1 with ⟨l1, k1⟩ | ⟨rfl, rfl⟩
      · rcases hcase id' cs₂ h2 with ⟨l2, k2⟩ | ⟨rfl, rfl⟩
        · rw [hrn _ _ l1] at h3; rw [hrn _ _ l2] at h4
          exact hw.inj id id' cs₁ cs₂ b δ δ' k1 k2 h3 h4
        · rw [hrn _ _ l1] at h3; simp [newG] at h4
          have := hw.rholt _ _ _ _ h3; omega
      · rcases hcase id' cs₂ h2 with ⟨l2, k2⟩ | ⟨rfl, rfl⟩
        · rw [hrn _ _ l2] at h4; simp [newG] at h3
          have := hw.rholt _ _ _ _ h4; omega
        · rfl
    · rw [zdo]; exact Nat.lt_succ_of_lt (hw.fzlt b hb)
    · rw [zdo]
      simp only [newG] at hp
      split at hp
      · simp at hp; omega
      · exact Nat.lt_succ_of_lt (hw.rholt _ _ _ _ hp)
    · simp only [newG] at hp
      split at hp
      · rename_i hh; obtain ⟨rfl, rfl⟩ := hh; exact ⟨cs, by simp, Nat.le_refl _⟩
      · obtain ⟨cs', k1, k2⟩ := hw.rhoid _ _ _ hp
        exact ⟨cs', by rw [List.getElem?_append_left (List.getElem?_eq_some_iff.1 k1).1]; exact k1, k2⟩
  have hhi : ∀ id cs' b δ, b < w.heap.size → (st.H ++ [cs])[id]? = some cs' → (newG g st.H.length cs.length w.heap.size).ρ id cs'.length = some (b, δ) →
      ∃ cs₁, st.H[id]? = some cs₁ ∧ g.ρ id cs₁.length = some (b, δ) := by
    intro id cs' b δ hb hc hp
    rcases hcase id cs' hc with ⟨hlt, hc⟩ | ⟨rfl, rfl⟩
    · rw [hrn _ _ hlt] at hp; exact ⟨cs', hc, hp⟩
    · simp [newG] at hp; omega
  have hhb : ∀ b, b < w.heap.size → HB (newG g st.H.length cs.length w.heap.size) (st.H ++ [cs]) b → HB g st.H b := by
    rintro b hb ⟨id, cs', δ, hc, hp⟩
    obtain ⟨cs₁, h1, h2⟩ := hhi id cs' b δ hb hc hp
    exact ⟨id, cs₁, δ, h1, h2⟩
  refine ⟨⟨hwr, ?_, ?_, fun t e' he => ?_, h.defs, h.size, h.n0, fun id cs' hid hc => ?_⟩, hx⟩
  · exact h.si.step hx (by rw [zdo]; omega) (fun b hb _ => zcc _ _ hb) (fun a' ha => zfw (zcc _ _ ha)) (fun b hb _ => hb) hhi (by simp) ⟨rfl, rfl, rfl⟩
  · exact h.lr.step hx (fun b hb _ => zcc _ _ hb) (fun b hb _ => hb) hhb
  · obtain ⟨x, h1, h2⟩ := h.env t e' he
    exact ⟨x, h1, h2.ext hx⟩
  · rcases hcase id cs' hc with ⟨hlt, hc⟩ | ⟨rfl, rfl⟩
    · exact h.om id cs' hid hc
    · have := h.si.len; have := h.n0; omega
def fzG (g : Gh) (b : Nat) : Gh := { g with Fz := fun k => g.Fz k ∨ k = b }
theorem SRepG.newF (h : SRepG C st a w g lam) (c : Array Value) (e : TypeId) :
    SRepG C st a (w.alloc (.cells c e)) (fzG g w.heap.size) lam ∧ Ext w g (w.alloc (.cells c e)) (fzG g w.heap.size) := by
  have hx : Ext w g (w.alloc (.cells c e)) (fzG g w.heap.size) :=
    ⟨fun b hb => .inl hb, fun b hb => zcc w _ (h.wr.fzlt b hb), fun _ _ _ h => h, fun b n hb => by rw [zi5 (zcc w _ (zhi hb))]; exact hb⟩
  have hfz : ∀ b, (fzG g w.heap.size).Fz b → b < w.heap.size → g.Fz b := by
    rintro b (hb | hb) hlt
    · exact hb
    · omega
  have hwr : WRep (w.alloc (.cells c e)) (fzG g w.heap.size) st.H := by
    refine ⟨fun id cs₁ hc => ?_, h.wr.inj, fun b hb => ?_, fun id gen b δ hp => by rw [zdo]; exact Nat.lt_succ_of_lt (h.wr.rholt _ _ _ _ hp), h.wr.rhoid⟩
    · obtain ⟨b, δ, c₂, e₂, k1, k2, k3, k4, k5, k6⟩ := h.wr.blk id cs₁ hc
      have hlt := (Array.getElem?_eq_some_iff.1 k2).1
      have hb := zcc w (.cells c e) hlt
      exact ⟨b, δ, c₂, e₂, k1, hb.trans k2, k3, zcn.ext hx hb k4, fun hf => k5 (hfz b hf hlt), k6⟩
    · rw [zdo]
      rcases hb with hb | hb
      · exact Nat.lt_succ_of_lt (h.wr.fzlt b hb)
      · omega
  refine ⟨⟨hwr, ?_, ?_, fun t e' he => ?_, h.defs, h.size, h.n0, h.om⟩, hx⟩
  · exact h.si.step hx (by rw [zdo]; omega) (fun b hb _ => zcc _ _ hb) (fun a' ha => zfw (zcc _ _ ha)) hfz (fun _ cs _ _ _ h1 h2 => ⟨cs, h1, h2⟩) (Nat.le_refl _) ⟨rfl, rfl, rfl⟩
  · exact h.lr.step hx (fun b hb _ => zcc _ _ hb) hfz (fun _ _ hb => hb)
  · obtain ⟨x, h1, h2⟩ := h.env t e' he
    exact ⟨x, h1, h2.ext hx⟩
theorem SRepG.repl (h : SRepG C st a w g lam) {id : Nat} {cs cs' : List AV} {b δ : Nat} (hid : st.H[id]? = some cs) (hcur : g.ρ id cs.length = some (b, δ)) (hle : cs.length ≤ cs'.length)
    (hold : C.cfg.n0 ≤ id ∨ mxL cs' ≤ C.cfg.n0)
    {w' : World} {b' δ' : Nat} {c' : Array Value} {e : TypeId} (hsz : w.heap.size ≤ w'.heap.size) (hk : ∀ k, k < w.heap.size → k ≠ b → w'.heap[k]? = w.heap[k]?)
    (hbs : ∀ n, bsz w b = some n → bsz w' b = some n) (hfb : ∀ o, w'.frozen? ⟨b, o, none⟩ = w.frozen? ⟨b, o, none⟩)
    (hs : Sames w w') (hb' : w'.heap[b']? = some (.cells c' e (0, 0))) (hpl : (b' = b ∧ δ' = δ) ∨ (b' = w.heap.size ∧ cs.length < cs'.length))
    (hv : zf6 w g cs' c' δ') (hl : δ' + cs'.length ≤ c'.size) (hfs : ∀ a : Addr, a.block = b → w'.frozen? a = w.frozen? a) :
    SRepG C { st with H := st.H.set id cs' } a w' (zhn g id cs'.length b' δ') lam ∧ Ext w g w' (zhn g id cs'.length b' δ') := by
  have hw := h.wr
  have hidl : id < st.H.length := (List.getElem?_eq_some_iff.1 hid).1
  obtain ⟨b₀, δ₀, c₀, e₀, k1, k2, k3, k4, k5, k6⟩ := hw.blk id cs hid
  rw [hcur] at k1; simp only [Option.some.injEq, Prod.mk.injEq] at k1; obtain ⟨rfl, rfl⟩ := k1
  have hblt : b < w.heap.size := (Array.getElem?_eq_some_iff.1 k2).1
  have hx : Ext w g w' (zhn g id cs'.length b' δ') := by
    refine ⟨fun _ h => h, fun k hk' => hk k (hw.fzlt k hk') (fun hh => k5 (hh ▸ hk')), fun i n p hp => ?_, fun k n hn => ?_⟩
    · simp only [zhn]
      split
      · rename_i hh
        obtain ⟨rfl, rfl⟩ := hh
        obtain ⟨cs₂, j1, j2⟩ := hw.rhoid _ _ _ hp
        rw [hid] at j1; simp only [Option.some.injEq] at j1; subst j1
        have hlen : cs'.length = cs.length := by omega
        rw [hlen, hcur] at hp
        rcases hpl with ⟨rfl, rfl⟩ | ⟨_, hlt⟩
        · exact hp
        · omega
      · exact hp
    · by_cases hkb : k = b
      · subst hkb; exact hbs n hn
      · rw [zi5 (hk k (zhi hn) hkb)]; exact hn
  have hmx := zf6.mx hw hv
  have hget : ∀ j cs₂, (st.H.set id cs')[j]? = some cs₂ → (j = id ∧ cs₂ = cs') ∨ (j ≠ id ∧ st.H[j]? = some cs₂) := by
    intro j cs₂ hj
    by_cases hji : j = id
    · subst hji; rw [List.getElem?_set_self hidl] at hj; simp at hj; exact .inl ⟨rfl, hj.symm⟩
    · rw [List.getElem?_set_ne (Ne.symm hji)] at hj; exact .inr ⟨hji, hj⟩
  have hro : ∀ j n, j ≠ id → (zhn g id cs'.length b' δ').ρ j n = g.ρ j n := by
    intro j n hj; simp only [zhn]; rw [if_neg (fun hh => hj hh.1)]
  have hnb : ∀ j cs₂ b₂ δ₂, j ≠ id → st.H[j]? = some cs₂ → g.ρ j cs₂.length = some (b₂, δ₂) → b₂ ≠ b := by
    rintro j cs₂ b₂ δ₂ hj hc hp rfl
    exact hj (hw.inj j id cs₂ cs b₂ δ₂ _ hc hid hp hcur)
  have hb'f : ¬ g.Fz b' := by
    rcases hpl with ⟨rfl, _⟩ | ⟨rfl, _⟩
    · exact k5
    · exact fun hf => Nat.lt_irrefl _ (hw.fzlt _ hf)
  have hb'n : ∀ j cs₂ b₂ δ₂, j ≠ id → st.H[j]? = some cs₂ → g.ρ j cs₂.length = some (b₂, δ₂) → b₂ ≠ b' := by
    intro j cs₂ b₂ δ₂ hj hc hp
    rcases hpl with ⟨rfl, _⟩ | ⟨rfl, _⟩
    · exact hnb j cs₂ b₂ δ₂ hj hc hp
    · exact Nat.ne_of_lt (hw.rholt _ _ _ _ hp)
  have hwr : WRep w' (zhn g id cs'.length b' δ') (st.H.set id cs') := by
    refine ⟨fun j cs₂ hc => ?_, fun i j cs₁ cs₂ b₂ δ₁ δ₂ h1 h2 h3 h4 => ?_, fun k hk' => Nat.lt_of_lt_of_le (hw.fzlt k hk') hsz, fun i n b₂ δ₂ hp => ?_, fun i n p hp => ?_⟩
    · rcases hget j cs₂ hc with ⟨rfl, rfl⟩ | ⟨hj, hc⟩
      · exact ⟨b', δ', c', e, by simp [zhn], hb', hl, hv.crep hx hb', hb'f, by simpa using hmx⟩
      · obtain ⟨b₂, δ₂, c₂, e₂, j1, j2, j3, j4, j5, j6⟩ := hw.blk j cs₂ hc
        have hh := hk b₂ (Array.getElem?_eq_some_iff.1 j2).1 (hnb j cs₂ b₂ δ₂ hj hc j1)
        exact ⟨b₂, δ₂, c₂, e₂, by rw [hro _ _ hj]; exact j1, hh.trans j2, j3, zcn.ext hx hh j4, j5, by simpa using j6⟩
    · rcases hget i cs₁ h1 with ⟨rfl, rfl⟩ | ⟨hi, j1⟩
      · rcases hget j cs₂ h2 with ⟨rfl, rfl⟩ | ⟨hj, j2⟩
        · rfl
        · rw [hro _ _ hj] at h4; simp [zhn] at h3
          exact absurd h3.1.symm (hb'n j cs₂ b₂ δ₂ hj j2 h4)
      · rcases hget j cs₂ h2 with ⟨rfl, rfl⟩ | ⟨hj, j2⟩
        · rw [hro _ _ hi] at h3; simp [zhn] at h4
          exact absurd h4.1.symm (hb'n i cs₁ b₂ δ₁ hi j1 h3)
        · rw [hro _ _ hi] at h3; rw [hro _ _ hj] at h4
          exact hw.inj i j cs₁ cs₂ b₂ δ₁ δ₂ j1 j2 h3 h4
    · simp only [zhn] at hp
      split at hp
      · simp at hp; obtain ⟨rfl, _⟩ := hp; exact (Array.getElem?_eq_some_iff.1 hb').1
      · exact Nat.lt_of_lt_of_le (hw.rholt _ _ _ _ hp) hsz
    · simp only [zhn] at hp
      split at hp
      · rename_i hh; obtain ⟨rfl, rfl⟩ := hh; exact ⟨cs', List.getElem?_set_self hidl, Nat.le_refl _⟩
      · obtain ⟨cs₂, j1, j2⟩ := hw.rhoid _ _ _ hp
        by_cases hi : i = id
        · subst hi; rw [hid] at j1; simp only [Option.some.injEq] at j1; subst j1
          exact ⟨cs', List.getElem?_set_self hidl, Nat.le_trans j2 hle⟩
        · exact ⟨cs₂, by rw [List.getElem?_set_ne (Ne.symm hi)]; exact j1, j2⟩
  have hhi : ∀ j cs₂ k δ₂, k < w.heap.size → (st.H.set id cs')[j]? = some cs₂ → (zhn g id cs'.length b' δ').ρ j cs₂.length = some (k, δ₂) →
      ∃ cs₁, st.H[j]? = some cs₁ ∧ g.ρ j cs₁.length = some (k, δ₂) := by
    intro j cs₂ k δ₂ hk' hc hp
    rcases hget j cs₂ hc with ⟨rfl, rfl⟩ | ⟨hj, hc⟩
    · simp [zhn] at hp; obtain ⟨rfl, rfl⟩ := hp
      rcases hpl with ⟨rfl, rfl⟩ | ⟨rfl, _⟩
      · exact ⟨cs, hid, hcur⟩
      · omega
    · rw [hro _ _ hj] at hp; exact ⟨cs₂, hc, hp⟩
  have hhb : ∀ k, k < w.heap.size → HB (zhn g id cs'.length b' δ') (st.H.set id cs') k → HB g st.H k := by
    rintro k hk' ⟨j, cs₂, δ₂, hc, hp⟩
    obtain ⟨cs₁, h1, h2⟩ := hhi j cs₂ k δ₂ hk' hc hp
    exact ⟨j, cs₁, δ₂, h1, h2⟩
  have hHB : HB g st.H b := ⟨id, cs, δ, hid, hcur⟩
  have hkk : ∀ k, k < w.heap.size → ¬ HB g st.H k → w'.heap[k]? = w.heap[k]? := fun k hk' hn => hk k hk' fun hh => hn (hh ▸ hHB)
  refine ⟨⟨hwr, ?_, ?_, fun t e' he => ?_, h.defs, h.size, h.n0, fun j cs₂ hj hc => ?_⟩, hx⟩
  · refine h.si.step hx hsz hkk (fun a' ha => ?_) (fun k hk' _ => hk') hhi (by simp) hs
    · by_cases hab : a'.block = b
      · exact hfs a' hab
      · exact zfw (hk _ ha hab)
  · exact h.lr.step hx hkk (fun k hk' _ => hk') hhb
  · obtain ⟨x, h1, h2⟩ := h.env t e' he
    exact ⟨x, h1, h2.ext hx⟩
  · rcases hget j cs₂ hc with ⟨rfl, rfl⟩ | ⟨hji, hc⟩
    · omega
    · exact h.om j cs₂ hj hc
theorem SRepG.box (h : SRepG C st a w g lam) {key : Nat} {cs cs' : List AV} {c c' : Array Value} {e : TypeId} (hk : lk st.L key = some cs)
    (hc : w.heap[lam key]? = some (.cells c e (0, 0))) (hz : c'.size = c.size) (hl : cs'.length ≤ c.size) (hv : zf6 w g cs' c' 0) :
    SRepG C { st with L := (key, cs') :: st.L } a (w.setRow (lam key) c') g lam ∧ Ext w g (w.setRow (lam key) c') g := by
  obtain ⟨c₁, e₁, h1, h2, h3, h4, h5, h6⟩ := h.lr.box key cs hk
  have hother : ∀ k, k ≠ lam key → (w.setRow (lam key) c').heap[k]? = w.heap[k]? := fun k hk => setRow_other w _ k c' hk
  have hnew : (w.setRow (lam key) c').heap[lam key]? = some (.cells c' e (0, 0)) := setRow_heap w _ c c' e _ hc
  have hx : Ext w g (w.setRow (lam key) c') g := by
    refine ⟨fun _ h => h, fun b hb => hother b (fun hh => h4 (hh ▸ hb)), fun _ _ _ h => h, fun b n hb => ?_⟩
    by_cases hbk : b = lam key
    · subst hbk; rw [zdp hc] at hb; rw [zdp hnew, hz]; exact hb
    · rw [zi5 (hother b hbk)]; exact hb
  have hwr : WRep (w.setRow (lam key) c') g st.H := by
    refine ⟨fun id cs₁ hc₁ => ?_, h.wr.inj, fun b hb => by rw [setRow_size]; exact h.wr.fzlt b hb, fun id gen b δ hp => by rw [setRow_size]; exact h.wr.rholt id gen b δ hp, h.wr.rhoid⟩
    obtain ⟨b, δ, c₂, e₂, k1, k2, k3, k4, k5⟩ := h.wr.blk id cs₁ hc₁
    have hb : b ≠ lam key := fun hh => h5 (hh ▸ ⟨id, cs₁, δ, hc₁, k1⟩)
    exact ⟨b, δ, c₂, e₂, k1, (hother b hb).trans k2, k3, zcn.ext hx (hother b hb) k4, k5⟩
  refine ⟨⟨hwr, ?_, ⟨fun k cs₁ hk₁ => ?_, ?_⟩, fun t e' he => ?_, h.defs, h.size, h.n0, h.om⟩, hx⟩
  · refine ⟨by rw [setRow_size]; exact h.si.sz, fun b hb hn => ?_, fun b n hn => hx.bsz b n (h.si.bszk b n hn), fun a' ha => ?_, h.si.fz, h.si.fznew, h.si.rho, h.si.hbi, h.si.len, h.si.same⟩
    · rw [hother b (fun hh => by omega), h.si.keep b hb hn]
    · rw [← h.si.fro a' ha]; exact zfw (hother _ (fun hh => by omega))
  · by_cases hkk : key = k
    · subst hkk; simp only [lk, if_true, Option.some.injEq] at hk₁; subst hk₁
      exact ⟨c', e, hnew, by omega, hv.crep hx hnew, h4, h5, h6⟩
    · simp only [lk, if_neg hkk] at hk₁
      obtain ⟨c₂, e₂, k1, k2, k3, k4, k5, k6⟩ := h.lr.box k cs₁ hk₁
      have hne : lam k ≠ lam key := fun hh => hkk (h.lr.inj key k (by simp [hk]) (by simp [hk₁]) hh.symm)
      exact ⟨c₂, e₂, (hother _ hne).trans k1, k2, zcn.ext hx (hother _ hne) k3, k4, k5, k6⟩
  · intro k k' h1' h2' hh
    have conv : ∀ j, lk ((key, cs') :: st.L) j ≠ none → lk st.L j ≠ none := by
      intro j hj
      by_cases hkj : key = j
      · subst hkj; simp [hk]
      · simpa [lk, hkj] using hj
    exact h.lr.inj k k' (conv k h1') (conv k' h2') hh
  · obtain ⟨x, j1, j2⟩ := h.env t e' he
    exact ⟨x, j1, j2.ext hx⟩
theorem SRepG.newL (h : SRepG C st a w g lam) {d : Nat} {cs : List AV} {c : Array Value} {e : TypeId} (hn : zco st.ev d) (hv : zf6 w g cs c 0) (hl : cs.length ≤ c.size) (hw0 : C.w₀.heap.size ≤ w.heap.size) :
    SRepG C { st with L := (d, cs) :: st.L } a (w.alloc (.cells c e)) g (fun k => if k = d then w.heap.size else lam k) := by
  have hx : Ext w g (w.alloc (.cells c e)) g := Ext.alloc h.wr _ rfl fun _ _ _ h => h
  have hlr : LRp C.w₀.heap.size (w.alloc (.cells c e)) g st.H lam (lk st.L) := h.lr.step hx (fun b hb _ => zcc _ _ hb) (fun b hb _ => hb) fun b _ hb => hb
  have hlt : ∀ k cs₁, lk st.L k = some cs₁ → lam k < w.heap.size := by
    intro k cs₁ hk
    obtain ⟨c₁, e₁, h1, _⟩ := h.lr.box k cs₁ hk
    exact (Array.getElem?_eq_some_iff.1 h1).1
  have hwr : WRep (w.alloc (.cells c e)) g st.H := by
    refine ⟨fun id cs₁ hc => ?_, h.wr.inj, fun b hb => by rw [zdo]; exact Nat.lt_succ_of_lt (h.wr.fzlt b hb), fun id gen b δ hp => by rw [zdo]; exact Nat.lt_succ_of_lt (h.wr.rholt _ _ _ _ hp), h.wr.rhoid⟩
    obtain ⟨b, δ, c₂, e₂, k1, k2, k3, k4, k5⟩ := h.wr.blk id cs₁ hc
    have hb := zcc w (.cells c e) (Array.getElem?_eq_some_iff.1 k2).1
    exact ⟨b, δ, c₂, e₂, k1, hb.trans k2, k3, zcn.ext hx hb k4, k5⟩
  refine ⟨hwr, ?_, ⟨fun k cs₁ hk => ?_, fun k k' h1 h2 hh => ?_⟩, fun t e' he => ?_, h.defs, h.size, h.n0, h.om⟩
  · exact h.si.step hx (by rw [zdo]; omega) (fun b hb _ => zcc _ _ hb) (fun a' ha => zfw (zcc _ _ ha)) (fun b hb _ => hb) (fun _ cs _ _ _ h1 h2 => ⟨cs, h1, h2⟩) (Nat.le_refl _) ⟨rfl, rfl, rfl⟩
  · by_cases hkd : d = k
    · subst hkd; simp only [lk, if_true, Option.some.injEq] at hk; subst hk
      refine ⟨c, e, by simp only [if_true]; exact zft _ _, hl, by simp only [if_true]; exact hv.crep hx (zft _ _), ?_, ?_, by simp only [if_true]; exact hw0⟩
      · simp only [if_true]; exact fun hf => Nat.lt_irrefl _ (h.wr.fzlt _ hf)
      · simp only [if_true]; rintro ⟨id, cs₂, δ, j1, j2⟩; exact Nat.lt_irrefl _ (h.wr.rholt _ _ _ _ j2)
    · simp only [lk, if_neg hkd] at hk
      simp only [if_neg (Ne.symm hkd)]
      exact hlr.box k cs₁ hk
  · by_cases hk : k = d
    · by_cases hk' : k' = d
      · rw [hk, hk']
      · simp only [if_pos hk, if_neg hk'] at hh
        have : lk st.L k' ≠ none := by simpa [lk, Ne.symm hk'] using h2
        obtain ⟨cs₁, hc₁⟩ := Option.ne_none_iff_exists'.1 this
        have := hlt k' cs₁ hc₁; omega
    · by_cases hk' : k' = d
      · simp only [if_neg hk, if_pos hk'] at hh
        have : lk st.L k ≠ none := by simpa [lk, Ne.symm hk] using h1
        obtain ⟨cs₁, hc₁⟩ := Option.ne_none_iff_exists'.1 this
        have := hlt k cs₁ hc₁; omega
      · simp only [if_neg hk, if_neg hk'] at hh
        exact h.lr.inj k k' (by simpa [lk, Ne.symm hk] using h1) (by simpa [lk, Ne.symm hk'] using h2) hh
  · obtain ⟨x, j1, j2⟩ := h.env t e' he
    refine ⟨x, j1, ?_⟩
    cases e' with
    | val v => exact zcj.ext (lam := lam) hx j2
    | loc key off =>
      have hne : key ≠ d := by
        rintro rfl
        exact hn t off (by simp [St.ev, he])
      simp only [zcj, if_neg hne]
      exact j2
end
section
variable {C : Cx} {st : St} {a : Act} {w : World} {g : Gh} {lam : Nat → Nat}
theorem zku (w : World) (g : Gh) (v : Value) : zah w g (zb5 v) v := by
  unfold zb5
  split <;> try (simp [zah]; done)
  split
  · rename_i b hb
    simp only [zah]
    exact ⟨_, rfl, hb, rfl⟩
  · simp [zah]
theorem zex (w : World) (g : Gh) (v : Value) : zah w g (aOf v) v := by
  unfold aOf
  split
  · rename_i cs
    split
    case isFalse => simp [zah]
    rename_i hall
    simp only [zah]
    refine ⟨cs, rfl, fun x hx => List.all_eq_true.1 hall x hx, zb6.2 ⟨by simp, fun i c v h1 h2 => ?_⟩⟩
    simp only [List.getElem?_map, h2, Option.map_some, Option.some.injEq] at h1
    subst h1
    exact zku w g v
  · exact zku w g _
theorem SRepG.ev (h : SRepG C st a w g lam) (x : Operand) : zcj w g lam (st.ev x) (a.eval x) := by
  cases x with
  | tmp t =>
    simp only [St.ev]
    cases he : lk st.env t with
    | none => simp [zcj, zah]
    | some e =>
      obtain ⟨x, h1, h2⟩ := h.env t e he
      have : a.eval (.tmp t) = x := by
        obtain ⟨hlt, h1⟩ := Array.getElem?_eq_some_iff.1 h1
        simp [Act.eval, Array.getD, hlt, h1]
      rw [this]; exact h2
  | const v => exact zex w g v
  | global n => simp [St.ev, zcj, zah]
  | func f => simp [St.ev, zcj, zah, Act.eval, za7]
theorem SRepG.evV (h : SRepG C st a w g lam) {x : Operand} {v : AV} (hx : st.ev x = .val v) : zah w g v (a.eval x) := by
  have := h.ev x; rw [hx] at this; exact this
theorem SRepG.evL (h : SRepG C st a w g lam) {x : Operand} {k o : Nat} (hx : st.ev x = .loc k o) : a.eval x = .pointer (some ⟨lam k, o, none⟩) := by
  have := h.ev x; rw [hx] at this; exact this
theorem zhf {e : EV} {b : Bool} (h : e.asB = some b) : e = .val (.bool b) := by
  unfold EV.asB at h; split at h <;> simp_all
theorem zuh {e : EV} {k : IntKind} {n : Int} (h : e.asI = some (k, n)) : e = .val (.int k n) := by
  unfold EV.asI at h; split at h <;> simp_all
theorem zer {e : EV} {v : AV} (h : e.asV = some v) : e = .val v := by
  unfold EV.asV at h; split at h <;> simp_all
theorem zgi {e : EV} {n : Int} (h : zj2 e = some n) : ∃ k, e = .val (.int k n) := by
  unfold zj2 at h; split at h <;> simp_all
theorem SRepG.evB (h : SRepG C st a w g lam) {x : Operand} {b : Bool} (hx : (st.ev x).asB = some b) : a.eval x = .bool b := by
  have := h.evV (zhf hx); simpa [zah] using this
theorem SRepG.evI (h : SRepG C st a w g lam) {x : Operand} {k : IntKind} {n : Int} (hx : (st.ev x).asI = some (k, n)) : a.eval x = .int k n := by
  have := h.evV (zuh hx); simpa [zah] using this
theorem zhx {v : AV} {x : Nat} {y : Value} (h : v.asF = some x) (hv : zah w g v y) : ∃ b, y = .float .f64 b ∧ b < 2 ^ 64 ∧ cn b = x := by
  unfold AV.asF at h
  split at h
  · simp only [Option.some.injEq] at h; subst h; simpa [zah] using hv
  · simp only [Option.some.injEq] at h; subst h; simp only [zah] at hv; exact ⟨_, hv.1, hv.2, rfl⟩
  · simp at h
theorem zfp : Ieee.double.read qn = .nan false 2251799813685248 := by decide
theorem zdm {b : Nat} (h : isNaN b = true) : ∃ s t, Ieee.double.read b = .nan s t := by
  unfold isNaN Ieee.Datum.isNaN at h
  split at h
  · rename_i s t hh; exact ⟨s, t, hh⟩
  · simp at h
theorem zcv (b : Nat) : (isNaN b = true ∧ cn b = qn) ∨ (isNaN b = false ∧ cn b = b) := by
  unfold cn; cases h : isNaN b <;> simp
theorem zk0 (f : Ieee.Datum → Ieee.Datum → Option Ieee.Datum) (hl : ∀ s t d, f (.nan s t) d = none) (hr : ∀ s t d, f d (.nan s t) = none) (a b : Nat) :
    f (Ieee.double.read (cn a)) (Ieee.double.read (cn b)) = f (Ieee.double.read a) (Ieee.double.read b) := by
  rcases zcv a with ⟨ha, ea⟩ | ⟨_, ea⟩ <;> rcases zcv b with ⟨hb, eb⟩ | ⟨_, eb⟩ <;> rw [ea, eb]
  · obtain ⟨s, t, h1⟩ := zdm ha; rw [zfp, hl, h1, hl]
  · obtain ⟨s, t, h1⟩ := zdm ha; rw [zfp, hl, h1, hl]
  · obtain ⟨s, t, h1⟩ := zdm hb; rw [zfp, hr, h1, hr]
theorem zug (a b : Nat) : Ieee.double.add (cn a) (cn b) = Ieee.double.add a b := by
  unfold Ieee.Format.add
  rw [zk0 Ieee.Datum.sum (fun s t d => by cases d <;> rfl) (fun s t d => by cases d <;> rfl)]
theorem zwp (a b : Nat) : Ieee.double.sub (cn a) (cn b) = Ieee.double.sub a b := by
  unfold Ieee.Format.sub
  rw [zk0 (fun x y => x.sum y.opposite) (fun s t d => by cases d <;> rfl) (fun s t d => by cases d <;> rfl)]
theorem zv7 (a b : Nat) : Ieee.double.mul (cn a) (cn b) = Ieee.double.mul a b := by
  unfold Ieee.Format.mul
  rw [zk0 Ieee.Datum.product (fun s t d => by cases d <;> rfl) (fun s t d => by cases d <;> rfl)]
theorem zvd (a b : Nat) : Ieee.double.div (cn a) (cn b) = Ieee.double.div a b := by
  unfold Ieee.Format.div
  rw [zk0 (Ieee.Datum.quotient _) (fun s t d => by cases d <;> rfl) (fun s t d => by cases d <;> rfl)]
theorem zih (a b : Nat) : Ieee.double.order (cn a) (cn b) = Ieee.double.order a b := by
  unfold Ieee.Format.order
  rcases zcv a with ⟨ha, ea⟩ | ⟨_, ea⟩ <;> rcases zcv b with ⟨hb, eb⟩ | ⟨_, eb⟩ <;> rw [ea, eb]
  · obtain ⟨s, t, h1⟩ := zdm ha; obtain ⟨s', t', h2⟩ := zdm hb; rw [zfp, h1, h2]; rfl
  · obtain ⟨s, t, h1⟩ := zdm ha; rw [zfp, h1]; cases Ieee.double.read b <;> rfl
  · obtain ⟨s, t, h1⟩ := zdm hb; rw [zfp, h1]; cases Ieee.double.read a <;> rfl
theorem zns (t : Nat) : isNaN ((t % 2) * 2 ^ 63 + 0x7ff0000000000000 + 1 + (t / 2) % (2 ^ 52 - 1)) = true ∧ (t % 2) * 2 ^ 63 + 0x7ff0000000000000 + 1 + (t / 2) % (2 ^ 52 - 1) < 2 ^ 64 := by
  have h1 : t % 2 < 2 := Nat.mod_lt _ (by omega)
  have h2 : (t / 2) % (2 ^ 52 - 1) < 2 ^ 52 - 1 := Nat.mod_lt _ (by omega)
  generalize (t / 2) % (2 ^ 52 - 1) = r at h2 ⊢
  generalize t % 2 = s at h1 ⊢
  refine ⟨?_, by omega⟩
  have e1 : Ieee.double.signWeight = 2 ^ 63 := by decide
  have e2 : Ieee.double.binade = 2 ^ 52 := by decide
  have e3 : Ieee.double.infRung = 0x7ff0000000000000 := by decide
  have e4 : (s * 2 ^ 63 + 0x7ff0000000000000 + 1 + r) % 2 ^ 63 = 0x7ff0000000000000 + 1 + r := by omega
  unfold isNaN Ieee.Format.read
  simp only [e1, e2, e3, e4]
  rw [if_neg (by omega), if_neg (by omega), if_neg (by omega)]
  rfl
theorem zsu (x y t : Nat) : cn ((Question.nanBits .f64 x y).cut t) = qn ∧ (Question.nanBits .f64 x y).cut t < 2 ^ 64 := by
  have h := zns t
  simp only [Question.cut]
  exact ⟨by unfold cn; rw [if_pos h.1], h.2⟩
theorem zk3 (P : Program) (w : World) (op : BinOp) (f : Nat → Nat → Option Nat) (x y : Nat) (hop : ∀ x y, floatBits op .f64 x y = f x y) (hcn : f (cn x) (cn y) = f x y)
    (hb : op = .add ∨ op = .sub ∨ op = .mul ∨ op = .quo) (t : TypeId) :
    ∃ r w', (binOp op t (.float .f64 x) (.float .f64 y)).run P w = .ok (.float .f64 r) w' ∧ w'.heap = w.heap ∧ Sames w w' ∧ r < 2 ^ 64 ∧ cn r = fop f (cn x) (cn y) := by
  cases hf : f x y with
  | some r =>
    have hfb : floatBits op .f64 x y = some r := by rw [hop, hf]
    refine ⟨r, w, run_float_arith w op t .f64 x y r hfb, rfl, ⟨rfl, rfl, rfl⟩, ?_, ?_⟩
    · have := floatBits_wf hfb; simpa [Lit.wf] using this
    · simp [fop, hcn, hf]
  | none =>
    have hr : (binOp op t (.float .f64 x) (.float .f64 y)).run P w = .ok (.float .f64 ((Question.nanBits .f64 x y).cut (w.tape w.drawn (.nanBits .f64 x y)))) { w with drawn := w.drawn + 1 } := by
      have hfb : floatBits op .f64 x y = none := by rw [hop, hf]
      unfold floatBits at hfb
      rcases hb with rfl | rfl | rfl | rfl <;> simp only at hfb <;> simp [binOp, Op.floatArith, hfb, choose, Sem.run, Question.forced]
    obtain ⟨h1, h2⟩ := zsu x y (w.tape w.drawn (.nanBits .f64 x y))
    exact ⟨_, _, hr, rfl, ⟨rfl, rfl, rfl⟩, h2, by rw [h1]; simp [fop, hcn, hf]⟩
theorem zn0 (a b : Nat) : (Ieee.double.order a b == some .gt) = (Ieee.double.order b a == some .lt) := by
  unfold Ieee.Format.order
  generalize Ieee.double.read a = x; generalize Ieee.double.read b = y
  cases x <;> cases y <;> try rfl
  · rename_i s m i t n j
    simp only [Ieee.Datum.order]
    rw [show min j i = min i j from Int.min_comm _ _]
    generalize Ieee.signed s m (i - min i j).toNat = p; generalize Ieee.signed t n (j - min i j).toNat = q
    simp only [compare, compareOfLessAndEq]
    by_cases h1 : p < q
    · simp [h1, show ¬ q < p from by omega, show ¬ q = p from by omega]
    · by_cases h2 : p = q
      · subst h2; simp
      · simp [h1, h2, show q < p from by omega]
  · rename_i s m i t; cases t <;> rfl
  · rename_i s t n j; cases s <;> rfl
  · rename_i s t; cases s <;> cases t <;> rfl
end
end Go.Sx
set_option linter.unusedVariables false
set_option linter.unusedSimpArgs false
namespace Go.Sx
section
variable {C : Cx} {st : St} {a : Act} {w : World} {g : Gh} {lam : Nat → Nat}
def Gives (P : Program) (w : World) (g : Gh) (s : Sem Value) (v : AV) : Prop :=
  ∃ x w', s.run P w = .ok x w' ∧ w'.heap = w.heap ∧ Sames w w' ∧ zah w g v x
theorem Gives.pure {P : Program} {w : World} {g : Gh} {s : Sem Value} {v : AV} {x : Value} (h : s.run P w = .ok x w) (hv : zah w g v x) : Gives P w g s v :=
  ⟨x, w, h, rfl, ⟨rfl, rfl, rfl⟩, hv⟩
theorem zl0 {P : Program} {op : BinOp} {t : TypeId} {k : IntKind} {x y : Int} {c : Prop} {v : AV} (h : zxi op k x y = some (c, v)) (hc : c) (xo yo : Operand) :
    Gives P w g (do eqGuard op t xo yo (.int k x) (.int k y); binOp op t (.int k x) (.int k y)) v := by
  cases op <;> simp only [zxi, Option.some.injEq, Prod.mk.injEq, reduceCtorEq] at h
  case quo =>
    obtain ⟨rfl, rfl⟩ := h
    exact .pure (by simp [eqGuard, binOp, Op.intDiv, hc]; rfl) (by simp [zah])
  case rem =>
    obtain ⟨rfl, rfl⟩ := h
    exact .pure (by simp [eqGuard, binOp, Op.intDiv, hc]; rfl) (by simp [zah])
  case and => obtain ⟨rfl, rfl⟩ := h; exact .pure (x := .int k (zg8 .and k x y)) (by cases k <;> rfl) (by simp [zah])
  case or => obtain ⟨rfl, rfl⟩ := h; exact .pure (x := .int k (zg8 .or k x y)) (by cases k <;> rfl) (by simp [zah])
  case xor => obtain ⟨rfl, rfl⟩ := h; exact .pure (x := .int k (zg8 .xor k x y)) (by cases k <;> rfl) (by simp [zah])
  case andNot => obtain ⟨rfl, rfl⟩ := h; exact .pure (x := .int k (zg8 .andNot k x y)) (by cases k <;> rfl) (by simp [zah])
  all_goals
    obtain ⟨rfl, rfl⟩ := h
    exact .pure (by simp [eqGuard, binOp, Op.intArith, Op.intCmp]; rfl) (by simp [zah])
theorem zjw {P : Program} {op : BinOp} {t : TypeId} {k k' : IntKind} {x y : Int} {c : Prop} {v : AV} (h : shI op k x y = some (c, v)) (hc : c) (xo yo : Operand) :
    Gives P w g (do eqGuard op t xo yo (.int k x) (.int k' y); binOp op t (.int k x) (.int k' y)) v := by
  cases op <;> simp only [shI, Option.some.injEq, Prod.mk.injEq, reduceCtorEq] at h
  all_goals
    obtain ⟨rfl, rfl⟩ := h
    have hn : ¬ y < 0 := by omega
    exact .pure (by simp [eqGuard, binOp, Op.shift, hn]; rfl) (by simp [zah])
theorem zlz {P : Program} {op : BinOp} {t : TypeId} {x y : Nat} {c : Prop} {v : AV} (h : zxh op (cn x) (cn y) = some (c, v)) (hc : c) (xo yo : Operand) :
    Gives P w g (do eqGuard op t xo yo (.float .f64 x) (.float .f64 y); binOp op t (.float .f64 x) (.float .f64 y)) v := by
  have hg : ∀ w : World, (eqGuard op t xo yo (.float .f64 x) (.float .f64 y)).run P w = .ok () w := by
    intro w; cases op <;> simp [eqGuard] <;> rfl
  have hf : FloatKind.f64.format = Ieee.double := rfl
  cases op <;> simp only [zxh, Option.some.injEq, Prod.mk.injEq, reduceCtorEq] at h
  case add =>
    obtain ⟨rfl, rfl⟩ := h
    obtain ⟨r, w', h1, h2, h3, h4, h5⟩ := zk3 P w .add Ieee.double.add x y (fun _ _ => rfl) (zug _ _) (by simp) t
    exact ⟨.float .f64 r, w', by simp [Sem.run_bind, hg, h1], h2, h3, by simp only [zah]; exact ⟨r, rfl, h4, h5⟩⟩
  case sub =>
    obtain ⟨rfl, rfl⟩ := h
    obtain ⟨r, w', h1, h2, h3, h4, h5⟩ := zk3 P w .sub Ieee.double.sub x y (fun _ _ => rfl) (zwp _ _) (by simp) t
    exact ⟨.float .f64 r, w', by simp [Sem.run_bind, hg, h1], h2, h3, by simp only [zah]; exact ⟨r, rfl, h4, h5⟩⟩
  case mul =>
    obtain ⟨rfl, rfl⟩ := h
    obtain ⟨r, w', h1, h2, h3, h4, h5⟩ := zk3 P w .mul Ieee.double.mul x y (fun _ _ => rfl) (zv7 _ _) (by simp) t
    exact ⟨.float .f64 r, w', by simp [Sem.run_bind, hg, h1], h2, h3, by simp only [zah]; exact ⟨r, rfl, h4, h5⟩⟩
  case quo =>
    obtain ⟨rfl, rfl⟩ := h
    obtain ⟨r, w', h1, h2, h3, h4, h5⟩ := zk3 P w .quo Ieee.double.div x y (fun _ _ => rfl) (zvd _ _) (by simp) t
    exact ⟨.float .f64 r, w', by simp [Sem.run_bind, hg, h1], h2, h3, by simp only [zah]; exact ⟨r, rfl, h4, h5⟩⟩
  case gtr =>
    obtain ⟨rfl, rfl⟩ := h
    exact .pure (by simp only [Sem.run_bind, hg]; simp [binOp, Op.floatCmp, hf]; rfl) (by simp [zah, flt, feq, zih, zn0])
  case geq =>
    obtain ⟨rfl, rfl⟩ := h
    exact .pure (by simp only [Sem.run_bind, hg]; simp [binOp, Op.floatCmp, hf]; rfl) (by simp [zah, flt, feq, zih, zn0])
  all_goals
    obtain ⟨rfl, rfl⟩ := h
    exact .pure (by simp only [Sem.run_bind, hg]; simp [binOp, Op.floatCmp, hf]; rfl) (by simp [zah, flt, feq, zih, bne])
theorem znd (P : Program) (w : World) (t : TypeId) (p q : Bool) (hu : P.underlying t = some .bool) : (Op.equal t (.bool p) (.bool q)).run P w = .ok (p == q) w := by
  show (Op.equalIn (9999 + 1) t (.bool p) (.bool q)).run P w = _
  rw [Op.equalIn, Sem.run_bind, run_underlying hu]
  rfl
theorem zgx {P : Program} {t : TypeId} {x y : AV} {X Y : Value} {r : Bool} (h : zmd P t x y = some r) (hx : zah w g x X) (hy : zah w g y Y) : (Op.equal t X Y).run P w = .ok r w ∧
    ((∃ p q, X = .pointer p ∧ Y = .pointer q) ∨ (∃ p q a b c d, X = .slice p a b ∧ Y = .slice q c d)) := by
  have pt : zl9 P t = true → ∃ e, P.underlying t = some (.pointer e) := by
    intro h; unfold zl9 at h; split at h
    · rename_i e he; exact ⟨e, he⟩
    · cases h
  have sl : zua P t = true → ∃ e, P.underlying t = some (.slice e) := by
    intro h; unfold zua at h; split at h
    · rename_i e he; exact ⟨e, he⟩
    · cases h
  have goP : ∀ (p q : Option Addr) (b : Bool), zl9 P t = true → (p = none ∧ b = q.isNone ∨ p ≠ none ∧ q = none ∧ b = false) → (Op.equal t (.pointer p) (.pointer q)).run P w = .ok b w := by
    intro p q b ht hb
    obtain ⟨e, he⟩ := pt ht
    show (Op.equalIn (9999 + 1) t _ _).run P w = _
    rw [Op.equalIn, Sem.run_bind, run_underlying he]
    simp only [Result.andThen_ok]
    rcases hb with ⟨rfl, rfl⟩ | ⟨hp, rfl, rfl⟩
    · rfl
    · cases p with
      | none => exact (hp rfl).elim
      | some p => rfl
  have goS : ∀ (p q : Option Addr) (b : Bool) (l c l' c' : Nat), zua P t = true → (p = none ∧ b = q.isNone ∨ p ≠ none ∧ q = none ∧ b = false) → (Op.equal t (.slice p l c) (.slice q l' c')).run P w = .ok b w := by
    intro p q b l c l' c' ht hb
    obtain ⟨e, he⟩ := sl ht
    show (Op.equalIn (9999 + 1) t _ _).run P w = _
    rw [Op.equalIn, Sem.run_bind, run_underlying he]
    simp only [Result.andThen_ok]
    rcases hb with ⟨rfl, rfl⟩ | ⟨hp, rfl, rfl⟩
    · rfl
    · cases p with
      | none => exact (hp rfl).elim
      | some p => rfl
  unfold zmd at h
  split at h <;> (try cases h) <;> split at h <;> (try cases h)
  · rename_i ht
    simp only [zah] at hx hy
    obtain ⟨b, o, rfl, _⟩ := hx
    subst hy
    exact ⟨goP _ _ _ ht (.inr ⟨by simp, rfl, rfl⟩), .inl ⟨_, _, rfl, rfl⟩⟩
  · rename_i ht
    simp only [zah] at hx hy
    obtain ⟨b, o, rfl, _⟩ := hy
    subst hx
    exact ⟨goP _ _ _ ht (.inl ⟨rfl, rfl⟩), .inl ⟨_, _, rfl, rfl⟩⟩
  · rename_i ht
    simp only [zah] at hx hy
    subst hx hy
    exact ⟨goP _ _ _ ht (.inl ⟨rfl, rfl⟩), .inl ⟨_, _, rfl, rfl⟩⟩
  · rename_i ht
    simp only [zah] at hx hy
    subst hx hy
    exact ⟨goS _ _ _ _ _ _ _ ht (.inl ⟨rfl, rfl⟩), .inr ⟨_, _, _, _, _, _, rfl, rfl⟩⟩
  · rename_i ht
    simp only [zah] at hx hy
    obtain ⟨b, δ, cap, n, _, rfl, _⟩ := hx
    subst hy
    exact ⟨goS _ _ _ _ _ _ _ ht (.inr ⟨by simp, rfl, rfl⟩), .inr ⟨_, _, _, _, _, _, rfl, rfl⟩⟩
  · rename_i ht
    simp only [zah] at hx hy
    obtain ⟨cap, _, h1 | ⟨b, o, rfl, _⟩⟩ := hx
    · simp at h1
    · subst hy
      exact ⟨goS _ _ _ _ _ _ _ ht (.inr ⟨by simp, rfl, rfl⟩), .inr ⟨_, _, _, _, _, _, rfl, rfl⟩⟩
theorem zgp {P : Program} {t : TypeId} {xs ys : List AV} {X Y : Value} {r : Bool} (h : zpg P t xs ys = some r) (hx : zah w g (.agg xs) X) (hy : zah w g (.agg ys) Y) :
    (Op.equal t X Y).run P w = .ok r w ∧ (∃ p q, X = .agg p ∧ Y = .agg q) ∧ P.eqGuardType P.depth t = false := by
  unfold zpg at h
  split at h
  case h_2 => cases h
  rename_i e k a k' b l c l' d hu
  split at h
  case h_2 => cases h
  rename_i k0 he hz hg
  split at h
  case isFalse => cases h
  rename_i hk
  obtain ⟨rfl, rfl, rfl, rfl⟩ := hk
  simp only [Option.some.injEq] at h; subst h
  simp only [zah] at hx hy
  obtain ⟨vs, rfl, _, hx⟩ := hx
  obtain ⟨us, rfl, _, hy⟩ := hy
  simp only [za7, zah] at hx hy
  obtain ⟨_, _, e1, rfl, _, _, e2, rfl, rfl⟩ := hx
  obtain ⟨_, _, e3, rfl, _, _, e4, rfl, rfl⟩ := hy
  subst e2 e4
  obtain rfl : vs = #[.int l' a, .int l' b] := Array.toList_inj.1 e1
  obtain rfl : us = #[.int l' c, .int l' d] := Array.toList_inj.1 e3
  refine ⟨?_, ⟨_, _, rfl, rfl⟩, hg⟩
  unfold tsz at hz
  simp only [Option.map_eq_some_iff] at hz
  obtain ⟨i, hi, hs1⟩ := hz
  have hs : (sizeOf e).run P w = .ok 1 w := by simp [sizeOf, typeInfo, hi, hs1, Sem.run_bind]
  have hagg : (isAgg e).run P w = .ok false w := by
    unfold isAgg
    rw [Sem.run_bind, run_underlying he w]
    rfl
  have hp : ∀ (vs : Array Value) (o : Nat) (v : Value), vs[o]? = some v → (part e vs o).run P w = .ok v w := by
    intro vs o v hv
    simp [part, Sem.run_bind, hagg, hv]
  have hp0 : ∀ x y : Int, (part e #[.int l' x, .int l' y] 0).run P w = .ok (.int l' x) w := fun x y => hp _ 0 _ rfl
  have hp1 : ∀ x y : Int, (part e #[.int l' x, .int l' y] 1).run P w = .ok (.int l' y) w := fun x y => hp _ 1 _ rfl
  have hq : ∀ x y : Int, (Op.equalIn 9999 e (.int l' x) (.int l' y)).run P w = .ok (x == y) w := by
    intro x y
    show (Op.equalIn (9998 + 1) e (.int l' x) (.int l' y)).run P w = _
    rw [Op.equalIn, Sem.run_bind, run_underlying he]
    simp
  show (Op.equalIn (9999 + 1) t _ _).run P w = _
  rw [Op.equalIn]
  simp only [Sem.run_bind, run_underlying hu, Result.andThen_ok, hs]
  simp only [Std.Legacy.Range.forIn_eq_forIn_range', Std.Legacy.Range.size, Nat.sub_zero, Nat.add_sub_cancel, Nat.div_one, List.range'_succ, List.range'_zero, List.forIn_cons, List.forIn_nil]
  by_cases h1 : a = c <;> by_cases h2 : b = d <;> simp [Sem.run_bind, h1, h2, hq, hp0, hp1]
theorem zmf {P : Program} {op : BinOp} {t : TypeId} {x y : AV} {X Y : Value} {c : Prop} {v : AV} (h : zwc P op t x y = some (c, v)) (hc : c) (xo yo : Operand)
    (hx : zah w g x X) (hy : zah w g y Y) : Gives P w g (do eqGuard op t xo yo X Y; binOp op t X Y) v := by
  unfold zwc at h
  split at h
  · rename_i a b
    simp only [zah] at hx hy
    subst hx hy
    cases op <;> simp only [zyn, Option.some.injEq, Prod.mk.injEq, reduceCtorEq] at h <;> obtain ⟨rfl, rfl⟩ := h
    · refine .pure (x := .string (a ++ b)) ?_ (by simp [zah])
      have : ¬ (((a.size + b.size : Nat) : Int) > IntKind.i64.max) := by
        have : IntKind.i64.max = 9223372036854775807 := by decide
        omega
      simp only [eqGuard, binOp, Op.stringOp, Sem.run_bind, Sem.run_pure, Result.andThen_ok, this, if_false]
      rfl
    · exact .pure (x := .bool (a.toList == b.toList)) (by simp [eqGuard, binOp, Op.stringOp]) (by simp [zah])
    · exact .pure (x := .bool (!(a.toList == b.toList))) (by simp [eqGuard, binOp, Op.stringOp]) (by simp [zah])
  · split at h
    · simp only [Option.map_eq_some_iff, Prod.mk.injEq] at h
      obtain ⟨r, hr, _, rfl⟩ := h
      obtain ⟨h1, ⟨p, q, rfl, rfl⟩, h2⟩ := zgp hr hx hy
      exact .pure (x := .bool r) (by simp [eqGuard, binOp, h1, h2, Sem.run_bind]) (by simp [zah])
    · simp only [Option.map_eq_some_iff, Prod.mk.injEq] at h
      obtain ⟨r, hr, _, rfl⟩ := h
      obtain ⟨h1, ⟨p, q, rfl, rfl⟩, h2⟩ := zgp hr hx hy
      exact .pure (x := .bool (!r)) (by simp [eqGuard, binOp, h1, h2, Sem.run_bind]) (by simp [zah])
    · cases h
  · split at h
    · simp only [Option.map_eq_some_iff, Prod.mk.injEq] at h
      obtain ⟨r, hr, _, rfl⟩ := h
      obtain ⟨h1, ⟨p, q, rfl, rfl⟩ | ⟨p, q, a, b, c, d, rfl, rfl⟩⟩ := zgx hr hx hy
      · exact .pure (x := .bool r) (by simp [eqGuard, binOp, h1]) (by simp [zah])
      · exact .pure (x := .bool r) (by simp [eqGuard, binOp, h1]) (by simp [zah])
    · simp only [Option.map_eq_some_iff, Prod.mk.injEq] at h
      obtain ⟨r, hr, _, rfl⟩ := h
      obtain ⟨h1, ⟨p, q, rfl, rfl⟩ | ⟨p, q, a, b, c, d, rfl, rfl⟩⟩ := zgx hr hx hy
      · exact .pure (x := .bool (!r)) (by simp [eqGuard, binOp, h1]) (by simp [zah])
      · exact .pure (x := .bool (!r)) (by simp [eqGuard, binOp, h1]) (by simp [zah])
    · cases h
theorem zl3 {P : Program} {op : BinOp} {t : TypeId} {x y : EV} {X Y : Value} {c : Prop} {v : AV} (h : zmo P op t x y = some (c, v)) (hc : c) (xo yo : Operand)
    (hx : zcj w g lam x X) (hy : zcj w g lam y Y) : Gives P w g (do eqGuard op t xo yo X Y; binOp op t X Y) v := by
  unfold zmo at h
  split at h
  · rename_i k a k' b
    simp only [zcj, zah] at hx hy
    subst hx hy
    split at h
    · exact zjw h hc xo yo
    · exact zjw h hc xo yo
    · split at h
      · rename_i hk; subst hk; exact zl0 h hc xo yo
      · simp at h
  · rename_i a b
    simp only [zcj, zah] at hx hy
    subst hx hy
    split at h
    · rename_i hu
      simp only [Option.some.injEq, Prod.mk.injEq] at h; obtain ⟨rfl, rfl⟩ := h
      exact .pure (x := .bool (a == b)) (by simp [eqGuard, binOp, znd P _ t a b hu]) (by simp [zah])
    · rename_i hu
      simp only [Option.some.injEq, Prod.mk.injEq] at h; obtain ⟨rfl, rfl⟩ := h
      exact .pure (x := .bool (a != b)) (by simp [eqGuard, binOp, znd P _ t a b hu]; cases a <;> cases b <;> rfl) (by simp [zah])
    · simp at h
  · rename_i xv yv _ _
    split at h
    · rename_i p q hp hq
      simp only [zcj] at hx hy
      obtain ⟨b, rfl, h1, rfl⟩ := zhx hp hx
      obtain ⟨b', rfl, h2, rfl⟩ := zhx hq hy
      exact zlz h hc xo yo
    · simp only [zcj] at hx hy
      exact zmf h hc xo yo hx hy
  · simp at h
theorem zf1 (P : Program) (w : World) (b o o' : Nat) : (sameAddr ⟨b, o, none⟩ ⟨b, o', none⟩).run P w = .ok (decide (o = o')) w := by
  have : ((⟨b, o, none⟩ : Addr) == ⟨b, o', none⟩) = decide (o = o') := by
    by_cases h : o = o'
    · subst h; simp
    · simp [h]
  simp only [sameAddr, beq_self_eq_true, if_true, Sem.run_pure, this]
theorem cells_of_cell {w : World} {b o : Nat} {v : Value} (h : w.cell? ⟨b, o, none⟩ = some v) : ∃ c e fr, w.heap[b]? = some (.cells c e fr) ∧ 0 < c.size := by
  unfold World.cell? at h
  split at h
  · rename_i c e fr hh
    refine ⟨c, e, fr, hh, ?_⟩
    simp only [Option.isSome_none, Bool.false_eq_true, if_false] at h
    have := (Array.getElem?_eq_some_iff.1 h).1
    omega
  · simp at h
theorem zed (P : Program) (w : World) {b b' o o' : Nat} (hne : b ≠ b') {c c' : Array Value} {e e' : TypeId} {fr' : Nat × Nat} (h1 : w.heap[b]? = some (.cells c e (0, 0))) (h2 : w.heap[b']? = some (.cells c' e' fr')) (hz : fr' = (0, 0) ∨ 0 < c'.size) :
    (sameAddr ⟨b, o, none⟩ ⟨b', o', none⟩).run P w = .ok false w ∧ (sameAddr ⟨b', o', none⟩ ⟨b, o, none⟩).run P w = .ok false w := by
  have hf : ∀ x, w.frozen? ⟨b, x, none⟩ = false := fun x => by simp [World.frozen?, h1]
  have hs : w.shape? b = some (e, c.size) := by simp [World.shape?, h1]
  have hs' : w.shape? b' = some (e', c'.size) := by simp [World.shape?, h2]
  have hb : (b == b') = false := by simpa using hne
  have hb' : (b' == b) = false := by simpa using fun h => hne h.symm
  have f0 : ∀ x, (Go.frozen ⟨b, x, none⟩).run P w = .ok false w := fun x => by simp only [Go.frozen, Sem.run, hf]
  have f1 : ∀ x, (Go.frozen ⟨b', x, none⟩).run P w = .ok (w.frozen? ⟨b', x, none⟩) w := fun x => by simp only [Go.frozen, Sem.run]
  have s0 : (Go.shape b).run P w = .ok (some (e, c.size)) w := by simp only [Go.shape, Sem.run, hs]
  have s1 : (Go.shape b').run P w = .ok (some (e', c'.size)) w := by simp only [Go.shape, Sem.run, hs']
  have v0 : ∀ x, (noView ⟨b, x, none⟩).run P w = .ok () w := fun x => by simp [noView, viewAt, Sem.run_bind, s0]
  have v1 : ∀ x, (noView ⟨b', x, none⟩).run P w = .ok () w := fun x => by simp [noView, viewAt, Sem.run_bind, s1]
  have g0 : ∀ x, (stringish ⟨b, x, none⟩).run P w = .ok false w := fun x => by simp [stringish, Sem.run_bind, f0, s0, hs, hf]
  have g1 : ∀ x, ∃ r, (stringish ⟨b', x, none⟩).run P w = .ok r w ∧ (fr' = (0, 0) → r = false) := fun x => by
    cases hq : w.frozen? ⟨b', x, none⟩ with
    | true =>
      refine ⟨true, by simp [stringish, Sem.run_bind, f1, hq], fun hh => ?_⟩
      subst hh; simp [World.frozen?, h2] at hq
    | false =>
      refine ⟨w.frozen? ⟨b', c'.size, none⟩, by simp [stringish, Sem.run_bind, f1, hq, s1, hs'], fun hh => ?_⟩
      subst hh; simp [World.frozen?, h2]
  obtain ⟨r, hr, hr0⟩ := g1 o'
  have m0 : (r && (match some (e', c'.size) with | some (_, 0) => true | _ => false)) = false := by
    rcases hz with hz | hz
    · rw [hr0 hz]; rfl
    · cases hc : c'.size with
      | zero => omega
      | succ n => simp
  constructor
  · cases hq : w.frozen? ⟨b', o', none⟩ <;>
    · cases r
      · simp [sameAddr, hb, Sem.run_bind, f0, f1, hq, v0, v1, mayBeOne, g0, hr, s0, s1, hs, hs', hf]
      · have : c'.size ≠ 0 := by
          rcases hz with hz | hz
          · exact absurd (hr0 hz) (by simp)
          · omega
        simp [sameAddr, hb, Sem.run_bind, f0, f1, hq, v0, v1, mayBeOne, g0, hr, s0, s1, hs, hs', hf]
        (try (split <;> simp_all))
  · cases hq : w.frozen? ⟨b', o', none⟩ <;>
    · cases r
      · simp [sameAddr, hb', Sem.run_bind, f0, f1, hq, v0, v1, mayBeOne, g0, hr, s0, s1, hs, hs', hf]
      · have : c'.size ≠ 0 := by
          rcases hz with hz | hz
          · exact absurd (hr0 hz) (by simp)
          · omega
        simp [sameAddr, hb', Sem.run_bind, f0, f1, hq, v0, v1, mayBeOne, g0, hr, s0, s1, hs, hs', hf]
        (try (split <;> simp_all))
theorem zf9 {H : List (List AV)} (hw : WRep w g H) {id gen b δ : Nat} (hc : znb H id gen = true) (hr : g.ρ id gen = some (b, δ)) : ∃ cs c e, H[id]? = some cs ∧ cs.length = gen ∧ w.heap[b]? = some (.cells c e (0, 0)) ∧ ¬ g.Fz b := by
  unfold znb at hc
  split at hc
  · rename_i cs hcs
    have hg : cs.length = gen := by simpa using hc
    obtain ⟨b', δ', c, e, h1, h2, h3, h4, h5, h6⟩ := hw.blk id cs hcs
    rw [hg, hr] at h1
    simp only [Option.some.injEq, Prod.mk.injEq] at h1
    obtain ⟨rfl, rfl⟩ := h1
    exact ⟨cs, c, e, hcs, hg, h2, h5⟩
  · cases hc
theorem zkl {P : Program} {H : List (List AV)} (hw : WRep w g H) {s s' : AV} {o o' b b' a a' : Nat} {r : Bool} (h : ptrEq H s a s' a' = some r) (h1 : za8 w g s b o) (h2 : za8 w g s' b' o') :
    (sameAddr ⟨b, o + a, none⟩ ⟨b', o' + a', none⟩).run P w = .ok r w := by
  unfold ptrEq at h
  split at h
  · rename_i id gn of _ _ a id' gn' of' _ _ a'
    split at h
    · rename_i hc
      simp only [Bool.and_eq_true] at hc
      simp only [za8] at h1 h2
      obtain ⟨δ, h1, rfl⟩ := h1
      obtain ⟨δ', h2, rfl⟩ := h2
      obtain ⟨cs, c, e, k1, k2, k3, k4⟩ := zf9 hw hc.1 h1
      obtain ⟨cs', c', e', k1', k2', k3', k4'⟩ := zf9 hw hc.2 h2
      split at h
      · rename_i hid
        subst hid
        rw [k1] at k1'; simp only [Option.some.injEq] at k1'; subst k1'
        subst k2; subst k2'
        rw [h1] at h2; simp only [Option.some.injEq, Prod.mk.injEq] at h2
        obtain ⟨rfl, rfl⟩ := h2
        simp only [Option.some.injEq] at h; subst h
        rw [zf1]
        congr 1
        exact decide_eq_decide.2 (by omega)
      · rename_i hid
        simp only [Option.some.injEq] at h; subst h
        refine (zed P w (fun hb => hid ?_) k3 k3' (.inl rfl)).1
        subst hb k2 k2'
        exact hw.inj _ _ _ _ _ _ _ k1 k1' h1 h2
    · cases h
  · rename_i p of _ _ a q of' _ _ a'
    split at h
    · rename_i hpq
      subst hpq
      simp only [za8] at h1 h2
      obtain ⟨h1, _⟩ := h1
      obtain ⟨h2, _⟩ := h2
      simp only [reduceCtorEq, Option.some.injEq, Prod.mk.injEq, false_or] at h1 h2
      obtain ⟨rfl, rfl⟩ := h1
      obtain ⟨rfl, rfl⟩ := h2
      simp only [Option.some.injEq] at h; subst h
      rw [zf1]
    · cases h
  · rename_i id gn of _ _ a tg _ x xs a'
    split at h
    · rename_i hc
      simp only [Option.some.injEq] at h; subst h
      simp only [za8, zcn] at h1 h2
      obtain ⟨δ, h1, rfl⟩ := h1
      obtain ⟨_, hz, ⟨v, hv, _⟩, _⟩ := h2
      obtain ⟨cs, c, e, k1, k2, k3, k4⟩ := zf9 hw hc h1
      obtain ⟨c', e', fr', j1, j2⟩ := cells_of_cell hv
      exact (zed P w (fun hb => k4 (by rw [hb]; exact hz)) k3 j1 (.inr j2)).1
    · cases h
  · rename_i tg _ x xs a id gn of _ _ a'
    split at h
    · rename_i hc
      simp only [Option.some.injEq] at h; subst h
      simp only [za8, zcn] at h1 h2
      obtain ⟨δ, h2, rfl⟩ := h2
      obtain ⟨_, hz, ⟨v, hv, _⟩, _⟩ := h1
      obtain ⟨cs, c, e, k1, k2, k3, k4⟩ := zf9 hw hc h2
      obtain ⟨c', e', fr', j1, j2⟩ := cells_of_cell hv
      exact (zed P w (fun hb => k4 (by rw [hb]; exact hz)) k3 j1 (.inr j2)).2
    · cases h
  · cases h
theorem zmj {P : Program} {H : List (List AV)} (hw : WRep w g H) {op : BinOp} {t : TypeId} {x y : EV} {X Y : Value} {v : AV} (h : ztr P H op t x y = some v) (xo yo : Operand)
    (hx : zcj w g lam x X) (hy : zcj w g lam y Y) : Gives P w g (do eqGuard op t xo yo X Y; binOp op t X Y) v := by
  have key : ∀ {s s' : AV} {a a' : Nat} {r : Bool}, zoi P t = true → ptrEq H s a s' a' = some r → zah w g (.eptr s a) X → zah w g (.eptr s' a') Y →
      ∃ p q, X = .pointer (some p) ∧ Y = .pointer (some q) ∧ (Op.equal t (.pointer (some p)) (.pointer (some q))).run P w = .ok r w := by
    intro s s' a a' r ht hp hX hY
    simp only [zah] at hX hY
    obtain ⟨b, o, rfl, hX⟩ := hX
    obtain ⟨b', o', rfl, hY⟩ := hY
    refine ⟨_, _, rfl, rfl, ?_⟩
    have hr := zkl (P := P) hw hp hX hY
    unfold zoi at ht
    split at ht
    · rename_i e hu
      cases hz : tsz P e with
      | none => rw [hz] at ht; simp at ht
      | some n =>
        rw [hz] at ht
        simp only [Option.any_some, decide_eq_true_eq] at ht
        unfold tsz at hz
        simp only [Option.map_eq_some_iff] at hz
        obtain ⟨i, hi, rfl⟩ := hz
        have hs : (sizeOf e).run P w = .ok i.size w := by simp [sizeOf, typeInfo, hi, Sem.run_bind]
        show (Op.equalIn (9999 + 1) t _ _).run P w = _
        rw [Op.equalIn, Sem.run_bind, run_underlying hu]
        have h0 : i.size ≠ 0 := by omega
        simp only [Result.andThen_ok, Sem.run_bind, hs, ne_eq, h0, not_false_eq_true, if_true]
        exact hr
    · cases ht
  unfold ztr at h
  split at h
  · split at h
    · rename_i ht
      simp only [Option.map_eq_some_iff] at h
      obtain ⟨r, hr, rfl⟩ := h
      obtain ⟨p, q, rfl, rfl, hrun⟩ := key ht hr hx hy
      exact .pure (x := .bool r) (by simp [eqGuard, binOp, hrun]) (by simp [zah])
    · cases h
  · split at h
    · rename_i ht
      simp only [Option.map_eq_some_iff] at h
      obtain ⟨r, hr, rfl⟩ := h
      obtain ⟨p, q, rfl, rfl, hrun⟩ := key ht hr hx hy
      exact .pure (x := .bool (!r)) (by simp [eqGuard, binOp, hrun]) (by simp [zah])
    · cases h
  · cases h
theorem zyj (b : Nat) (hb : b < 2 ^ 64) : Op.negFloat .f64 b < 2 ^ 64 ∧ zxt (cn b) = cn (Op.negFloat .f64 b) := by
  have e : Op.negFloat .f64 b = b ^^^ 2 ^ 63 := rfl
  have hlt : b ^^^ 2 ^ 63 < 2 ^ 64 := Nat.xor_lt_two_pow hb (by decide)
  refine ⟨by rw [e]; exact hlt, ?_⟩
  unfold zxt
  rcases zcv b with ⟨h1, h2⟩ | ⟨_, h2⟩ <;> rw [h2]
  · have hn : isNaN (Op.negFloat .f64 b) = true := by
      have e1 : Ieee.double.signWeight = 2 ^ 63 := by decide
      have hm : (b ^^^ 2 ^ 63) % 2 ^ 63 = b % 2 ^ 63 := by
        rw [Nat.xor_mod_two_pow]; simp
      unfold isNaN Ieee.Format.read at h1 ⊢
      simp only [e1] at h1 ⊢
      rw [e, hm]
      revert h1
      split
      · intro h; simp [Ieee.Datum.isNaN] at h
      · split
        · intro h; simp [Ieee.Datum.isNaN] at h
        · split
          · intro h; simp [Ieee.Datum.isNaN] at h
          · intro _; rfl
    have : cn (Op.negFloat .f64 qn) = qn := by decide
    rw [this]; unfold cn; rw [if_pos hn]
theorem zo6 {P : Program} {op : UnOp} {x : EV} {X : Value} {c : Prop} {v : AV} (h : unV op x = some (c, v)) (hc : c) (hx : zcj w g lam x X) : Gives P w g (Op.unary op X) v := by
  unfold unV at h
  split at h
  · simp only [zcj, zah] at hx; subst hx
    simp only [Option.some.injEq, Prod.mk.injEq] at h; obtain ⟨rfl, rfl⟩ := h
    exact .pure (by simp [Op.unary]; rfl) (by simp [zah])
  · simp only [zcj, zah] at hx; subst hx
    simp only [Option.some.injEq, Prod.mk.injEq] at h; obtain ⟨rfl, rfl⟩ := h
    exact .pure (by simp [Op.unary, Op.intArith]; rfl) (by simp [zah])
  · simp only [zcj, zah] at hx; subst hx
    simp only [Option.some.injEq, Prod.mk.injEq] at h; obtain ⟨rfl, rfl⟩ := h
    exact .pure (x := .int _ (zg8 .xor _ _ _)) rfl (by simp [zah])
  · simp only [Option.map_eq_some_iff, Prod.mk.injEq] at h
    obtain ⟨y, hy, rfl, rfl⟩ := h
    obtain ⟨b, rfl, hb, rfl⟩ := zhx hy hx
    refine .pure (x := .float .f64 (Op.negFloat .f64 b)) (by simp [Op.unary]) ?_
    simp only [zah]
    exact ⟨_, rfl, (zyj b hb).1, (zyj b hb).2.symm⟩
  · simp at h
theorem zl5 {P : Program} {src dst : TypeId} {x : EV} {X : Value} {c : Prop} {v : AV} (hs : (P.underlying src).isSome = true) (h : zsr P dst x = some (c, v)) (hc : c) (hx : zcj w g lam x X) :
    Gives P w g (convert src dst X) v := by
  obtain ⟨us, hs⟩ := Option.isSome_iff_exists.1 hs
  unfold zsr at h
  split at h
  · rename_i k k' n hd
    simp only [zcj, zah] at hx; subst hx
    simp only [Option.some.injEq, Prod.mk.injEq] at h; obtain ⟨rfl, rfl⟩ := h
    refine .pure (x := .int k (k.wrap n)) ?_ (by simp [zah])
    cases us <;> simp [convert, run_underlying hs, run_underlying hd, Conv.intToInt] <;> rfl
  · rename_i k' n hd
    simp only [zcj, zah] at hx; subst hx
    simp only [Option.some.injEq, Prod.mk.injEq] at h; obtain ⟨rfl, rfl⟩ := h
    refine .pure (run_convert_int_float w src dst k' .f64 n (by simp [hs]) hd) ?_
    simp only [zah, floatOfInt]
    refine ⟨_, rfl, ?_, rfl⟩
    have := floatOfInt_wf .f64 n
    exact of_decide_eq_true this
  · rename_i xv _ hd
    simp only [Option.map_eq_some_iff, Prod.mk.injEq] at h
    obtain ⟨y, hy, rfl, rfl⟩ := h
    obtain ⟨b, rfl, hb, rfl⟩ := zhx hy hx
    refine .pure (x := .float .f64 b) ?_ (by simp only [zah]; exact ⟨b, rfl, hb, rfl⟩)
    refine run_convert_float_float w src dst .f64 .f64 b b (by simp [hs]) hd ?_
    simp [floatToFloatBits]
  · simp at h
end
section
variable {C : Cx} {st : St} {a : Act} {w : World} {g : Gh} {lam : Nat → Nat}
theorem ze4 {w : World} {g : Gh} : ∀ {l : List AV} {b o : Nat}, zcn w g l b o → ∃ vs : List Value, w.rangeAt b o vs ∧ za7 w g l vs ∧ vs.length = l.length ∧ ∀ v ∈ vs, v.oneCell' = true
  | [], b, o, _ => ⟨[], fun j v h => by simp at h, by simp [za7], rfl, by simp⟩
  | c :: l, b, o, h => by
    simp only [zcn] at h
    obtain ⟨⟨v, h1, h2, h3⟩, h4⟩ := h
    obtain ⟨vs, k1, k2, k3, k4⟩ := ze4 h4
    refine ⟨v :: vs, fun j x hj => ?_, by simp only [za7]; exact ⟨v, vs, rfl, h3, k2⟩, by simp [k3], by simpa [h2] using k4⟩
    cases j with
    | zero => simp at hj; subst hj; simpa using h1
    | succ j => simp at hj; have := k1 j x hj; rwa [show o + 1 + j = o + (j + 1) from by omega] at this
theorem zrr {P : Program} {t : TypeId} {l : List AV} {n b o : Nat} {v : AV} (hz : tsz P t = some n) (hl : l.length = n) (hc : zcn w g l b o) (hv : ldv P t l = some v) :
    Gives P w g (loadVar t ⟨b, o, none⟩) v := by
  unfold ldv at hv
  have hz' : (P.info? t).map (·.size) = some l.length := by rw [hl]; exact hz
  split at hv
  · rename_i hk
    simp only [Option.some.injEq] at hv; subst hv
    simp only [zj3, Option.map_eq_some_iff] at hk
    obtain ⟨d, hu, hd⟩ := hk
    obtain ⟨vs, k1, k2, k3, k4⟩ := ze4 hc
    refine .pure (run_loadVar_mid w b o t vs d k1 hu hd (by rw [k3]; exact hz')) ?_
    simp only [zah]
    exact ⟨vs.toArray, rfl, by simpa using k4, by simpa using k2⟩
  · rename_i c hk
    simp only [Option.some.injEq] at hv; subst hv
    simp only [zj3, Option.map_eq_some_iff] at hk
    obtain ⟨d, hu, hd⟩ := hk
    simp only [zcn] at hc
    obtain ⟨⟨x, h1, h2, h3⟩, _⟩ := hc
    have hagg : (isAgg t).run P w = .ok false w := by
      unfold isAgg
      rw [Sem.run_bind, run_underlying hu w]
      cases d <;> simp_all
    refine .pure (x := x) ?_ h3
    simp [loadVar, Sem.run_bind, hagg, load, Sem.run, h1]
  · simp at hv
theorem znz {P : Program} {t : TypeId} {l : List AV} {n b o : Nat} {v : AV} (hz : tsz P t = some n) (hl : l.length = n) (hc : zcn w g l b o) (hv : ldv P t l = some v) :
    ∃ x, (loadVar t ⟨b, o, none⟩).run P w = .ok x w ∧ zah w g v x := by
  unfold ldv at hv
  have hz' : (P.info? t).map (·.size) = some l.length := by rw [hl]; exact hz
  split at hv
  · rename_i hk
    simp only [Option.some.injEq] at hv; subst hv
    simp only [zj3, Option.map_eq_some_iff] at hk
    obtain ⟨d, hu, hd⟩ := hk
    obtain ⟨vs, k1, k2, k3, k4⟩ := ze4 hc
    refine ⟨_, run_loadVar_mid w b o t vs d k1 hu hd (by rw [k3]; exact hz'), ?_⟩
    simp only [zah]
    exact ⟨vs.toArray, rfl, by simpa using k4, by simpa using k2⟩
  · rename_i c hk
    simp only [Option.some.injEq] at hv; subst hv
    simp only [zj3, Option.map_eq_some_iff] at hk
    obtain ⟨d, hu, hd⟩ := hk
    simp only [zcn] at hc
    obtain ⟨⟨x, h1, h2, h3⟩, _⟩ := hc
    have hagg : (isAgg t).run P w = .ok false w := by
      unfold isAgg
      rw [Sem.run_bind, run_underlying hu w]
      cases d <;> simp_all
    refine ⟨x, ?_, h3⟩
    simp [loadVar, Sem.run_bind, hagg, load, Sem.run, h1]
  · simp at hv
theorem zg5 {H : List (List AV)} (hw : WRep w g H) {s : AV} {off n b o : Nat} {l : List AV} (hs : za8 w g s b o) (hr : zb4 H s off n = some l) : zcn w g l b (o + off) ∧ l.length = n := by
  unfold zb4 at hr
  split at hr
  · simp only [za8] at hs
    exact ⟨zgj hs.2.2 hr, (zdz hr).1⟩
  · rename_i id gen o' len sz
    simp only [Option.bind_eq_some_iff] at hr
    obtain ⟨cs, hc, hr⟩ := hr
    split at hr
    · rename_i hg
      simp only [za8] at hs
      obtain ⟨δ, h1, rfl⟩ := hs
      obtain ⟨b₀, δ₀, c₀, e₀, k1, k2, k3, k4, k5⟩ := hw.blk id cs hc
      rw [hg, h1] at k1; simp only [Option.some.injEq, Prod.mk.injEq] at k1; obtain ⟨rfl, rfl⟩ := k1
      refine ⟨?_, (zdz hr).1⟩
      have := zgj k4 hr
      rwa [show δ + (o' + off) = δ + o' + off from by omega] at this
    · simp at hr
  · simp at hr
theorem slice_form {s : AV} {len : Nat} {X : Value} (hl : slen s = some len) (hv : zah w g s X) :
    ∃ ao cap, X = .slice ao len cap ∧ len ≤ cap ∧ (0 < len → ∃ b o, ao = some ⟨b, o, none⟩ ∧ za8 w g s b o) := by
  unfold slen at hl
  split at hl
  · simp only [Option.some.injEq] at hl; subst hl
    simp only [zah] at hv
    exact ⟨none, 0, hv, Nat.le_refl _, by omega⟩
  · simp only [Option.some.injEq] at hl; subst hl
    simp only [zah] at hv
    obtain ⟨cap, hc, ⟨_, h0, _, ao, h1⟩ | ⟨b, o, h1, h2, h3, h4⟩⟩ := hv
    · exact ⟨ao, cap, h1, hc, by omega⟩
    · exact ⟨_, cap, h1, hc, fun _ => ⟨b, o, rfl, by simp only [za8]; exact ⟨h2, h3, h4⟩⟩⟩
  · simp only [Option.some.injEq] at hl; subst hl
    simp only [zah] at hv
    obtain ⟨b, δ, cap, n, h1, h2, h3, h4⟩ := hv
    exact ⟨_, cap, h2, h3, fun _ => ⟨b, _, rfl, by simp only [za8]; exact ⟨δ, h1, rfl⟩⟩⟩
  · simp at hl
theorem zki {l : List (Option AV)} {vs : List AV} (h : l.mapM id = some vs) : l = vs.map some := by
  induction l generalizing vs with
  | nil => simp at h; subst h; rfl
  | cons x l ih =>
    simp only [List.mapM_cons, id_eq, Option.bind_eq_bind, Option.bind_eq_some_iff, Option.pure_def, Option.some.injEq] at h
    obtain ⟨v, rfl, r, hr, rfl⟩ := h
    simp [ih hr]
theorem zhw (h : SRepG C st a w g lam) {xs : List Operand} {vs : List AV} (hx : zez st.ev xs = some vs) : za7 w g vs (xs.map a.eval) := by
  have := zki hx
  rw [zb6]
  have hl : xs.length = vs.length := by simpa using congrArg List.length this
  refine ⟨by simp [hl], fun i c v h1 h2 => ?_⟩
  have h3 := congrArg (·[i]?) this
  simp only [List.getElem?_map, h1, Option.map_some] at h3 h2
  cases hxi : xs[i]? with
  | none => simp [hxi] at h2
  | some x =>
    simp [hxi] at h2 h3
    subst h2
    exact h.evV (zer h3)
theorem zpw {w : World} {g : Gh} {cs : List AV} {vs : List Value} (h : za7 w g cs vs) {o n : Nat} {l : List AV} (hl : gc cs o n = some l) :
    za7 w g l ((vs.drop o).take n) := by
  rw [zb6] at h ⊢
  obtain ⟨h1, h2⟩ := zdz hl
  have hb : n = 0 ∨ o + n ≤ cs.length := by
    rcases Nat.eq_zero_or_pos n with h0 | h0
    · exact .inl h0
    · right
      have h3 := h2 (n - 1) (by omega)
      have h4 : (l[n - 1]?) = some (l[n-1]'(by omega)) := List.getElem?_eq_getElem _
      rw [h4] at h3
      have := (List.getElem?_eq_some_iff.1 h3.symm).1
      omega
  refine ⟨by simp [h.1, h1]; omega, fun i c v hc hv => ?_⟩
  have hi : i < n := by have := (List.getElem?_eq_some_iff.1 hc).1; omega
  rw [h2 i hi] at hc
  rw [List.getElem?_take, if_pos hi, List.getElem?_drop] at hv
  exact h.2 _ _ _ hc hv
end
section
variable {C : Cx} {st : St} {a : Act} {w : World} {g : Gh} {lam : Nat → Nat}
def zix (P : Program) (w : World) (g : Gh) (lam : Nat → Nat) (s : Sem Next) (v : EV) : Prop :=
  ∃ x w', s.run P w = .ok (.value x) w' ∧ w'.heap = w.heap ∧ Sames w w' ∧ zcj w g lam v x
theorem Gives.e {P : Program} {s : Sem Value} {v : AV} (h : Gives P w g s v) : zix P w g lam (do Pure.pure (Next.value (← s))) (.val v) := by
  obtain ⟨x, w', h1, h2, h3, h4⟩ := h
  exact ⟨x, w', by simp [Sem.run_bind, h1], h2, h3, h4⟩
theorem zix.pure {P : Program} {s : Sem Next} {v : EV} {x : Value} (h : s.run P w = .ok (.value x) w) (hv : zcj w g lam v x) : zix P w g lam s v :=
  ⟨x, w, h, rfl, ⟨rfl, rfl, rfl⟩, hv⟩
theorem zes {P : Program} {b o n : Nat} {f : Field} (hz : tsz P f.type = some n) (hn : 0 < n) : (fieldPlace ⟨b, o, none⟩ f).run P w = .ok ⟨b, o + f.offset, none⟩ w := by
  unfold tsz at hz
  simp only [Option.map_eq_some_iff] at hz
  obtain ⟨i, hi, rfl⟩ := hz
  have hs : (sizeOf f.type).run P w = .ok i.size w := by simp [sizeOf, typeInfo, hi, Sem.run_bind]
  have : ¬ i.size = 0 := by omega
  simp [fieldPlace, Sem.run_bind, hs, this, Addr.add_mid]
theorem zqi {P : Program} {t : TypeId} {cs : List AV} {vs : Array Value} {o n : Nat} {l : List AV} {v : AV} (h : za7 w g cs vs.toList) (hone : ∀ x ∈ vs.toList, x.oneCell' = true) (hz : tsz P t = some n) (hl : gc cs o n = some l) (hv : ldv P t l = some v) :
    Gives P w g (part t vs o) v := by
  have hp := zpw h hl
  have hn := (zdz hl).1
  unfold tsz at hz
  simp only [Option.map_eq_some_iff] at hz
  obtain ⟨i, hi, rfl⟩ := hz
  have hs : (sizeOf t).run P w = .ok i.size w := by simp [sizeOf, typeInfo, hi, Sem.run_bind]
  unfold ldv at hv
  split at hv
  · rename_i hk
    simp only [Option.some.injEq] at hv; subst hv
    simp only [zj3, Option.map_eq_some_iff] at hk
    obtain ⟨d, hu, hd⟩ := hk
    have hagg : (isAgg t).run P w = .ok true w := by
      unfold isAgg
      rw [Sem.run_bind, run_underlying hu w]
      cases d <;> simp_all
    refine .pure (x := .agg (vs.extract o (o + i.size))) (by simp [part, Sem.run_bind, hagg, hs]) ?_
    simp only [zah]
    refine ⟨_, rfl, fun x hx => hone x ?_, by simpa using hp⟩
    simp only [Array.toList_extract, List.extract_eq_take_drop] at hx
    exact List.mem_of_mem_drop (List.mem_of_mem_take hx)
  · rename_i c hk
    simp only [Option.some.injEq] at hv; subst hv
    simp only [zj3, Option.map_eq_some_iff] at hk
    obtain ⟨d, hu, hd⟩ := hk
    have hagg : (isAgg t).run P w = .ok false w := by
      unfold isAgg
      rw [Sem.run_bind, run_underlying hu w]
      cases d <;> simp_all
    simp only [za7] at hp
    obtain ⟨x, rest, h1, h2, h3⟩ := hp
    have hx : vs[o]? = some x := by
      have h4 := congrArg (·[0]?) h1
      simp only [List.getElem?_take, List.getElem?_drop, List.getElem?_cons_zero, Nat.add_zero] at h4
      split at h4
      · simpa using h4
      · simp at h4
    exact .pure (x := x) (by simp [part, Sem.run_bind, hagg, hx]) h2
  · simp at hv
def scv (cs : List Value) (off : Nat) : List Value → List Value
  | [] => cs
  | v :: vs => scv (cs.set off v) (off + 1) vs
theorem zpd {w : World} {g : Gh} {cs : List AV} {vs : List Value} (h : za7 w g cs vs) {i : Nat} {c : AV} {v : Value} (hv : zah w g c v) : za7 w g (cs.set i c) (vs.set i v) := by
  rw [zb6] at h ⊢
  refine ⟨by simp [h.1], fun j d x h1 h2 => ?_⟩
  by_cases hij : i = j
  · subst hij
    rw [List.getElem?_set] at h1 h2
    simp only [if_true] at h1 h2
    split at h1
    · split at h2
      · simp only [Option.some.injEq] at h1 h2; subst h1 h2; exact hv
      · simp at h2
    · simp at h1
  · rw [List.getElem?_set_ne hij] at h1 h2
    exact h.2 j d x h1 h2
theorem zmp {w : World} {g : Gh} : ∀ {vs : List AV} {xs : List Value} {cs : List AV} {cv : List Value} (off : Nat), za7 w g cs cv → za7 w g vs xs → za7 w g (sc cs off vs) (scv cv off xs)
  | [], xs, cs, cv, off, h, h2 => by simp only [za7] at h2; subst h2; exact h
  | v :: vs, xs, cs, cv, off, h, h2 => by
    simp only [za7] at h2
    obtain ⟨x, rest, rfl, h3, h4⟩ := h2
    simp only [sc, scv]
    exact zmp (off + 1) (zpd h h3) h4
theorem zh4 (off : Nat) : ∀ (xs : List Value) (k : Nat) (vc : Array Value),
    ((xs.zipIdx k).foldl (fun cs (p : Value × Nat) => cs.setIfInBounds (off + p.2) p.1) vc).toList = scv vc.toList (off + k) xs
  | [], k, vc => by simp [scv]
  | x :: xs, k, vc => by
    simp only [List.zipIdx_cons, List.foldl_cons, scv]
    rw [zh4 off xs (k + 1)]
    simp [Nat.add_assoc]
theorem zps {w : World} {g : Gh} {cells vs : List AV} {vc xs : Array Value} (h : za7 w g cells vc.toList) (h2 : za7 w g vs xs.toList) (off : Nat) :
    za7 w g (sc cells off vs) (xs.zipIdx.foldl (fun cs (p : Value × Nat) => cs.setIfInBounds (off + p.2) p.1) vc).toList := by
  have : (xs.zipIdx.foldl (fun cs (p : Value × Nat) => cs.setIfInBounds (off + p.2) p.1) vc).toList = scv vc.toList off xs.toList := by
    rw [← Array.foldl_toList, Array.toList_zipIdx]
    simpa using zh4 off xs.toList 0 vc
  rw [this]
  exact zmp off h h2
theorem zox : ∀ {xs cv : List Value} (off : Nat), (∀ y ∈ cv, y.oneCell' = true) → (∀ y ∈ xs, y.oneCell' = true) → ∀ y ∈ scv cv off xs, y.oneCell' = true
  | [], cv, off, h, h2 => h
  | x :: xs, cv, off, h, h2 => by
    simp only [scv]
    refine zox (off + 1) (fun y hy => ?_) (fun y hy => h2 y (by simp [hy]))
    rcases List.mem_or_eq_of_mem_set hy with hy | rfl
    · exact h y hy
    · exact h2 _ (by simp)
theorem zpr {vc xs : Array Value} (h : ∀ y ∈ vc.toList, y.oneCell' = true) (h2 : ∀ y ∈ xs.toList, y.oneCell' = true) (off : Nat) :
    ∀ y ∈ (xs.zipIdx.foldl (fun cs (p : Value × Nat) => cs.setIfInBounds (off + p.2) p.1) vc).toList, y.oneCell' = true := by
  have : (xs.zipIdx.foldl (fun cs (p : Value × Nat) => cs.setIfInBounds (off + p.2) p.1) vc).toList = scv vc.toList off xs.toList := by
    rw [← Array.foldl_toList, Array.toList_zipIdx]
    simpa using zh4 off xs.toList 0 vc
  rw [this]
  exact zox off h h2
theorem zcg {v : AV} {vs : List AV} {x : Value} (hcl : v.cells = some vs) (hx : zah w g v x) : za7 w g vs x.cells.toList ∧ ∀ y ∈ x.cells.toList, y.oneCell' = true := by
  unfold AV.cells at hcl
  split at hcl
  · simp only [Option.some.injEq] at hcl; subst hcl
    simp only [zah] at hx
    obtain ⟨ys, rfl, h1, hy⟩ := hx
    exact ⟨hy, h1⟩
  · simp at hcl
  · simp at hcl
  · rename_i y
    split at hcl
    · rename_i hone
      simp only [Option.some.injEq] at hcl; subst hcl
      simp only [zah] at hx; subst hx
      have : x.cells = #[x] := by cases x <;> simp_all [Value.cells, Value.oneCell']
      rw [this]; simp [za7, zah, hone]
    · simp at hcl
  · rename_i n1 n2 n3 n4
    simp only [Option.some.injEq] at hcl; subst hcl
    have : x.cells = #[x] ∧ x.oneCell' = true := by
      cases v <;> simp only [zah] at hx <;> first
        | (subst hx; exact ⟨rfl, rfl⟩)
        | (obtain ⟨_, rfl, _⟩ := hx; exact ⟨rfl, rfl⟩)
        | (obtain ⟨rfl, _⟩ := hx; exact ⟨rfl, rfl⟩)
        | (obtain ⟨_, _, ⟨_, _, _, _, rfl⟩ | ⟨_, _, rfl, _⟩⟩ := hx <;> exact ⟨rfl, rfl⟩)
        | (obtain ⟨_, _, _, _, _, rfl, _⟩ := hx; exact ⟨rfl, rfl⟩)
        | (obtain ⟨_, _, rfl, _⟩ := hx; exact ⟨rfl, rfl⟩)
        | exact absurd rfl (n1 _)
        | exact absurd rfl n2
        | exact absurd rfl (n3 _)
        | exact absurd rfl (n4 _)
    rw [this.1]; simpa [za7, this.2] using hx
theorem zfb {w : World} {g : Gh} {place : Nat → Option (Nat × Nat)} : ∀ {parts : List (Nat × Option AV)} {vparts : List (Nat × Value)} {cells out : List AV} {vc : Array Value},
    za7 w g cells vc.toList → (∀ y ∈ vc.toList, y.oneCell' = true) → zct place cells parts = some out → vparts.map (·.1) = parts.map (·.1) →
    (∀ (i : Nat) p q v, parts[i]? = some p → vparts[i]? = some q → p.2 = some v → zah w g v q.2) →
    ∃ vo, Instr.fill place vc vparts = some vo ∧ za7 w g out vo.toList ∧ ∀ y ∈ vo.toList, y.oneCell' = true
  | [], vparts, cells, out, vc, hr, ho, hf, hm, _ => by
    simp only [zct, Option.some.injEq] at hf; subst hf
    have : vparts = [] := by simpa using hm
    subst this
    exact ⟨vc, rfl, hr, ho⟩
  | (i, p) :: parts, vparts, cells, out, vc, hr, ho, hf, hm, hp => by
    cases vparts with
    | nil => simp at hm
    | cons q vparts =>
      obtain ⟨j, x⟩ := q
      simp only [List.map_cons, List.cons.injEq] at hm
      obtain ⟨rfl, hm⟩ := hm
      simp only [zct] at hf
      split at hf
      · rename_i off size vs hpl hcl
        simp only [Option.bind_eq_some_iff] at hcl
        obtain ⟨v, hv, hcl⟩ := hcl
        have hx := hp 0 (j, p) (j, x) v (by simp) (by simp) hv
        split at hf
        · simp at hf
        · rename_i hcond
          have hc1 : vs.length = size ∧ off + vs.length ≤ cells.length := by omega
          have hvl := zat hr
          obtain ⟨hcells, hone⟩ := zcg hcl hx
          have hxl : x.cells.size = vs.length := by have := zat hcells; simpa using this
          have hnew : za7 w g (sc cells off vs) (x.cells.zipIdx.foldl (fun cs (c, j) => cs.setIfInBounds (off + j) c) vc).toList := by
            exact zps hr hcells off
          obtain ⟨vo, h1, h2⟩ := zfb hnew (zpr ho hone off) hf hm (fun i p q v h1 h2 h3 => hp (i + 1) p q v (by simpa using h1) (by simpa using h2) h3)
          refine ⟨vo, ?_, h2⟩
          have hvs : vc.size = cells.length := by simpa using hvl
          simp only [Instr.fill, hpl]
          rw [if_neg]
          · exact h1
          · simp [hxl, hc1.1, hvs]; omega
      · simp at hf
end
section
variable {C : Cx} {st : St} {a : Act} {w : World} {g : Gh} {lam : Nat → Nat}
theorem Gives.ret {P : Program} {s : Sem Value} {v : AV} (h : Gives P w g s v) {f : Sem Next} (hf : f = (do Pure.pure (Next.value (← s)))) : zix P w g lam f (.val v) := hf ▸ h.e
theorem zle (P : Program) (w : World) (k : IntKind) (x y : Int) : (Builtin.min2 (.int k x) (.int k y)).run P w = .ok (.int k (min x y)) w := by
  have : (if y < x then y else x) = min x y := by omega
  simp only [Builtin.min2, this]; rfl
theorem zla (P : Program) (w : World) (k : IntKind) (x y : Int) : (Builtin.max2 (.int k x) (.int k y)).run P w = .ok (.int k (max x y)) w := by
  have : (if y > x then y else x) = max x y := by omega
  simp only [Builtin.max2, this]; rfl
theorem args1 {args : Array Operand} {x : Operand} (h : args.toList = [x]) : args = #[x] := by
  cases args; simp_all
theorem zmi (fs : Array Field) (hall : fs.all (fun f => (tsz C.P f.type).isSome) = true) :
    (fs.mapM fun f => (do Pure.pure (f.offset, ← sizeOf f.type) : Sem (Nat × Nat))).run C.P w = .ok (fs.map fun f => (f.offset, (tsz C.P f.type).getD 0)) w := by
  have key : ∀ (l : List Field), (∀ f ∈ l, (tsz C.P f.type).isSome = true) →
      (l.mapM fun f => (do Pure.pure (f.offset, ← sizeOf f.type) : Sem (Nat × Nat))).run C.P w = .ok (l.map fun f => (f.offset, (tsz C.P f.type).getD 0)) w := by
    intro l
    induction l with
    | nil => intro _; rfl
    | cons f l ih =>
      intro hl
      have h1 := hl f (by simp)
      obtain ⟨n, hn⟩ := Option.isSome_iff_exists.1 h1
      have hn' := hn
      unfold tsz at hn
      simp only [Option.map_eq_some_iff] at hn
      obtain ⟨i, hi, rfl⟩ := hn
      have hs : (sizeOf f.type).run C.P w = .ok i.size w := by simp [sizeOf, typeInfo, hi, Sem.run_bind]
      simp only [List.mapM_cons, Sem.run_bind, hs, Result.andThen_ok, Sem.run_pure, ih (fun f hf => hl f (by simp [hf])), List.map_cons, hn', Option.getD_some]
  rw [Array.mapM_eq_mapM_toList, map_eq_pure_bind, Sem.run_bind, key fs.toList (fun f hf => (Array.all_eq_true_iff_forall_mem.1 hall) f (by simpa using hf))]
  simp only [Result.andThen_ok, Sem.run_pure, Result.ok.injEq, and_true]
  apply Array.ext'
  simp
theorem zm3 {ρ : Operand → Value} (h : SRepG C st a w g lam) {lo : Option Operand} {d l : Int} (hl : ziu st.ev d lo = some l) : (lo = none ∧ l = d) ∨ ∃ k o, lo = some o ∧ lo.map a.eval = some (.int k l) := by
  cases lo with
  | none => simp only [ziu, Option.some.injEq] at hl; exact .inl ⟨rfl, hl.symm⟩
  | some o =>
    simp only [ziu] at hl
    obtain ⟨k, hk⟩ := zgi hl
    have := h.evV hk
    simp only [zah] at this
    exact .inr ⟨k, o, rfl, by simp [this]⟩
theorem zhg (h : SRepG C st a w g lam) (sl : Bool) {lo hi : Option Operand} {n cap : Nat} {l q : Int} (hl : ziu st.ev 0 lo = some l) (hq : ziu st.ev n hi = some q) (h0 : 0 ≤ l) (h1 : l ≤ q) (h2 : q ≤ n) (hc : n ≤ cap) :
    (Instr.sliceBounds sl n cap (lo.map a.eval) (hi.map a.eval) none).run C.P w = .ok (l.toNat, q.toNat, cap) w := by
  have e2 : ((q.toNat : Nat) : Int) = q := Int.toNat_of_nonneg (by omega)
  rcases zm3 (ρ := a.eval) h hl with ⟨rfl, rfl⟩ | ⟨k, o, rfl, hk⟩ <;> rcases zm3 (ρ := a.eval) h hq with ⟨rfl, rfl⟩ | ⟨k', o', rfl, hk'⟩
  · simp [Instr.sliceBounds, Sem.run_bind]
  · rw [hk']
    have hb : ∀ c, (Instr.sliceBound (.int k' q) cap c).run C.P w = .ok q.toNat w := fun c => run_sliceBound (P := C.P) (w := w) k' q cap c (by omega) (by omega)
    simp [Instr.sliceBounds, Sem.run_bind, hb]
  · rw [hk]
    have hb : ∀ c, (Instr.sliceBound (.int k l) n c).run C.P w = .ok l.toNat w := fun c => run_sliceBound (P := C.P) (w := w) k l n c (by omega) (by omega)
    simp [Instr.sliceBounds, Sem.run_bind, hb]
  · rw [hk, hk']
    have hb : ∀ c, (Instr.sliceBound (.int k' q) cap c).run C.P w = .ok q.toNat w := fun c => run_sliceBound (P := C.P) (w := w) k' q cap c (by omega) (by omega)
    have hb' : ∀ c, (Instr.sliceBound (.int k l) q.toNat c).run C.P w = .ok l.toNat w := fun c => run_sliceBound (P := C.P) (w := w) k l q.toNat c (by omega) (by omega)
    simp [Instr.sliceBounds, Sem.run_bind, hb, hb']
theorem zt3 {z l q n : Nat} {v v' : AV} {X : Value} (hn : slen v = some n) (hv : zah w g v X) (hs : zr0 z l q v = some v') (h1 : l ≤ q) (h2 : q ≤ n) :
    ∃ ao len cap, X = .slice ao len cap ∧ len = n ∧ n ≤ cap ∧ zah w g v' (.slice (if cap = l then ao else ao.map (·.add (l * z))) (q - l) (cap - l)) := by
  have nil : ∀ (ao : Option Addr) cap, n ≤ cap → l = q → zah w g (.sl none 0 []) (.slice (if cap = l then ao else ao.map (·.add (l * z))) (q - l) (cap - l)) := by
    intro ao cap hc hlq
    simp only [zah]
    refine ⟨cap - l, by omega, .inl ?_⟩
    simp [hlq]
  cases v <;> simp only [zr0, slen, Option.some.injEq, reduceCtorEq] at hs hn
  · simp only [zah] at hv
    subst hn hs
    exact ⟨none, 0, 0, hv, rfl, Nat.le_refl _, nil _ _ (Nat.le_refl _) (by omega)⟩
  · rename_i tag len cells
    subst hn
    simp only [zah] at hv
    obtain ⟨cap, hc, hx⟩ := hv
    split at hs
    · rename_i hlq
      simp only [Option.some.injEq] at hs; subst hs
      rcases hx with ⟨_, h0, _⟩ | ⟨b, o, rfl, ht, hf, hr⟩
      · omega
      · refine ⟨_, len, cap, rfl, rfl, hc, ?_⟩
        rw [if_neg (by omega)]
        simp only [zah, Option.map_some, Addr.add_mid]
        refine ⟨cap - l, by omega, .inr ⟨b, o + l * z, rfl, ?_, hf, ?_⟩⟩
        · rcases ht with rfl | rfl
          · exact .inl rfl
          · exact .inr rfl
        · rw [zdf] at hr ⊢
          intro i c hi
          rw [List.getElem?_take] at hi
          split at hi
          · rw [List.getElem?_drop] at hi
            have := hr (l * z + i) c hi
            rwa [show o + (l * z + i) = o + l * z + i from by omega] at this
          · simp at hi
    · rename_i hlq
      simp only [Option.some.injEq] at hs; subst hs
      rcases hx with ⟨_, h0, _, ao, rfl⟩ | ⟨b, o, rfl, ht, hf, hr⟩
      · exact ⟨ao, len, cap, rfl, rfl, hc, nil _ _ hc (by omega)⟩
      · exact ⟨_, len, cap, rfl, rfl, hc, nil _ _ hc (by omega)⟩
  · rename_i id gen off len sz
    subst hn
    simp only [zah] at hv
    obtain ⟨b, δ, cap, m, k1, rfl, k3, k4, k5, k6⟩ := hv
    split at hs
    case isFalse => simp at hs
    rename_i hz; subst hz
    split at hs
    · rename_i hlq
      simp only [Option.some.injEq] at hs; subst hs
      refine ⟨_, len, cap, rfl, rfl, k3, ?_⟩
      rw [if_neg (by omega)]
      simp only [zah, Option.map_some, Addr.add_mid]
      have e1 : l * sz + (q - l) * sz = q * sz := by rw [← Nat.add_mul]; congr 1; omega
      have e2 : q * sz ≤ len * sz := Nat.mul_le_mul_right _ h2
      have e3 : l * sz + (cap - l) * sz = cap * sz := by rw [← Nat.add_mul]; congr 1; omega
      exact ⟨b, δ, cap - l, m, k1, by rw [Nat.add_assoc], by omega, by omega, k5, by omega⟩
    · simp only [Option.some.injEq] at hs; subst hs
      exact ⟨_, len, cap, rfl, rfl, k3, nil _ _ k3 (by omega)⟩
theorem zjy (h : SRepG C st a w g lam) {t : TypeId} {x : Operand} {lo hi : Option Operand} {c : Prop} {v : AV} (hp : zjx C.P t (st.ev x) (ziu st.ev 0 lo) (fun n => ziu st.ev n hi) = some (c, v)) (hc : c) :
    ∃ X, (Instr.sliceAt t (a.eval x) (lo.map a.eval) (hi.map a.eval) none).run C.P w = .ok X w ∧ zah w g v X := by
  unfold zjx at hp
  split at hp
  · rename_i s l he hlo
    split at hp
    case h_2 => simp at hp
    rename_i hu
    simp only [Option.map_eq_some_iff, Prod.mk.injEq] at hp
    obtain ⟨q, hq, rfl, rfl⟩ := hp
    obtain ⟨h0, h1, h2⟩ := hc
    have hX := h.evV he
    simp only [zah] at hX
    have hb := zhg h false hlo hq h0 h1 h2 (Nat.le_refl _)
    refine ⟨.string (s.extract l.toNat q.toNat), ?_, by simp [zah]⟩
    rw [run_sliceAt_string (P := C.P) (w := w) t _ _ _ _ hu, hX]
    simp [Instr.slice, Sem.run_bind, run_underlying hu, hb]
  · rename_i v₀ l hne he hlo
    simp only [Option.bind_eq_some_iff, Option.map_eq_some_iff, Prod.mk.injEq] at hp
    obtain ⟨e, ht, z, hz, n, hn, q, hq, v', hs, rfl, rfl⟩ := hp
    obtain ⟨h0, h1, h2⟩ := hc
    unfold zd5 at ht
    split at ht
    case h_2 => simp at ht
    rename_i e' hu
    simp only [Option.some.injEq] at ht; subst ht
    obtain ⟨ao, len, cap, hX, rfl, hcap, hv'⟩ := zt3 hn (h.evV he) hs (by omega) (by omega)
    have hb := zhg h true hlo hq h0 h1 h2 hcap
    unfold tsz at hz
    simp only [Option.map_eq_some_iff] at hz
    obtain ⟨inf, hinf, rfl⟩ := hz
    refine ⟨_, ?_, hv'⟩
    rw [run_sliceAt_slice (P := C.P) (w := w) t _ _ _ _ (by simp [Program.elem, hu]), hX]
    simp [Instr.slice, Sem.run_bind, run_underlying hu, hb, sizeOf, typeInfo, hinf]
  · simp at hp
theorem zkm (h : SRepG C st a w g lam) {o : Oper} {c : Prop} {v : EV} (hp : zak C.P st.ev (lk st.L) st.H o.op = some (c, v)) (hc : c) :
    zix C.P w g lam (execOp a.eval o) v := by
  unfold zak at hp
  split at hp
  -- move
  · rename_i x ho
    simp only [Option.some.injEq, Prod.mk.injEq] at hp; obtain ⟨rfl, rfl⟩ := hp
    exact .pure (by simp only [execOp, ho]; rfl) (h.ev x)
  · rename_i x ho
    simp only [Option.some.injEq, Prod.mk.injEq] at hp; obtain ⟨rfl, rfl⟩ := hp
    exact .pure (by simp only [execOp, ho]; rfl) (h.ev x)
  -- pick
  · rename_i x y z ho
    simp only [Option.map_eq_some_iff, Prod.mk.injEq] at hp
    obtain ⟨b, hb, rfl, rfl⟩ := hp
    have hx := h.evB hb
    refine .pure (x := if b then a.eval y else a.eval z) (by simp only [execOp, ho, hx]; cases b <;> rfl) ?_
    cases b
    · exact h.ev z
    · exact h.ev y
  -- load
  · rename_i t x ho
    split at hp
    · rename_i key off he
      simp only [Option.bind_eq_some_iff, Option.map_eq_some_iff, Prod.mk.injEq] at hp
      obtain ⟨cs, h1, n, h2, l, h3, v', h4, rfl, rfl⟩ := hp
      obtain ⟨c', e', k1, k2, k3, k4⟩ := h.lr.box key cs h1
      have hl := zgj k3 h3
      rw [Nat.zero_add] at hl
      refine (zrr h2 (zdz h3).1 hl h4).ret ?_
      simp only [execOp, ho, h.evL he, Instr.loadAt, Instr.sureAddr]; rfl
    · rename_i s off he
      simp only [Option.bind_eq_some_iff, Option.map_eq_some_iff, Prod.mk.injEq] at hp
      obtain ⟨n, h2, l, h3, v', h4, rfl, rfl⟩ := hp
      have hx := h.evV he
      simp only [zah] at hx
      obtain ⟨b, o', hx, hs⟩ := hx
      obtain ⟨k1, k2⟩ := zg5 h.wr hs h3
      refine (zrr h2 k2 k1 h4).ret ?_
      simp only [execOp, ho, hx, Instr.loadAt, Instr.sureAddr]; rfl
    · simp at hp
  -- nilCheck
  · rename_i x ho
    split at hp
    · rename_i key off he
      simp only [Option.some.injEq, Prod.mk.injEq] at hp; obtain ⟨rfl, rfl⟩ := hp
      exact .pure (x := .pointer (some ⟨lam key, off, none⟩)) (by simp only [execOp, ho, h.evL he]; rfl) rfl
    · rename_i s off he
      simp only [Option.some.injEq, Prod.mk.injEq] at hp; obtain ⟨rfl, rfl⟩ := hp
      have hx := h.evV he
      have hx' := hx
      simp only [zah] at hx
      obtain ⟨b, o', hx, hs⟩ := hx
      exact .pure (x := .pointer (some ⟨b, o' + off, none⟩)) (by simp only [execOp, ho, hx]; rfl) (by rw [hx] at hx'; exact hx')
    · rename_i f p q he
      simp only [Option.some.injEq, Prod.mk.injEq] at hp; obtain ⟨rfl, rfl⟩ := hp
      have hx := h.evV he
      have hx' := hx
      simp only [zah] at hx
      obtain ⟨fs, cs, hx, _⟩ := hx
      exact .pure (x := .func (.func f) fs cs) (by simp only [execOp, ho, hx]; rfl) (by rw [hx] at hx'; exact hx')
    · simp at hp
  -- binOp
  · rename_i op t x y yt ho
    split at hp
    · rename_i c' v' h1
      simp only [Option.some.injEq, Prod.mk.injEq] at hp; obtain ⟨rfl, rfl⟩ := hp
      refine (zl3 h1 hc x y (h.ev x) (h.ev y)).ret ?_
      simp only [execOp, ho]
    · simp only [Option.map_eq_some_iff, Prod.mk.injEq] at hp
      obtain ⟨v', h1, rfl, rfl⟩ := hp
      refine (zmj h.wr h1 x y (h.ev x) (h.ev y)).ret ?_
      simp only [execOp, ho]
  -- unOp
  · rename_i op t x ho
    simp only [Option.map_eq_some_iff, Prod.mk.injEq] at hp
    obtain ⟨⟨c', v'⟩, h1, h2, h3⟩ := hp
    simp only at h2 h3; subst h2 h3
    refine (zo6 h1 hc (h.ev x)).ret ?_
    simp only [execOp, ho]
  -- convert
  · rename_i src dst x ho
    split at hp
    · rename_i hs
      simp only [Option.map_eq_some_iff, Prod.mk.injEq] at hp
      obtain ⟨⟨c', v'⟩, h1, h2, h3⟩ := hp
      simp only at h2 h3; subst h2 h3
      refine (zl5 hs h1 hc (h.ev x)).ret ?_
      simp only [execOp, ho]
    · simp at hp
  -- fieldAddr
  · rename_i t x i ho
    simp only [Option.bind_eq_some_iff] at hp
    obtain ⟨⟨off, ft⟩, h1, hp⟩ := hp
    simp only at hp
    unfold zfa at h1
    split at h1
    case h_2 => simp at h1
    rename_i fs hu
    simp only [Option.map_eq_some_iff, Prod.mk.injEq] at h1
    obtain ⟨f, hf, rfl, rfl⟩ := h1
    split at hp
    case isFalse => simp at hp
    rename_i hz
    obtain ⟨n, hz, hn⟩ : ∃ n, tsz C.P f.type = some n ∧ 0 < n := by
      cases hq : tsz C.P f.type with
      | none => simp [hq] at hz
      | some n => exact ⟨n, rfl, by simpa [hq] using hz⟩
    split at hp
    · rename_i key off' he
      simp only [Option.some.injEq, Prod.mk.injEq] at hp; obtain ⟨rfl, rfl⟩ := hp
      refine .pure (x := .pointer (some ⟨lam key, off' + f.offset, none⟩)) ?_ rfl
      simp [execOp, ho, h.evL he, Instr.fieldAt, Sem.run_bind, run_underlying hu, hf, Instr.sureAddr, zes hz hn]
    · rename_i s off' he
      simp only [Option.some.injEq, Prod.mk.injEq] at hp; obtain ⟨rfl, rfl⟩ := hp
      have hx := h.evV he
      simp only [zah] at hx
      obtain ⟨b, o', hx, hs⟩ := hx
      refine .pure (x := .pointer (some ⟨b, o' + (off' + f.offset), none⟩)) ?_ (by simp only [zcj, zah]; exact ⟨b, o', rfl, hs⟩)
      simp [execOp, ho, hx, Instr.fieldAt, Sem.run_bind, run_underlying hu, hf, Instr.sureAddr, zes hz hn, Nat.add_assoc]
    · simp at hp
  -- field
  · rename_i t x i ho
    simp only [Option.bind_eq_some_iff] at hp
    obtain ⟨⟨off, ft⟩, h1, hp⟩ := hp
    simp only at hp
    unfold zfa at h1
    split at h1
    case h_2 => simp at h1
    rename_i fs hu
    simp only [Option.map_eq_some_iff, Prod.mk.injEq] at h1
    obtain ⟨f, hf, rfl, rfl⟩ := h1
    split at hp
    · rename_i cs he
      simp only [Option.bind_eq_some_iff, Option.map_eq_some_iff, Prod.mk.injEq] at hp
      obtain ⟨n, h2, l, h3, v', h4, rfl, rfl⟩ := hp
      have hx := h.evV he
      simp only [zah] at hx
      obtain ⟨vs, hx, hone, hr⟩ := hx
      obtain ⟨y, w', k1, k2, k3, k4⟩ := zqi hr hone h2 h3 h4
      exact ⟨y, w', by simp [execOp, ho, hx, Instr.field, Sem.run_bind, run_underlying hu, hf, asAgg, k1], k2, k3, k4⟩
    · simp at hp
  -- indexAddr
  · rename_i t x i ho
    split at hp
    · rename_i e s n ht hs hi
      simp only [Option.bind_eq_some_iff, Option.map_eq_some_iff, Prod.mk.injEq] at hp
      obtain ⟨len, h1, z, h2, rfl, rfl⟩ := hp
      obtain ⟨k, hi⟩ := zgi hi
      have hI : a.eval i = .int k n := by have := h.evV hi; simpa [zah] using this
      unfold zd5 at ht
      split at ht
      case h_2 => simp at ht
      rename_i e' hu
      simp only [Option.some.injEq] at ht; subst ht
      obtain ⟨ao, cap, hX, hcap, hb⟩ := slice_form h1 (h.evV hs)
      obtain ⟨b, o', rfl, hbase⟩ := hb (by omega)
      unfold tsz at h2
      simp only [Option.map_eq_some_iff] at h2
      obtain ⟨inf, hinf, rfl⟩ := h2
      refine .pure (x := .pointer (some ⟨b, o' + n.toNat * inf.size, none⟩)) ?_ (by simp only [zcj, zah]; exact ⟨b, o', rfl, hbase⟩)
      simp [execOp, ho, hX, hI, Instr.indexAt, asIntOf, Sem.run_bind, run_underlying hu, hc, sizeOf, typeInfo, hinf, Addr.add_mid]
    · rename_i x2 x3 n ht hi
      simp only [Option.bind_eq_some_iff] at hp
      obtain ⟨⟨len, e⟩, ht, z, h2, hp⟩ := hp
      obtain ⟨k, hi⟩ := zgi hi
      have hI : a.eval i = .int k n := by have := h.evV hi; simpa [zah] using this
      unfold zue at ht
      split at ht
      case h_2 => simp at ht
      rename_i n' e' hu
      simp only [Option.some.injEq, Prod.mk.injEq] at ht; obtain ⟨rfl, rfl⟩ := ht
      unfold tsz at h2
      simp only [Option.map_eq_some_iff] at h2
      obtain ⟨inf, hinf, rfl⟩ := h2
      split at hp
      · rename_i key off hx
        simp only [Option.some.injEq, Prod.mk.injEq] at hp; obtain ⟨rfl, rfl⟩ := hp
        refine .pure (x := .pointer (some ⟨lam key, off + n.toNat * inf.size, none⟩)) ?_ rfl
        simp [execOp, ho, h.evL hx, hI, Instr.indexAt, Instr.sureAddr, asIntOf, Sem.run_bind, run_underlying hu, hc, sizeOf, typeInfo, hinf, Addr.add_mid]
      · rename_i s off hx
        simp only [Option.some.injEq, Prod.mk.injEq] at hp; obtain ⟨rfl, rfl⟩ := hp
        have hX := h.evV hx
        simp only [zah] at hX
        obtain ⟨b, o', hX, hbase⟩ := hX
        refine .pure (x := .pointer (some ⟨b, o' + (off + n.toNat * inf.size), none⟩)) ?_ (by simp only [zcj, zah]; exact ⟨b, o', rfl, hbase⟩)
        simp [execOp, ho, hX, hI, Instr.indexAt, Instr.sureAddr, asIntOf, Sem.run_bind, run_underlying hu, hc, sizeOf, typeInfo, hinf, Addr.add_mid, Nat.add_assoc]
      · simp at hp
    · simp at hp
  -- extract
  · rename_i x i ho
    split at hp
    · rename_i vs he
      simp only [Option.map_eq_some_iff, Prod.mk.injEq] at hp
      obtain ⟨v', h1, rfl, rfl⟩ := hp
      have hx := h.evV he
      simp only [zah] at hx
      obtain ⟨xs, hx, hr⟩ := hx
      rw [zb6] at hr
      have hlt : i < xs.size := by have := (List.getElem?_eq_some_iff.1 h1).1; have := hr.1; simp at this; omega
      refine .pure (x := xs[i]) ?_ (hr.2 i v' xs[i] h1 (by simp [hlt]))
      simp [execOp, ho, hx, Instr.extract, hlt]
    · simp at hp
  -- slice
  · rename_i t x lo hi ho
    simp only [Option.map_eq_some_iff, Prod.mk.injEq] at hp
    obtain ⟨⟨c', v'⟩, h1, h2, h3⟩ := hp
    simp only at h2 h3; subst h2 h3
    obtain ⟨X, hX, hv⟩ := zjy h h1 hc
    exact .pure (x := X) (by simp [execOp, ho, Sem.run_bind, hX]) hv
  -- index
  · rename_i t x i ho
    simp only [Option.map_eq_some_iff, Prod.mk.injEq] at hp
    obtain ⟨⟨c', v'⟩, h1, h2, h3⟩ := hp
    simp only at h2 h3; subst h2 h3
    unfold zrn at h1
    split at h1
    · rename_i s n hu hx hi
      simp only [Option.some.injEq, Prod.mk.injEq] at h1; obtain ⟨rfl, rfl⟩ := h1
      obtain ⟨k, hi⟩ := zgi hi
      have hI : a.eval i = .int k n := by have := h.evV hi; simpa [zah] using this
      have hX := h.evV hx
      simp only [zah] at hX
      have hlt : n.toNat < s.size := by omega
      refine .pure (x := .int .u8 (zqx s n.toNat)) ?_ (by simp [zcj, zah])
      have : zqx s n.toNat = ((s[n.toNat]'hlt).toNat : Int) := by simp [zqx, hlt]
      simp [execOp, ho, hX, hI, Sem.run_bind, run_index_string (P := C.P) (w := w) t s k n hu, hc, this]
    · simp at h1
  -- build
  · rename_i t parts ho
    simp only [Option.map_eq_some_iff, Prod.mk.injEq] at hp
    obtain ⟨v', h1, rfl, rfl⟩ := hp
    unfold zgr at h1
    split at h1
    · rename_i z fs hz hu
      split at h1
      case isFalse => simp at h1
      rename_i hall
      simp only [Option.bind_eq_some_iff, Option.map_eq_some_iff] at h1
      obtain ⟨zc, hzc, out, hfl, rfl⟩ := h1
      unfold zg6 at hz
      simp only [Option.map_eq_some_iff, Option.bind_eq_some_iff] at hz
      obtain ⟨zv, ⟨inf, hinf, hzv⟩, rfl⟩ := hz
      obtain ⟨hzr, hzo⟩ := zcg (w := w) (g := g) hzc (zex w g zv)
      obtain ⟨vo, k1, k2, k3⟩ := zfb (vparts := (parts.map fun (p : Nat × Operand) => (p.1, a.eval p.2)).toList) hzr hzo hfl (by simp [List.map_map, Function.comp_def]) (by
        intro i p q v h1 h2 h3
        simp only [Array.toList_map, List.getElem?_map, Option.map_eq_some_iff] at h1 h2
        obtain ⟨r, hr, rfl⟩ := h1
        obtain ⟨r', hr', rfl⟩ := h2
        rw [hr] at hr'; simp only [Option.some.injEq] at hr'; subst hr'
        exact h.evV (zer h3))
      have hzrun : (zeroValue t).run C.P w = .ok zv w := by simp [zeroValue, typeInfo, hinf, Sem.run_bind, hzv]
      refine .pure (x := .agg vo) ?_ (by simp only [zcj, zah]; exact ⟨vo, rfl, k3, k2⟩)
      have hpl : (fs.mapM fun f => (do Pure.pure (f.offset, ← sizeOf f.type) : Sem (Nat × Nat))).run C.P w = .ok (fs.map fun f => (f.offset, (tsz C.P f.type).getD 0)) w := zmi fs hall
      have hfp : (fun i => (fs.map fun f => (f.offset, (tsz C.P f.type).getD 0))[i]?) = zh3 C.P fs := by
        funext i
        simp only [zh3, Array.getElem?_map]
        cases hq : fs[i]? with
        | none => rfl
        | some f =>
          have := (Array.all_eq_true_iff_forall_mem.1 hall) f (Array.mem_of_getElem? hq)
          obtain ⟨n, hn⟩ := Option.isSome_iff_exists.1 this
          simp [hn]
      have hpt : (parts.map fun x => match x with | (i, x) => (i, a.eval x)) = parts.map fun (p : Nat × Operand) => (p.1, a.eval p.2) := rfl
      simp only [execOp, ho, Instr.build, Sem.run_bind, hzrun, Result.andThen_ok, run_underlying hu, hpl, hfp]
      rw [hpt, k1]
      rfl
    · rename_i z n e hz hu
      simp only [Option.bind_eq_some_iff, Option.map_eq_some_iff] at h1
      obtain ⟨sz, hsz, zc, hzc, out, hfl, rfl⟩ := h1
      unfold zg6 at hz
      simp only [Option.map_eq_some_iff, Option.bind_eq_some_iff] at hz
      obtain ⟨zv, ⟨inf, hinf, hzv⟩, rfl⟩ := hz
      obtain ⟨hzr, hzo⟩ := zcg (w := w) (g := g) hzc (zex w g zv)
      obtain ⟨vo, k1, k2, k3⟩ := zfb (vparts := (parts.map fun (p : Nat × Operand) => (p.1, a.eval p.2)).toList) hzr hzo hfl (by simp [List.map_map, Function.comp_def]) (by
        intro i p q v h1 h2 h3
        simp only [Array.toList_map, List.getElem?_map, Option.map_eq_some_iff] at h1 h2
        obtain ⟨r, hr, rfl⟩ := h1
        obtain ⟨r', hr', rfl⟩ := h2
        rw [hr] at hr'; simp only [Option.some.injEq] at hr'; subst hr'
        exact h.evV (zer h3))
      have hzrun : (zeroValue t).run C.P w = .ok zv w := by simp [zeroValue, typeInfo, hinf, Sem.run_bind, hzv]
      unfold tsz at hsz
      simp only [Option.map_eq_some_iff] at hsz
      obtain ⟨i2, hi2, rfl⟩ := hsz
      have hs : (sizeOf e).run C.P w = .ok i2.size w := by simp [sizeOf, typeInfo, hi2, Sem.run_bind]
      refine .pure (x := .agg vo) ?_ (by simp only [zcj, zah]; exact ⟨vo, rfl, k3, k2⟩)
      have hpt : (parts.map fun x => match x with | (i, x) => (i, a.eval x)) = parts.map fun (p : Nat × Operand) => (p.1, a.eval p.2) := rfl
      simp only [execOp, ho, Instr.build, Sem.run_bind, hzrun, Result.andThen_ok, run_underlying hu, hs]
      rw [hpt, k1]
      rfl
    · simp at h1
  -- makeFunc
  · rename_i f first caps ho
    split at hp
    · rename_i p q h1 h2
      simp only [Option.some.injEq, Prod.mk.injEq] at hp; obtain ⟨rfl, rfl⟩ := hp
      refine .pure (x := .func (.func f) (first.map a.eval) (caps.map a.eval)) ?_ ?_
      · simp only [execOp, ho, Instr.makeFunc]; rfl
      · simp only [zcj, zah]
        exact ⟨_, _, rfl, by simpa using zhw h (xs := first.toList) h1, by simpa using zhw h (xs := caps.toList) h2⟩
    · simp at hp
  -- len
  · rename_i args ts ho
    split at hp
    · rename_i x e ha hu
      simp only [Option.map_eq_some_iff, Option.bind_eq_some_iff, Prod.mk.injEq] at hp
      obtain ⟨n, ⟨s, hs, hn⟩, rfl, rfl⟩ := hp
      simp only [Option.bind_eq_some_iff] at hu
      obtain ⟨t, ht, hu⟩ := hu
      obtain ⟨ao, cap, hX, _⟩ := slice_form hn (h.evV (zer hs))
      refine .pure (x := goInt n) ?_ (by simp [zcj, zah, goInt])
      have := args1 ha; subst this
      simp [execOp, ho, resolve, invoke, builtin, Builtin.len_, ht, Sem.run_bind, run_underlying hu, hX]
    · rename_i x ha hu
      split at hp
      · rename_i s hs
        simp only [Option.some.injEq, Prod.mk.injEq] at hp; obtain ⟨rfl, rfl⟩ := hp
        simp only [Option.bind_eq_some_iff] at hu
        obtain ⟨t, ht, hu⟩ := hu
        have hX := h.evV hs
        simp only [zah] at hX
        refine .pure (x := goInt s.size) ?_ (by simp [zcj, zah, goInt])
        have := args1 ha; subst this
        simp [execOp, ho, resolve, invoke, builtin, Builtin.len_, ht, Sem.run_bind, run_underlying hu, hX]
      · simp at hp
    · simp at hp
  -- min
  · rename_i args ts ho
    have hm : ∀ {x : Operand} {k : IntKind} {n : Int}, (st.ev x).asI = some (k, n) → a.eval x = .int k n := fun hx => h.evI hx
    split at hp
    · rename_i k x k' y ha
      split at hp
      case isFalse => simp at hp
      rename_i hk; subst hk
      simp only [Option.some.injEq, Prod.mk.injEq] at hp; obtain ⟨rfl, rfl⟩ := hp
      obtain ⟨p, q, rfl, h1, h2⟩ : ∃ p q, args = #[p, q] ∧ (st.ev p).asI = some (k, x) ∧ (st.ev q).asI = some (k, y) := by
        rcases args with ⟨l⟩
        simp only [List.map_eq_cons_iff, List.map_eq_nil_iff] at ha
        obtain ⟨p, _, rfl, h1, q, _, rfl, h2, rfl⟩ := ha
        exact ⟨p, q, rfl, h1, h2⟩
      refine .pure (x := .int k (min x y)) ?_ (by simp [zcj, zah])
      simp [execOp, ho, resolve, invoke, builtin, Builtin.min_, Sem.run_bind, hm h1, hm h2, zle]
    · rename_i k x k' y k'' z ha
      split at hp
      case isFalse => simp at hp
      rename_i hk; obtain ⟨rfl, rfl⟩ := hk
      simp only [Option.some.injEq, Prod.mk.injEq] at hp; obtain ⟨rfl, rfl⟩ := hp
      obtain ⟨p, q, r, rfl, h1, h2, h3⟩ : ∃ p q r, args = #[p, q, r] ∧ (st.ev p).asI = some (k, x) ∧ (st.ev q).asI = some (k, y) ∧ (st.ev r).asI = some (k, z) := by
        rcases args with ⟨l⟩
        simp only [List.map_eq_cons_iff, List.map_eq_nil_iff] at ha
        obtain ⟨p, _, rfl, h1, q, _, rfl, h2, r, _, rfl, h3, rfl⟩ := ha
        exact ⟨p, q, r, rfl, h1, h2, h3⟩
      refine .pure (x := .int k (min (min x y) z)) ?_ (by simp [zcj, zah])
      simp [execOp, ho, resolve, invoke, builtin, Builtin.min_, Sem.run_bind, hm h1, hm h2, hm h3, zle]
    · simp at hp
  · rename_i args ts ho
    have hm : ∀ {x : Operand} {k : IntKind} {n : Int}, (st.ev x).asI = some (k, n) → a.eval x = .int k n := fun hx => h.evI hx
    split at hp
    · rename_i k x k' y ha
      split at hp
      case isFalse => simp at hp
      rename_i hk; subst hk
      simp only [Option.some.injEq, Prod.mk.injEq] at hp; obtain ⟨rfl, rfl⟩ := hp
      obtain ⟨p, q, rfl, h1, h2⟩ : ∃ p q, args = #[p, q] ∧ (st.ev p).asI = some (k, x) ∧ (st.ev q).asI = some (k, y) := by
        rcases args with ⟨l⟩
        simp only [List.map_eq_cons_iff, List.map_eq_nil_iff] at ha
        obtain ⟨p, _, rfl, h1, q, _, rfl, h2, rfl⟩ := ha
        exact ⟨p, q, rfl, h1, h2⟩
      refine .pure (x := .int k (max x y)) ?_ (by simp [zcj, zah])
      simp [execOp, ho, resolve, invoke, builtin, Builtin.max_, Sem.run_bind, hm h1, hm h2, zla]
    · rename_i k x k' y k'' z ha
      split at hp
      case isFalse => simp at hp
      rename_i hk; obtain ⟨rfl, rfl⟩ := hk
      simp only [Option.some.injEq, Prod.mk.injEq] at hp; obtain ⟨rfl, rfl⟩ := hp
      obtain ⟨p, q, r, rfl, h1, h2, h3⟩ : ∃ p q r, args = #[p, q, r] ∧ (st.ev p).asI = some (k, x) ∧ (st.ev q).asI = some (k, y) ∧ (st.ev r).asI = some (k, z) := by
        rcases args with ⟨l⟩
        simp only [List.map_eq_cons_iff, List.map_eq_nil_iff] at ha
        obtain ⟨p, _, rfl, h1, q, _, rfl, h2, r, _, rfl, h3, rfl⟩ := ha
        exact ⟨p, q, r, rfl, h1, h2, h3⟩
      refine .pure (x := .int k (max (max x y) z)) ?_ (by simp [zcj, zah])
      simp [execOp, ho, resolve, invoke, builtin, Builtin.max_, Sem.run_bind, hm h1, hm h2, hm h3, zla]
    · simp at hp
  · simp at hp
end
theorem Since.ext {w w' : World} {g g' : Gh} {H H' : List (List AV)} (hw : WRep w g H) (h : Since w g H w' g' H') : Ext w g w' g' where
  fz := h.fz
  fzw b hb := h.keep b (hw.fzlt b hb) (by
    rintro ⟨id, cs, δ, hc, hp⟩
    obtain ⟨b', δ', c, e, h1, h2, h3, h4, h5, h6⟩ := hw.blk id cs hc
    rw [hp] at h1; simp only [Option.some.injEq, Prod.mk.injEq] at h1; obtain ⟨rfl, rfl⟩ := h1
    exact h5 hb)
  rho := h.rho
  bsz := h.bszk
theorem Since.trans {w₀ w w' : World} {g₀ g g' : Gh} {H₀ H H' : List (List AV)} (h : Since w₀ g₀ H₀ w g H) (hw : WRep w g H) (k : Since w g H w' g' H') : Since w₀ g₀ H₀ w' g' H' :=
  h.step (k.ext hw) k.sz k.keep k.fro k.fznew k.hbi k.len ⟨k.same.1, k.same.2.1, k.same.2.2⟩
section
variable {C : Cx} {st : St} {a : Act} {w : World} {g : Gh} {lam : Nat → Nat}
theorem SRepG.fin (L' : List (Nat × List AV)) (H' : List (List AV)) (l : Option (Nat × List AV)) (hL : L' = (match l with | some x => x :: st.L | none => st.L))
    (h : SRepG C ⟨st.env, L', H'⟩ a w g lam) {dst : Option Tmp} (hd : ∀ d, dst = some d → d < C.N) {v : Option EV} {x : Value}
    (hv : dst ≠ none → zcj w g lam (v.getD (.val .junk)) x) : zf5 C (st.app dst ⟨v, l, H'⟩) (a.put dst x) w := by
  subst hL
  refine ⟨g, lam, ?_⟩
  cases dst with
  | none => exact h
  | some d =>
    have := h.put (hd d rfl) (hv (by simp))
    cases v <;> exact this
theorem upon_value (P : Program) (o : Oper) (a : Act) (next : Act → World → Prop) (Q : Exit → Act → World → Prop) {r : Result Next} {x : Value} {w' : World} (h : r = .ok (.value x) w') (hn : next (a.put o.dst x) w') :
    o.upon P a next Q r := by subst h; exact hn
theorem zhu (P : Program) (o : Oper) (a : Act) (next : Act → World → Prop) (Q : Exit → Act → World → Prop) {r : Result Next} {w' : World} (h : r = .ok .skip w') (hn : next (a.put o.dst undef) w') :
    o.upon P a next Q r := by subst h; exact hn
theorem zeg {w : World} {g : Gh} {cs : List AV} {c : Array Value} (h : za7 w g cs c.toList) (ho : ∀ y ∈ c.toList, y.oneCell' = true) : zf6 w g cs c 0 := by
  rw [zb6] at h
  intro i cv hi
  have hlt : i < c.size := by have := (List.getElem?_eq_some_iff.1 hi).1; have := h.1; simp at this; omega
  exact ⟨c[i], by simp [hlt], ho _ (by simp), h.2 i cv c[i] hi (by simp [hlt])⟩
def zeq (C : Cx) (st : St) (dst : Option Tmp) (K : Eff → Prop) (a' : Act) (w' : World) : Prop := ∃ e, K e ∧ zf5 C (st.app dst e) a' w'
theorem zhp (h : SRepG C st a w g lam) {o : Oper} (hN : ∀ d, o.dst = some d → d < C.N) {NL : Nat → Prop} (hNL : ∀ d, NL d → zco st.ev d) {cs : List AV} {K : Eff → Prop}
    (hx : newX C.cfg NL st.H o.dst cs K) {zv : Value} {t : TypeId} (hr : za7 w g cs zv.cells.toList) (ho : ∀ y ∈ zv.cells.toList, y.oneCell' = true)
    (Q : Exit → Act → World → Prop) {r : Result Next} (hrun : r = .ok (.value (.pointer (some ⟨w.heap.size, 0, none⟩))) (w.alloc (.cells zv.cells t))) :
    o.upon C.P a (zeq C st o.dst K) Q r := by
  refine upon_value _ _ _ _ _ hrun ?_
  unfold newX at hx
  have hl : cs.length ≤ zv.cells.size := by have := zat hr; simp at this; omega
  split at hx
  · exact hx.elim
  · rename_i d hd
    split at hx
    · obtain ⟨h1, h2⟩ := h.newH (e := t) (zeg hr ho) hl
      refine ⟨_, hx, ?_⟩
      refine SRepG.fin (st := st) st.L _ none rfl h1 hN (fun _ => ?_)
      simp only [Option.getD_some, zcj, zah]
      exact ⟨w.heap.size, 0, rfl, by simp only [za8]; exact ⟨0, by simp [newG], rfl⟩⟩
    · obtain ⟨hn, hk⟩ := hx
      have h1 := h.newL (e := t) (hNL d hn) (zeg hr ho) hl h.si.sz
      refine ⟨_, hk, ?_⟩
      refine SRepG.fin (st := st) _ _ (some (d, cs)) rfl h1 hN (fun _ => ?_)
      simp [zcj]
theorem zmt {P : Program} {t : TypeId} {inf : TypeInfo} {zv : Value} (hi : P.info? t = some inf) (hz : inf.zero = some zv) (w : World) :
    (Instr.alloc t true (.tuple #[])).run P w = .ok (.pointer (some ⟨w.heap.size, 0, none⟩)) (w.alloc (.cells zv.cells t)) := by
  have hzr : (zeroValue t).run P w = .ok zv w := by simp [zeroValue, typeInfo, hi, Sem.run_bind, hz]
  simp [Instr.alloc, Sem.run_bind, hzr, newVar, newRow, newObj, Sem.run]
theorem zhr {cs vs : List AV} {c : Array Value} {xs : List Value} {δ p : Nat} (h : zf6 w g cs c δ) (hv : za7 w g vs xs) (ho : ∀ y ∈ xs, y.oneCell' = true)
    (hp : p + vs.length ≤ cs.length) (hc : δ + cs.length ≤ c.size) :
    zf6 w g (sc cs p vs) (c.toList.take (δ + p) ++ xs ++ c.toList.drop (δ + p + xs.length)).toArray δ := by
  have hl := zat hv
  rw [zb6] at hv
  intro i cv hi
  rw [zow _ _ _ _ hp] at hi
  have hidx : ((c.toList.take (δ + p) ++ xs ++ c.toList.drop (δ + p + xs.length)).toArray)[δ + i]? =
      if p ≤ i ∧ i < p + vs.length then xs[i - p]? else c[δ + i]? := by
    have ht : (c.toList.take (δ + p)).length = δ + p := by simp; omega
    simp only [List.getElem?_toArray]
    by_cases h1 : i < p
    · rw [if_neg (by omega), List.append_assoc, List.getElem?_append_left (by rw [ht]; omega), List.getElem?_take, if_pos (by omega)]
      simp
    · by_cases h2 : i < p + vs.length
      · rw [if_pos ⟨by omega, h2⟩, List.append_assoc, List.getElem?_append_right (by rw [ht]; omega), List.getElem?_append_left (by rw [ht]; omega), ht]
        congr 1; omega
      · rw [if_neg (by omega), List.append_assoc, List.getElem?_append_right (by rw [ht]; omega), List.getElem?_append_right (by rw [ht]; omega), ht, List.getElem?_drop]
        rw [show δ + p + xs.length + (δ + i - (δ + p) - xs.length) = δ + i from by omega]
        simp
  split at hi
  · rename_i hh
    have hlt : i - p < xs.length := by omega
    exact ⟨xs[i - p], by rw [hidx, if_pos hh]; simp [hlt], ho _ (by simp), hv.2 (i - p) cv _ hi (by simp [hlt])⟩
  · rename_i hh
    obtain ⟨v, h1, h2, h3⟩ := h i cv hi
    exact ⟨v, by rw [hidx, if_neg hh]; exact h1, h2, h3⟩
theorem zfo {c : Array Value} {xs : List Value} {q : Nat} (h : q + xs.length ≤ c.size) : (c.toList.take q ++ xs ++ c.toList.drop (q + xs.length)).toArray.size = c.size := by
  simp; omega
theorem zg2 (w : World) (b : Nat) (c : Array Value) : Sames w (w.setRow b c) := ⟨rfl, rfl, rfl⟩
theorem zdi {w : World} {a : Addr} {c : Array Value} {e : TypeId} (h : w.heap[a.block]? = some (.cells c e (0, 0))) : w.frozen? a = false := by simp [World.frozen?, h]
theorem SRepG.write (h : SRepG C st a w g lam) {id : Nat} {cs vs : List AV} {p b δ : Nat} {xs : List Value} (hid : st.H[id]? = some cs) (hcur : g.ρ id cs.length = some (b, δ))
    (hp : p + vs.length ≤ cs.length) (hold : C.cfg.n0 ≤ id ∨ mxL vs ≤ C.cfg.n0) (hv : za7 w g vs xs) (ho : ∀ y ∈ xs, y.oneCell' = true) :
    ∃ (c : Array Value) (e : TypeId), w.heap[b]? = some (.cells c e (0, 0)) ∧ δ + cs.length ≤ c.size ∧
    SRepG C { st with H := st.H.set id (sc cs p vs) } a (w.setRow b (c.toList.take (δ + p) ++ xs ++ c.toList.drop (δ + p + xs.length)).toArray) g lam := by
  obtain ⟨b', δ', c, e, k1, k2, k3, k4, k5, k6⟩ := h.wr.blk id cs hid
  rw [hcur] at k1; simp only [Option.some.injEq, Prod.mk.injEq] at k1; obtain ⟨rfl, rfl⟩ := k1
  refine ⟨c, e, k2, k3, ?_⟩
  have hxl := zat hv
  have hV := zhr (zf6.of_crep k4 k2) hv ho hp k3
  have hsz : (c.toList.take (δ + p) ++ xs ++ c.toList.drop (δ + p + xs.length)).toArray.size = c.size := zfo (by omega)
  have hnew := setRow_heap w b c (c.toList.take (δ + p) ++ xs ++ c.toList.drop (δ + p + xs.length)).toArray e _ k2
  have hmv : zhn g id (sc cs p vs).length b δ = g := by
    unfold zhn
    cases g with
    | mk ρ Fz =>
      simp only [Gh.mk.injEq, and_true]
      funext i n
      split
      · rename_i hh; obtain ⟨rfl, rfl⟩ := hh; rw [zee]; exact hcur.symm
      · rfl
  have hmx : C.cfg.n0 ≤ id ∨ mxL (sc cs p vs) ≤ C.cfg.n0 := by
    rcases Nat.lt_or_ge id C.cfg.n0 with hlt | hge
    · right
      rcases hold with h1 | h1
      · omega
      · refine zv8 hp ?_ h1
        exact h.om id cs hlt hid
    · exact .inl hge
  have := (h.repl (cs' := sc cs p vs) (b' := b) (δ' := δ) (e := e) hid hcur (by rw [zee]; exact Nat.le_refl _) hmx (w' := w.setRow b _) (by rw [setRow_size]; exact Nat.le_refl _)
    (fun k _ hk => setRow_other w b k _ hk) (fun n hn => by rw [zdp k2] at hn; rw [zdp hnew, hsz]; exact hn)
    (fun o => (zdi hnew).trans (zdi k2).symm) (zg2 w b _) hnew (.inl ⟨rfl, rfl⟩) hV (by rw [zee, hsz]; exact k3)
    (fun a' ha => (zdi (by rw [ha]; exact hnew)).trans (zdi (by rw [ha]; exact k2)).symm)).1
  rw [hmv] at this
  exact this
theorem zj0 {P : Program} {t : TypeId} {b o : Nat} {c : Array Value} {e : TypeId} {x : Value} (hb : w.heap[b]? = some (.cells c e (0, 0))) (hz : tsz P t = some x.cells.size)
    (hl : o + x.cells.size ≤ c.size) (ho : ∀ y ∈ x.cells.toList, y.oneCell' = true) :
    (storeVar t ⟨b, o, none⟩ x).run P w = .ok () (w.setRow b (c.toList.take o ++ x.cells.toList ++ c.toList.drop (o + x.cells.toList.length)).toArray) := by
  unfold tsz at hz
  simp only [Option.map_eq_some_iff] at hz
  obtain ⟨i, hi, hz⟩ := hz
  have hs : (sizeOf t).run P w = .ok i.size w := by simp [sizeOf, typeInfo, hi, Sem.run_bind]
  have hst := run_storeCells_at P b o e x.cells.toList 0 c w hb (by simpa using hl) ho
  simp only [storeVar, Sem.run_bind, hs, Result.andThen_ok, hz, ne_eq, not_true, if_false]
  simpa using hst
theorem zj1 (h : SRepG C st a w g lam) {o : Oper} (hdst : o.dst = none) {t : TypeId} {ax vx : Operand} (hop : o.op = .store t ax vx) {v : AV} {vs : List AV} (hv : st.ev vx = .val v) (hcl : v.cells = some vs)
    (hz : tsz C.P t = some vs.length) {K : Eff → Prop} (hx : zef C.cfg (lk st.L) st.H (st.ev ax) vs K) (Q : Exit → Act → World → Prop) :
    o.upon C.P a (zeq C st o.dst K) Q ((execOp a.eval o).run C.P w) := by
  obtain ⟨hr, ho⟩ := zcg hcl (h.evV hv)
  have hlen : (a.eval vx).cells.size = vs.length := by have := zat hr; simpa using this
  have hrunof : ∀ {b p : Nat} {c : Array Value} {e : TypeId}, a.eval ax = .pointer (some ⟨b, p, none⟩) → w.heap[b]? = some (.cells c e (0, 0)) → p + vs.length ≤ c.size →
      (execOp a.eval o).run C.P w = .ok .skip (w.setRow b (c.toList.take p ++ (a.eval vx).cells.toList ++ c.toList.drop (p + (a.eval vx).cells.toList.length)).toArray) := by
    intro b p c e hax hb hl
    have := zj0 (P := C.P) (t := t) (o := p) (x := a.eval vx) hb (by rw [hlen]; exact hz) (by rw [hlen]; exact hl) ho
    simp only [execOp, hop, hax, Instr.storeAt, Instr.sureAddr, Sem.run_bind, Sem.run_pure, Result.andThen_ok, this]
  unfold zef at hx
  split at hx
  · rename_i key off he
    split at hx
    case h_2 => exact hx.elim
    rename_i cs hc
    obtain ⟨hb, hk⟩ := hx
    obtain ⟨c, e, k1, k2, k3, k4⟩ := h.lr.box key cs hc
    refine zhu _ _ _ _ _ (hrunof (h.evL he) k1 (by omega)) ⟨_, hk, ?_⟩
    have hV := zhr (δ := 0) (zf6.of_crep k3 k1) hr ho hb (by omega)
    simp only [Nat.zero_add] at hV
    have h1 := (h.box (c' := (c.toList.take off ++ (a.eval vx).cells.toList ++ c.toList.drop (off + (a.eval vx).cells.toList.length)).toArray) hc k1
      (zfo (by simp [hlen]; omega)) (by rw [zee]; exact k2) hV).1
    rw [hdst]
    exact SRepG.fin (st := st) _ _ (some (key, sc cs off vs)) rfl h1 (fun d hd => by simp at hd) (fun hn => absurd rfl hn)
  · rename_i id gen p₀ _ _ off he
    split at hx
    case h_2 => exact hx.elim
    rename_i cs hc
    obtain ⟨hg, hb, hold, hk⟩ := hx
    have hX := h.evV he
    simp only [zah, za8] at hX
    obtain ⟨b, o', hX, δ, hρ, rfl⟩ := hX
    rw [← hg] at hρ
    obtain ⟨c, e, k1, k2, k3⟩ := h.write (p := p₀ + off) hc hρ hb hold hr ho
    refine zhu _ _ _ _ _ (hrunof (b := b) (p := δ + (p₀ + off)) (c := c) (e := e) (by rw [hX, Nat.add_assoc]) k1 (by omega)) ⟨_, hk, ?_⟩
    rw [hdst]
    exact SRepG.fin (st := st) st.L _ none rfl k3 (fun d hd => by simp at hd) (fun hn => absurd rfl hn)
  · exact hx.elim
end
section
variable {C : Cx} {st : St} {a : Act} {w : World} {g : Gh} {lam : Nat → Nat}
theorem zj4 (n : Nat) (zc : List AV) : ziw n zc = (List.replicate n zc).flatten := by
  unfold ziw
  split
  · rename_i z
    induction n with
    | zero => rfl
    | succ n ih =>
      show z :: List.replicate n z = [z] ++ (List.replicate n [z]).flatten
      rw [← ih]; rfl
  · rfl
theorem flat_get (zc : List AV) : ∀ (n i : Nat), i < n * zc.length → ((List.replicate n zc).flatten)[i]? = zc[i % zc.length]?
  | 0, i, h => by simp at h
  | n + 1, i, h => by
    rw [List.replicate_succ, List.flatten_cons]
    by_cases hi : i < zc.length
    · rw [List.getElem?_append_left hi, Nat.mod_eq_of_lt hi]
    · rw [List.getElem?_append_right (by omega), flat_get zc n (i - zc.length) (by rw [Nat.succ_mul] at h; omega)]
      congr 1
      rw [Nat.mod_eq_sub_mod (a := i) (by omega)]
theorem zdx (n : Nat) (zc : List AV) : (ziw n zc).length = n * zc.length := by rw [zj4]; simp
theorem zlw {zc : List AV} {z : Array Value} (hr : za7 w g zc z.toList) (ho : ∀ y ∈ z.toList, y.oneCell' = true) (n : Nat) :
    za7 w g (ziw n zc) ((Array.range (n * zc.length)).map (fun i => z[i % z.size]!)).toList ∧ ∀ y ∈ ((Array.range (n * zc.length)).map (fun i => z[i % z.size]!)).toList, y.oneCell' = true := by
  have hl : z.size = zc.length := by have := zat hr; simpa using this
  have hpos : ∀ i, i < n * zc.length → 0 < zc.length := by intro i hi; rcases Nat.eq_zero_or_pos zc.length with h | h; · simp [h] at hi
                                                           · exact h
  rw [zb6] at hr ⊢
  refine ⟨⟨by simp [zdx], fun i c v h1 h2 => ?_⟩, fun y hy => ?_⟩
  · have hi : i < n * zc.length := by have := (List.getElem?_eq_some_iff.1 h1).1; rwa [zdx] at this
    rw [zj4, flat_get zc n i hi] at h1
    have hm : i % z.size < z.size := Nat.mod_lt _ (by rw [hl]; exact hpos i hi)
    simp only [Array.toList_map, List.getElem?_map, Option.map_eq_some_iff, Array.toList_range] at h2
    obtain ⟨j, hj, rfl⟩ := h2
    have : j = i := by simpa [List.getElem?_range, hi] using hj.symm
    subst this
    rw [getElem!_pos z _ hm]
    refine hr.2 (j % z.size) c _ (by rw [hl]; exact h1) (by simp [hm])
  · simp only [Array.toList_map, List.mem_map, Array.toList_range, List.mem_range] at hy
    obtain ⟨i, hi, rfl⟩ := hy
    have hm : i % z.size < z.size := Nat.mod_lt _ (by rw [hl]; exact hpos i hi)
    rw [getElem!_pos z _ hm]
    exact ho _ (by simp)
theorem zh1 {P : Program} {t s by_ : Nat} {zc : List AV} (h : zhc P t = some (s, by_, zc)) :
    ∃ e inf zv, P.underlying t = some (.slice e) ∧ P.info? e = some inf ∧ inf.size = s ∧ inf.bytes = by_ ∧ inf.zero = some zv ∧ (aOf zv).cells = some zc := by
  unfold zhc at h
  simp only [Option.bind_eq_some_iff, Option.map_eq_some_iff, Prod.mk.injEq] at h
  obtain ⟨e, h1, inf, h2, z, ⟨zv, h3, rfl⟩, zc', h4, rfl, rfl, rfl⟩ := h
  unfold zd5 at h1
  split at h1
  · simp only [Option.some.injEq] at h1; subst h1
    exact ⟨_, inf, zv, by assumption, h2, rfl, rfl, h3, h4⟩
  · simp at h1
theorem ze1 (h : SRepG C st a w g lam) {o : Oper} (hN : ∀ d, o.dst = some d → d < C.N) {K : Eff → Prop} {cs : List AV} {c : Array Value} {e : TypeId} {n cap s : Nat}
    (hr : zf6 w g cs c 0) (hl : cs.length ≤ c.size) (hn : n * s ≤ cs.length) (hc : n ≤ cap) (hcap : cap * s ≤ c.size)
    (hk : K ⟨some (.val (.slm st.H.length cs.length 0 n s)), none, st.H ++ [cs]⟩) (Q : Exit → Act → World → Prop) {r : Result Next}
    (hrun : r = .ok (.value (.slice (some ⟨w.heap.size, 0, none⟩) n cap)) (w.alloc (.cells c e))) : o.upon C.P a (zeq C st o.dst K) Q r := by
  refine upon_value _ _ _ _ _ hrun ⟨_, hk, ?_⟩
  obtain ⟨h1, h2⟩ := h.newH (e := e) hr hl
  refine SRepG.fin (st := st) st.L _ none rfl h1 hN (fun _ => ?_)
  simp only [Option.getD_some, zcj, zah]
  exact ⟨w.heap.size, 0, cap, c.size, by simp [newG], rfl, hc, by omega, zdp (zft _ _), by omega⟩
theorem zic {P : Program} {t e : TypeId} {inf : TypeInfo} {zv : Value} {n : Int} {k k' : IntKind} (hu : P.underlying t = some (.slice e)) (hi : P.info? e = some inf) (hz : inf.zero = some zv)
    (h0 : 0 ≤ n) (hn : n ≤ 2 ^ 32) (hb : inf.bytes ≤ 2 ^ 10) (w : World) :
    (Instr.makeSlice t (.int k n) (.int k' n)).run P w = .ok (.slice (some ⟨w.heap.size, 0, none⟩) n.toNat n.toNat)
      (w.alloc (.cells ((Array.range (n.toNat * inf.size)).map (fun i => (if n.toNat * inf.size = 0 then #[] else zv.cells)[i % (if n.toNat * inf.size = 0 then #[] else zv.cells).size]!)) e)) := by
  have hw : IntKind.i64.wrap n = n := IntWalk.i64_in _ (by omega)
  have hti : (typeInfo e).run P w = .ok inf w := by simp [typeInfo, hi, Sem.run_bind]
  have hs : (sizeOf e).run P w = .ok inf.size w := by simp [sizeOf, hti, Sem.run_bind]
  have hzr : (zeroValue e).run P w = .ok zv w := by simp [zeroValue, hti, Sem.run_bind, hz]
  have hnn : ¬ n < 0 := by omega
  have hbig : ¬ ((inf.bytes : Int) * n > 2 ^ 48) := by
    have h1 : (inf.bytes : Int) ≤ 2 ^ 10 := by exact_mod_cast hb
    have := Int.mul_le_mul h1 hn h0 (by omega)
    omega
  have hroom : ¬ n.toNat * inf.bytes > roomBytes := by
    have h1 : n.toNat ≤ 2 ^ 32 := by omega
    have := Nat.mul_le_mul h1 hb
    simp only [roomBytes]; omega
  simp only [Instr.makeSlice, Sem.run_bind, run_underlying hu, Result.andThen_ok, asInt, asIntOf, Sem.run_pure, hti, hw, hs]
  simp only [hnn, decide_false, hbig, Bool.or_false, Int.lt_irrefl, gt_iff_lt, Bool.false_eq_true, if_false, askRoom, hroom, Sem.run_pure, Result.andThen_ok]
  by_cases hz0 : n.toNat * inf.size = 0
  · simp [hs, hz0, Sem.run_bind, newRow, newObj, Sem.run]
  · simp [hs, hz0, Sem.run_bind, newRow, newObj, Sem.run, hzr]
theorem zk9 {P : Program} {xs : List AV} {b o m : Nat} (hc : zcn w g xs b o) (hm : m ≤ xs.length) :
    ∃ arr : Array Value, (loadCells ⟨b, o, none⟩ m).run P w = .ok arr w ∧ za7 w g (xs.take m) arr.toList ∧ ∀ y ∈ arr.toList, y.oneCell' = true := by
  obtain ⟨vs, k1, k2, k3, k4⟩ := ze4 hc
  have hl := run_loadCells_list (P := P) w ⟨b, o, none⟩ (vs.take m) (fun j v hv => by
    rw [List.getElem?_take] at hv
    split at hv
    · rw [Addr.add_mid]; exact k1 j v hv
    · simp at hv)
  rw [show (vs.take m).length = m from by simp; omega] at hl
  refine ⟨_, hl, ?_, fun y hy => k4 y (List.mem_of_mem_take (by simpa using hy))⟩
  rw [zb6] at k2 ⊢
  refine ⟨by simp [k3], fun i c v h1 h2 => ?_⟩
  simp only [List.getElem?_take] at h1 h2
  split at h1
  · rename_i hi; simp only [hi, if_true] at h2; exact k2.2 i c v h1 h2
  · simp at h1
theorem zkr {P : Program} {H : List (List AV)} (hw : WRep w g H) {x : AV} {X : Value} {sz n : Nat} {xs : List AV} (hs : zj5 H sz x = some (n, xs)) (hv : zah w g x X) :
    xs.length = n * sz ∧ ∃ ao cap, X = .slice ao n cap ∧ ∀ m, m ≤ n → ∃ arr : Array Value, (Builtin.firstCells sz m X).run P w = .ok arr w ∧ za7 w g (xs.take (m * sz)) arr.toList ∧ ∀ y ∈ arr.toList, y.oneCell' = true := by
  unfold zj5 at hs
  split at hs
  · simp only [Option.some.injEq, Prod.mk.injEq] at hs; obtain ⟨rfl, rfl⟩ := hs
    simp only [zah] at hv; subst hv
    exact ⟨by simp, none, 0, rfl, fun m hm => ⟨#[], rfl, by simp [za7], by simp⟩⟩
  · simp only [Option.bind_eq_some_iff, Option.map_eq_some_iff, Prod.mk.injEq] at hs
    obtain ⟨len, h1, l, h2, rfl, rfl⟩ := hs
    obtain ⟨ao, cap, rfl, hcap, hb⟩ := slice_form h1 hv
    have hll : l.length = len * sz := by
      unfold zb4 at h2
      split at h2
      · exact (zdz h2).1
      · simp only [Option.bind_eq_some_iff] at h2
        obtain ⟨cs, _, h2⟩ := h2
        split at h2
        · exact (zdz h2).1
        · simp at h2
      · simp at h2
    refine ⟨hll, ao, cap, rfl, fun m hm => ?_⟩
    rcases Nat.eq_zero_or_pos len with h0 | h0
    · subst h0
      have : m = 0 := by omega
      subst this
      cases ao with
      | none => exact ⟨#[], rfl, by simp [za7], by simp⟩
      | some q => exact ⟨#[], by simp [Builtin.firstCells, loadCells, loadCellsFrom], by simp [za7], by simp⟩
    · obtain ⟨b, o, rfl, hbase⟩ := hb h0
      obtain ⟨k1, k2⟩ := zg5 hw hbase h2
      rw [Nat.add_zero] at k1
      obtain ⟨arr, j1, j2⟩ := zk9 (P := P) (m := m * sz) k1 (by rw [k2]; exact Nat.mul_le_mul_right _ hm)
      exact ⟨arr, j1, j2⟩
theorem zjf (newLen : Nat) : ∀ (r c : Nat), c ≤ newLen + (newLen + 768) / 4 → Builtin.growBy newLen r c ≤ newLen + (newLen + 768) / 4
  | 0, c, h => h
  | r + 1, c, h => by
    simp only [Builtin.growBy]
    split
    · exact h
    · exact zjf newLen r _ (by omega)
theorem zmc (need cap : Nat) (h : cap < need) : Builtin.nextslicecap need cap ≤ 2 * need + 512 := by
  unfold Builtin.nextslicecap
  split
  · omega
  · split
    · omega
    · have := zjf need 4 cap (by omega)
      omega
theorem zev (z : Array Value) (n : Nat) : (Builtin.zeroCells z n).size = n * z.size := by simp [Builtin.zeroCells]
theorem zd8 {P : Program} {t tx e ex : TypeId} {inf : TypeInfo} {zv : Value} (hu : P.underlying t = some (.slice e)) (hux : P.underlying tx = some (.slice ex)) (hi : P.info? e = some inf) (hz : inf.zero = some zv)
    {base bx : Option Addr} {len cap n capx : Nat} {ts : Array TypeId} {args : Array Value} (hts0 : ts[0]? = some t) (hts1 : ts[1]? = some tx) (ha0 : args[0]? = some (.slice base len cap)) (ha1 : args[1]? = some (.slice bx n capx))
    (hb : inf.bytes ≤ 2 ^ 10) (hb0 : 0 < inf.bytes) (hle : len + n ≤ 2 ^ 32) (hlt : cap < len + n) {old new : Array Value} {ty : TypeId}
    (ho : (Builtin.firstCells inf.size len (.slice base len cap)).run P { w with drawn := w.drawn + 1 } = .ok old { w with drawn := w.drawn + 1 })
    (hnw : (Builtin.firstCells inf.size n (.slice bx n capx)).run P { w with drawn := w.drawn + 1 } = .ok new { w with drawn := w.drawn + 1 }) :
    ∃ (nc : Nat), len + n ≤ nc ∧
      (Builtin.append_ ts ty args).run P w = .ok (.slice (some ⟨w.heap.size, 0, none⟩) (len + n) nc) (({ w with drawn := w.drawn + 1 } : World).alloc (.cells (old ++ new ++ Builtin.zeroCells zv.cells (nc - (len + n))) e)) := by
  have hti : ∀ w : World, (typeInfo e).run P w = .ok inf w := fun w => by simp [typeInfo, hi, Sem.run_bind]
  have hs : ∀ w : World, (sizeOf e).run P w = .ok inf.size w := fun w => by simp [sizeOf, hti, Sem.run_bind]
  have hzr : ∀ w : World, (zeroValue e).run P w = .ok zv w := fun w => by simp [zeroValue, hti, Sem.run_bind, hz]
  have hnc : ¬ len + n ≤ cap := by omega
  have hbig : ¬ (Builtin.nextslicecap (len + n) cap * inf.bytes > 2 ^ 48) := by
    have h1 := zmc (len + n) cap hlt
    have h2 : Builtin.nextslicecap (len + n) cap ≤ 2 ^ 34 := by omega
    have := Nat.mul_le_mul h2 hb
    omega
  have hbne : ¬ inf.bytes = 0 := by omega
  let nc := len + n + w.tape w.drawn (.appendCap (len + n) cap e) % (2 ^ 63 - (len + n))
  refine ⟨nc, by omega, ?_⟩
  have hroom : ∀ (k : Nat) (w : World), (askRoom k).run P w = .ok () w := by
    intro k w; unfold askRoom; split <;> rfl
  simp only [Builtin.append_, hts0, hts1, ha0, ha1, Sem.run_bind, run_underlying hu, run_underlying hux, Result.andThen_ok, hs, Builtin.lenOf, Sem.run_pure, hnc, if_false, hti,
    Bool.false_eq_true, false_or, hbne, and_false, hbig, choose, Sem.run, Question.forced, hroom, Bool.not_false, if_true]
  simp only [ho, hnw, hzr, Result.andThen_ok, newRow, newObj, Sem.run_bind, Sem.run, Question.cut, Sem.run_pure]
  rfl
end
end Go.Sx
