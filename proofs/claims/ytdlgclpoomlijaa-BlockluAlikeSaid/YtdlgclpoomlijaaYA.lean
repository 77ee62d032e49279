/- A part of the proofs of this seat: YA. No condition is set. -/
import Derived.Deep.MidRow
import Derived.IntWalk
import Derived.Laws.CopyRow
import Derived.Laws.FloatArith
import Derived.Laws.FloatBits
import Derived.WalkKit
import Derived.WalkLawsBesides
namespace Go.Sx
def isNaN (b : Nat) : Bool := (Ieee.double.read b).isNaN
def qn : Nat := 9221120237041090560
def cn (b : Nat) : Nat := if isNaN b then qn else b
inductive AV where
  | junk
  | bool (b : Bool)
  | int (k : IntKind) (n : Int)
  | flt (x : Nat)
  | fraw (b : Nat)
  | str (s : ByteArray)
  | slnil
  | sl (tag : Option (Nat × Nat)) (len : Nat) (cells : List AV)
  | slm (id gen off len sz : Nat)
  | eptr (s : AV) (off : Nat)
  | agg (cells : List AV)
  | tup (vs : List AV)
  | func (f : Nat) (first caps : List AV)
  | raw (v : Value)
structure Gh where
  ρ : Nat → Nat → Option (Nat × Nat)
  Fz : Nat → Prop
def bsz (w : World) (b : Nat) : Option Nat :=
  match w.heap[b]? with
  | some (.cells c _ _) => some c.size
  | _ => none
mutual
def zaj (w : World) (g : Gh) : AV → Value → Prop
  | .junk, _ => True
  | .bool b, v => v = .bool b
  | .int k n, v => v = .int k n
  | .flt x, v => ∃ b, v = .float .f64 b ∧ b < 2 ^ 64 ∧ cn b = x
  | .fraw b, v => v = .float .f64 b ∧ b < 2 ^ 64
  | .str s, v => v = .string s
  | .slnil, v => v = .slice none 0 0
  | .sl tag len cells, v =>
    ∃ cap, len ≤ cap ∧ ((cells = [] ∧ len = 0 ∧ tag = none ∧ ∃ ao, v = .slice ao len cap) ∨
      ∃ b o, v = .slice (some ⟨b, o, none⟩) len cap ∧ (tag = none ∨ tag = some (b, o)) ∧ g.Fz b ∧ zc9 w g cells b o)
  | .slm id gen off len sz, v =>
    ∃ b δ cap n, g.ρ id gen = some (b, δ) ∧ v = .slice (some ⟨b, δ + off, none⟩) len cap ∧ len ≤ cap ∧ off + len * sz ≤ gen ∧
      bsz w b = some n ∧ δ + off + cap * sz ≤ n
  | .eptr s off, v => ∃ b o, v = .pointer (some ⟨b, o + off, none⟩) ∧ zbi w g s b o
  | .agg cells, v => ∃ vs : Array Value, v = .agg vs ∧ (∀ x ∈ vs.toList, x.oneCell' = true) ∧ zba w g cells vs.toList
  | .tup cells, v => ∃ vs : Array Value, v = .tuple vs ∧ zba w g cells vs.toList
  | .func f first caps, v => ∃ fs cs : Array Value, v = .func (.func f) fs cs ∧ zba w g first fs.toList ∧ zba w g caps cs.toList
  | .raw v', v => v = v'
def zbi (w : World) (g : Gh) : AV → Nat → Nat → Prop
  | .sl tag _ cells, b, o => (tag = none ∨ tag = some (b, o)) ∧ g.Fz b ∧ zc9 w g cells b o
  | .slm id gen off _ _, b, o => ∃ δ, g.ρ id gen = some (b, δ) ∧ o = δ + off
  | _, _, _ => False
def zc9 (w : World) (g : Gh) : List AV → Nat → Nat → Prop
  | [], _, _ => True
  | c :: cs, b, o => (∃ v, w.cell? ⟨b, o, none⟩ = some v ∧ v.oneCell' = true ∧ zaj w g c v) ∧ zc9 w g cs b (o + 1)
def zba (w : World) (g : Gh) : List AV → List Value → Prop
  | [], vs => vs = []
  | c :: cs, vs => ∃ v rest, vs = v :: rest ∧ zaj w g c v ∧ zba w g cs rest
end
mutual
def mx : AV → Nat
  | .sl _ _ cells => mxL cells
  | .slm id _ _ _ _ => id + 1
  | .eptr s _ => mx s
  | .agg cells => mxL cells
  | .tup cells => mxL cells
  | .func _ first caps => max (mxL first) (mxL caps)
  | _ => 0
def mxL : List AV → Nat
  | [] => 0
  | c :: cs => max (mx c) (mxL cs)
end
structure ExtN (n : Nat) (w : World) (g : Gh) (w' : World) (g' : Gh) : Prop where
  fz : ∀ b, g.Fz b → g'.Fz b
  fzw : ∀ b, g.Fz b → w'.heap[b]? = w.heap[b]?
  rho : ∀ id gen p, id < n → g.ρ id gen = some p → g'.ρ id gen = some p
  bsz : ∀ b n, bsz w b = some n → bsz w' b = some n
structure Ext (w : World) (g : Gh) (w' : World) (g' : Gh) : Prop where
  fz : ∀ b, g.Fz b → g'.Fz b
  fzw : ∀ b, g.Fz b → w'.heap[b]? = w.heap[b]?
  rho : ∀ id gen p, g.ρ id gen = some p → g'.ρ id gen = some p
  bsz : ∀ b n, bsz w b = some n → bsz w' b = some n
theorem Ext.n {w w' : World} {g g' : Gh} (h : Ext w g w' g') (n : Nat) : ExtN n w g w' g' :=
  ⟨h.fz, h.fzw, fun id gen p _ => h.rho id gen p, h.bsz⟩
theorem Ext.refl (w : World) (g : Gh) : Ext w g w g := ⟨fun _ h => h, fun _ _ => rfl, fun _ _ _ h => h, fun _ _ h => h⟩
theorem Ext.trans {w₁ w₂ w₃ : World} {g₁ g₂ g₃ : Gh} (h : Ext w₁ g₁ w₂ g₂) (k : Ext w₂ g₂ w₃ g₃) : Ext w₁ g₁ w₃ g₃ :=
  ⟨fun b hb => k.fz b (h.fz b hb), fun b hb => (k.fzw b (h.fz b hb)).trans (h.fzw b hb), fun i e p hp => k.rho i e p (h.rho i e p hp), fun b n hb => k.bsz b n (h.bsz b n hb)⟩
theorem zpl {w w' : World} {b o : Nat} (h : w'.heap[b]? = w.heap[b]?) : w'.cell? ⟨b, o, none⟩ = w.cell? ⟨b, o, none⟩ := by
  simp only [World.cell?, h]
mutual
theorem zaj.extN {n : Nat} {w w' : World} {g g' : Gh} (h : ExtN n w g w' g') : ∀ (a : AV) (v : Value), mx a ≤ n → zaj w g a v → zaj w' g' a v
  | .junk, _, _, _ => by simp [zaj]
  | .bool b, v, _, hv => by simpa [zaj] using hv
  | .int k n, v, _, hv => by simpa [zaj] using hv
  | .flt x, v, _, hv => by simpa [zaj] using hv
  | .fraw b, v, _, hv => by simpa [zaj] using hv
  | .str s, v, _, hv => by simpa [zaj] using hv
  | .slnil, v, _, hv => by simpa [zaj] using hv
  | .raw _, v, _, hv => by simpa [zaj] using hv
  | .sl tag len cells, v, hm, hv => by
    simp only [zaj] at hv ⊢
    obtain ⟨cap, hc, h1 | ⟨b, o, h1, h2, h3, h4⟩⟩ := hv
    · exact ⟨cap, hc, .inl h1⟩
    · exact ⟨cap, hc, .inr ⟨b, o, h1, h2, h.fz b h3, zc9.extN h cells b o (by simpa [mx] using hm) (h.fzw b h3) h4⟩⟩
  | .slm id gen off len sz, v, hm, hv => by
    simp only [zaj] at hv ⊢
    obtain ⟨b, δ, cap, m, h1, h2, h3, h4, h5, h6⟩ := hv
    exact ⟨b, δ, cap, m, h.rho id gen _ (by simp [mx] at hm; omega) h1, h2, h3, h4, h.bsz b m h5, h6⟩
  | .eptr s off, v, hm, hv => by
    simp only [zaj] at hv ⊢
    obtain ⟨b, o, h1, h2⟩ := hv
    exact ⟨b, o, h1, zbi.extN h s b o (by simpa [mx] using hm) h2⟩
  | .agg cells, v, hm, hv => by
    simp only [zaj] at hv ⊢
    obtain ⟨vs, h1, h3, h2⟩ := hv
    exact ⟨vs, h1, h3, zba.extN h cells _ (by simpa [mx] using hm) h2⟩
  | .tup cells, v, hm, hv => by
    simp only [zaj] at hv ⊢
    obtain ⟨vs, h1, h2⟩ := hv
    exact ⟨vs, h1, zba.extN h cells _ (by simpa [mx] using hm) h2⟩
  | .func f first caps, v, hm, hv => by
    simp only [zaj] at hv ⊢
    simp only [mx] at hm
    obtain ⟨fs, cs, h1, h2, h3⟩ := hv
    exact ⟨fs, cs, h1, zba.extN h first _ (by omega) h2, zba.extN h caps _ (by omega) h3⟩
theorem zbi.extN {n : Nat} {w w' : World} {g g' : Gh} (h : ExtN n w g w' g') : ∀ (a : AV) (b o : Nat), mx a ≤ n → zbi w g a b o → zbi w' g' a b o
  | .sl tag len cells, b, o, hm, hv => by
    simp only [zbi] at hv ⊢
    exact ⟨hv.1, h.fz b hv.2.1, zc9.extN h cells b o (by simpa [mx] using hm) (h.fzw b hv.2.1) hv.2.2⟩
  | .slm id gen off len sz, b, o, hm, hv => by
    simp only [zbi] at hv ⊢
    obtain ⟨δ, h1, h2⟩ := hv
    exact ⟨δ, h.rho id gen _ (by simp [mx] at hm; omega) h1, h2⟩
  | .junk, _, _, _, hv => by simp [zbi] at hv
  | .bool _, _, _, _, hv => by simp [zbi] at hv
  | .int _ _, _, _, _, hv => by simp [zbi] at hv
  | .flt _, _, _, _, hv => by simp [zbi] at hv
  | .fraw _, _, _, _, hv => by simp [zbi] at hv
  | .str _, _, _, _, hv => by simp [zbi] at hv
  | .slnil, _, _, _, hv => by simp [zbi] at hv
  | .raw _, _, _, _, hv => by simp [zbi] at hv
  | .eptr _ _, _, _, _, hv => by simp [zbi] at hv
  | .agg _, _, _, _, hv => by simp [zbi] at hv
  | .tup _, _, _, _, hv => by simp [zbi] at hv
  | .func _ _ _, _, _, _, hv => by simp [zbi] at hv
theorem zc9.extN {n : Nat} {w w' : World} {g g' : Gh} (h : ExtN n w g w' g') : ∀ (cs : List AV) (b o : Nat), mxL cs ≤ n → w'.heap[b]? = w.heap[b]? → zc9 w g cs b o → zc9 w' g' cs b o
  | [], _, _, _, _, _ => by simp [zc9]
  | c :: cs, b, o, hm, hb, hv => by
    simp only [mxL] at hm
    simp only [zc9] at hv ⊢
    obtain ⟨⟨v, h1, h2, h3⟩, h4⟩ := hv
    exact ⟨⟨v, (zpl hb).trans h1, h2, zaj.extN h c v (by omega) h3⟩, zc9.extN h cs b (o + 1) (by omega) hb h4⟩
theorem zba.extN {n : Nat} {w w' : World} {g g' : Gh} (h : ExtN n w g w' g') : ∀ (cs : List AV) (vs : List Value), mxL cs ≤ n → zba w g cs vs → zba w' g' cs vs
  | [], vs, _, hv => by simpa [zba] using hv
  | c :: cs, vs, hm, hv => by
    simp only [mxL] at hm
    simp only [zba] at hv ⊢
    obtain ⟨v, rest, h1, h2, h3⟩ := hv
    exact ⟨v, rest, h1, zaj.extN h c v (by omega) h2, zba.extN h cs rest (by omega) h3⟩
end
theorem zaj.ext {w w' : World} {g g' : Gh} (h : Ext w g w' g') {a : AV} {v : Value} (hv : zaj w g a v) : zaj w' g' a v := zaj.extN (h.n _) a v (Nat.le_refl _) hv
theorem zbi.ext {w w' : World} {g g' : Gh} (h : Ext w g w' g') {a : AV} {b o : Nat} (hv : zbi w g a b o) : zbi w' g' a b o := zbi.extN (h.n _) a b o (Nat.le_refl _) hv
theorem zc9.ext {w w' : World} {g g' : Gh} (h : Ext w g w' g') {cs : List AV} {b o : Nat} (hb : w'.heap[b]? = w.heap[b]?) (hv : zc9 w g cs b o) : zc9 w' g' cs b o :=
  zc9.extN (h.n _) cs b o (Nat.le_refl _) hb hv
theorem zba.ext {w w' : World} {g g' : Gh} (h : Ext w g w' g') {cs : List AV} {vs : List Value} (hv : zba w g cs vs) : zba w' g' cs vs :=
  zba.extN (h.n _) cs vs (Nat.le_refl _) hv
end Go.Sx
set_option linter.unusedVariables false
namespace Go.Sx
inductive EV where
  | val (v : AV)
  | loc (key off : Nat)
structure St where
  env : List (Nat × EV)
  L : List (Nat × List AV)
  H : List (List AV)
structure Cfg where
  esc : Bool
  n0 : Nat
  fz : List Nat := []
def lk {α : Type} : List (Nat × α) → Nat → Option α
  | [], _ => none
  | (k, v) :: r, t => if k = t then some v else lk r t
def zb1 : Value → AV
  | .bool b => .bool b
  | .int k n => .int k n
  | .float .f64 b => if b < 2 ^ 64 then .flt (cn b) else .junk
  | .string s => .str s
  | .slice none 0 0 => .slnil
  | .pointer a => .raw (.pointer a)
  | .nilFunc => .raw .nilFunc
  | .nilIface => .raw .nilIface
  | _ => .junk
def aOf : Value → AV
  | .agg cs => if cs.toList.all (·.oneCell') then .agg (cs.toList.map zb1) else .junk
  | v => zb1 v
def St.ev (st : St) : Operand → EV
  | .tmp t => (lk st.env t).getD (.val .junk)
  | .const v => .val (aOf v)
  | .func f => .val (.func f [] [])
  | .global _ => .val .junk
def St.put (st : St) (dst : Option Tmp) (v : EV) : St :=
  match dst with
  | some d => { st with env := (d, v) :: st.env }
  | none => st
def EV.asV : EV → Option AV
  | .val v => some v
  | .loc _ _ => none
def EV.asB : EV → Option Bool
  | .val (.bool b) => some b
  | _ => none
def EV.isU : EV → Bool
  | .val (.tup []) => true
  | _ => false
def EV.asI : EV → Option (IntKind × Int)
  | .val (.int k n) => some (k, n)
  | _ => none
def AV.asF : AV → Option Nat
  | .flt x => some x
  | .fraw b => some (cn b)
  | _ => none
def AV.cells : AV → Option (List AV)
  | .agg cs => some cs
  | .junk => none
  | .tup _ => none
  | .raw v => if v.oneCell' then some [.raw v] else none
  | v => some [v]
def gc (cs : List AV) (off : Nat) : Nat → Option (List AV)
  | 0 => some []
  | n + 1 => (cs[off]?).bind fun c => (gc cs (off + 1) n).map (c :: ·)
def sc (cs : List AV) (off : Nat) : List AV → List AV
  | [] => cs
  | v :: vs => sc (cs.set off v) (off + 1) vs
def slen : AV → Option Nat
  | .slnil => some 0
  | .sl _ len _ => some len
  | .slm _ _ _ len _ => some len
  | _ => none
def zbx (H : List (List AV)) : AV → Nat → Nat → Option (List AV)
  | .sl _ _ cells, off, n => gc cells off n
  | .slm id gen o _ _, off, n => (H[id]?).bind fun cs => if cs.length = gen then gc cs (o + off) n else none
  | _, _, _ => none
def tsz (P : Program) (t : TypeId) : Option Nat := (P.info? t).map (·.size)
def zlq (P : Program) (t : TypeId) : Option Bool := (P.underlying t).map (·.isRow)
def zen (P : Program) (t : TypeId) : Option TypeId :=
  match P.underlying t with
  | some (.slice e) => some e
  | _ => none
def zyv (P : Program) (t : TypeId) : Option (Nat × TypeId) :=
  match P.underlying t with
  | some (.array n e) => some (n, e)
  | _ => none
def zh4 (P : Program) (t : TypeId) : Option AV := ((P.info? t).bind (·.zero)).map aOf
def ldv (P : Program) (t : TypeId) (cells : List AV) : Option AV :=
  match zlq P t, cells with
  | some true, cs => some (.agg cs)
  | some false, [c] => some c
  | _, _ => none
def fop (f : Nat → Nat → Option Nat) (x y : Nat) : Nat :=
  match f x y with
  | some r => cn r
  | none => qn
def zmy := fop Ieee.double.add
def zoe := fop Ieee.double.sub
def zd8 := fop Ieee.double.mul
def fdiv := fop Ieee.double.div
def feq (x y : Nat) : Bool := Ieee.double.order x y == some .eq
def flt (x y : Nat) : Bool := Ieee.double.order x y == some .lt
def z3i (x : Nat) : Nat := cn (Op.negFloat .f64 x)
def zf7 (op : BinOp) (k : IntKind) (x y : Int) : Int :=
  let a := BitVec.ofInt k.bits x
  let b := BitVec.ofInt k.bits y
  match op with
  | .and => k.wrap (a &&& b).toNat
  | .or => k.wrap (a ||| b).toNat
  | .xor => k.wrap (a ^^^ b).toNat
  | _ => k.wrap (a &&& ~~~b).toNat
def z2s (op : BinOp) (k : IntKind) (x y : Int) : Option (Prop × AV) :=
  match op with
  | .add => some (True, .int k (k.wrap (x + y)))
  | .sub => some (True, .int k (k.wrap (x - y)))
  | .mul => some (True, .int k (k.wrap (x * y)))
  | .quo => some (y ≠ 0, .int k (k.wrap (x.tdiv y)))
  | .rem => some (y ≠ 0, .int k (x.tmod y))
  | .and => some (True, .int k (zf7 .and k x y))
  | .or => some (True, .int k (zf7 .or k x y))
  | .xor => some (True, .int k (zf7 .xor k x y))
  | .andNot => some (True, .int k (zf7 .andNot k x y))
  | .eql => some (True, .bool (x == y))
  | .neq => some (True, .bool (x != y))
  | .lss => some (True, .bool (decide (x < y)))
  | .leq => some (True, .bool (decide (x ≤ y)))
  | .gtr => some (True, .bool (decide (x > y)))
  | .geq => some (True, .bool (decide (x ≥ y)))
  | _ => none
def shI (op : BinOp) (k : IntKind) (x y : Int) : Option (Prop × AV) :=
  match op with
  | .shl => some (0 ≤ y, .int k (k.wrap (x * 2 ^ (min y.toNat k.bits))))
  | .shr => some (0 ≤ y, .int k (x.fdiv (2 ^ (min y.toNat k.bits))))
  | _ => none
def z2r (op : BinOp) (x y : Nat) : Option (Prop × AV) :=
  match op with
  | .add => some (True, .flt (zmy x y))
  | .sub => some (True, .flt (zoe x y))
  | .mul => some (True, .flt (zd8 x y))
  | .quo => some (True, .flt (fdiv x y))
  | .eql => some (True, .bool (feq x y))
  | .neq => some (True, .bool (!feq x y))
  | .lss => some (True, .bool (flt x y))
  | .leq => some (True, .bool (flt x y || feq x y))
  | .gtr => some (True, .bool (flt y x))
  | .geq => some (True, .bool (flt y x || feq x y))
  | _ => none
def zls (H : List (List AV)) (id gen : Nat) : Bool :=
  match H[id]? with
  | some cs => cs.length == gen
  | none => false
def ptrEq (H : List (List AV)) : AV → Nat → AV → Nat → Option Bool
  | .slm id g o _ _, a, .slm id' g' o' _ _, b => if zls H id g && zls H id' g' then (if id = id' then some (decide (o + a = o' + b)) else some false) else none
  | .sl (some (p, o)) _ _, a, .sl (some (q, o')) _ _, b => if p = q then some (decide (o + a = o' + b)) else none
  | .slm id g _ _ _, _, .sl _ _ (_ :: _), _ => if zls H id g then some false else none
  | .sl _ _ (_ :: _), _, .slm id g _ _ _, _ => if zls H id g then some false else none
  | _, _, _, _ => none
def zre (P : Program) (t : TypeId) : Bool :=
  match P.underlying t with
  | some (.pointer e) => (tsz P e).any (0 < ·)
  | _ => false
def zxz (P : Program) (H : List (List AV)) (op : BinOp) (t : TypeId) (x y : EV) : Option AV :=
  match op, x, y with
  | .eql, .val (.eptr s a), .val (.eptr s' b) => if zre P t then (ptrEq H s a s' b).map .bool else none
  | .neq, .val (.eptr s a), .val (.eptr s' b) => if zre P t then (ptrEq H s a s' b).map fun r => .bool (!r) else none
  | _, _, _ => none
def zof (P : Program) (t : TypeId) : Bool :=
  match P.underlying t with
  | some (.pointer _) => true
  | _ => false
def zyt (P : Program) (t : TypeId) : Bool :=
  match P.underlying t with
  | some (.slice _) => true
  | _ => false
def zok (P : Program) (t : TypeId) : AV → AV → Option Bool
  | .eptr _ _, .raw (.pointer none) => if zof P t then some false else none
  | .raw (.pointer none), .eptr _ _ => if zof P t then some false else none
  | .raw (.pointer none), .raw (.pointer none) => if zof P t then some true else none
  | .slnil, .slnil => if zyt P t then some true else none
  | .slm _ _ _ _ _, .slnil => if zyt P t then some false else none
  | .sl _ _ (_ :: _), .slnil => if zyt P t then some false else none
  | _, _ => none
def z5a (op : BinOp) (a b : ByteArray) : Option (Prop × AV) :=
  match op with
  | .add => some (a.size + b.size ≤ 9223372036854775807, .str (a ++ b))
  | .eql => some (True, .bool (a.toList == b.toList))
  | .neq => some (True, .bool (!(a.toList == b.toList)))
  | _ => none
def zsp (P : Program) (t : TypeId) (xs ys : List AV) : Option Bool :=
  match P.underlying t, xs, ys with
  | some (.array 2 e), [.int k a, .int k' b], [.int l c, .int l' d] =>
    match P.underlying e, tsz P e, P.eqGuardType P.depth t with
    | some (.int k0), some 1, false => if k = k0 ∧ k' = k0 ∧ l = k0 ∧ l' = k0 then some (a == c && b == d) else none
    | _, _, _ => none
  | _, _, _ => none
def z0s (P : Program) (op : BinOp) (t : TypeId) (x y : AV) : Option (Prop × AV) :=
  match x, y with
  | .str a, .str b => z5a op a b
  | .agg xs, .agg ys =>
    match op with
    | .eql => (zsp P t xs ys).map fun r => (True, .bool r)
    | .neq => (zsp P t xs ys).map fun r => (True, .bool (!r))
    | _ => none
  | x, y =>
    match op with
    | .eql => (zok P t x y).map fun r => (True, .bool r)
    | .neq => (zok P t x y).map fun r => (True, .bool (!r))
    | _ => none
def zou (P : Program) (op : BinOp) (t : TypeId) (x y : EV) : Option (Prop × AV) :=
  match x, y with
  | .val (.int k a), .val (.int k' b) =>
    match op with
    | .shl | .shr => shI op k a b
    | _ => if k = k' then z2s op k a b else none
  | .val (.bool a), .val (.bool b) =>
    match P.underlying t, op with
    | some .bool, .eql => some (True, .bool (a == b))
    | some .bool, .neq => some (True, .bool (a != b))
    | _, _ => none
  | .val x, .val y =>
    match x.asF, y.asF with
    | some a, some b => z2r op a b
    | _, _ => z0s P op t x y
  | _, _ => none
def unV (op : UnOp) (x : EV) : Option (Prop × AV) :=
  match op, x with
  | .not, .val (.bool b) => some (True, .bool (!b))
  | .neg, .val (.int k n) => some (True, .int k (k.wrap (0 - n)))
  | .xor, .val (.int k n) => some (True, .int k (zf7 .xor k (if k.signed then -1 else k.max) n))
  | .neg, .val v => (v.asF).map fun x => (True, .flt (z3i x))
  | _, _ => none
def zwj (P : Program) (dst : TypeId) (x : EV) : Option (Prop × AV) :=
  match P.underlying dst, x with
  | some (.int k), .val (.int _ n) => some (True, .int k (k.wrap n))
  | some (.float .f64), .val (.int _ n) => some (True, .flt (cn (FloatKind.f64.nearest n)))
  | some (.float .f64), .val v => (v.asF).map fun x => (True, .flt x)
  | _, _ => none
def zfw (P : Program) (t : TypeId) (i : Nat) : Option (Nat × TypeId) :=
  match P.underlying t with
  | some (.struct fs) => (fs[i]?).map fun f => (f.offset, f.type)
  | _ => none
def zlp (k : EV) : Option Int := match k with
  | .val (.int _ n) => some n
  | _ => none
def zdp (place : Nat → Option (Nat × Nat)) (cells : List AV) : List (Nat × Option AV) → Option (List AV)
  | [] => some cells
  | (i, v) :: rest =>
    match place i, v.bind AV.cells with
    | some (off, size), some vs => if vs.length ≠ size ∨ off + vs.length > cells.length then none else zdp place (sc cells off vs) rest
    | _, _ => none
def zje (P : Program) (fs : Array Field) (i : Nat) : Option (Nat × Nat) :=
  (fs[i]?).bind fun f => (tsz P f.type).map fun s => (f.offset, s)
def zhk (P : Program) (ρ : Operand → EV) (t : TypeId) (parts : Array (Nat × Operand)) : Option AV :=
  match zh4 P t, P.underlying t with
  | some z, some (.struct fs) =>
    if fs.all (fun f => (tsz P f.type).isSome) then
      (z.cells).bind fun zc => (zdp (zje P fs) zc (parts.toList.map fun (i, x) => (i, (ρ x).asV))).map .agg
    else none
  | some z, some (.array _ e) => (tsz P e).bind fun s => (z.cells).bind fun zc => (zdp (fun i => some (i * s, s)) zc (parts.toList.map fun (i, x) => (i, (ρ x).asV))).map .agg
  | _, _ => none
def zj9 (ρ : Operand → EV) (d : Int) : Option Operand → Option Int
  | none => some d
  | some o => zlp (ρ o)
def zsi (z : Nat) (l h : Nat) : AV → Option AV
  | .slnil => some (.sl none 0 [])
  | .sl tag _ cells => if l < h then some (.sl (tag.map fun p => (p.1, p.2 + l * z)) (h - l) ((cells.drop (l * z)).take ((h - l) * z))) else some (.sl none 0 [])
  | .slm id gen off _ sz => if sz = z then (if l < h then some (.slm id gen (off + l * z) (h - l) z) else some (.sl none 0 [])) else none
  | _ => none
def zli (P : Program) (t : TypeId) (x : EV) (lo : Option Int) (hi : Int → Option Int) : Option (Prop × AV) :=
  match x, lo with
  | .val (.str s), some l => (match P.underlying t with
    | some .string => (hi s.size).map fun h => (0 ≤ l ∧ l ≤ h ∧ h ≤ s.size, .str (s.extract l.toNat h.toNat))
    | _ => none)
  | .val v, some l => (zen P t).bind fun e => (tsz P e).bind fun z => (slen v).bind fun n => (hi n).bind fun h => (zsi z l.toNat h.toNat v).map fun v' => (0 ≤ l ∧ l ≤ h ∧ h ≤ n, v')
  | _, _ => none
def zuq (s : ByteArray) (i : Nat) : Int := ((s[i]?).map fun b => (b.toNat : Int)).getD 0
def zvk (P : Program) (t : TypeId) (x : EV) (i : Option Int) : Option (Prop × AV) :=
  match P.underlying t, x, i with
  | some .string, .val (.str s), some n => some (0 ≤ n ∧ n < s.size, .int .u8 (zuq s n.toNat))
  | _, _, _ => none
def zas (P : Program) (ρ : Operand → EV) (lL : Nat → Option (List AV)) (H : List (List AV)) : Op → Option (Prop × EV)
  | .move x | .assign x => some (True, ρ x)
  | .pick c a b => ((ρ c).asB).map fun b0 => (True, if b0 then ρ a else ρ b)
  | .load t x =>
    match ρ x with
    | .loc key off => (lL key).bind fun cs => (tsz P t).bind fun n => (gc cs off n).bind fun l => (ldv P t l).map fun v => (True, .val v)
    | .val (.eptr s off) => (tsz P t).bind fun n => (zbx H s off n).bind fun l => (ldv P t l).map fun v => (True, .val v)
    | _ => none
  | .nilCheck x =>
    match ρ x with
    | .loc key off => some (True, .loc key off)
    | .val (.eptr s off) => some (True, .val (.eptr s off))
    | .val (.func f a b) => some (True, .val (.func f a b))
    | _ => none
  | .binOp op t x y _ =>
    match zou P op t (ρ x) (ρ y) with
    | some (c, v) => some (c, .val v)
    | none => (zxz P H op t (ρ x) (ρ y)).map fun v => (True, .val v)
  | .unOp op _ x => (unV op (ρ x)).map fun (c, v) => (c, .val v)
  | .convert src dst x => if (P.underlying src).isSome then (zwj P dst (ρ x)).map fun (c, v) => (c, .val v) else none
  | .fieldAddr t x i => (zfw P t i).bind fun (o, ft) =>
      if (tsz P ft).any (0 < ·) then
        match ρ x with
        | .loc key off => some (True, .loc key (off + o))
        | .val (.eptr s off) => some (True, .val (.eptr s (off + o)))
        | _ => none
      else none
  | .field t x i => (zfw P t i).bind fun (o, ft) =>
      match ρ x with
      | .val (.agg cs) => (tsz P ft).bind fun n => (gc cs o n).bind fun l => (ldv P ft l).map fun v => (True, .val v)
      | _ => none
  | .indexAddr t x i =>
    match zen P t, ρ x, zlp (ρ i) with
    | some e, .val s, some n =>
      (slen s).bind fun len => (tsz P e).map fun z => (0 ≤ n ∧ n < (len : Int), .val (.eptr s (n.toNat * z)))
    | none, _, some n => (zyv P t).bind fun (len, e) => (tsz P e).bind fun z =>
      match ρ x with
      | .loc key off => some (0 ≤ n ∧ n < (len : Int), .loc key (off + n.toNat * z))
      | .val (.eptr s off) => some (0 ≤ n ∧ n < (len : Int), .val (.eptr s (off + n.toNat * z)))
      | _ => none
    | _, _, _ => none
  | .extract x i =>
    match ρ x with
    | .val (.tup vs) => (vs[i]?).map fun v => (True, .val v)
    | _ => none
  | .slice t x lo hi none => (zli P t (ρ x) (zj9 ρ 0 lo) (fun n => zj9 ρ n hi)).map fun (c, v) => (c, .val v)
  | .index t x i => (zvk P t (ρ x) (zlp (ρ i))).map fun (c, v) => (c, .val v)
  | .build t parts => (zhk P ρ t parts).map fun v => (True, .val v)
  | .makeFunc (.func f) first caps =>
      match (first.toList.map fun x => (ρ x).asV).mapM id, (caps.toList.map fun x => (ρ x).asV).mapM id with
      | some a, some b => some (True, .val (.func f a b))
      | _, _ => none
  | .call { callee := .builtin .len, args := args, argTypes := ts } =>
      match args.toList, (ts[0]?).bind P.underlying with
      | [x], some (.slice _) => ((ρ x).asV.bind slen).map fun (n : Nat) => (True, .val (.int .i64 (n : Int)))
      | [x], some .string => match ρ x with
        | .val (.str s) => some (True, .val (.int .i64 s.size))
        | _ => none
      | _, _ => none
  | .call { callee := .builtin .min, args := args, .. } =>
      match args.toList.map (fun x => (ρ x).asI) with
      | [some (k, a), some (k', b)] => if k = k' then some (True, .val (.int k (min a b))) else none
      | [some (k, a), some (k', b), some (k'', c)] => if k = k' ∧ k = k'' then some (True, .val (.int k (min (min a b) c))) else none
      | _ => none
  | .call { callee := .builtin .max, args := args, .. } =>
      match args.toList.map (fun x => (ρ x).asI) with
      | [some (k, a), some (k', b)] => if k = k' then some (True, .val (.int k (max a b))) else none
      | [some (k, a), some (k', b), some (k'', c)] => if k = k' ∧ k = k'' then some (True, .val (.int k (max (max a b) c))) else none
      | _ => none
  | _ => none
structure WRep (w : World) (g : Gh) (H : List (List AV)) : Prop where
  blk : ∀ id cs, H[id]? = some cs → ∃ b δ c e, g.ρ id cs.length = some (b, δ) ∧ w.heap[b]? = some (.cells c e (0, 0)) ∧ δ + cs.length ≤ c.size ∧
    zc9 w g cs b δ ∧ ¬ g.Fz b ∧ mxL cs ≤ H.length
  inj : ∀ id id' cs cs' b δ δ', H[id]? = some cs → H[id']? = some cs' → g.ρ id cs.length = some (b, δ) → g.ρ id' cs'.length = some (b, δ') → id = id'
  fzlt : ∀ b, g.Fz b → b < w.heap.size
  rholt : ∀ id gen b δ, g.ρ id gen = some (b, δ) → b < w.heap.size
  rhoid : ∀ id gen p, g.ρ id gen = some p → ∃ cs, H[id]? = some cs ∧ gen ≤ cs.length
def HB (g : Gh) (H : List (List AV)) (b : Nat) : Prop := ∃ id cs δ, H[id]? = some cs ∧ g.ρ id cs.length = some (b, δ)
structure Since (w₀ : World) (g₀ : Gh) (H₀ : List (List AV)) (w : World) (g : Gh) (H : List (List AV)) : Prop where
  sz : w₀.heap.size ≤ w.heap.size
  keep : ∀ b, b < w₀.heap.size → ¬ HB g₀ H₀ b → w.heap[b]? = w₀.heap[b]?
  bszk : ∀ b n, bsz w₀ b = some n → bsz w b = some n
  fro : ∀ a : Addr, a.block < w₀.heap.size → w.frozen? a = w₀.frozen? a
  fz : ∀ b, g₀.Fz b → g.Fz b
  fznew : ∀ b, g.Fz b → b < w₀.heap.size → g₀.Fz b
  rho : ∀ id gen p, g₀.ρ id gen = some p → g.ρ id gen = some p
  hbi : ∀ id cs b δ, b < w₀.heap.size → H[id]? = some cs → g.ρ id cs.length = some (b, δ) → ∃ cs₀, H₀[id]? = some cs₀ ∧ g₀.ρ id cs₀.length = some (b, δ)
  len : H₀.length ≤ H.length
  same : w.os = w₀.os ∧ w.output = w₀.output ∧ w.tape = w₀.tape
theorem Since.hb {w₀ : World} {g₀ : Gh} {H₀ : List (List AV)} {w : World} {g : Gh} {H : List (List AV)} (h : Since w₀ g₀ H₀ w g H) : ∀ b, b < w₀.heap.size → HB g H b → HB g₀ H₀ b := by
  rintro b hb ⟨id, cs, δ, h1, h2⟩
  obtain ⟨cs₀, h3, h4⟩ := h.hbi id cs b δ hb h1 h2
  exact ⟨id, cs₀, δ, h3, h4⟩
def Spec (P : Program) (f : Nat) (args : List AV) (H : List (List AV)) (r : AV) (H' : List (List AV)) : Prop :=
  ∀ (w : World) (g : Gh) (cargs : Array Value), WRep w g H → zba w g args cargs.toList →
    Calls P f cargs w fun e w' => ∃ v g', e = .returned v ∧ WRep w' g' H' ∧ Since w g H w' g' H' ∧ zaj w' g' r v
def Enters (P : Program) (f : Nat) : Prop := ∀ (args : Array Value) (w : World), (callFunc f args).run P w = .ok (.enter f args) w
def zaa (P : Program) (f : Nat) (args : List AV) (H : List (List AV)) (r : AV) (H' : List (List AV)) : Prop :=
  (Enters P f ∧ Spec P f args H r H') ∨
  (H' = H ∧ ∀ (w : World) (g : Gh) (cargs : Array Value), zba w g args cargs.toList → ∃ v, (callFunc f cargs).run P w = .ok (.value v) w ∧ zaj w g r v)
def za7 (n : Nat) (H H' : List (List AV)) : Prop := ∀ (id : Nat) cs, id < n → H'[id]? = some cs → H[id]? = some cs ∨ mxL cs ≤ n
@[simp] theorem za7.refl (n : Nat) (H : List (List AV)) : za7 n H H := fun _ _ _ h => .inl h
def zgy (key : Nat) : List (Nat × EV) → Bool
  | [] => true
  | (_, .val _) :: r => zgy key r
  | (_, .loc k _) :: r => if k = key then false else zgy key r
def zde (ρ : Operand → EV) (key : Nat) : Prop := ∀ t off, ρ (.tmp t) ≠ .loc key off
def zkb (n : Nat) (zc : List AV) : List AV :=
  match zc with
  | [z] => List.replicate n z
  | _ => (List.replicate n zc).flatten
structure Eff where
  v : Option EV
  l : Option (Nat × List AV)
  H : List (List AV)
def St.app (st : St) (dst : Option Tmp) (e : Eff) : St :=
  { env := match dst, e.v with
      | some d, some v => (d, v) :: st.env
      | some d, none => (d, .val .junk) :: st.env
      | none, _ => st.env
    L := match e.l with
      | some x => x :: st.L
      | none => st.L
    H := e.H }
def newX (cfg : Cfg) (NL : Nat → Prop) (H : List (List AV)) (dst : Option Tmp) (cs : List AV) (K : Eff → Prop) : Prop :=
  match dst with
  | none => False
  | some d =>
    if cfg.esc then K ⟨some (.val (.eptr (.slm H.length cs.length 0 1 cs.length) 0)), none, H ++ [cs]⟩
    else NL d ∧ K ⟨some (.loc d 0), some (d, cs), H⟩
def zez (cfg : Cfg) (lL : Nat → Option (List AV)) (H : List (List AV)) (x : EV) (vs : List AV) (K : Eff → Prop) : Prop :=
  match x with
  | .loc key off =>
    match lL key with
    | some cs => off + vs.length ≤ cs.length ∧ K ⟨none, some (key, sc cs off vs), H⟩
    | none => False
  | .val (.eptr (.slm id gen o _ _) off) =>
    match H[id]? with
    | some cs => cs.length = gen ∧ o + off + vs.length ≤ cs.length ∧ (cfg.n0 ≤ id ∨ mxL vs ≤ cfg.n0) ∧ K ⟨none, none, H.set id (sc cs (o + off) vs)⟩
    | none => False
  | _ => False
def zlk (H : List (List AV)) (sz : Nat) (x : AV) : Option (Nat × List AV) :=
  match x with
  | .slnil => some (0, [])
  | x => (slen x).bind fun n => (zbx H x 0 (n * sz)).map fun xs => (n, xs)
def zj8 (cfg : Cfg) (sz : Nat) (H : List (List AV)) (s : AV) (n : Nat) (xs : List AV) (K : Eff → Prop) : Prop :=
  match s with
  | .slnil => n ≤ 2 ^ 32 ∧ (n = 0 → K ⟨some (.val .slnil), none, H⟩) ∧
      (n ≠ 0 → K ⟨some (.val (.slm H.length xs.length 0 n sz)), none, H ++ [xs]⟩)
  | .slm id gen o len z =>
    match H[id]? with
    | some cs => z = sz ∧ cs.length = gen ∧ o = 0 ∧ len * sz = gen ∧ len + n ≤ 2 ^ 32 ∧ (cfg.n0 ≤ id ∨ mxL xs ≤ cfg.n0) ∧
        K ⟨some (.val (.slm id (cs.length + xs.length) 0 (len + n) sz)), none, H.set id (cs ++ xs)⟩
    | none => False
  | _ => False
def zsf (cfg : Cfg) (sz : Nat) (H : List (List AV)) (d : AV) (n : Nat) (xs : List AV) (K : Eff → Prop) : Prop :=
  match d with
  | .slm id gen o len z =>
    match H[id]? with
    | some cs => z = sz ∧ cs.length = gen ∧ (cfg.n0 ≤ id ∨ mxL xs ≤ cfg.n0) ∧ o + len * sz ≤ cs.length ∧
        K ⟨some (.val (.int .i64 (min n len : Nat))), none, H.set id (sc cs o (xs.take (min n len * sz)))⟩
    | none => False
  | _ => False
def zfc (ρ : Operand → EV) (xs : List Operand) : Option (List AV) := (xs.map fun x => (ρ x).asV).mapM id
def zic (P : Program) (t : TypeId) : Option (Nat × Nat × List AV) :=
  (zen P t).bind fun e => (P.info? e).bind fun i => (i.zero.map aOf).bind fun z => z.cells.map fun zc => (i.size, i.bytes, zc)
def opE (P : Program) (cfg : Cfg) (ρ : Operand → EV) (NL : Nat → Prop) (lL : Nat → Option (List AV)) (H : List (List AV)) (o : Oper) (K : Eff → Prop) : Prop :=
  match o.op with
  | .alloc t =>
    match (zh4 P t).bind AV.cells with
    | some cs => newX cfg NL H o.dst cs K
    | none => False
  | .box t x =>
    match ((ρ x).asV).bind AV.cells with
    | some cs => newX cfg NL H o.dst cs K
    | none => False
  | .store t x v =>
    match ((ρ v).asV).bind AV.cells with
    | some vs => tsz P t = some vs.length ∧ o.dst = none ∧ zez cfg lL H (ρ x) vs K
    | none => False
  | .buildSlice t len parts =>
    match zic P t with
    | some (s, _, zc) =>
      match zdp (fun i => some (i * s, s)) (zkb len zc) (parts.toList.map fun (i, x) => (i, (ρ x).asV)) with
      | some cs => zc.length = s ∧ 0 < s ∧ len * s ≤ 2 ^ 24 ∧
          if o.dst.any cfg.fz.contains then K ⟨some (.val (.sl none len cs)), none, H⟩ else K ⟨some (.val (.slm H.length cs.length 0 len s)), none, H ++ [cs]⟩
      | none => False
    | none => False
  | .makeSlice t l c =>
    match zic P t, (ρ l).asI, (ρ c).asI with
    | some (s, by_, zc), some (_, n), some (_, m) =>
      n = m ∧ 0 ≤ n ∧ n ≤ 2 ^ 32 ∧ by_ ≤ 2 ^ 10 ∧ zc.length = s ∧ 0 < s ∧
        K ⟨some (.val (.slm H.length (zkb n.toNat zc).length 0 n.toNat s)), none, H ++ [zkb n.toNat zc]⟩
    | _, _, _ => False
  | .call { callee := .builtin .append, args := args, argTypes := ts } =>
    match args.toList.map (fun x => (ρ x).asV), ts.toList with
    | [some s, some x], [t, tx] =>
      match zic P t, zen P tx with
      | some (sz, by_, zc), some _ =>
        match zlk H sz x with
        | some (n, xs) => by_ ≤ 2 ^ 10 ∧ 0 < by_ ∧ zc.length = sz ∧ 0 < sz ∧ zj8 cfg sz H s n xs K
        | none => False
      | _, _ => False
    | _, _ => False
  | .call { callee := .builtin .copy, args := args, argTypes := ts } =>
    match args.toList.map (fun x => (ρ x).asV), ts.toList with
    | [some d, some x], [t, tx] =>
      match (zen P t).bind (tsz P), zen P tx with
      | some sz, some _ =>
        match zlk H sz x with
        | some (n, xs) => 0 < sz ∧ zsf cfg sz H d n xs K
        | none => False
      | _, _ => False
    | _, _ => False
  | .call { callee := .value f, args := args, .. } =>
    match ρ f, zfc ρ args.toList with
    | .val (.func id first caps), some vs => ∃ r H', zaa P id (first ++ vs ++ caps) H r H' ∧ za7 cfg.n0 H H' ∧ K ⟨some (.val r), none, H'⟩
    | _, _ => False
  | op =>
    match zas P ρ lL H op with
    | some (c, v) => c ∧ K ⟨some v, none, H⟩
    | none => False
def opX (P : Program) (cfg : Cfg) (o : Oper) (K : St → Prop) (st : St) : Prop :=
  opE P cfg st.ev (fun d => zgy d st.env = true ∨ zde st.ev d) (lk st.L) st.H o fun e => K (st.app o.dst e)
def upd (t : Nat) (v : EV) : List (Nat × EV) → List (Nat × EV)
  | [] => []
  | (k, x) :: r => if k = t then (k, v) :: r else (k, x) :: upd t v r
def zau (P : Program) (cfg : Cfg) (ops : Array Oper) : Option (Nat × Bool) → List Oper → (St → Prop) → St → Prop
  | _, [], Q, st => Q st
  | kn, o :: rest, Q, st =>
    match o.guard with
    | none => opX P cfg o (zau P cfg ops (if kn.any (fun p => ((ops[p.1]?).bind (·.dst)) == o.dst) then none else kn) rest Q) st
    | some (j, want) =>
      match (ops[j]?).bind (·.dst) with
      | none => False
      | some t =>
        if o.dst = some t then False else
        if kn = some (j, want) then opX P cfg o (zau P cfg ops kn rest Q) st else
        if kn = some (j, !want) then zau P cfg ops kn rest Q (st.put o.dst (.val (.tup []))) else
        match (st.ev (.tmp t)).asB with
        | none => if (st.ev (.tmp t)).isU then zau P cfg ops (if kn.any (fun p => ((ops[p.1]?).bind (·.dst)) == o.dst) then none else kn) rest Q (st.put o.dst (.val (.tup []))) else False
        | some b =>
          (b = want → opX P cfg o (zau P cfg ops (some (j, want)) rest Q) ⟨upd t (.val (.bool want)) st.env, st.L, st.H⟩) ∧
          (b = !want → zau P cfg ops (some (j, !want)) rest Q (St.put ⟨upd t (.val (.bool (!want))) st.env, st.L, st.H⟩ o.dst (.val (.tup []))))
inductive XE where
  | normal
  | exit (id : Nat)
  | ret
def prune (ks : List Nat) (st : St) : St :=
  ⟨ks.filterMap (fun k => (lk st.env k).map (k, ·)), ks.filterMap (fun k => (lk st.L k).map (k, ·)), st.H⟩
def zfj (X : (XE → St → Prop) → St → Prop) (ks : List Nat) (Q : XE → St → Prop) : Nat → St → Prop
  | 0, _ => False
  | n + 1, st => X (fun e s => match e with | .normal => zfj X ks Q n (prune ks s) | e => Q e s) st
theorem zdl {w : World} {g : Gh} : ∀ {cs : List AV} {b o : Nat}, zc9 w g cs b o ↔ ∀ (i : Nat) c, cs[i]? = some c → ∃ v, w.cell? ⟨b, o + i, none⟩ = some v ∧ v.oneCell' = true ∧ zaj w g c v
  | [], b, o => by simp [zc9]
  | c :: cs, b, o => by
    rw [zc9, zdl (cs := cs)]
    constructor
    · rintro ⟨h1, h2⟩ i d hi
      cases i with
      | zero => simp at hi; subst hi; simpa using h1
      | succ i => simp at hi; have := h2 i d hi; rwa [show o + 1 + i = o + (i + 1) from by omega] at this
    · intro h
      refine ⟨by simpa using h 0 c (by simp), fun i d hi => ?_⟩
      have := h (i + 1) d (by simpa using hi)
      rwa [show o + (i + 1) = o + 1 + i from by omega] at this
theorem zat {w : World} {g : Gh} : ∀ {cs : List AV} {vs : List Value}, zba w g cs vs → vs.length = cs.length
  | [], vs, h => by simp [zba] at h; simp [h]
  | c :: cs, vs, h => by
    simp only [zba] at h
    obtain ⟨v, rest, rfl, _, h⟩ := h
    simp [zat h]
theorem zcl {w : World} {g : Gh} : ∀ {cs : List AV} {vs : List Value}, zba w g cs vs ↔ vs.length = cs.length ∧ ∀ (i : Nat) c v, cs[i]? = some c → vs[i]? = some v → zaj w g c v
  | [], vs => by simp [zba]
  | c :: cs, vs => by
    rw [zba]
    constructor
    · rintro ⟨v, rest, rfl, h1, h2⟩
      rw [zcl] at h2
      refine ⟨by simp [h2.1], fun i d x hi hx => ?_⟩
      cases i with
      | zero => simp at hi hx; subst hi hx; exact h1
      | succ i => simp at hi hx; exact h2.2 i d x hi hx
    · rintro ⟨hl, h⟩
      cases vs with
      | nil => simp at hl
      | cons v rest =>
        refine ⟨v, rest, rfl, h 0 c v (by simp) (by simp), zcl.2 ⟨by simpa using hl, fun i d x hi hx => h (i + 1) d x (by simpa using hi) (by simpa using hx)⟩⟩
mutual
theorem zaj.mx {w : World} {g : Gh} {n : Nat} (hn : ∀ id gen p, g.ρ id gen = some p → id < n) : ∀ (a : AV) (v : Value), zaj w g a v → mx a ≤ n
  | .sl tag len cells, v, hv => by
    simp only [zaj] at hv
    simp only [Sx.mx]
    obtain ⟨cap, hc, ⟨rfl, _⟩ | ⟨b, o, h1, h2, h3, h4⟩⟩ := hv
    · simp [mxL]
    · exact zc9.mx hn cells b o h4
  | .slm id gen off len sz, v, hv => by
    simp only [zaj] at hv
    obtain ⟨b, δ, cap, m, h1, _⟩ := hv
    have := hn id gen _ h1
    simp only [Sx.mx]; omega
  | .eptr s off, v, hv => by
    simp only [zaj] at hv
    obtain ⟨b, o, h1, h2⟩ := hv
    simpa [Sx.mx] using zbi.mx hn s b o h2
  | .agg cells, v, hv => by
    simp only [zaj] at hv
    obtain ⟨vs, h1, _, h2⟩ := hv
    simpa [Sx.mx] using zba.mx hn cells _ h2
  | .tup cells, v, hv => by
    simp only [zaj] at hv
    obtain ⟨vs, h1, h2⟩ := hv
    simpa [Sx.mx] using zba.mx hn cells _ h2
  | .func f first caps, v, hv => by
    simp only [zaj] at hv
    obtain ⟨fs, cs, h1, h2, h3⟩ := hv
    have a := zba.mx hn first _ h2
    have b := zba.mx hn caps _ h3
    simp only [Sx.mx]; omega
  | .junk, _, _ => by simp [Sx.mx]
  | .bool _, _, _ => by simp [Sx.mx]
  | .int _ _, _, _ => by simp [Sx.mx]
  | .flt _, _, _ => by simp [Sx.mx]
  | .fraw _, _, _ => by simp [Sx.mx]
  | .str _, _, _ => by simp [Sx.mx]
  | .slnil, _, _ => by simp [Sx.mx]
  | .raw _, _, _ => by simp [Sx.mx]
theorem zbi.mx {w : World} {g : Gh} {n : Nat} (hn : ∀ id gen p, g.ρ id gen = some p → id < n) : ∀ (a : AV) (b o : Nat), zbi w g a b o → Sx.mx a ≤ n
  | .sl tag len cells, b, o, hv => by
    simp only [zbi] at hv
    simpa [Sx.mx] using zc9.mx hn cells b o hv.2.2
  | .slm id gen off len sz, b, o, hv => by
    simp only [zbi] at hv
    obtain ⟨δ, h1, _⟩ := hv
    have := hn id gen _ h1
    simp only [Sx.mx]; omega
  | .eptr _ _, _, _, hv => by simp [zbi] at hv
  | .agg _, _, _, hv => by simp [zbi] at hv
  | .tup _, _, _, hv => by simp [zbi] at hv
  | .func _ _ _, _, _, hv => by simp [zbi] at hv
  | .junk, _, _, _ => by simp [Sx.mx]
  | .bool _, _, _, _ => by simp [Sx.mx]
  | .int _ _, _, _, _ => by simp [Sx.mx]
  | .flt _, _, _, _ => by simp [Sx.mx]
  | .fraw _, _, _, _ => by simp [Sx.mx]
  | .str _, _, _, _ => by simp [Sx.mx]
  | .slnil, _, _, _ => by simp [Sx.mx]
  | .raw _, _, _, _ => by simp [Sx.mx]
theorem zc9.mx {w : World} {g : Gh} {n : Nat} (hn : ∀ id gen p, g.ρ id gen = some p → id < n) : ∀ (cs : List AV) (b o : Nat), zc9 w g cs b o → mxL cs ≤ n
  | [], _, _, _ => by simp [mxL]
  | c :: cs, b, o, hv => by
    simp only [zc9] at hv
    obtain ⟨⟨v, h1, h2, h3⟩, h4⟩ := hv
    have a := zaj.mx hn c v h3
    have b := zc9.mx hn cs b (o + 1) h4
    simp only [mxL]; omega
theorem zba.mx {w : World} {g : Gh} {n : Nat} (hn : ∀ id gen p, g.ρ id gen = some p → id < n) : ∀ (cs : List AV) (vs : List Value), zba w g cs vs → mxL cs ≤ n
  | [], _, _ => by simp [mxL]
  | c :: cs, vs, hv => by
    simp only [zba] at hv
    obtain ⟨v, rest, h1, h2, h3⟩ := hv
    have a := zaj.mx hn c v h2
    have b := zba.mx hn cs rest h3
    simp only [mxL]; omega
end
theorem WRep.ids {w : World} {g : Gh} {H : List (List AV)} (h : WRep w g H) : ∀ id gen p, g.ρ id gen = some p → id < H.length := by
  intro id gen p hp
  obtain ⟨cs, hc, _⟩ := h.rhoid id gen p hp
  exact (List.getElem?_eq_some_iff.1 hc).1
theorem zoi (a b : List AV) : mxL (a ++ b) = max (mxL a) (mxL b) := by
  induction a with
  | nil => simp [mxL]
  | cons c a ih => simp only [List.cons_append, mxL, ih]; omega
theorem zkz {cs : List AV} {n : Nat} : mxL cs ≤ n ↔ ∀ (i : Nat) c, cs[i]? = some c → mx c ≤ n := by
  induction cs with
  | nil => simp [mxL]
  | cons c cs ih =>
    simp only [mxL]
    constructor
    · intro h i d hi
      cases i with
      | zero => simp at hi; subst hi; omega
      | succ i => simp at hi; exact ih.1 (by omega) i d hi
    · intro h
      have h0 := h 0 c (by simp)
      have h1 := ih.2 fun i d hi => h (i + 1) d (by simpa using hi)
      omega
theorem zey (cs : List AV) (off : Nat) (vs : List AV) : (sc cs off vs).length = cs.length := by
  induction vs generalizing cs off with
  | nil => rfl
  | cons v vs ih => simp [sc, ih]
theorem zrr (cs : List AV) (off : Nat) (vs : List AV) (i : Nat) (h : off + vs.length ≤ cs.length) :
    (sc cs off vs)[i]? = if off ≤ i ∧ i < off + vs.length then vs[i - off]? else cs[i]? := by
  induction vs generalizing cs off with
  | nil => simp [sc]; omega
  | cons v vs ih =>
    simp only [List.length_cons] at h
    rw [sc, ih _ _ (by simp; omega)]
    by_cases h1 : off + 1 ≤ i ∧ i < off + 1 + vs.length
    · rw [if_pos h1, if_pos (by simp; omega)]
      rw [show i - off = (i - (off + 1)) + 1 from by omega]; simp
    · rw [if_neg h1]
      by_cases h2 : i = off
      · subst h2; rw [if_pos (by simp)]; simp; rw [List.getElem?_set_self (by omega)]
      · rw [List.getElem?_set_ne (Ne.symm h2), if_neg (by simp; omega)]
theorem z0p {cs : List AV} {off : Nat} {vs : List AV} {n : Nat} (h : off + vs.length ≤ cs.length) (hc : mxL cs ≤ n) (hv : mxL vs ≤ n) : mxL (sc cs off vs) ≤ n := by
  rw [zkz] at hc hv ⊢
  intro i c hi
  rw [zrr _ _ _ _ h] at hi
  split at hi
  · exact hv _ _ hi
  · exact hc _ _ hi
theorem zem {cs : List AV} {n : Nat} : ∀ {off : Nat} {l : List AV}, gc cs off n = some l → l.length = n ∧ ∀ i, i < n → l[i]? = cs[off + i]? := by
  induction n with
  | zero => intro off l h; simp [gc] at h; subst h; simp
  | succ n ih =>
    intro off l h
    simp only [gc, Option.bind_eq_some_iff, Option.map_eq_some_iff] at h
    obtain ⟨c, hc, r, hr, rfl⟩ := h
    obtain ⟨h1, h2⟩ := ih hr
    refine ⟨by simp [h1], fun i hi => ?_⟩
    cases i with
    | zero => simpa using hc.symm
    | succ i => simpa [show off + (i + 1) = off + 1 + i from by omega] using h2 i (by omega)
theorem zhd {w : World} {g : Gh} {cs : List AV} {b o off n : Nat} {l : List AV} (h : zc9 w g cs b o) (hl : gc cs off n = some l) : zc9 w g l b (o + off) := by
  rw [zdl] at h ⊢
  intro i c hi
  obtain ⟨h1, h2⟩ := zem hl
  have hlt : i < n := by have := (List.getElem?_eq_some_iff.1 hi).1; omega
  rw [h2 i hlt] at hi
  have := h (off + i) c hi
  rwa [show o + (off + i) = o + off + i from by omega] at this
theorem zd5 {w : World} {b : Nat} {c : Array Value} {e : TypeId} {fr : Nat × Nat} (h : w.heap[b]? = some (.cells c e fr)) : bsz w b = some c.size := by simp [bsz, h]
theorem Ext.heap {w w' : World} (g : Gh) (h : w'.heap = w.heap) : Ext w g w' g :=
  ⟨fun _ h => h, fun _ _ => by rw [h], fun _ _ _ h => h, fun b n hb => by unfold Sx.bsz at hb ⊢; rw [h]; exact hb⟩
theorem WRep.heap {w w' : World} {g : Gh} {H : List (List AV)} (hw : WRep w g H) (h : w'.heap = w.heap) : WRep w' g H where
  blk id cs hc := by
    obtain ⟨b, δ, c, e, h1, h2, h3, h4, h5⟩ := hw.blk id cs hc
    exact ⟨b, δ, c, e, h1, by rw [h]; exact h2, h3, zc9.ext (Ext.heap g h) (by rw [h]) h4, h5⟩
  inj := hw.inj
  fzlt b hb := by rw [h]; exact hw.fzlt b hb
  rholt := by rw [h]; exact hw.rholt
  rhoid := hw.rhoid
structure Sames (w w' : World) : Prop where
  os : w'.os = w.os
  output : w'.output = w.output
  tape : w'.tape = w.tape
theorem Since.step {w₀ w w' : World} {g₀ g g' : Gh} {H₀ H H' : List (List AV)} (h : Since w₀ g₀ H₀ w g H) (he : Ext w g w' g')
    (hsz : w.heap.size ≤ w'.heap.size) (hk : ∀ b, b < w.heap.size → ¬ HB g H b → w'.heap[b]? = w.heap[b]?)
    (hf : ∀ a : Addr, a.block < w.heap.size → w'.frozen? a = w.frozen? a)
    (hfz : ∀ b, g'.Fz b → b < w.heap.size → g.Fz b)
    (hhb : ∀ id cs b δ, b < w.heap.size → H'[id]? = some cs → g'.ρ id cs.length = some (b, δ) → ∃ cs₁, H[id]? = some cs₁ ∧ g.ρ id cs₁.length = some (b, δ)) (hl : H.length ≤ H'.length)
    (hs : Sames w w') : Since w₀ g₀ H₀ w' g' H' where
  sz := Nat.le_trans h.sz hsz
  keep b hb hn := by
    rw [hk b (Nat.lt_of_lt_of_le hb h.sz) (fun hc => hn (h.hb b hb hc)), h.keep b hb hn]
  bszk b n hn := he.bsz b n (h.bszk b n hn)
  fro a ha := by rw [hf a (Nat.lt_of_lt_of_le ha h.sz), h.fro a ha]
  fz b hb := he.fz b (h.fz b hb)
  fznew b hb hlt := h.fznew b (hfz b hb (Nat.lt_of_lt_of_le hlt h.sz)) hlt
  rho id gen p hp := he.rho id gen p (h.rho id gen p hp)
  hbi id cs b δ hb h1 h2 := by
    obtain ⟨cs₁, h3, h4⟩ := hhb id cs b δ (Nat.lt_of_lt_of_le hb h.sz) h1 h2
    exact h.hbi id cs₁ b δ hb h3 h4
  len := Nat.le_trans h.len hl
  same := ⟨hs.os.trans h.same.1, hs.output.trans h.same.2.1, hs.tape.trans h.same.2.2⟩
theorem Since.refl {w : World} {g : Gh} {H : List (List AV)} (h : WRep w g H) : Since w g H w g H where
  sz := Nat.le_refl _
  keep _ _ _ := rfl
  bszk _ _ h := h
  fro _ _ := rfl
  fz _ h := h
  fznew _ h _ := h
  rho _ _ _ h := h
  hbi _ cs _ _ _ h1 h2 := ⟨cs, h1, h2⟩
  len := Nat.le_refl _
  same := ⟨rfl, rfl, rfl⟩
structure LRp (n₀ : Nat) (w : World) (g : Gh) (H : List (List AV)) (lam : Nat → Nat) (lL : Nat → Option (List AV)) : Prop where
  box : ∀ key cs, lL key = some cs → ∃ c e, w.heap[lam key]? = some (.cells c e (0, 0)) ∧ cs.length ≤ c.size ∧ zc9 w g cs (lam key) 0 ∧
    ¬ g.Fz (lam key) ∧ ¬ HB g H (lam key) ∧ n₀ ≤ lam key
  inj : ∀ key key', lL key ≠ none → lL key' ≠ none → lam key = lam key' → key = key'
def zc8 (w : World) (g : Gh) (lam : Nat → Nat) : EV → Value → Prop
  | .val v, x => zaj w g v x
  | .loc key off, x => x = .pointer (some ⟨lam key, off, none⟩)
theorem zql {e : EV} (h : e.isU = true) : e = .val (.tup []) := by
  unfold EV.isU at h; split at h
  · rfl
  · cases h
theorem zc8.ext {w w' : World} {g g' : Gh} {lam : Nat → Nat} (h : Ext w g w' g') : ∀ {e : EV} {x : Value}, zc8 w g lam e x → zc8 w' g' lam e x
  | .val _, _, hv => zaj.ext h hv
  | .loc _ _, _, hv => hv
theorem LRp.step {n₀ : Nat} {w w' : World} {g g' : Gh} {H H' : List (List AV)} {lam : Nat → Nat} {lL : Nat → Option (List AV)} (h : LRp n₀ w g H lam lL) (he : Ext w g w' g')
    (hk : ∀ b, b < w.heap.size → ¬ HB g H b → w'.heap[b]? = w.heap[b]?) (hfz : ∀ b, g'.Fz b → b < w.heap.size → g.Fz b)
    (hhb : ∀ b, b < w.heap.size → HB g' H' b → HB g H b) : LRp n₀ w' g' H' lam lL where
  box key cs hc := by
    obtain ⟨c, e, h1, h2, h3, h4, h5, h6⟩ := h.box key cs hc
    have hlt : lam key < w.heap.size := (Array.getElem?_eq_some_iff.1 h1).1
    have hh := hk _ hlt h5
    exact ⟨c, e, hh.trans h1, h2, zc9.ext he hh h3, fun hf => h4 (hfz _ hf hlt), fun hb => h5 (hhb _ hlt hb), h6⟩
  inj := h.inj
structure Cx where
  P : Program
  cfg : Cfg
  w₀ : World
  g₀ : Gh
  H₀ : List (List AV)
  N : Nat
structure SRepG (C : Cx) (st : St) (a : Act) (w : World) (g : Gh) (lam : Nat → Nat) : Prop where
  wr : WRep w g st.H
  si : Since C.w₀ C.g₀ C.H₀ w g st.H
  lr : LRp C.w₀.heap.size w g st.H lam (lk st.L)
  env : ∀ t e, lk st.env t = some e → ∃ x, a.tmps[t]? = some x ∧ zc8 w g lam e x
  defs : a.defers = []
  size : a.tmps.size = C.N
  n0 : C.cfg.n0 ≤ C.H₀.length
  om : ∀ id cs, id < C.cfg.n0 → st.H[id]? = some cs → mxL cs ≤ C.cfg.n0
def zge (C : Cx) (st : St) (a : Act) (w : World) : Prop := ∃ g lam, SRepG C st a w g lam
theorem zgf (w : World) (o : Obj) : (w.alloc o).heap[w.heap.size]? = some o := by
  show (w.heap.push o)[w.heap.size]? = some o
  simp
theorem zcx (w : World) (o : Obj) {i : Nat} (h : i < w.heap.size) : (w.alloc o).heap[i]? = w.heap[i]? := by
  show (w.heap.push o)[i]? = w.heap[i]?
  rw [Array.getElem?_push, if_neg (Nat.ne_of_lt h)]
theorem zd4 (w : World) (o : Obj) : (w.alloc o).heap.size = w.heap.size + 1 := by
  show (w.heap.push o).size = _
  simp
theorem zgj {w w' : World} {a : Addr} (h : w'.heap[a.block]? = w.heap[a.block]?) : w'.frozen? a = w.frozen? a := by
  simp only [World.frozen?, h]
theorem zij {w : World} {b n : Nat} (h : bsz w b = some n) : b < w.heap.size := by
  unfold bsz at h
  rcases Nat.lt_or_ge b w.heap.size with hl | hl
  · exact hl
  · rw [Array.getElem?_eq_none hl] at h; simp at h
theorem zki {w w' : World} {b : Nat} (h : w'.heap[b]? = w.heap[b]?) : bsz w' b = bsz w b := by
  unfold bsz; rw [h]
theorem setRow_size (w : World) (b : Nat) (c : Array Value) : (w.setRow b c).heap.size = w.heap.size := by simp [World.setRow]
section
variable {C : Cx} {st : St} {a : Act} {w : World} {g : Gh} {lam : Nat → Nat}
theorem SRepG.still {w' : World} (h : SRepG C st a w g lam) (hh : w'.heap = w.heap) (hs : Sames w w') : SRepG C st a w' g lam where
  wr := h.wr.heap hh
  si := h.si.step (Ext.heap g hh) (by rw [hh]; exact Nat.le_refl _) (fun b _ _ => by rw [hh]) (fun a _ => zgj (by rw [hh])) (fun _ h _ => h) (fun _ cs _ _ _ h1 h2 => ⟨cs, h1, h2⟩) (Nat.le_refl _)
    hs
  lr := h.lr.step (Ext.heap g hh) (fun b _ _ => by rw [hh]) (fun _ h _ => h) (fun _ _ h => h)
  env t e he := by obtain ⟨x, h1, h2⟩ := h.env t e he; exact ⟨x, h1, h2.ext (Ext.heap g hh)⟩
  defs := h.defs
  size := h.size
  n0 := h.n0
  om := h.om
theorem SRepG.put (h : SRepG C st a w g lam) {d : Nat} (hd : d < C.N) {e : EV} {v : Value} (hv : zc8 w g lam e v) :
    SRepG C { st with env := (d, e) :: st.env } (a.put (some d) v) w g lam where
  wr := h.wr
  si := h.si
  lr := h.lr
  env t e' he := by
    simp only [lk] at he
    by_cases ht : d = t
    · subst ht; simp at he; subst he
      exact ⟨v, by simp [Act.put, h.size, hd], hv⟩
    · simp only [if_neg ht] at he
      obtain ⟨x, h1, h2⟩ := h.env t e' he
      exact ⟨x, by simp [Act.put, ht, h1], h2⟩
  defs := h.defs
  size := by simp [Act.put, h.size]
  n0 := h.n0
  om := h.om
def newG (g : Gh) (id gen b : Nat) : Gh := { g with ρ := fun i n => if i = id ∧ n = gen then some (b, 0) else g.ρ i n }
def zir (g : Gh) (id gen b δ : Nat) : Gh := { g with ρ := fun i n => if i = id ∧ n = gen then some (b, δ) else g.ρ i n }
theorem Ext.alloc {w : World} {g g' : Gh} {H : List (List AV)} (hw : WRep w g H) (o : Obj) (hf : g'.Fz = g.Fz) (hr : ∀ id gen p, g.ρ id gen = some p → g'.ρ id gen = some p) : Ext w g (w.alloc o) g' where
  fz b hb := by rw [hf]; exact hb
  fzw b hb := zcx w o (hw.fzlt b hb)
  rho := hr
  bsz b n hb := by rw [zki (zcx w o (zij hb))]; exact hb
def zgz (w : World) (g : Gh) (cs : List AV) (c : Array Value) (o : Nat) : Prop :=
  ∀ (i : Nat) cv, cs[i]? = some cv → ∃ v, c[o + i]? = some v ∧ v.oneCell' = true ∧ zaj w g cv v
theorem zgz.crep {w w' : World} {g g' : Gh} {cs : List AV} {c : Array Value} {o b : Nat} {e : TypeId} {fr : Nat × Nat} (h : zgz w g cs c o) (he : Ext w g w' g')
    (hb : w'.heap[b]? = some (.cells c e fr)) : zc9 w' g' cs b o := by
  rw [zdl]
  intro i cv hi
  obtain ⟨v, h1, h2, h3⟩ := h i cv hi
  exact ⟨v, by simp [World.cell?, hb, h1], h2, h3.ext he⟩
theorem zgz.of_crep {w : World} {g : Gh} {cs : List AV} {c : Array Value} {o b : Nat} {e : TypeId} {fr : Nat × Nat} (h : zc9 w g cs b o)
    (hb : w.heap[b]? = some (.cells c e fr)) : zgz w g cs c o := by
  rw [zdl] at h
  intro i cv hi
  obtain ⟨v, h1, h2, h3⟩ := h i cv hi
  exact ⟨v, by simpa [World.cell?, hb] using h1, h2, h3⟩
theorem zgz.mx {w : World} {g : Gh} {H : List (List AV)} (hw : WRep w g H) {cs : List AV} {c : Array Value} {o : Nat} (h : zgz w g cs c o) : mxL cs ≤ H.length := by
  rw [zkz]
  intro i cv hi
  obtain ⟨v, _, _, h3⟩ := h i cv hi
  exact zaj.mx hw.ids cv v h3
theorem SRepG.newH (h : SRepG C st a w g lam) {cs : List AV} {c : Array Value} {e : TypeId} (hv : zgz w g cs c 0) (hl : cs.length ≤ c.size) :
    SRepG C { st with H := st.H ++ [cs] } a (w.alloc (.cells c e)) (newG g st.H.length cs.length w.heap.size) lam ∧
    Ext w g (w.alloc (.cells c e)) (newG g st.H.length cs.length w.heap.size) := by
  have hw := h.wr
  have hno : ∀ gen p, g.ρ st.H.length gen ≠ some p := fun gen p hp => Nat.lt_irrefl _ (hw.ids _ _ _ hp)
  have hx : Ext w g (w.alloc (.cells c e)) (newG g st.H.length cs.length w.heap.size) := by
    refine Ext.alloc hw _ rfl fun id gen p hp => ?_
    simp only [newG]
    rw [if_neg]
    · exact hp
    · rintro ⟨rfl, _⟩; exact hno _ _ hp
  have hold : ∀ id cs', id < st.H.length → (st.H ++ [cs])[id]? = some cs' → st.H[id]? = some cs' := by
    intro id cs' hid hc; rwa [List.getElem?_append_left hid] at hc
  have hrn : ∀ id gen, id < st.H.length → (newG g st.H.length cs.length w.heap.size).ρ id gen = g.ρ id gen := by
    intro id gen hid; simp only [newG]; rw [if_neg (by omega)]
  have hmx := zgz.mx hw hv
  have hcase : ∀ id cs', (st.H ++ [cs])[id]? = some cs' → (id < st.H.length ∧ st.H[id]? = some cs') ∨ (id = st.H.length ∧ cs' = cs) := by
    intro id cs' hc
    rcases Nat.lt_or_ge id st.H.length with hlt | hge
    · exact .inl ⟨hlt, hold id cs' hlt hc⟩
    · have h1 := (List.getElem?_eq_some_iff.1 hc).1
      have : id = st.H.length := by simp at h1; omega
      subst this
      simp at hc
      exact .inr ⟨rfl, hc.symm⟩
  have hwr : WRep (w.alloc (.cells c e)) (newG g st.H.length cs.length w.heap.size) (st.H ++ [cs]) := by
    refine ⟨fun id cs' hc => ?_, fun id id' cs₁ cs₂ b δ δ' h1 h2 h3 h4 => ?_, fun b hb => ?_, fun id gen b δ hp => ?_, fun id gen p hp => ?_⟩
    · rcases hcase id cs' hc with ⟨hlt, hc⟩ | ⟨rfl, rfl⟩
      · obtain ⟨b, δ, c', e', h1, h2, h3, h4, h5, h6⟩ := hw.blk id cs' hc
        have hb := zcx w (.cells c e) (Array.getElem?_eq_some_iff.1 h2).1
        exact ⟨b, δ, c', e', by rw [hrn _ _ hlt]; exact h1, hb.trans h2, h3, zc9.ext hx hb h4, h5, by simp; omega⟩
      · exact ⟨w.heap.size, 0, c, e, by simp [newG], zgf _ _, by omega, hv.crep hx (zgf _ _), fun hf => Nat.lt_irrefl _ (hw.fzlt _ hf), by simp; omega⟩
    · rcases hcase id cs₁ h1 with ⟨l1, k1⟩ | ⟨rfl, rfl⟩
      · rcases hcase id' cs₂ h2 with ⟨l2, k2⟩ | ⟨rfl, rfl⟩
        · rw [hrn _ _ l1] at h3; rw [hrn _ _ l2] at h4
          exact hw.inj id id' cs₁ cs₂ b δ δ' k1 k2 h3 h4
        · rw [hrn _ _ l1] at h3; simp [newG] at h4
          have := hw.rholt _ _ _ _ h3; omega
      · rcases hcase id' cs₂ h2 with ⟨l2, k2⟩ | ⟨rfl, rfl⟩
        · rw [hrn _ _ l2] at h4; simp [newG] at h3
          have := hw.rholt _ _ _ _ h4; omega
        · rfl
    · rw [zd4]; exact Nat.lt_succ_of_lt (hw.fzlt b hb)
    · rw [zd4]
      simp only [newG] at hp
      split at hp
      · simp at hp; omega
      · exact Nat.lt_succ_of_lt (hw.rholt _ _ _ _ hp)
    · simp only [newG] at hp
      split at hp
      · rename_i hh; obtain ⟨rfl, rfl⟩ := hh; exact ⟨cs, by simp, Nat.le_refl _⟩
      · obtain ⟨cs', k1, k2⟩ := hw.rhoid _ _ _ hp
        exact ⟨cs', by rw [List.getElem?_append_left (List.getElem?_eq_some_iff.1 k1).1]; exact k1, k2⟩
  have hhi : ∀ id cs' b δ, b < w.heap.size → (st.H ++ [cs])[id]? = some cs' → (newG g st.H.length cs.length w.heap.size).ρ id cs'.length = some (b, δ) →
      ∃ cs₁, st.H[id]? = some cs₁ ∧ g.ρ id cs₁.length = some (b, δ) := by
    intro id cs' b δ hb hc hp
    rcases hcase id cs' hc with ⟨hlt, hc⟩ | ⟨rfl, rfl⟩
    · rw [hrn _ _ hlt] at hp; exact ⟨cs', hc, hp⟩
    · simp [newG] at hp; omega
  have hhb : ∀ b, b < w.heap.size → HB (newG g st.H.length cs.length w.heap.size) (st.H ++ [cs]) b → HB g st.H b := by
    rintro b hb ⟨id, cs', δ, hc, hp⟩
    obtain ⟨cs₁, h1, h2⟩ := hhi id cs' b δ hb hc hp
    exact ⟨id, cs₁, δ, h1, h2⟩
  refine ⟨⟨hwr, ?_, ?_, fun t e' he => ?_, h.defs, h.size, h.n0, fun id cs' hid hc => ?_⟩, hx⟩
  · exact h.si.step hx (by rw [zd4]; omega) (fun b hb _ => zcx _ _ hb) (fun a' ha => zgj (zcx _ _ ha)) (fun b hb _ => hb) hhi (by simp) ⟨rfl, rfl, rfl⟩
  · exact h.lr.step hx (fun b hb _ => zcx _ _ hb) (fun b hb _ => hb) hhb
  · obtain ⟨x, h1, h2⟩ := h.env t e' he
    exact ⟨x, h1, h2.ext hx⟩
  · rcases hcase id cs' hc with ⟨hlt, hc⟩ | ⟨rfl, rfl⟩
    · exact h.om id cs' hid hc
    · have := h.si.len; have := h.n0; omega
def fzG (g : Gh) (b : Nat) : Gh := { g with Fz := fun k => g.Fz k ∨ k = b }
theorem SRepG.newF (h : SRepG C st a w g lam) (c : Array Value) (e : TypeId) :
    SRepG C st a (w.alloc (.cells c e)) (fzG g w.heap.size) lam ∧ Ext w g (w.alloc (.cells c e)) (fzG g w.heap.size) := by
  have hx : Ext w g (w.alloc (.cells c e)) (fzG g w.heap.size) :=
    ⟨fun b hb => .inl hb, fun b hb => zcx w _ (h.wr.fzlt b hb), fun _ _ _ h => h, fun b n hb => by rw [zki (zcx w _ (zij hb))]; exact hb⟩
  have hfz : ∀ b, (fzG g w.heap.size).Fz b → b < w.heap.size → g.Fz b := by
    rintro b (hb | hb) hlt
    · exact hb
    · omega
  have hwr : WRep (w.alloc (.cells c e)) (fzG g w.heap.size) st.H := by
    refine ⟨fun id cs₁ hc => ?_, h.wr.inj, fun b hb => ?_, fun id gen b δ hp => by rw [zd4]; exact Nat.lt_succ_of_lt (h.wr.rholt _ _ _ _ hp), h.wr.rhoid⟩
    · obtain ⟨b, δ, c₂, e₂, k1, k2, k3, k4, k5, k6⟩ := h.wr.blk id cs₁ hc
      have hlt := (Array.getElem?_eq_some_iff.1 k2).1
      have hb := zcx w (.cells c e) hlt
      exact ⟨b, δ, c₂, e₂, k1, hb.trans k2, k3, zc9.ext hx hb k4, fun hf => k5 (hfz b hf hlt), k6⟩
    · rw [zd4]
      rcases hb with hb | hb
      · exact Nat.lt_succ_of_lt (h.wr.fzlt b hb)
      · omega
  refine ⟨⟨hwr, ?_, ?_, fun t e' he => ?_, h.defs, h.size, h.n0, h.om⟩, hx⟩
  · exact h.si.step hx (by rw [zd4]; omega) (fun b hb _ => zcx _ _ hb) (fun a' ha => zgj (zcx _ _ ha)) hfz (fun _ cs _ _ _ h1 h2 => ⟨cs, h1, h2⟩) (Nat.le_refl _) ⟨rfl, rfl, rfl⟩
  · exact h.lr.step hx (fun b hb _ => zcx _ _ hb) hfz (fun _ _ hb => hb)
  · obtain ⟨x, h1, h2⟩ := h.env t e' he
    exact ⟨x, h1, h2.ext hx⟩
theorem SRepG.repl (h : SRepG C st a w g lam) {id : Nat} {cs cs' : List AV} {b δ : Nat} (hid : st.H[id]? = some cs) (hcur : g.ρ id cs.length = some (b, δ)) (hle : cs.length ≤ cs'.length)
    (hold : C.cfg.n0 ≤ id ∨ mxL cs' ≤ C.cfg.n0)
    {w' : World} {b' δ' : Nat} {c' : Array Value} {e : TypeId} (hsz : w.heap.size ≤ w'.heap.size) (hk : ∀ k, k < w.heap.size → k ≠ b → w'.heap[k]? = w.heap[k]?)
    (hbs : ∀ n, bsz w b = some n → bsz w' b = some n) (hfb : ∀ o, w'.frozen? ⟨b, o, none⟩ = w.frozen? ⟨b, o, none⟩)
    (hs : Sames w w') (hb' : w'.heap[b']? = some (.cells c' e (0, 0))) (hpl : (b' = b ∧ δ' = δ) ∨ (b' = w.heap.size ∧ cs.length < cs'.length))
    (hv : zgz w g cs' c' δ') (hl : δ' + cs'.length ≤ c'.size) (hfs : ∀ a : Addr, a.block = b → w'.frozen? a = w.frozen? a) :
    SRepG C { st with H := st.H.set id cs' } a w' (zir g id cs'.length b' δ') lam ∧ Ext w g w' (zir g id cs'.length b' δ') := by
  have hw := h.wr
  have hidl : id < st.H.length := (List.getElem?_eq_some_iff.1 hid).1
  obtain ⟨b₀, δ₀, c₀, e₀, k1, k2, k3, k4, k5, k6⟩ := hw.blk id cs hid
  rw [hcur] at k1; simp only [Option.some.injEq, Prod.mk.injEq] at k1; obtain ⟨rfl, rfl⟩ := k1
  have hblt : b < w.heap.size := (Array.getElem?_eq_some_iff.1 k2).1
  have hx : Ext w g w' (zir g id cs'.length b' δ') := by
    refine ⟨fun _ h => h, fun k hk' => hk k (hw.fzlt k hk') (fun hh => k5 (hh ▸ hk')), fun i n p hp => ?_, fun k n hn => ?_⟩
    · simp only [zir]
      split
      · rename_i hh
        obtain ⟨rfl, rfl⟩ := hh
        obtain ⟨cs₂, j1, j2⟩ := hw.rhoid _ _ _ hp
        rw [hid] at j1; simp only [Option.some.injEq] at j1; subst j1
        have hlen : cs'.length = cs.length := by omega
        rw [hlen, hcur] at hp
        rcases hpl with ⟨rfl, rfl⟩ | ⟨_, hlt⟩
        · exact hp
        · omega
      · exact hp
    · by_cases hkb : k = b
      · subst hkb; exact hbs n hn
      · rw [zki (hk k (zij hn) hkb)]; exact hn
  have hmx := zgz.mx hw hv
  have hget : ∀ j cs₂, (st.H.set id cs')[j]? = some cs₂ → (j = id ∧ cs₂ = cs') ∨ (j ≠ id ∧ st.H[j]? = some cs₂) := by
    intro j cs₂ hj
    by_cases hji : j = id
    · subst hji; rw [List.getElem?_set_self hidl] at hj; simp at hj; exact .inl ⟨rfl, hj.symm⟩
    · rw [List.getElem?_set_ne (Ne.symm hji)] at hj; exact .inr ⟨hji, hj⟩
  have hro : ∀ j n, j ≠ id → (zir g id cs'.length b' δ').ρ j n = g.ρ j n := by
    intro j n hj; simp only [zir]; rw [if_neg (fun hh => hj hh.1)]
  have hnb : ∀ j cs₂ b₂ δ₂, j ≠ id → st.H[j]? = some cs₂ → g.ρ j cs₂.length = some (b₂, δ₂) → b₂ ≠ b := by
    rintro j cs₂ b₂ δ₂ hj hc hp rfl
    exact hj (hw.inj j id cs₂ cs b₂ δ₂ _ hc hid hp hcur)
  have hb'f : ¬ g.Fz b' := by
    rcases hpl with ⟨rfl, _⟩ | ⟨rfl, _⟩
    · exact k5
    · exact fun hf => Nat.lt_irrefl _ (hw.fzlt _ hf)
  have hb'n : ∀ j cs₂ b₂ δ₂, j ≠ id → st.H[j]? = some cs₂ → g.ρ j cs₂.length = some (b₂, δ₂) → b₂ ≠ b' := by
    intro j cs₂ b₂ δ₂ hj hc hp
    rcases hpl with ⟨rfl, _⟩ | ⟨rfl, _⟩
    · exact hnb j cs₂ b₂ δ₂ hj hc hp
    · exact Nat.ne_of_lt (hw.rholt _ _ _ _ hp)
  have hwr : WRep w' (zir g id cs'.length b' δ') (st.H.set id cs') := by
    refine ⟨fun j cs₂ hc => ?_, fun i j cs₁ cs₂ b₂ δ₁ δ₂ h1 h2 h3 h4 => ?_, fun k hk' => Nat.lt_of_lt_of_le (hw.fzlt k hk') hsz, fun i n b₂ δ₂ hp => ?_, fun i n p hp => ?_⟩
    · rcases hget j cs₂ hc with ⟨rfl, rfl⟩ | ⟨hj, hc⟩
      · exact ⟨b', δ', c', e, by simp [zir], hb', hl, hv.crep hx hb', hb'f, by simpa using hmx⟩
      · obtain ⟨b₂, δ₂, c₂, e₂, j1, j2, j3, j4, j5, j6⟩ := hw.blk j cs₂ hc
        have hh := hk b₂ (Array.getElem?_eq_some_iff.1 j2).1 (hnb j cs₂ b₂ δ₂ hj hc j1)
        exact ⟨b₂, δ₂, c₂, e₂, by rw [hro _ _ hj]; exact j1, hh.trans j2, j3, zc9.ext hx hh j4, j5, by simpa using j6⟩
    · rcases hget i cs₁ h1 with ⟨rfl, rfl⟩ | ⟨hi, j1⟩
      · rcases hget j cs₂ h2 with ⟨rfl, rfl⟩ | ⟨hj, j2⟩
        · rfl
        · rw [hro _ _ hj] at h4; simp [zir] at h3
          exact absurd h3.1.symm (hb'n j cs₂ b₂ δ₂ hj j2 h4)
      · rcases hget j cs₂ h2 with ⟨rfl, rfl⟩ | ⟨hj, j2⟩
        · rw [hro _ _ hi] at h3; simp [zir] at h4
          exact absurd h4.1.symm (hb'n i cs₁ b₂ δ₁ hi j1 h3)
        · rw [hro _ _ hi] at h3; rw [hro _ _ hj] at h4
          exact hw.inj i j cs₁ cs₂ b₂ δ₁ δ₂ j1 j2 h3 h4
    · simp only [zir] at hp
      split at hp
      · simp at hp; obtain ⟨rfl, _⟩ := hp; exact (Array.getElem?_eq_some_iff.1 hb').1
      · exact Nat.lt_of_lt_of_le (hw.rholt _ _ _ _ hp) hsz
    · simp only [zir] at hp
      split at hp
      · rename_i hh; obtain ⟨rfl, rfl⟩ := hh; exact ⟨cs', List.getElem?_set_self hidl, Nat.le_refl _⟩
      · obtain ⟨cs₂, j1, j2⟩ := hw.rhoid _ _ _ hp
        by_cases hi : i = id
        · subst hi; rw [hid] at j1; simp only [Option.some.injEq] at j1; subst j1
          exact ⟨cs', List.getElem?_set_self hidl, Nat.le_trans j2 hle⟩
        · exact ⟨cs₂, by rw [List.getElem?_set_ne (Ne.symm hi)]; exact j1, j2⟩
  have hhi : ∀ j cs₂ k δ₂, k < w.heap.size → (st.H.set id cs')[j]? = some cs₂ → (zir g id cs'.length b' δ').ρ j cs₂.length = some (k, δ₂) →
      ∃ cs₁, st.H[j]? = some cs₁ ∧ g.ρ j cs₁.length = some (k, δ₂) := by
    intro j cs₂ k δ₂ hk' hc hp
    rcases hget j cs₂ hc with ⟨rfl, rfl⟩ | ⟨hj, hc⟩
    · simp [zir] at hp; obtain ⟨rfl, rfl⟩ := hp
      rcases hpl with ⟨rfl, rfl⟩ | ⟨rfl, _⟩
      · exact ⟨cs, hid, hcur⟩
      · omega
    · rw [hro _ _ hj] at hp; exact ⟨cs₂, hc, hp⟩
  have hhb : ∀ k, k < w.heap.size → HB (zir g id cs'.length b' δ') (st.H.set id cs') k → HB g st.H k := by
    rintro k hk' ⟨j, cs₂, δ₂, hc, hp⟩
    obtain ⟨cs₁, h1, h2⟩ := hhi j cs₂ k δ₂ hk' hc hp
    exact ⟨j, cs₁, δ₂, h1, h2⟩
  have hHB : HB g st.H b := ⟨id, cs, δ, hid, hcur⟩
  have hkk : ∀ k, k < w.heap.size → ¬ HB g st.H k → w'.heap[k]? = w.heap[k]? := fun k hk' hn => hk k hk' fun hh => hn (hh ▸ hHB)
  refine ⟨⟨hwr, ?_, ?_, fun t e' he => ?_, h.defs, h.size, h.n0, fun j cs₂ hj hc => ?_⟩, hx⟩
  · refine h.si.step hx hsz hkk (fun a' ha => ?_) (fun k hk' _ => hk') hhi (by simp) hs
    · by_cases hab : a'.block = b
      · exact hfs a' hab
      · exact zgj (hk _ ha hab)
  · exact h.lr.step hx hkk (fun k hk' _ => hk') hhb
  · obtain ⟨x, h1, h2⟩ := h.env t e' he
    exact ⟨x, h1, h2.ext hx⟩
  · rcases hget j cs₂ hc with ⟨rfl, rfl⟩ | ⟨hji, hc⟩
    · omega
    · exact h.om j cs₂ hj hc
theorem SRepG.box (h : SRepG C st a w g lam) {key : Nat} {cs cs' : List AV} {c c' : Array Value} {e : TypeId} (hk : lk st.L key = some cs)
    (hc : w.heap[lam key]? = some (.cells c e (0, 0))) (hz : c'.size = c.size) (hl : cs'.length ≤ c.size) (hv : zgz w g cs' c' 0) :
    SRepG C { st with L := (key, cs') :: st.L } a (w.setRow (lam key) c') g lam ∧ Ext w g (w.setRow (lam key) c') g := by
  obtain ⟨c₁, e₁, h1, h2, h3, h4, h5, h6⟩ := h.lr.box key cs hk
  have hother : ∀ k, k ≠ lam key → (w.setRow (lam key) c').heap[k]? = w.heap[k]? := fun k hk => setRow_other w _ k c' hk
  have hnew : (w.setRow (lam key) c').heap[lam key]? = some (.cells c' e (0, 0)) := setRow_heap w _ c c' e _ hc
  have hx : Ext w g (w.setRow (lam key) c') g := by
    refine ⟨fun _ h => h, fun b hb => hother b (fun hh => h4 (hh ▸ hb)), fun _ _ _ h => h, fun b n hb => ?_⟩
    by_cases hbk : b = lam key
    · subst hbk; rw [zd5 hc] at hb; rw [zd5 hnew, hz]; exact hb
    · rw [zki (hother b hbk)]; exact hb
  have hwr : WRep (w.setRow (lam key) c') g st.H := by
    refine ⟨fun id cs₁ hc₁ => ?_, h.wr.inj, fun b hb => by rw [setRow_size]; exact h.wr.fzlt b hb, fun id gen b δ hp => by rw [setRow_size]; exact h.wr.rholt id gen b δ hp, h.wr.rhoid⟩
    obtain ⟨b, δ, c₂, e₂, k1, k2, k3, k4, k5⟩ := h.wr.blk id cs₁ hc₁
    have hb : b ≠ lam key := fun hh => h5 (hh ▸ ⟨id, cs₁, δ, hc₁, k1⟩)
    exact ⟨b, δ, c₂, e₂, k1, (hother b hb).trans k2, k3, zc9.ext hx (hother b hb) k4, k5⟩
  refine ⟨⟨hwr, ?_, ⟨fun k cs₁ hk₁ => ?_, ?_⟩, fun t e' he => ?_, h.defs, h.size, h.n0, h.om⟩, hx⟩
  · refine ⟨by rw [setRow_size]; exact h.si.sz, fun b hb hn => ?_, fun b n hn => hx.bsz b n (h.si.bszk b n hn), fun a' ha => ?_, h.si.fz, h.si.fznew, h.si.rho, h.si.hbi, h.si.len, h.si.same⟩
    · rw [hother b (fun hh => by omega), h.si.keep b hb hn]
    · rw [← h.si.fro a' ha]; exact zgj (hother _ (fun hh => by omega))
  · by_cases hkk : key = k
    · subst hkk; simp only [lk, if_true, Option.some.injEq] at hk₁; subst hk₁
      exact ⟨c', e, hnew, by omega, hv.crep hx hnew, h4, h5, h6⟩
    · simp only [lk, if_neg hkk] at hk₁
      obtain ⟨c₂, e₂, k1, k2, k3, k4, k5, k6⟩ := h.lr.box k cs₁ hk₁
      have hne : lam k ≠ lam key := fun hh => hkk (h.lr.inj key k (by simp [hk]) (by simp [hk₁]) hh.symm)
      exact ⟨c₂, e₂, (hother _ hne).trans k1, k2, zc9.ext hx (hother _ hne) k3, k4, k5, k6⟩
  · intro k k' h1' h2' hh
    have conv : ∀ j, lk ((key, cs') :: st.L) j ≠ none → lk st.L j ≠ none := by
      intro j hj
      by_cases hkj : key = j
      · subst hkj; simp [hk]
      · simpa [lk, hkj] using hj
    exact h.lr.inj k k' (conv k h1') (conv k' h2') hh
  · obtain ⟨x, j1, j2⟩ := h.env t e' he
    exact ⟨x, j1, j2.ext hx⟩
theorem SRepG.newL (h : SRepG C st a w g lam) {d : Nat} {cs : List AV} {c : Array Value} {e : TypeId} (hn : zde st.ev d) (hv : zgz w g cs c 0) (hl : cs.length ≤ c.size) (hw0 : C.w₀.heap.size ≤ w.heap.size) :
    SRepG C { st with L := (d, cs) :: st.L } a (w.alloc (.cells c e)) g (fun k => if k = d then w.heap.size else lam k) := by
  have hx : Ext w g (w.alloc (.cells c e)) g := Ext.alloc h.wr _ rfl fun _ _ _ h => h
  have hlr : LRp C.w₀.heap.size (w.alloc (.cells c e)) g st.H lam (lk st.L) := h.lr.step hx (fun b hb _ => zcx _ _ hb) (fun b hb _ => hb) fun b _ hb => hb
  have hlt : ∀ k cs₁, lk st.L k = some cs₁ → lam k < w.heap.size := by
    intro k cs₁ hk
    obtain ⟨c₁, e₁, h1, _⟩ := h.lr.box k cs₁ hk
    exact (Array.getElem?_eq_some_iff.1 h1).1
  have hwr : WRep (w.alloc (.cells c e)) g st.H := by
    refine ⟨fun id cs₁ hc => ?_, h.wr.inj, fun b hb => by rw [zd4]; exact Nat.lt_succ_of_lt (h.wr.fzlt b hb), fun id gen b δ hp => by rw [zd4]; exact Nat.lt_succ_of_lt (h.wr.rholt _ _ _ _ hp), h.wr.rhoid⟩
    obtain ⟨b, δ, c₂, e₂, k1, k2, k3, k4, k5⟩ := h.wr.blk id cs₁ hc
    have hb := zcx w (.cells c e) (Array.getElem?_eq_some_iff.1 k2).1
    exact ⟨b, δ, c₂, e₂, k1, hb.trans k2, k3, zc9.ext hx hb k4, k5⟩
  refine ⟨hwr, ?_, ⟨fun k cs₁ hk => ?_, fun k k' h1 h2 hh => ?_⟩, fun t e' he => ?_, h.defs, h.size, h.n0, h.om⟩
  · exact h.si.step hx (by rw [zd4]; omega) (fun b hb _ => zcx _ _ hb) (fun a' ha => zgj (zcx _ _ ha)) (fun b hb _ => hb) (fun _ cs _ _ _ h1 h2 => ⟨cs, h1, h2⟩) (Nat.le_refl _) ⟨rfl, rfl, rfl⟩
  · by_cases hkd : d = k
    · subst hkd; simp only [lk, if_true, Option.some.injEq] at hk; subst hk
      refine ⟨c, e, by simp only [if_true]; exact zgf _ _, hl, by simp only [if_true]; exact hv.crep hx (zgf _ _), ?_, ?_, by simp only [if_true]; exact hw0⟩
      · simp only [if_true]; exact fun hf => Nat.lt_irrefl _ (h.wr.fzlt _ hf)
      · simp only [if_true]; rintro ⟨id, cs₂, δ, j1, j2⟩; exact Nat.lt_irrefl _ (h.wr.rholt _ _ _ _ j2)
    · simp only [lk, if_neg hkd] at hk
      simp only [if_neg (Ne.symm hkd)]
      exact hlr.box k cs₁ hk
  · by_cases hk : k = d
    · by_cases hk' : k' = d
      · rw [hk, hk']
      · simp only [if_pos hk, if_neg hk'] at hh
        have : lk st.L k' ≠ none := by simpa [lk, Ne.symm hk'] using h2
        obtain ⟨cs₁, hc₁⟩ := Option.ne_none_iff_exists'.1 this
        have := hlt k' cs₁ hc₁; omega
    · by_cases hk' : k' = d
      · simp only [if_neg hk, if_pos hk'] at hh
        have : lk st.L k ≠ none := by simpa [lk, Ne.symm hk] using h1
        obtain ⟨cs₁, hc₁⟩ := Option.ne_none_iff_exists'.1 this
        have := hlt k cs₁ hc₁; omega
      · simp only [if_neg hk, if_neg hk'] at hh
        exact h.lr.inj k k' (by simpa [lk, Ne.symm hk] using h1) (by simpa [lk, Ne.symm hk'] using h2) hh
  · obtain ⟨x, j1, j2⟩ := h.env t e' he
    refine ⟨x, j1, ?_⟩
    cases e' with
    | val v => exact zc8.ext (lam := lam) hx j2
    | loc key off =>
      have hne : key ≠ d := by
        rintro rfl
        exact hn t off (by simp [St.ev, he])
      simp only [zc8, if_neg hne]
      exact j2
end
section
variable {C : Cx} {st : St} {a : Act} {w : World} {g : Gh} {lam : Nat → Nat}
theorem zmq (w : World) (g : Gh) (v : Value) : zaj w g (zb1 v) v := by
  unfold zb1
  split <;> try (simp [zaj]; done)
  split
  · rename_i b hb
    simp only [zaj]
    exact ⟨_, rfl, hb, rfl⟩
  · simp [zaj]
theorem zfb (w : World) (g : Gh) (v : Value) : zaj w g (aOf v) v := by
  unfold aOf
  split
  · rename_i cs
    split
    case isFalse => simp [zaj]
    rename_i hall
    simp only [zaj]
    refine ⟨cs, rfl, fun x hx => List.all_eq_true.1 hall x hx, zcl.2 ⟨by simp, fun i c v h1 h2 => ?_⟩⟩
    simp only [List.getElem?_map, h2, Option.map_some, Option.some.injEq] at h1
    subst h1
    exact zmq w g v
  · exact zmq w g _
theorem SRepG.ev (h : SRepG C st a w g lam) (x : Operand) : zc8 w g lam (st.ev x) (a.eval x) := by
  cases x with
  | tmp t =>
    simp only [St.ev]
    cases he : lk st.env t with
    | none => simp [zc8, zaj]
    | some e =>
      obtain ⟨x, h1, h2⟩ := h.env t e he
      have : a.eval (.tmp t) = x := by
        obtain ⟨hlt, h1⟩ := Array.getElem?_eq_some_iff.1 h1
        simp [Act.eval, Array.getD, hlt, h1]
      rw [this]; exact h2
  | const v => exact zfb w g v
  | global n => simp [St.ev, zc8, zaj]
  | func f => simp [St.ev, zc8, zaj, Act.eval, zba]
theorem SRepG.evV (h : SRepG C st a w g lam) {x : Operand} {v : AV} (hx : st.ev x = .val v) : zaj w g v (a.eval x) := by
  have := h.ev x; rw [hx] at this; exact this
theorem SRepG.evL (h : SRepG C st a w g lam) {x : Operand} {k o : Nat} (hx : st.ev x = .loc k o) : a.eval x = .pointer (some ⟨lam k, o, none⟩) := by
  have := h.ev x; rw [hx] at this; exact this
theorem zif {e : EV} {b : Bool} (h : e.asB = some b) : e = .val (.bool b) := by
  unfold EV.asB at h; split at h <;> simp_all
theorem zy0 {e : EV} {k : IntKind} {n : Int} (h : e.asI = some (k, n)) : e = .val (.int k n) := by
  unfold EV.asI at h; split at h <;> simp_all
theorem ze6 {e : EV} {v : AV} (h : e.asV = some v) : e = .val v := by
  unfold EV.asV at h; split at h <;> simp_all
theorem zha {e : EV} {n : Int} (h : zlp e = some n) : ∃ k, e = .val (.int k n) := by
  unfold zlp at h; split at h <;> simp_all
theorem SRepG.evB (h : SRepG C st a w g lam) {x : Operand} {b : Bool} (hx : (st.ev x).asB = some b) : a.eval x = .bool b := by
  have := h.evV (zif hx); simpa [zaj] using this
theorem SRepG.evI (h : SRepG C st a w g lam) {x : Operand} {k : IntKind} {n : Int} (hx : (st.ev x).asI = some (k, n)) : a.eval x = .int k n := by
  have := h.evV (zy0 hx); simpa [zaj] using this
theorem zi6 {v : AV} {x : Nat} {y : Value} (h : v.asF = some x) (hv : zaj w g v y) : ∃ b, y = .float .f64 b ∧ b < 2 ^ 64 ∧ cn b = x := by
  unfold AV.asF at h
  split at h
  · simp only [Option.some.injEq] at h; subst h; simpa [zaj] using hv
  · simp only [Option.some.injEq] at h; subst h; simp only [zaj] at hv; exact ⟨_, hv.1, hv.2, rfl⟩
  · simp at h
theorem zga : Ieee.double.read qn = .nan false 2251799813685248 := by decide
theorem zdw {b : Nat} (h : isNaN b = true) : ∃ s t, Ieee.double.read b = .nan s t := by
  unfold isNaN Ieee.Datum.isNaN at h
  split at h
  · rename_i s t hh; exact ⟨s, t, hh⟩
  · simp at h
theorem zc3 (b : Nat) : (isNaN b = true ∧ cn b = qn) ∨ (isNaN b = false ∧ cn b = b) := by
  unfold cn; cases h : isNaN b <;> simp
theorem zmt (f : Ieee.Datum → Ieee.Datum → Option Ieee.Datum) (hl : ∀ s t d, f (.nan s t) d = none) (hr : ∀ s t d, f d (.nan s t) = none) (a b : Nat) :
    f (Ieee.double.read (cn a)) (Ieee.double.read (cn b)) = f (Ieee.double.read a) (Ieee.double.read b) := by
  rcases zc3 a with ⟨ha, ea⟩ | ⟨_, ea⟩ <;> rcases zc3 b with ⟨hb, eb⟩ | ⟨_, eb⟩ <;> rw [ea, eb]
  · obtain ⟨s, t, h1⟩ := zdw ha; rw [zga, hl, h1, hl]
  · obtain ⟨s, t, h1⟩ := zdw ha; rw [zga, hl, h1, hl]
  · obtain ⟨s, t, h1⟩ := zdw hb; rw [zga, hr, h1, hr]
theorem zo4 (a b : Nat) : Ieee.double.add (cn a) (cn b) = Ieee.double.add a b := by
  unfold Ieee.Format.add
  rw [zmt Ieee.Datum.sum (fun s t d => by cases d <;> rfl) (fun s t d => by cases d <;> rfl)]
theorem zr6 (a b : Nat) : Ieee.double.sub (cn a) (cn b) = Ieee.double.sub a b := by
  unfold Ieee.Format.sub
  rw [zmt (fun x y => x.sum y.opposite) (fun s t d => by cases d <;> rfl) (fun s t d => by cases d <;> rfl)]
theorem zqx (a b : Nat) : Ieee.double.mul (cn a) (cn b) = Ieee.double.mul a b := by
  unfold Ieee.Format.mul
  rw [zmt Ieee.Datum.product (fun s t d => by cases d <;> rfl) (fun s t d => by cases d <;> rfl)]
theorem zzt (a b : Nat) : Ieee.double.div (cn a) (cn b) = Ieee.double.div a b := by
  unfold Ieee.Format.div
  rw [zmt (Ieee.Datum.quotient _) (fun s t d => by cases d <;> rfl) (fun s t d => by cases d <;> rfl)]
theorem zju (a b : Nat) : Ieee.double.order (cn a) (cn b) = Ieee.double.order a b := by
  unfold Ieee.Format.order
  rcases zc3 a with ⟨ha, ea⟩ | ⟨_, ea⟩ <;> rcases zc3 b with ⟨hb, eb⟩ | ⟨_, eb⟩ <;> rw [ea, eb]
  · obtain ⟨s, t, h1⟩ := zdw ha; obtain ⟨s', t', h2⟩ := zdw hb; rw [zga, h1, h2]; rfl
  · obtain ⟨s, t, h1⟩ := zdw ha; rw [zga, h1]; cases Ieee.double.read b <;> rfl
  · obtain ⟨s, t, h1⟩ := zdw hb; rw [zga, h1]; cases Ieee.double.read a <;> rfl
theorem z2y : cn qn = qn := by decide
theorem zqk (t : Nat) : isNaN ((t % 2) * 2 ^ 63 + 0x7ff0000000000000 + 1 + (t / 2) % (2 ^ 52 - 1)) = true ∧ (t % 2) * 2 ^ 63 + 0x7ff0000000000000 + 1 + (t / 2) % (2 ^ 52 - 1) < 2 ^ 64 := by
  have h1 : t % 2 < 2 := Nat.mod_lt _ (by omega)
  have h2 : (t / 2) % (2 ^ 52 - 1) < 2 ^ 52 - 1 := Nat.mod_lt _ (by omega)
  generalize (t / 2) % (2 ^ 52 - 1) = r at h2 ⊢
  generalize t % 2 = s at h1 ⊢
  refine ⟨?_, by omega⟩
  have e1 : Ieee.double.signWeight = 2 ^ 63 := by decide
  have e2 : Ieee.double.binade = 2 ^ 52 := by decide
  have e3 : Ieee.double.infRung = 0x7ff0000000000000 := by decide
  have e4 : (s * 2 ^ 63 + 0x7ff0000000000000 + 1 + r) % 2 ^ 63 = 0x7ff0000000000000 + 1 + r := by omega
  unfold isNaN Ieee.Format.read
  simp only [e1, e2, e3, e4]
  rw [if_neg (by omega), if_neg (by omega), if_neg (by omega)]
  rfl
theorem zwn (x y t : Nat) : cn ((Question.nanBits .f64 x y).cut t) = qn ∧ (Question.nanBits .f64 x y).cut t < 2 ^ 64 := by
  have h := zqk t
  simp only [Question.cut]
  exact ⟨by unfold cn; rw [if_pos h.1], h.2⟩
theorem zmx (P : Program) (w : World) (op : BinOp) (f : Nat → Nat → Option Nat) (x y : Nat) (hop : ∀ x y, floatBits op .f64 x y = f x y) (hcn : f (cn x) (cn y) = f x y)
    (hb : op = .add ∨ op = .sub ∨ op = .mul ∨ op = .quo) (t : TypeId) :
    ∃ r w', (binOp op t (.float .f64 x) (.float .f64 y)).run P w = .ok (.float .f64 r) w' ∧ w'.heap = w.heap ∧ Sames w w' ∧ r < 2 ^ 64 ∧ cn r = fop f (cn x) (cn y) := by
  cases hf : f x y with
  | some r =>
    have hfb : floatBits op .f64 x y = some r := by rw [hop, hf]
    refine ⟨r, w, run_float_arith w op t .f64 x y r hfb, rfl, ⟨rfl, rfl, rfl⟩, ?_, ?_⟩
    · have := floatBits_wf hfb; simpa [Lit.wf] using this
    · simp [fop, hcn, hf]
  | none =>
    have hr : (binOp op t (.float .f64 x) (.float .f64 y)).run P w = .ok (.float .f64 ((Question.nanBits .f64 x y).cut (w.tape w.drawn (.nanBits .f64 x y)))) { w with drawn := w.drawn + 1 } := by
      have hfb : floatBits op .f64 x y = none := by rw [hop, hf]
      unfold floatBits at hfb
      rcases hb with rfl | rfl | rfl | rfl <;> simp only at hfb <;> simp [binOp, Op.floatArith, hfb, choose, Sem.run, Question.forced]
    obtain ⟨h1, h2⟩ := zwn x y (w.tape w.drawn (.nanBits .f64 x y))
    exact ⟨_, _, hr, rfl, ⟨rfl, rfl, rfl⟩, h2, by rw [h1]; simp [fop, hcn, hf]⟩
theorem zqv (a b : Nat) : (Ieee.double.order a b == some .gt) = (Ieee.double.order b a == some .lt) := by
  unfold Ieee.Format.order
  generalize Ieee.double.read a = x; generalize Ieee.double.read b = y
  cases x <;> cases y <;> try rfl
  · rename_i s m i t n j
    simp only [Ieee.Datum.order]
    rw [show min j i = min i j from Int.min_comm _ _]
    generalize Ieee.signed s m (i - min i j).toNat = p; generalize Ieee.signed t n (j - min i j).toNat = q
    simp only [compare, compareOfLessAndEq]
    by_cases h1 : p < q
    · simp [h1, show ¬ q < p from by omega, show ¬ q = p from by omega]
    · by_cases h2 : p = q
      · subst h2; simp
      · simp [h1, h2, show q < p from by omega]
  · rename_i s m i t; cases t <;> rfl
  · rename_i s t n j; cases s <;> rfl
  · rename_i s t; cases s <;> cases t <;> rfl
end
end Go.Sx
set_option linter.unusedVariables false
set_option linter.unusedSimpArgs false
namespace Go.Sx
section
variable {C : Cx} {st : St} {a : Act} {w : World} {g : Gh} {lam : Nat → Nat}
def Gives (P : Program) (w : World) (g : Gh) (s : Sem Value) (v : AV) : Prop :=
  ∃ x w', s.run P w = .ok x w' ∧ w'.heap = w.heap ∧ Sames w w' ∧ zaj w g v x
theorem Gives.pure {P : Program} {w : World} {g : Gh} {s : Sem Value} {v : AV} {x : Value} (h : s.run P w = .ok x w) (hv : zaj w g v x) : Gives P w g s v :=
  ⟨x, w, h, rfl, ⟨rfl, rfl, rfl⟩, hv⟩
theorem zn2 {P : Program} {op : BinOp} {t : TypeId} {k : IntKind} {x y : Int} {c : Prop} {v : AV} (h : z2s op k x y = some (c, v)) (hc : c) (xo yo : Operand) :
    Gives P w g (do eqGuard op t xo yo (.int k x) (.int k y); binOp op t (.int k x) (.int k y)) v := by
  cases op <;> simp only [z2s, Option.some.injEq, Prod.mk.injEq, reduceCtorEq] at h
  case quo =>
    obtain ⟨rfl, rfl⟩ := h
    exact .pure (by simp [eqGuard, binOp, Op.intDiv, hc]; rfl) (by simp [zaj])
  case rem =>
    obtain ⟨rfl, rfl⟩ := h
    exact .pure (by simp [eqGuard, binOp, Op.intDiv, hc]; rfl) (by simp [zaj])
  case and => obtain ⟨rfl, rfl⟩ := h; exact .pure (x := .int k (zf7 .and k x y)) (by cases k <;> rfl) (by simp [zaj])
  case or => obtain ⟨rfl, rfl⟩ := h; exact .pure (x := .int k (zf7 .or k x y)) (by cases k <;> rfl) (by simp [zaj])
  case xor => obtain ⟨rfl, rfl⟩ := h; exact .pure (x := .int k (zf7 .xor k x y)) (by cases k <;> rfl) (by simp [zaj])
  case andNot => obtain ⟨rfl, rfl⟩ := h; exact .pure (x := .int k (zf7 .andNot k x y)) (by cases k <;> rfl) (by simp [zaj])
  all_goals
    obtain ⟨rfl, rfl⟩ := h
    exact .pure (by simp [eqGuard, binOp, Op.intArith, Op.intCmp]; rfl) (by simp [zaj])
theorem zlh {P : Program} {op : BinOp} {t : TypeId} {k k' : IntKind} {x y : Int} {c : Prop} {v : AV} (h : shI op k x y = some (c, v)) (hc : c) (xo yo : Operand) :
    Gives P w g (do eqGuard op t xo yo (.int k x) (.int k' y); binOp op t (.int k x) (.int k' y)) v := by
  cases op <;> simp only [shI, Option.some.injEq, Prod.mk.injEq, reduceCtorEq] at h
  all_goals
    obtain ⟨rfl, rfl⟩ := h
    have hn : ¬ y < 0 := by omega
    exact .pure (by simp [eqGuard, binOp, Op.shift, hn]; rfl) (by simp [zaj])
theorem zn1 {P : Program} {op : BinOp} {t : TypeId} {x y : Nat} {c : Prop} {v : AV} (h : z2r op (cn x) (cn y) = some (c, v)) (hc : c) (xo yo : Operand) :
    Gives P w g (do eqGuard op t xo yo (.float .f64 x) (.float .f64 y); binOp op t (.float .f64 x) (.float .f64 y)) v := by
  have hg : ∀ w : World, (eqGuard op t xo yo (.float .f64 x) (.float .f64 y)).run P w = .ok () w := by
    intro w; cases op <;> simp [eqGuard] <;> rfl
  have hf : FloatKind.f64.format = Ieee.double := rfl
  cases op <;> simp only [z2r, Option.some.injEq, Prod.mk.injEq, reduceCtorEq] at h
  case add =>
    obtain ⟨rfl, rfl⟩ := h
    obtain ⟨r, w', h1, h2, h3, h4, h5⟩ := zmx P w .add Ieee.double.add x y (fun _ _ => rfl) (zo4 _ _) (by simp) t
    exact ⟨.float .f64 r, w', by simp [Sem.run_bind, hg, h1], h2, h3, by simp only [zaj]; exact ⟨r, rfl, h4, h5⟩⟩
  case sub =>
    obtain ⟨rfl, rfl⟩ := h
    obtain ⟨r, w', h1, h2, h3, h4, h5⟩ := zmx P w .sub Ieee.double.sub x y (fun _ _ => rfl) (zr6 _ _) (by simp) t
    exact ⟨.float .f64 r, w', by simp [Sem.run_bind, hg, h1], h2, h3, by simp only [zaj]; exact ⟨r, rfl, h4, h5⟩⟩
  case mul =>
    obtain ⟨rfl, rfl⟩ := h
    obtain ⟨r, w', h1, h2, h3, h4, h5⟩ := zmx P w .mul Ieee.double.mul x y (fun _ _ => rfl) (zqx _ _) (by simp) t
    exact ⟨.float .f64 r, w', by simp [Sem.run_bind, hg, h1], h2, h3, by simp only [zaj]; exact ⟨r, rfl, h4, h5⟩⟩
  case quo =>
    obtain ⟨rfl, rfl⟩ := h
    obtain ⟨r, w', h1, h2, h3, h4, h5⟩ := zmx P w .quo Ieee.double.div x y (fun _ _ => rfl) (zzt _ _) (by simp) t
    exact ⟨.float .f64 r, w', by simp [Sem.run_bind, hg, h1], h2, h3, by simp only [zaj]; exact ⟨r, rfl, h4, h5⟩⟩
  case gtr =>
    obtain ⟨rfl, rfl⟩ := h
    exact .pure (by simp only [Sem.run_bind, hg]; simp [binOp, Op.floatCmp, hf]; rfl) (by simp [zaj, flt, feq, zju, zqv])
  case geq =>
    obtain ⟨rfl, rfl⟩ := h
    exact .pure (by simp only [Sem.run_bind, hg]; simp [binOp, Op.floatCmp, hf]; rfl) (by simp [zaj, flt, feq, zju, zqv])
  all_goals
    obtain ⟨rfl, rfl⟩ := h
    exact .pure (by simp only [Sem.run_bind, hg]; simp [binOp, Op.floatCmp, hf]; rfl) (by simp [zaj, flt, feq, zju, bne])
theorem zpu (P : Program) (w : World) (t : TypeId) (p q : Bool) (hu : P.underlying t = some .bool) : (Op.equal t (.bool p) (.bool q)).run P w = .ok (p == q) w := by
  show (Op.equalIn (9999 + 1) t (.bool p) (.bool q)).run P w = _
  rw [Op.equalIn, Sem.run_bind, run_underlying hu]
  rfl
theorem zht {P : Program} {t : TypeId} {x y : AV} {X Y : Value} {r : Bool} (h : zok P t x y = some r) (hx : zaj w g x X) (hy : zaj w g y Y) : (Op.equal t X Y).run P w = .ok r w ∧
    ((∃ p q, X = .pointer p ∧ Y = .pointer q) ∨ (∃ p q a b c d, X = .slice p a b ∧ Y = .slice q c d)) := by
  have pt : zof P t = true → ∃ e, P.underlying t = some (.pointer e) := by
    intro h; unfold zof at h; split at h
    · rename_i e he; exact ⟨e, he⟩
    · cases h
  have sl : zyt P t = true → ∃ e, P.underlying t = some (.slice e) := by
    intro h; unfold zyt at h; split at h
    · rename_i e he; exact ⟨e, he⟩
    · cases h
  have goP : ∀ (p q : Option Addr) (b : Bool), zof P t = true → (p = none ∧ b = q.isNone ∨ p ≠ none ∧ q = none ∧ b = false) → (Op.equal t (.pointer p) (.pointer q)).run P w = .ok b w := by
    intro p q b ht hb
    obtain ⟨e, he⟩ := pt ht
    show (Op.equalIn (9999 + 1) t _ _).run P w = _
    rw [Op.equalIn, Sem.run_bind, run_underlying he]
    simp only [Result.andThen_ok]
    rcases hb with ⟨rfl, rfl⟩ | ⟨hp, rfl, rfl⟩
    · rfl
    · cases p with
      | none => exact (hp rfl).elim
      | some p => rfl
  have goS : ∀ (p q : Option Addr) (b : Bool) (l c l' c' : Nat), zyt P t = true → (p = none ∧ b = q.isNone ∨ p ≠ none ∧ q = none ∧ b = false) → (Op.equal t (.slice p l c) (.slice q l' c')).run P w = .ok b w := by
    intro p q b l c l' c' ht hb
    obtain ⟨e, he⟩ := sl ht
    show (Op.equalIn (9999 + 1) t _ _).run P w = _
    rw [Op.equalIn, Sem.run_bind, run_underlying he]
    simp only [Result.andThen_ok]
    rcases hb with ⟨rfl, rfl⟩ | ⟨hp, rfl, rfl⟩
    · rfl
    · cases p with
      | none => exact (hp rfl).elim
      | some p => rfl
  unfold zok at h
  split at h <;> (try cases h) <;> split at h <;> (try cases h)
  · rename_i ht
    simp only [zaj] at hx hy
    obtain ⟨b, o, rfl, _⟩ := hx
    subst hy
    exact ⟨goP _ _ _ ht (.inr ⟨by simp, rfl, rfl⟩), .inl ⟨_, _, rfl, rfl⟩⟩
  · rename_i ht
    simp only [zaj] at hx hy
    obtain ⟨b, o, rfl, _⟩ := hy
    subst hx
    exact ⟨goP _ _ _ ht (.inl ⟨rfl, rfl⟩), .inl ⟨_, _, rfl, rfl⟩⟩
  · rename_i ht
    simp only [zaj] at hx hy
    subst hx hy
    exact ⟨goP _ _ _ ht (.inl ⟨rfl, rfl⟩), .inl ⟨_, _, rfl, rfl⟩⟩
  · rename_i ht
    simp only [zaj] at hx hy
    subst hx hy
    exact ⟨goS _ _ _ _ _ _ _ ht (.inl ⟨rfl, rfl⟩), .inr ⟨_, _, _, _, _, _, rfl, rfl⟩⟩
  · rename_i ht
    simp only [zaj] at hx hy
    obtain ⟨b, δ, cap, n, _, rfl, _⟩ := hx
    subst hy
    exact ⟨goS _ _ _ _ _ _ _ ht (.inr ⟨by simp, rfl, rfl⟩), .inr ⟨_, _, _, _, _, _, rfl, rfl⟩⟩
  · rename_i ht
    simp only [zaj] at hx hy
    obtain ⟨cap, _, h1 | ⟨b, o, rfl, _⟩⟩ := hx
    · simp at h1
    · subst hy
      exact ⟨goS _ _ _ _ _ _ _ ht (.inr ⟨by simp, rfl, rfl⟩), .inr ⟨_, _, _, _, _, _, rfl, rfl⟩⟩
theorem zhi {P : Program} {t : TypeId} {xs ys : List AV} {X Y : Value} {r : Bool} (h : zsp P t xs ys = some r) (hx : zaj w g (.agg xs) X) (hy : zaj w g (.agg ys) Y) :
    (Op.equal t X Y).run P w = .ok r w ∧ (∃ p q, X = .agg p ∧ Y = .agg q) ∧ P.eqGuardType P.depth t = false := by
  unfold zsp at h
  split at h
  case h_2 => cases h
  rename_i e k a k' b l c l' d hu
  split at h
  case h_2 => cases h
  rename_i k0 he hz hg
  split at h
  case isFalse => cases h
  rename_i hk
  obtain ⟨rfl, rfl, rfl, rfl⟩ := hk
  simp only [Option.some.injEq] at h; subst h
  simp only [zaj] at hx hy
  obtain ⟨vs, rfl, _, hx⟩ := hx
  obtain ⟨us, rfl, _, hy⟩ := hy
  simp only [zba, zaj] at hx hy
  obtain ⟨_, _, e1, rfl, _, _, e2, rfl, rfl⟩ := hx
  obtain ⟨_, _, e3, rfl, _, _, e4, rfl, rfl⟩ := hy
  subst e2 e4
  obtain rfl : vs = #[.int l' a, .int l' b] := Array.toList_inj.1 e1
  obtain rfl : us = #[.int l' c, .int l' d] := Array.toList_inj.1 e3
  refine ⟨?_, ⟨_, _, rfl, rfl⟩, hg⟩
  unfold tsz at hz
  simp only [Option.map_eq_some_iff] at hz
  obtain ⟨i, hi, hs1⟩ := hz
  have hs : (sizeOf e).run P w = .ok 1 w := by simp [sizeOf, typeInfo, hi, hs1, Sem.run_bind]
  have hagg : (isAgg e).run P w = .ok false w := by
    unfold isAgg
    rw [Sem.run_bind, run_underlying he w]
    rfl
  have hp : ∀ (vs : Array Value) (o : Nat) (v : Value), vs[o]? = some v → (part e vs o).run P w = .ok v w := by
    intro vs o v hv
    simp [part, Sem.run_bind, hagg, hv]
  have hp0 : ∀ x y : Int, (part e #[.int l' x, .int l' y] 0).run P w = .ok (.int l' x) w := fun x y => hp _ 0 _ rfl
  have hp1 : ∀ x y : Int, (part e #[.int l' x, .int l' y] 1).run P w = .ok (.int l' y) w := fun x y => hp _ 1 _ rfl
  have hq : ∀ x y : Int, (Op.equalIn 9999 e (.int l' x) (.int l' y)).run P w = .ok (x == y) w := by
    intro x y
    show (Op.equalIn (9998 + 1) e (.int l' x) (.int l' y)).run P w = _
    rw [Op.equalIn, Sem.run_bind, run_underlying he]
    simp
  show (Op.equalIn (9999 + 1) t _ _).run P w = _
  rw [Op.equalIn]
  simp only [Sem.run_bind, run_underlying hu, Result.andThen_ok, hs]
  simp only [Std.Legacy.Range.forIn_eq_forIn_range', Std.Legacy.Range.size, Nat.sub_zero, Nat.add_sub_cancel, Nat.div_one, List.range'_succ, List.range'_zero, List.forIn_cons, List.forIn_nil]
  by_cases h1 : a = c <;> by_cases h2 : b = d <;> simp [Sem.run_bind, h1, h2, hq, hp0, hp1]
theorem zom {P : Program} {op : BinOp} {t : TypeId} {x y : AV} {X Y : Value} {c : Prop} {v : AV} (h : z0s P op t x y = some (c, v)) (hc : c) (xo yo : Operand)
    (hx : zaj w g x X) (hy : zaj w g y Y) : Gives P w g (do eqGuard op t xo yo X Y; binOp op t X Y) v := by
  unfold z0s at h
  split at h
  · rename_i a b
    simp only [zaj] at hx hy
    subst hx hy
    cases op <;> simp only [z5a, Option.some.injEq, Prod.mk.injEq, reduceCtorEq] at h <;> obtain ⟨rfl, rfl⟩ := h
    · refine .pure (x := .string (a ++ b)) ?_ (by simp [zaj])
      have : ¬ (((a.size + b.size : Nat) : Int) > IntKind.i64.max) := by
        have : IntKind.i64.max = 9223372036854775807 := by decide
        omega
      simp only [eqGuard, binOp, Op.stringOp, Sem.run_bind, Sem.run_pure, Result.andThen_ok, this, if_false]
      rfl
    · exact .pure (x := .bool (a.toList == b.toList)) (by simp [eqGuard, binOp, Op.stringOp]) (by simp [zaj])
    · exact .pure (x := .bool (!(a.toList == b.toList))) (by simp [eqGuard, binOp, Op.stringOp]) (by simp [zaj])
  · split at h
    · simp only [Option.map_eq_some_iff, Prod.mk.injEq] at h
      obtain ⟨r, hr, _, rfl⟩ := h
      obtain ⟨h1, ⟨p, q, rfl, rfl⟩, h2⟩ := zhi hr hx hy
      exact .pure (x := .bool r) (by simp [eqGuard, binOp, h1, h2, Sem.run_bind]) (by simp [zaj])
    · simp only [Option.map_eq_some_iff, Prod.mk.injEq] at h
      obtain ⟨r, hr, _, rfl⟩ := h
      obtain ⟨h1, ⟨p, q, rfl, rfl⟩, h2⟩ := zhi hr hx hy
      exact .pure (x := .bool (!r)) (by simp [eqGuard, binOp, h1, h2, Sem.run_bind]) (by simp [zaj])
    · cases h
  · split at h
    · simp only [Option.map_eq_some_iff, Prod.mk.injEq] at h
      obtain ⟨r, hr, _, rfl⟩ := h
      obtain ⟨h1, ⟨p, q, rfl, rfl⟩ | ⟨p, q, a, b, c, d, rfl, rfl⟩⟩ := zht hr hx hy
      · exact .pure (x := .bool r) (by simp [eqGuard, binOp, h1]) (by simp [zaj])
      · exact .pure (x := .bool r) (by simp [eqGuard, binOp, h1]) (by simp [zaj])
    · simp only [Option.map_eq_some_iff, Prod.mk.injEq] at h
      obtain ⟨r, hr, _, rfl⟩ := h
      obtain ⟨h1, ⟨p, q, rfl, rfl⟩ | ⟨p, q, a, b, c, d, rfl, rfl⟩⟩ := zht hr hx hy
      · exact .pure (x := .bool (!r)) (by simp [eqGuard, binOp, h1]) (by simp [zaj])
      · exact .pure (x := .bool (!r)) (by simp [eqGuard, binOp, h1]) (by simp [zaj])
    · cases h
theorem zn3 {P : Program} {op : BinOp} {t : TypeId} {x y : EV} {X Y : Value} {c : Prop} {v : AV} (h : zou P op t x y = some (c, v)) (hc : c) (xo yo : Operand)
    (hx : zc8 w g lam x X) (hy : zc8 w g lam y Y) : Gives P w g (do eqGuard op t xo yo X Y; binOp op t X Y) v := by
  unfold zou at h
  split at h
  · rename_i k a k' b
    simp only [zc8, zaj] at hx hy
    subst hx hy
    split at h
    · exact zlh h hc xo yo
    · exact zlh h hc xo yo
    · split at h
      · rename_i hk; subst hk; exact zn2 h hc xo yo
      · simp at h
  · rename_i a b
    simp only [zc8, zaj] at hx hy
    subst hx hy
    split at h
    · rename_i hu
      simp only [Option.some.injEq, Prod.mk.injEq] at h; obtain ⟨rfl, rfl⟩ := h
      exact .pure (x := .bool (a == b)) (by simp [eqGuard, binOp, zpu P _ t a b hu]) (by simp [zaj])
    · rename_i hu
      simp only [Option.some.injEq, Prod.mk.injEq] at h; obtain ⟨rfl, rfl⟩ := h
      exact .pure (x := .bool (a != b)) (by simp [eqGuard, binOp, zpu P _ t a b hu]; cases a <;> cases b <;> rfl) (by simp [zaj])
    · simp at h
  · rename_i xv yv _ _
    split at h
    · rename_i p q hp hq
      simp only [zc8] at hx hy
      obtain ⟨b, rfl, h1, rfl⟩ := zi6 hp hx
      obtain ⟨b', rfl, h2, rfl⟩ := zi6 hq hy
      exact zn1 h hc xo yo
    · simp only [zc8] at hx hy
      exact zom h hc xo yo hx hy
  · simp at h
theorem zgt (P : Program) (w : World) (b o o' : Nat) : (sameAddr ⟨b, o, none⟩ ⟨b, o', none⟩).run P w = .ok (decide (o = o')) w := by
  have : ((⟨b, o, none⟩ : Addr) == ⟨b, o', none⟩) = decide (o = o') := by
    by_cases h : o = o'
    · subst h; simp
    · simp [h]
  simp only [sameAddr, beq_self_eq_true, if_true, Sem.run_pure, this]
theorem cells_of_cell {w : World} {b o : Nat} {v : Value} (h : w.cell? ⟨b, o, none⟩ = some v) : ∃ c e fr, w.heap[b]? = some (.cells c e fr) ∧ 0 < c.size := by
  unfold World.cell? at h
  split at h
  · rename_i c e fr hh
    refine ⟨c, e, fr, hh, ?_⟩
    simp only [Option.isSome_none, Bool.false_eq_true, if_false] at h
    have := (Array.getElem?_eq_some_iff.1 h).1
    omega
  · simp at h
theorem zex (P : Program) (w : World) {b b' o o' : Nat} (hne : b ≠ b') {c c' : Array Value} {e e' : TypeId} {fr' : Nat × Nat} (h1 : w.heap[b]? = some (.cells c e (0, 0))) (h2 : w.heap[b']? = some (.cells c' e' fr')) (hz : fr' = (0, 0) ∨ 0 < c'.size) :
    (sameAddr ⟨b, o, none⟩ ⟨b', o', none⟩).run P w = .ok false w ∧ (sameAddr ⟨b', o', none⟩ ⟨b, o, none⟩).run P w = .ok false w := by
  have hf : ∀ x, w.frozen? ⟨b, x, none⟩ = false := fun x => by simp [World.frozen?, h1]
  have hs : w.shape? b = some (e, c.size) := by simp [World.shape?, h1]
  have hs' : w.shape? b' = some (e', c'.size) := by simp [World.shape?, h2]
  have hb : (b == b') = false := by simpa using hne
  have hb' : (b' == b) = false := by simpa using fun h => hne h.symm
  have f0 : ∀ x, (Go.frozen ⟨b, x, none⟩).run P w = .ok false w := fun x => by simp only [Go.frozen, Sem.run, hf]
  have f1 : ∀ x, (Go.frozen ⟨b', x, none⟩).run P w = .ok (w.frozen? ⟨b', x, none⟩) w := fun x => by simp only [Go.frozen, Sem.run]
  have s0 : (Go.shape b).run P w = .ok (some (e, c.size)) w := by simp only [Go.shape, Sem.run, hs]
  have s1 : (Go.shape b').run P w = .ok (some (e', c'.size)) w := by simp only [Go.shape, Sem.run, hs']
  have v0 : ∀ x, (noView ⟨b, x, none⟩).run P w = .ok () w := fun x => by simp [noView, viewAt, Sem.run_bind, s0]
  have v1 : ∀ x, (noView ⟨b', x, none⟩).run P w = .ok () w := fun x => by simp [noView, viewAt, Sem.run_bind, s1]
  have g0 : ∀ x, (stringish ⟨b, x, none⟩).run P w = .ok false w := fun x => by simp [stringish, Sem.run_bind, f0, s0, hs, hf]
  have g1 : ∀ x, ∃ r, (stringish ⟨b', x, none⟩).run P w = .ok r w ∧ (fr' = (0, 0) → r = false) := fun x => by
    cases hq : w.frozen? ⟨b', x, none⟩ with
    | true =>
      refine ⟨true, by simp [stringish, Sem.run_bind, f1, hq], fun hh => ?_⟩
      subst hh; simp [World.frozen?, h2] at hq
    | false =>
      refine ⟨w.frozen? ⟨b', c'.size, none⟩, by simp [stringish, Sem.run_bind, f1, hq, s1, hs'], fun hh => ?_⟩
      subst hh; simp [World.frozen?, h2]
  obtain ⟨r, hr, hr0⟩ := g1 o'
  have m0 : (r && (match some (e', c'.size) with | some (_, 0) => true | _ => false)) = false := by
    rcases hz with hz | hz
    · rw [hr0 hz]; rfl
    · cases hc : c'.size with
      | zero => omega
      | succ n => simp
  constructor
  · cases hq : w.frozen? ⟨b', o', none⟩ <;>
    · cases r
      · simp [sameAddr, hb, Sem.run_bind, f0, f1, hq, v0, v1, mayBeOne, g0, hr, s0, s1, hs, hs', hf]
      · have : c'.size ≠ 0 := by
          rcases hz with hz | hz
          · exact absurd (hr0 hz) (by simp)
          · omega
        simp [sameAddr, hb, Sem.run_bind, f0, f1, hq, v0, v1, mayBeOne, g0, hr, s0, s1, hs, hs', hf]
        (try (split <;> simp_all))
  · cases hq : w.frozen? ⟨b', o', none⟩ <;>
    · cases r
      · simp [sameAddr, hb', Sem.run_bind, f0, f1, hq, v0, v1, mayBeOne, g0, hr, s0, s1, hs, hs', hf]
      · have : c'.size ≠ 0 := by
          rcases hz with hz | hz
          · exact absurd (hr0 hz) (by simp)
          · omega
        simp [sameAddr, hb', Sem.run_bind, f0, f1, hq, v0, v1, mayBeOne, g0, hr, s0, s1, hs, hs', hf]
        (try (split <;> simp_all))
theorem zg1 {H : List (List AV)} (hw : WRep w g H) {id gen b δ : Nat} (hc : zls H id gen = true) (hr : g.ρ id gen = some (b, δ)) : ∃ cs c e, H[id]? = some cs ∧ cs.length = gen ∧ w.heap[b]? = some (.cells c e (0, 0)) ∧ ¬ g.Fz b := by
  unfold zls at hc
  split at hc
  · rename_i cs hcs
    have hg : cs.length = gen := by simpa using hc
    obtain ⟨b', δ', c, e, h1, h2, h3, h4, h5, h6⟩ := hw.blk id cs hcs
    rw [hg, hr] at h1
    simp only [Option.some.injEq, Prod.mk.injEq] at h1
    obtain ⟨rfl, rfl⟩ := h1
    exact ⟨cs, c, e, hcs, hg, h2, h5⟩
  · cases hc
theorem zmd {P : Program} {H : List (List AV)} (hw : WRep w g H) {s s' : AV} {o o' b b' a a' : Nat} {r : Bool} (h : ptrEq H s a s' a' = some r) (h1 : zbi w g s b o) (h2 : zbi w g s' b' o') :
    (sameAddr ⟨b, o + a, none⟩ ⟨b', o' + a', none⟩).run P w = .ok r w := by
  unfold ptrEq at h
  split at h
  · rename_i id gn of _ _ a id' gn' of' _ _ a'
    split at h
    · rename_i hc
      simp only [Bool.and_eq_true] at hc
      simp only [zbi] at h1 h2
      obtain ⟨δ, h1, rfl⟩ := h1
      obtain ⟨δ', h2, rfl⟩ := h2
      obtain ⟨cs, c, e, k1, k2, k3, k4⟩ := zg1 hw hc.1 h1
      obtain ⟨cs', c', e', k1', k2', k3', k4'⟩ := zg1 hw hc.2 h2
      split at h
      · rename_i hid
        subst hid
        rw [k1] at k1'; simp only [Option.some.injEq] at k1'; subst k1'
        subst k2; subst k2'
        rw [h1] at h2; simp only [Option.some.injEq, Prod.mk.injEq] at h2
        obtain ⟨rfl, rfl⟩ := h2
        simp only [Option.some.injEq] at h; subst h
        rw [zgt]
        congr 1
        exact decide_eq_decide.2 (by omega)
      · rename_i hid
        simp only [Option.some.injEq] at h; subst h
        refine (zex P w (fun hb => hid ?_) k3 k3' (.inl rfl)).1
        subst hb k2 k2'
        exact hw.inj _ _ _ _ _ _ _ k1 k1' h1 h2
    · cases h
  · rename_i p of _ _ a q of' _ _ a'
    split at h
    · rename_i hpq
      subst hpq
      simp only [zbi] at h1 h2
      obtain ⟨h1, _⟩ := h1
      obtain ⟨h2, _⟩ := h2
      simp only [reduceCtorEq, Option.some.injEq, Prod.mk.injEq, false_or] at h1 h2
      obtain ⟨rfl, rfl⟩ := h1
      obtain ⟨rfl, rfl⟩ := h2
      simp only [Option.some.injEq] at h; subst h
      rw [zgt]
    · cases h
  · rename_i id gn of _ _ a tg _ x xs a'
    split at h
    · rename_i hc
      simp only [Option.some.injEq] at h; subst h
      simp only [zbi, zc9] at h1 h2
      obtain ⟨δ, h1, rfl⟩ := h1
      obtain ⟨_, hz, ⟨v, hv, _⟩, _⟩ := h2
      obtain ⟨cs, c, e, k1, k2, k3, k4⟩ := zg1 hw hc h1
      obtain ⟨c', e', fr', j1, j2⟩ := cells_of_cell hv
      exact (zex P w (fun hb => k4 (by rw [hb]; exact hz)) k3 j1 (.inr j2)).1
    · cases h
  · rename_i tg _ x xs a id gn of _ _ a'
    split at h
    · rename_i hc
      simp only [Option.some.injEq] at h; subst h
      simp only [zbi, zc9] at h1 h2
      obtain ⟨δ, h2, rfl⟩ := h2
      obtain ⟨_, hz, ⟨v, hv, _⟩, _⟩ := h1
      obtain ⟨cs, c, e, k1, k2, k3, k4⟩ := zg1 hw hc h2
      obtain ⟨c', e', fr', j1, j2⟩ := cells_of_cell hv
      exact (zex P w (fun hb => k4 (by rw [hb]; exact hz)) k3 j1 (.inr j2)).2
    · cases h
  · cases h
theorem zoo {P : Program} {H : List (List AV)} (hw : WRep w g H) {op : BinOp} {t : TypeId} {x y : EV} {X Y : Value} {v : AV} (h : zxz P H op t x y = some v) (xo yo : Operand)
    (hx : zc8 w g lam x X) (hy : zc8 w g lam y Y) : Gives P w g (do eqGuard op t xo yo X Y; binOp op t X Y) v := by
  have key : ∀ {s s' : AV} {a a' : Nat} {r : Bool}, zre P t = true → ptrEq H s a s' a' = some r → zaj w g (.eptr s a) X → zaj w g (.eptr s' a') Y →
      ∃ p q, X = .pointer (some p) ∧ Y = .pointer (some q) ∧ (Op.equal t (.pointer (some p)) (.pointer (some q))).run P w = .ok r w := by
    intro s s' a a' r ht hp hX hY
    simp only [zaj] at hX hY
    obtain ⟨b, o, rfl, hX⟩ := hX
    obtain ⟨b', o', rfl, hY⟩ := hY
    refine ⟨_, _, rfl, rfl, ?_⟩
    have hr := zmd (P := P) hw hp hX hY
    unfold zre at ht
    split at ht
    · rename_i e hu
      cases hz : tsz P e with
      | none => rw [hz] at ht; simp at ht
      | some n =>
        rw [hz] at ht
        simp only [Option.any_some, decide_eq_true_eq] at ht
        unfold tsz at hz
        simp only [Option.map_eq_some_iff] at hz
        obtain ⟨i, hi, rfl⟩ := hz
        have hs : (sizeOf e).run P w = .ok i.size w := by simp [sizeOf, typeInfo, hi, Sem.run_bind]
        show (Op.equalIn (9999 + 1) t _ _).run P w = _
        rw [Op.equalIn, Sem.run_bind, run_underlying hu]
        have h0 : i.size ≠ 0 := by omega
        simp only [Result.andThen_ok, Sem.run_bind, hs, ne_eq, h0, not_false_eq_true, if_true]
        exact hr
    · cases ht
  unfold zxz at h
  split at h
  · split at h
    · rename_i ht
      simp only [Option.map_eq_some_iff] at h
      obtain ⟨r, hr, rfl⟩ := h
      obtain ⟨p, q, rfl, rfl, hrun⟩ := key ht hr hx hy
      exact .pure (x := .bool r) (by simp [eqGuard, binOp, hrun]) (by simp [zaj])
    · cases h
  · split at h
    · rename_i ht
      simp only [Option.map_eq_some_iff] at h
      obtain ⟨r, hr, rfl⟩ := h
      obtain ⟨p, q, rfl, rfl, hrun⟩ := key ht hr hx hy
      exact .pure (x := .bool (!r)) (by simp [eqGuard, binOp, hrun]) (by simp [zaj])
    · cases h
  · cases h
theorem z4x (b : Nat) (hb : b < 2 ^ 64) : Op.negFloat .f64 b < 2 ^ 64 ∧ z3i (cn b) = cn (Op.negFloat .f64 b) := by
  have e : Op.negFloat .f64 b = b ^^^ 2 ^ 63 := rfl
  have hlt : b ^^^ 2 ^ 63 < 2 ^ 64 := Nat.xor_lt_two_pow hb (by decide)
  refine ⟨by rw [e]; exact hlt, ?_⟩
  unfold z3i
  rcases zc3 b with ⟨h1, h2⟩ | ⟨_, h2⟩ <;> rw [h2]
  · have hn : isNaN (Op.negFloat .f64 b) = true := by
      have e1 : Ieee.double.signWeight = 2 ^ 63 := by decide
      have hm : (b ^^^ 2 ^ 63) % 2 ^ 63 = b % 2 ^ 63 := by
        rw [Nat.xor_mod_two_pow]; simp
      unfold isNaN Ieee.Format.read at h1 ⊢
      simp only [e1] at h1 ⊢
      rw [e, hm]
      revert h1
      split
      · intro h; simp [Ieee.Datum.isNaN] at h
      · split
        · intro h; simp [Ieee.Datum.isNaN] at h
        · split
          · intro h; simp [Ieee.Datum.isNaN] at h
          · intro _; rfl
    have : cn (Op.negFloat .f64 qn) = qn := by decide
    rw [this]; unfold cn; rw [if_pos hn]
theorem zsa {P : Program} {op : UnOp} {x : EV} {X : Value} {c : Prop} {v : AV} (h : unV op x = some (c, v)) (hc : c) (hx : zc8 w g lam x X) : Gives P w g (Op.unary op X) v := by
  unfold unV at h
  split at h
  · simp only [zc8, zaj] at hx; subst hx
    simp only [Option.some.injEq, Prod.mk.injEq] at h; obtain ⟨rfl, rfl⟩ := h
    exact .pure (by simp [Op.unary]; rfl) (by simp [zaj])
  · simp only [zc8, zaj] at hx; subst hx
    simp only [Option.some.injEq, Prod.mk.injEq] at h; obtain ⟨rfl, rfl⟩ := h
    exact .pure (by simp [Op.unary, Op.intArith]; rfl) (by simp [zaj])
  · simp only [zc8, zaj] at hx; subst hx
    simp only [Option.some.injEq, Prod.mk.injEq] at h; obtain ⟨rfl, rfl⟩ := h
    exact .pure (x := .int _ (zf7 .xor _ _ _)) rfl (by simp [zaj])
  · simp only [Option.map_eq_some_iff, Prod.mk.injEq] at h
    obtain ⟨y, hy, rfl, rfl⟩ := h
    obtain ⟨b, rfl, hb, rfl⟩ := zi6 hy hx
    refine .pure (x := .float .f64 (Op.negFloat .f64 b)) (by simp [Op.unary]) ?_
    simp only [zaj]
    exact ⟨_, rfl, (z4x b hb).1, (z4x b hb).2.symm⟩
  · simp at h
theorem zn6 {P : Program} {src dst : TypeId} {x : EV} {X : Value} {c : Prop} {v : AV} (hs : (P.underlying src).isSome = true) (h : zwj P dst x = some (c, v)) (hc : c) (hx : zc8 w g lam x X) :
    Gives P w g (convert src dst X) v := by
  obtain ⟨us, hs⟩ := Option.isSome_iff_exists.1 hs
  unfold zwj at h
  split at h
  · rename_i k k' n hd
    simp only [zc8, zaj] at hx; subst hx
    simp only [Option.some.injEq, Prod.mk.injEq] at h; obtain ⟨rfl, rfl⟩ := h
    refine .pure (x := .int k (k.wrap n)) ?_ (by simp [zaj])
    cases us <;> simp [convert, run_underlying hs, run_underlying hd, Conv.intToInt] <;> rfl
  · rename_i k' n hd
    simp only [zc8, zaj] at hx; subst hx
    simp only [Option.some.injEq, Prod.mk.injEq] at h; obtain ⟨rfl, rfl⟩ := h
    refine .pure (run_convert_int_float w src dst k' .f64 n (by simp [hs]) hd) ?_
    simp only [zaj, floatOfInt]
    refine ⟨_, rfl, ?_, rfl⟩
    have := floatOfInt_wf .f64 n
    exact of_decide_eq_true this
  · rename_i xv _ hd
    simp only [Option.map_eq_some_iff, Prod.mk.injEq] at h
    obtain ⟨y, hy, rfl, rfl⟩ := h
    obtain ⟨b, rfl, hb, rfl⟩ := zi6 hy hx
    refine .pure (x := .float .f64 b) ?_ (by simp only [zaj]; exact ⟨b, rfl, hb, rfl⟩)
    refine run_convert_float_float w src dst .f64 .f64 b b (by simp [hs]) hd ?_
    simp [floatToFloatBits]
  · simp at h
end
section
variable {C : Cx} {st : St} {a : Act} {w : World} {g : Gh} {lam : Nat → Nat}
theorem zfq {w : World} {g : Gh} : ∀ {l : List AV} {b o : Nat}, zc9 w g l b o → ∃ vs : List Value, w.rangeAt b o vs ∧ zba w g l vs ∧ vs.length = l.length ∧ ∀ v ∈ vs, v.oneCell' = true
  | [], b, o, _ => ⟨[], fun j v h => by simp at h, by simp [zba], rfl, by simp⟩
  | c :: l, b, o, h => by
    simp only [zc9] at h
    obtain ⟨⟨v, h1, h2, h3⟩, h4⟩ := h
    obtain ⟨vs, k1, k2, k3, k4⟩ := zfq h4
    refine ⟨v :: vs, fun j x hj => ?_, by simp only [zba]; exact ⟨v, vs, rfl, h3, k2⟩, by simp [k3], by simpa [h2] using k4⟩
    cases j with
    | zero => simp at hj; subst hj; simpa using h1
    | succ j => simp at hj; have := k1 j x hj; rwa [show o + 1 + j = o + (j + 1) from by omega] at this
theorem zvm {P : Program} {t : TypeId} {l : List AV} {n b o : Nat} {v : AV} (hz : tsz P t = some n) (hl : l.length = n) (hc : zc9 w g l b o) (hv : ldv P t l = some v) :
    Gives P w g (loadVar t ⟨b, o, none⟩) v := by
  unfold ldv at hv
  have hz' : (P.info? t).map (·.size) = some l.length := by rw [hl]; exact hz
  split at hv
  · rename_i hk
    simp only [Option.some.injEq] at hv; subst hv
    simp only [zlq, Option.map_eq_some_iff] at hk
    obtain ⟨d, hu, hd⟩ := hk
    obtain ⟨vs, k1, k2, k3, k4⟩ := zfq hc
    refine .pure (run_loadVar_mid w b o t vs d k1 hu hd (by rw [k3]; exact hz')) ?_
    simp only [zaj]
    exact ⟨vs.toArray, rfl, by simpa using k4, by simpa using k2⟩
  · rename_i c hk
    simp only [Option.some.injEq] at hv; subst hv
    simp only [zlq, Option.map_eq_some_iff] at hk
    obtain ⟨d, hu, hd⟩ := hk
    simp only [zc9] at hc
    obtain ⟨⟨x, h1, h2, h3⟩, _⟩ := hc
    have hagg : (isAgg t).run P w = .ok false w := by
      unfold isAgg
      rw [Sem.run_bind, run_underlying hu w]
      cases d <;> simp_all
    refine .pure (x := x) ?_ h3
    simp [loadVar, Sem.run_bind, hagg, load, Sem.run, h1]
  · simp at hv
theorem zqp {P : Program} {t : TypeId} {l : List AV} {n b o : Nat} {v : AV} (hz : tsz P t = some n) (hl : l.length = n) (hc : zc9 w g l b o) (hv : ldv P t l = some v) :
    ∃ x, (loadVar t ⟨b, o, none⟩).run P w = .ok x w ∧ zaj w g v x := by
  unfold ldv at hv
  have hz' : (P.info? t).map (·.size) = some l.length := by rw [hl]; exact hz
  split at hv
  · rename_i hk
    simp only [Option.some.injEq] at hv; subst hv
    simp only [zlq, Option.map_eq_some_iff] at hk
    obtain ⟨d, hu, hd⟩ := hk
    obtain ⟨vs, k1, k2, k3, k4⟩ := zfq hc
    refine ⟨_, run_loadVar_mid w b o t vs d k1 hu hd (by rw [k3]; exact hz'), ?_⟩
    simp only [zaj]
    exact ⟨vs.toArray, rfl, by simpa using k4, by simpa using k2⟩
  · rename_i c hk
    simp only [Option.some.injEq] at hv; subst hv
    simp only [zlq, Option.map_eq_some_iff] at hk
    obtain ⟨d, hu, hd⟩ := hk
    simp only [zc9] at hc
    obtain ⟨⟨x, h1, h2, h3⟩, _⟩ := hc
    have hagg : (isAgg t).run P w = .ok false w := by
      unfold isAgg
      rw [Sem.run_bind, run_underlying hu w]
      cases d <;> simp_all
    refine ⟨x, ?_, h3⟩
    simp [loadVar, Sem.run_bind, hagg, load, Sem.run, h1]
  · simp at hv
theorem zh2 {H : List (List AV)} (hw : WRep w g H) {s : AV} {off n b o : Nat} {l : List AV} (hs : zbi w g s b o) (hr : zbx H s off n = some l) : zc9 w g l b (o + off) ∧ l.length = n := by
  unfold zbx at hr
  split at hr
  · simp only [zbi] at hs
    exact ⟨zhd hs.2.2 hr, (zem hr).1⟩
  · rename_i id gen o' len sz
    simp only [Option.bind_eq_some_iff] at hr
    obtain ⟨cs, hc, hr⟩ := hr
    split at hr
    · rename_i hg
      simp only [zbi] at hs
      obtain ⟨δ, h1, rfl⟩ := hs
      obtain ⟨b₀, δ₀, c₀, e₀, k1, k2, k3, k4, k5⟩ := hw.blk id cs hc
      rw [hg, h1] at k1; simp only [Option.some.injEq, Prod.mk.injEq] at k1; obtain ⟨rfl, rfl⟩ := k1
      refine ⟨?_, (zem hr).1⟩
      have := zhd k4 hr
      rwa [show δ + (o' + off) = δ + o' + off from by omega] at this
    · simp at hr
  · simp at hr
theorem slice_form {s : AV} {len : Nat} {X : Value} (hl : slen s = some len) (hv : zaj w g s X) :
    ∃ ao cap, X = .slice ao len cap ∧ len ≤ cap ∧ (0 < len → ∃ b o, ao = some ⟨b, o, none⟩ ∧ zbi w g s b o) := by
  unfold slen at hl
  split at hl
  · simp only [Option.some.injEq] at hl; subst hl
    simp only [zaj] at hv
    exact ⟨none, 0, hv, Nat.le_refl _, by omega⟩
  · simp only [Option.some.injEq] at hl; subst hl
    simp only [zaj] at hv
    obtain ⟨cap, hc, ⟨_, h0, _, ao, h1⟩ | ⟨b, o, h1, h2, h3, h4⟩⟩ := hv
    · exact ⟨ao, cap, h1, hc, by omega⟩
    · exact ⟨_, cap, h1, hc, fun _ => ⟨b, o, rfl, by simp only [zbi]; exact ⟨h2, h3, h4⟩⟩⟩
  · simp only [Option.some.injEq] at hl; subst hl
    simp only [zaj] at hv
    obtain ⟨b, δ, cap, n, h1, h2, h3, h4⟩ := hv
    exact ⟨_, cap, h2, h3, fun _ => ⟨b, _, rfl, by simp only [zbi]; exact ⟨δ, h1, rfl⟩⟩⟩
  · simp at hl
theorem zl6 {l : List (Option AV)} {vs : List AV} (h : l.mapM id = some vs) : l = vs.map some := by
  induction l generalizing vs with
  | nil => simp at h; subst h; rfl
  | cons x l ih =>
    simp only [List.mapM_cons, id_eq, Option.bind_eq_bind, Option.bind_eq_some_iff, Option.pure_def, Option.some.injEq] at h
    obtain ⟨v, rfl, r, hr, rfl⟩ := h
    simp [ih hr]
theorem zi5 (h : SRepG C st a w g lam) {xs : List Operand} {vs : List AV} (hx : zfc st.ev xs = some vs) : zba w g vs (xs.map a.eval) := by
  have := zl6 hx
  rw [zcl]
  have hl : xs.length = vs.length := by simpa using congrArg List.length this
  refine ⟨by simp [hl], fun i c v h1 h2 => ?_⟩
  have h3 := congrArg (·[i]?) this
  simp only [List.getElem?_map, h1, Option.map_some] at h3 h2
  cases hxi : xs[i]? with
  | none => simp [hxi] at h2
  | some x =>
    simp [hxi] at h2 h3
    subst h2
    exact h.evV (ze6 h3)
theorem ztm {w : World} {g : Gh} {cs : List AV} {vs : List Value} (h : zba w g cs vs) {o n : Nat} {l : List AV} (hl : gc cs o n = some l) :
    zba w g l ((vs.drop o).take n) := by
  rw [zcl] at h ⊢
  obtain ⟨h1, h2⟩ := zem hl
  have hb : n = 0 ∨ o + n ≤ cs.length := by
    rcases Nat.eq_zero_or_pos n with h0 | h0
    · exact .inl h0
    · right
      have h3 := h2 (n - 1) (by omega)
      have h4 : (l[n - 1]?) = some (l[n-1]'(by omega)) := List.getElem?_eq_getElem _
      rw [h4] at h3
      have := (List.getElem?_eq_some_iff.1 h3.symm).1
      omega
  refine ⟨by simp [h.1, h1]; omega, fun i c v hc hv => ?_⟩
  have hi : i < n := by have := (List.getElem?_eq_some_iff.1 hc).1; omega
  rw [h2 i hi] at hc
  rw [List.getElem?_take, if_pos hi, List.getElem?_drop] at hv
  exact h.2 _ _ _ hc hv
end
section
variable {C : Cx} {st : St} {a : Act} {w : World} {g : Gh} {lam : Nat → Nat}
def zkc (P : Program) (w : World) (g : Gh) (lam : Nat → Nat) (s : Sem Next) (v : EV) : Prop :=
  ∃ x w', s.run P w = .ok (.value x) w' ∧ w'.heap = w.heap ∧ Sames w w' ∧ zc8 w g lam v x
theorem Gives.e {P : Program} {s : Sem Value} {v : AV} (h : Gives P w g s v) : zkc P w g lam (do Pure.pure (Next.value (← s))) (.val v) := by
  obtain ⟨x, w', h1, h2, h3, h4⟩ := h
  exact ⟨x, w', by simp [Sem.run_bind, h1], h2, h3, h4⟩
theorem zkc.pure {P : Program} {s : Sem Next} {v : EV} {x : Value} (h : s.run P w = .ok (.value x) w) (hv : zc8 w g lam v x) : zkc P w g lam s v :=
  ⟨x, w, h, rfl, ⟨rfl, rfl, rfl⟩, hv⟩
theorem ze7 {P : Program} {b o n : Nat} {f : Field} (hz : tsz P f.type = some n) (hn : 0 < n) : (fieldPlace ⟨b, o, none⟩ f).run P w = .ok ⟨b, o + f.offset, none⟩ w := by
  unfold tsz at hz
  simp only [Option.map_eq_some_iff] at hz
  obtain ⟨i, hi, rfl⟩ := hz
  have hs : (sizeOf f.type).run P w = .ok i.size w := by simp [sizeOf, typeInfo, hi, Sem.run_bind]
  have : ¬ i.size = 0 := by omega
  simp [fieldPlace, Sem.run_bind, hs, this, Addr.add_mid]
theorem zt6 {P : Program} {t : TypeId} {cs : List AV} {vs : Array Value} {o n : Nat} {l : List AV} {v : AV} (h : zba w g cs vs.toList) (hone : ∀ x ∈ vs.toList, x.oneCell' = true) (hz : tsz P t = some n) (hl : gc cs o n = some l) (hv : ldv P t l = some v) :
    Gives P w g (part t vs o) v := by
  have hp := ztm h hl
  have hn := (zem hl).1
  unfold tsz at hz
  simp only [Option.map_eq_some_iff] at hz
  obtain ⟨i, hi, rfl⟩ := hz
  have hs : (sizeOf t).run P w = .ok i.size w := by simp [sizeOf, typeInfo, hi, Sem.run_bind]
  unfold ldv at hv
  split at hv
  · rename_i hk
    simp only [Option.some.injEq] at hv; subst hv
    simp only [zlq, Option.map_eq_some_iff] at hk
    obtain ⟨d, hu, hd⟩ := hk
    have hagg : (isAgg t).run P w = .ok true w := by
      unfold isAgg
      rw [Sem.run_bind, run_underlying hu w]
      cases d <;> simp_all
    refine .pure (x := .agg (vs.extract o (o + i.size))) (by simp [part, Sem.run_bind, hagg, hs]) ?_
    simp only [zaj]
    refine ⟨_, rfl, fun x hx => hone x ?_, by simpa using hp⟩
    simp only [Array.toList_extract, List.extract_eq_take_drop] at hx
    exact List.mem_of_mem_drop (List.mem_of_mem_take hx)
  · rename_i c hk
    simp only [Option.some.injEq] at hv; subst hv
    simp only [zlq, Option.map_eq_some_iff] at hk
    obtain ⟨d, hu, hd⟩ := hk
    have hagg : (isAgg t).run P w = .ok false w := by
      unfold isAgg
      rw [Sem.run_bind, run_underlying hu w]
      cases d <;> simp_all
    simp only [zba] at hp
    obtain ⟨x, rest, h1, h2, h3⟩ := hp
    have hx : vs[o]? = some x := by
      have h4 := congrArg (·[0]?) h1
      simp only [List.getElem?_take, List.getElem?_drop, List.getElem?_cons_zero, Nat.add_zero] at h4
      split at h4
      · simpa using h4
      · simp at h4
    exact .pure (x := x) (by simp [part, Sem.run_bind, hagg, hx]) h2
  · simp at hv
def scv (cs : List Value) (off : Nat) : List Value → List Value
  | [] => cs
  | v :: vs => scv (cs.set off v) (off + 1) vs
theorem zsl {w : World} {g : Gh} {cs : List AV} {vs : List Value} (h : zba w g cs vs) {i : Nat} {c : AV} {v : Value} (hv : zaj w g c v) : zba w g (cs.set i c) (vs.set i v) := by
  rw [zcl] at h ⊢
  refine ⟨by simp [h.1], fun j d x h1 h2 => ?_⟩
  by_cases hij : i = j
  · subst hij
    rw [List.getElem?_set] at h1 h2
    simp only [if_true] at h1 h2
    split at h1
    · split at h2
      · simp only [Option.some.injEq] at h1 h2; subst h1 h2; exact hv
      · simp at h2
    · simp at h1
  · rw [List.getElem?_set_ne hij] at h1 h2
    exact h.2 j d x h1 h2
theorem zoy {w : World} {g : Gh} : ∀ {vs : List AV} {xs : List Value} {cs : List AV} {cv : List Value} (off : Nat), zba w g cs cv → zba w g vs xs → zba w g (sc cs off vs) (scv cv off xs)
  | [], xs, cs, cv, off, h, h2 => by simp only [zba] at h2; subst h2; exact h
  | v :: vs, xs, cs, cv, off, h, h2 => by
    simp only [zba] at h2
    obtain ⟨x, rest, rfl, h3, h4⟩ := h2
    simp only [sc, scv]
    exact zoy (off + 1) (zsl h h3) h4
theorem zjg (off : Nat) : ∀ (xs : List Value) (k : Nat) (vc : Array Value),
    ((xs.zipIdx k).foldl (fun cs (p : Value × Nat) => cs.setIfInBounds (off + p.2) p.1) vc).toList = scv vc.toList (off + k) xs
  | [], k, vc => by simp [scv]
  | x :: xs, k, vc => by
    simp only [List.zipIdx_cons, List.foldl_cons, scv]
    rw [zjg off xs (k + 1)]
    simp [Nat.add_assoc]
theorem ztf {w : World} {g : Gh} {cells vs : List AV} {vc xs : Array Value} (h : zba w g cells vc.toList) (h2 : zba w g vs xs.toList) (off : Nat) :
    zba w g (sc cells off vs) (xs.zipIdx.foldl (fun cs (p : Value × Nat) => cs.setIfInBounds (off + p.2) p.1) vc).toList := by
  have : (xs.zipIdx.foldl (fun cs (p : Value × Nat) => cs.setIfInBounds (off + p.2) p.1) vc).toList = scv vc.toList off xs.toList := by
    rw [← Array.foldl_toList, Array.toList_zipIdx]
    simpa using zjg off xs.toList 0 vc
  rw [this]
  exact zoy off h h2
theorem zru : ∀ {xs cv : List Value} (off : Nat), (∀ y ∈ cv, y.oneCell' = true) → (∀ y ∈ xs, y.oneCell' = true) → ∀ y ∈ scv cv off xs, y.oneCell' = true
  | [], cv, off, h, h2 => h
  | x :: xs, cv, off, h, h2 => by
    simp only [scv]
    refine zru (off + 1) (fun y hy => ?_) (fun y hy => h2 y (by simp [hy]))
    rcases List.mem_or_eq_of_mem_set hy with hy | rfl
    · exact h y hy
    · exact h2 _ (by simp)
theorem zte {vc xs : Array Value} (h : ∀ y ∈ vc.toList, y.oneCell' = true) (h2 : ∀ y ∈ xs.toList, y.oneCell' = true) (off : Nat) :
    ∀ y ∈ (xs.zipIdx.foldl (fun cs (p : Value × Nat) => cs.setIfInBounds (off + p.2) p.1) vc).toList, y.oneCell' = true := by
  have : (xs.zipIdx.foldl (fun cs (p : Value × Nat) => cs.setIfInBounds (off + p.2) p.1) vc).toList = scv vc.toList off xs.toList := by
    rw [← Array.foldl_toList, Array.toList_zipIdx]
    simpa using zjg off xs.toList 0 vc
  rw [this]
  exact zru off h h2
theorem zc0 {v : AV} {vs : List AV} {x : Value} (hcl : v.cells = some vs) (hx : zaj w g v x) : zba w g vs x.cells.toList ∧ ∀ y ∈ x.cells.toList, y.oneCell' = true := by
  unfold AV.cells at hcl
  split at hcl
  · simp only [Option.some.injEq] at hcl; subst hcl
    simp only [zaj] at hx
    obtain ⟨ys, rfl, h1, hy⟩ := hx
    exact ⟨hy, h1⟩
  · simp at hcl
  · simp at hcl
  · rename_i y
    split at hcl
    · rename_i hone
      simp only [Option.some.injEq] at hcl; subst hcl
      simp only [zaj] at hx; subst hx
      have : x.cells = #[x] := by cases x <;> simp_all [Value.cells, Value.oneCell']
      rw [this]; simp [zba, zaj, hone]
    · simp at hcl
  · rename_i n1 n2 n3 n4
    simp only [Option.some.injEq] at hcl; subst hcl
    have : x.cells = #[x] ∧ x.oneCell' = true := by
      cases v <;> simp only [zaj] at hx <;> first
        | (subst hx; exact ⟨rfl, rfl⟩)
        | (obtain ⟨_, rfl, _⟩ := hx; exact ⟨rfl, rfl⟩)
        | (obtain ⟨rfl, _⟩ := hx; exact ⟨rfl, rfl⟩)
        | (obtain ⟨_, _, ⟨_, _, _, _, rfl⟩ | ⟨_, _, rfl, _⟩⟩ := hx <;> exact ⟨rfl, rfl⟩)
        | (obtain ⟨_, _, _, _, _, rfl, _⟩ := hx; exact ⟨rfl, rfl⟩)
        | (obtain ⟨_, _, rfl, _⟩ := hx; exact ⟨rfl, rfl⟩)
        | exact absurd rfl (n1 _)
        | exact absurd rfl n2
        | exact absurd rfl (n3 _)
        | exact absurd rfl (n4 _)
    rw [this.1]; simpa [zba, this.2] using hx
theorem zfx {w : World} {g : Gh} {place : Nat → Option (Nat × Nat)} : ∀ {parts : List (Nat × Option AV)} {vparts : List (Nat × Value)} {cells out : List AV} {vc : Array Value},
    zba w g cells vc.toList → (∀ y ∈ vc.toList, y.oneCell' = true) → zdp place cells parts = some out → vparts.map (·.1) = parts.map (·.1) →
    (∀ (i : Nat) p q v, parts[i]? = some p → vparts[i]? = some q → p.2 = some v → zaj w g v q.2) →
    ∃ vo, Instr.fill place vc vparts = some vo ∧ zba w g out vo.toList ∧ ∀ y ∈ vo.toList, y.oneCell' = true
  | [], vparts, cells, out, vc, hr, ho, hf, hm, _ => by
    simp only [zdp, Option.some.injEq] at hf; subst hf
    have : vparts = [] := by simpa using hm
    subst this
    exact ⟨vc, rfl, hr, ho⟩
  | (i, p) :: parts, vparts, cells, out, vc, hr, ho, hf, hm, hp => by
    cases vparts with
    | nil => simp at hm
    | cons q vparts =>
      obtain ⟨j, x⟩ := q
      simp only [List.map_cons, List.cons.injEq] at hm
      obtain ⟨rfl, hm⟩ := hm
      simp only [zdp] at hf
      split at hf
      · rename_i off size vs hpl hcl
        simp only [Option.bind_eq_some_iff] at hcl
        obtain ⟨v, hv, hcl⟩ := hcl
        have hx := hp 0 (j, p) (j, x) v (by simp) (by simp) hv
        split at hf
        · simp at hf
        · rename_i hcond
          have hc1 : vs.length = size ∧ off + vs.length ≤ cells.length := by omega
          have hvl := zat hr
          obtain ⟨hcells, hone⟩ := zc0 hcl hx
          have hxl : x.cells.size = vs.length := by have := zat hcells; simpa using this
          have hnew : zba w g (sc cells off vs) (x.cells.zipIdx.foldl (fun cs (c, j) => cs.setIfInBounds (off + j) c) vc).toList := by
            exact ztf hr hcells off
          obtain ⟨vo, h1, h2⟩ := zfx hnew (zte ho hone off) hf hm (fun i p q v h1 h2 h3 => hp (i + 1) p q v (by simpa using h1) (by simpa using h2) h3)
          refine ⟨vo, ?_, h2⟩
          have hvs : vc.size = cells.length := by simpa using hvl
          simp only [Instr.fill, hpl]
          rw [if_neg]
          · exact h1
          · simp [hxl, hc1.1, hvs]; omega
      · simp at hf
end
section
variable {C : Cx} {st : St} {a : Act} {w : World} {g : Gh} {lam : Nat → Nat}
theorem Gives.ret {P : Program} {s : Sem Value} {v : AV} (h : Gives P w g s v) {f : Sem Next} (hf : f = (do Pure.pure (Next.value (← s)))) : zkc P w g lam f (.val v) := hf ▸ h.e
theorem znd (P : Program) (w : World) (k : IntKind) (x y : Int) : (Builtin.min2 (.int k x) (.int k y)).run P w = .ok (.int k (min x y)) w := by
  have : (if y < x then y else x) = min x y := by omega
  simp only [Builtin.min2, this]; rfl
theorem znb (P : Program) (w : World) (k : IntKind) (x y : Int) : (Builtin.max2 (.int k x) (.int k y)).run P w = .ok (.int k (max x y)) w := by
  have : (if y > x then y else x) = max x y := by omega
  simp only [Builtin.max2, this]; rfl
theorem args1 {args : Array Operand} {x : Operand} (h : args.toList = [x]) : args = #[x] := by
  cases args; simp_all
theorem zon (fs : Array Field) (hall : fs.all (fun f => (tsz C.P f.type).isSome) = true) :
    (fs.mapM fun f => (do Pure.pure (f.offset, ← sizeOf f.type) : Sem (Nat × Nat))).run C.P w = .ok (fs.map fun f => (f.offset, (tsz C.P f.type).getD 0)) w := by
  have key : ∀ (l : List Field), (∀ f ∈ l, (tsz C.P f.type).isSome = true) →
      (l.mapM fun f => (do Pure.pure (f.offset, ← sizeOf f.type) : Sem (Nat × Nat))).run C.P w = .ok (l.map fun f => (f.offset, (tsz C.P f.type).getD 0)) w := by
    intro l
    induction l with
    | nil => intro _; rfl
    | cons f l ih =>
      intro hl
      have h1 := hl f (by simp)
      obtain ⟨n, hn⟩ := Option.isSome_iff_exists.1 h1
      have hn' := hn
      unfold tsz at hn
      simp only [Option.map_eq_some_iff] at hn
      obtain ⟨i, hi, rfl⟩ := hn
      have hs : (sizeOf f.type).run C.P w = .ok i.size w := by simp [sizeOf, typeInfo, hi, Sem.run_bind]
      simp only [List.mapM_cons, Sem.run_bind, hs, Result.andThen_ok, Sem.run_pure, ih (fun f hf => hl f (by simp [hf])), List.map_cons, hn', Option.getD_some]
  rw [Array.mapM_eq_mapM_toList, map_eq_pure_bind, Sem.run_bind, key fs.toList (fun f hf => (Array.all_eq_true_iff_forall_mem.1 hall) f (by simpa using hf))]
  simp only [Result.andThen_ok, Sem.run_pure, Result.ok.injEq, and_true]
  apply Array.ext'
  simp
theorem zpg {ρ : Operand → Value} (h : SRepG C st a w g lam) {lo : Option Operand} {d l : Int} (hl : zj9 st.ev d lo = some l) : (lo = none ∧ l = d) ∨ ∃ k o, lo = some o ∧ lo.map a.eval = some (.int k l) := by
  cases lo with
  | none => simp only [zj9, Option.some.injEq] at hl; exact .inl ⟨rfl, hl.symm⟩
  | some o =>
    simp only [zj9] at hl
    obtain ⟨k, hk⟩ := zha hl
    have := h.evV hk
    simp only [zaj] at this
    exact .inr ⟨k, o, rfl, by simp [this]⟩
theorem zih (h : SRepG C st a w g lam) (sl : Bool) {lo hi : Option Operand} {n cap : Nat} {l q : Int} (hl : zj9 st.ev 0 lo = some l) (hq : zj9 st.ev n hi = some q) (h0 : 0 ≤ l) (h1 : l ≤ q) (h2 : q ≤ n) (hc : n ≤ cap) :
    (Instr.sliceBounds sl n cap (lo.map a.eval) (hi.map a.eval) none).run C.P w = .ok (l.toNat, q.toNat, cap) w := by
  have e2 : ((q.toNat : Nat) : Int) = q := Int.toNat_of_nonneg (by omega)
  rcases zpg (ρ := a.eval) h hl with ⟨rfl, rfl⟩ | ⟨k, o, rfl, hk⟩ <;> rcases zpg (ρ := a.eval) h hq with ⟨rfl, rfl⟩ | ⟨k', o', rfl, hk'⟩
  · simp [Instr.sliceBounds, Sem.run_bind]
  · rw [hk']
    have hb : ∀ c, (Instr.sliceBound (.int k' q) cap c).run C.P w = .ok q.toNat w := fun c => run_sliceBound (P := C.P) (w := w) k' q cap c (by omega) (by omega)
    simp [Instr.sliceBounds, Sem.run_bind, hb]
  · rw [hk]
    have hb : ∀ c, (Instr.sliceBound (.int k l) n c).run C.P w = .ok l.toNat w := fun c => run_sliceBound (P := C.P) (w := w) k l n c (by omega) (by omega)
    simp [Instr.sliceBounds, Sem.run_bind, hb]
  · rw [hk, hk']
    have hb : ∀ c, (Instr.sliceBound (.int k' q) cap c).run C.P w = .ok q.toNat w := fun c => run_sliceBound (P := C.P) (w := w) k' q cap c (by omega) (by omega)
    have hb' : ∀ c, (Instr.sliceBound (.int k l) q.toNat c).run C.P w = .ok l.toNat w := fun c => run_sliceBound (P := C.P) (w := w) k l q.toNat c (by omega) (by omega)
    simp [Instr.sliceBounds, Sem.run_bind, hb, hb']
theorem zx6 {z l q n : Nat} {v v' : AV} {X : Value} (hn : slen v = some n) (hv : zaj w g v X) (hs : zsi z l q v = some v') (h1 : l ≤ q) (h2 : q ≤ n) :
    ∃ ao len cap, X = .slice ao len cap ∧ len = n ∧ n ≤ cap ∧ zaj w g v' (.slice (if cap = l then ao else ao.map (·.add (l * z))) (q - l) (cap - l)) := by
  have nil : ∀ (ao : Option Addr) cap, n ≤ cap → l = q → zaj w g (.sl none 0 []) (.slice (if cap = l then ao else ao.map (·.add (l * z))) (q - l) (cap - l)) := by
    intro ao cap hc hlq
    simp only [zaj]
    refine ⟨cap - l, by omega, .inl ?_⟩
    simp [hlq]
  cases v <;> simp only [zsi, slen, Option.some.injEq, reduceCtorEq] at hs hn
  · simp only [zaj] at hv
    subst hn hs
    exact ⟨none, 0, 0, hv, rfl, Nat.le_refl _, nil _ _ (Nat.le_refl _) (by omega)⟩
  · rename_i tag len cells
    subst hn
    simp only [zaj] at hv
    obtain ⟨cap, hc, hx⟩ := hv
    split at hs
    · rename_i hlq
      simp only [Option.some.injEq] at hs; subst hs
      rcases hx with ⟨_, h0, _⟩ | ⟨b, o, rfl, ht, hf, hr⟩
      · omega
      · refine ⟨_, len, cap, rfl, rfl, hc, ?_⟩
        rw [if_neg (by omega)]
        simp only [zaj, Option.map_some, Addr.add_mid]
        refine ⟨cap - l, by omega, .inr ⟨b, o + l * z, rfl, ?_, hf, ?_⟩⟩
        · rcases ht with rfl | rfl
          · exact .inl rfl
          · exact .inr rfl
        · rw [zdl] at hr ⊢
          intro i c hi
          rw [List.getElem?_take] at hi
          split at hi
          · rw [List.getElem?_drop] at hi
            have := hr (l * z + i) c hi
            rwa [show o + (l * z + i) = o + l * z + i from by omega] at this
          · simp at hi
    · rename_i hlq
      simp only [Option.some.injEq] at hs; subst hs
      rcases hx with ⟨_, h0, _, ao, rfl⟩ | ⟨b, o, rfl, ht, hf, hr⟩
      · exact ⟨ao, len, cap, rfl, rfl, hc, nil _ _ hc (by omega)⟩
      · exact ⟨_, len, cap, rfl, rfl, hc, nil _ _ hc (by omega)⟩
  · rename_i id gen off len sz
    subst hn
    simp only [zaj] at hv
    obtain ⟨b, δ, cap, m, k1, rfl, k3, k4, k5, k6⟩ := hv
    split at hs
    case isFalse => simp at hs
    rename_i hz; subst hz
    split at hs
    · rename_i hlq
      simp only [Option.some.injEq] at hs; subst hs
      refine ⟨_, len, cap, rfl, rfl, k3, ?_⟩
      rw [if_neg (by omega)]
      simp only [zaj, Option.map_some, Addr.add_mid]
      have e1 : l * sz + (q - l) * sz = q * sz := by rw [← Nat.add_mul]; congr 1; omega
      have e2 : q * sz ≤ len * sz := Nat.mul_le_mul_right _ h2
      have e3 : l * sz + (cap - l) * sz = cap * sz := by rw [← Nat.add_mul]; congr 1; omega
      exact ⟨b, δ, cap - l, m, k1, by rw [Nat.add_assoc], by omega, by omega, k5, by omega⟩
    · simp only [Option.some.injEq] at hs; subst hs
      exact ⟨_, len, cap, rfl, rfl, k3, nil _ _ k3 (by omega)⟩
theorem zlj (h : SRepG C st a w g lam) {t : TypeId} {x : Operand} {lo hi : Option Operand} {c : Prop} {v : AV} (hp : zli C.P t (st.ev x) (zj9 st.ev 0 lo) (fun n => zj9 st.ev n hi) = some (c, v)) (hc : c) :
    ∃ X, (Instr.sliceAt t (a.eval x) (lo.map a.eval) (hi.map a.eval) none).run C.P w = .ok X w ∧ zaj w g v X := by
  unfold zli at hp
  split at hp
  · rename_i s l he hlo
    split at hp
    case h_2 => simp at hp
    rename_i hu
    simp only [Option.map_eq_some_iff, Prod.mk.injEq] at hp
    obtain ⟨q, hq, rfl, rfl⟩ := hp
    obtain ⟨h0, h1, h2⟩ := hc
    have hX := h.evV he
    simp only [zaj] at hX
    have hb := zih h false hlo hq h0 h1 h2 (Nat.le_refl _)
    refine ⟨.string (s.extract l.toNat q.toNat), ?_, by simp [zaj]⟩
    rw [run_sliceAt_string (P := C.P) (w := w) t _ _ _ _ hu, hX]
    simp [Instr.slice, Sem.run_bind, run_underlying hu, hb]
  · rename_i v₀ l hne he hlo
    simp only [Option.bind_eq_some_iff, Option.map_eq_some_iff, Prod.mk.injEq] at hp
    obtain ⟨e, ht, z, hz, n, hn, q, hq, v', hs, rfl, rfl⟩ := hp
    obtain ⟨h0, h1, h2⟩ := hc
    unfold zen at ht
    split at ht
    case h_2 => simp at ht
    rename_i e' hu
    simp only [Option.some.injEq] at ht; subst ht
    obtain ⟨ao, len, cap, hX, rfl, hcap, hv'⟩ := zx6 hn (h.evV he) hs (by omega) (by omega)
    have hb := zih h true hlo hq h0 h1 h2 hcap
    unfold tsz at hz
    simp only [Option.map_eq_some_iff] at hz
    obtain ⟨inf, hinf, rfl⟩ := hz
    refine ⟨_, ?_, hv'⟩
    rw [run_sliceAt_slice (P := C.P) (w := w) t _ _ _ _ (by simp [Program.elem, hu]), hX]
    simp [Instr.slice, Sem.run_bind, run_underlying hu, hb, sizeOf, typeInfo, hinf]
  · simp at hp
theorem zme (h : SRepG C st a w g lam) {o : Oper} {c : Prop} {v : EV} (hp : zas C.P st.ev (lk st.L) st.H o.op = some (c, v)) (hc : c) :
    zkc C.P w g lam (execOp a.eval o) v := by
  unfold zas at hp
  split at hp
  -- move
  · rename_i x ho
    simp only [Option.some.injEq, Prod.mk.injEq] at hp; obtain ⟨rfl, rfl⟩ := hp
    exact .pure (by simp only [execOp, ho]; rfl) (h.ev x)
  · rename_i x ho
    simp only [Option.some.injEq, Prod.mk.injEq] at hp; obtain ⟨rfl, rfl⟩ := hp
    exact .pure (by simp only [execOp, ho]; rfl) (h.ev x)
  -- pick
  · rename_i x y z ho
    simp only [Option.map_eq_some_iff, Prod.mk.injEq] at hp
    obtain ⟨b, hb, rfl, rfl⟩ := hp
    have hx := h.evB hb
    refine .pure (x := if b then a.eval y else a.eval z) (by simp only [execOp, ho, hx]; cases b <;> rfl) ?_
    cases b
    · exact h.ev z
    · exact h.ev y
  -- load
  · rename_i t x ho
    split at hp
    · rename_i key off he
      simp only [Option.bind_eq_some_iff, Option.map_eq_some_iff, Prod.mk.injEq] at hp
      obtain ⟨cs, h1, n, h2, l, h3, v', h4, rfl, rfl⟩ := hp
      obtain ⟨c', e', k1, k2, k3, k4⟩ := h.lr.box key cs h1
      have hl := zhd k3 h3
      rw [Nat.zero_add] at hl
      refine (zvm h2 (zem h3).1 hl h4).ret ?_
      simp only [execOp, ho, h.evL he, Instr.loadAt, Instr.sureAddr]; rfl
    · rename_i s off he
      simp only [Option.bind_eq_some_iff, Option.map_eq_some_iff, Prod.mk.injEq] at hp
      obtain ⟨n, h2, l, h3, v', h4, rfl, rfl⟩ := hp
      have hx := h.evV he
      simp only [zaj] at hx
      obtain ⟨b, o', hx, hs⟩ := hx
      obtain ⟨k1, k2⟩ := zh2 h.wr hs h3
      refine (zvm h2 k2 k1 h4).ret ?_
      simp only [execOp, ho, hx, Instr.loadAt, Instr.sureAddr]; rfl
    · simp at hp
  -- nilCheck
  · rename_i x ho
    split at hp
    · rename_i key off he
      simp only [Option.some.injEq, Prod.mk.injEq] at hp; obtain ⟨rfl, rfl⟩ := hp
      exact .pure (x := .pointer (some ⟨lam key, off, none⟩)) (by simp only [execOp, ho, h.evL he]; rfl) rfl
    · rename_i s off he
      simp only [Option.some.injEq, Prod.mk.injEq] at hp; obtain ⟨rfl, rfl⟩ := hp
      have hx := h.evV he
      have hx' := hx
      simp only [zaj] at hx
      obtain ⟨b, o', hx, hs⟩ := hx
      exact .pure (x := .pointer (some ⟨b, o' + off, none⟩)) (by simp only [execOp, ho, hx]; rfl) (by rw [hx] at hx'; exact hx')
    · rename_i f p q he
      simp only [Option.some.injEq, Prod.mk.injEq] at hp; obtain ⟨rfl, rfl⟩ := hp
      have hx := h.evV he
      have hx' := hx
      simp only [zaj] at hx
      obtain ⟨fs, cs, hx, _⟩ := hx
      exact .pure (x := .func (.func f) fs cs) (by simp only [execOp, ho, hx]; rfl) (by rw [hx] at hx'; exact hx')
    · simp at hp
  -- binOp
  · rename_i op t x y yt ho
    split at hp
    · rename_i c' v' h1
      simp only [Option.some.injEq, Prod.mk.injEq] at hp; obtain ⟨rfl, rfl⟩ := hp
      refine (zn3 h1 hc x y (h.ev x) (h.ev y)).ret ?_
      simp only [execOp, ho]
    · simp only [Option.map_eq_some_iff, Prod.mk.injEq] at hp
      obtain ⟨v', h1, rfl, rfl⟩ := hp
      refine (zoo h.wr h1 x y (h.ev x) (h.ev y)).ret ?_
      simp only [execOp, ho]
  -- unOp
  · rename_i op t x ho
    simp only [Option.map_eq_some_iff, Prod.mk.injEq] at hp
    obtain ⟨⟨c', v'⟩, h1, h2, h3⟩ := hp
    simp only at h2 h3; subst h2 h3
    refine (zsa h1 hc (h.ev x)).ret ?_
    simp only [execOp, ho]
  -- convert
  · rename_i src dst x ho
    split at hp
    · rename_i hs
      simp only [Option.map_eq_some_iff, Prod.mk.injEq] at hp
      obtain ⟨⟨c', v'⟩, h1, h2, h3⟩ := hp
      simp only at h2 h3; subst h2 h3
      refine (zn6 hs h1 hc (h.ev x)).ret ?_
      simp only [execOp, ho]
    · simp at hp
  -- fieldAddr
  · rename_i t x i ho
    simp only [Option.bind_eq_some_iff] at hp
    obtain ⟨⟨off, ft⟩, h1, hp⟩ := hp
    simp only at hp
    unfold zfw at h1
    split at h1
    case h_2 => simp at h1
    rename_i fs hu
    simp only [Option.map_eq_some_iff, Prod.mk.injEq] at h1
    obtain ⟨f, hf, rfl, rfl⟩ := h1
    split at hp
    case isFalse => simp at hp
    rename_i hz
    obtain ⟨n, hz, hn⟩ : ∃ n, tsz C.P f.type = some n ∧ 0 < n := by
      cases hq : tsz C.P f.type with
      | none => simp [hq] at hz
      | some n => exact ⟨n, rfl, by simpa [hq] using hz⟩
    split at hp
    · rename_i key off' he
      simp only [Option.some.injEq, Prod.mk.injEq] at hp; obtain ⟨rfl, rfl⟩ := hp
      refine .pure (x := .pointer (some ⟨lam key, off' + f.offset, none⟩)) ?_ rfl
      simp [execOp, ho, h.evL he, Instr.fieldAt, Sem.run_bind, run_underlying hu, hf, Instr.sureAddr, ze7 hz hn]
    · rename_i s off' he
      simp only [Option.some.injEq, Prod.mk.injEq] at hp; obtain ⟨rfl, rfl⟩ := hp
      have hx := h.evV he
      simp only [zaj] at hx
      obtain ⟨b, o', hx, hs⟩ := hx
      refine .pure (x := .pointer (some ⟨b, o' + (off' + f.offset), none⟩)) ?_ (by simp only [zc8, zaj]; exact ⟨b, o', rfl, hs⟩)
      simp [execOp, ho, hx, Instr.fieldAt, Sem.run_bind, run_underlying hu, hf, Instr.sureAddr, ze7 hz hn, Nat.add_assoc]
    · simp at hp
  -- field
  · rename_i t x i ho
    simp only [Option.bind_eq_some_iff] at hp
    obtain ⟨⟨off, ft⟩, h1, hp⟩ := hp
    simp only at hp
    unfold zfw at h1
    split at h1
    case h_2 => simp at h1
    rename_i fs hu
    simp only [Option.map_eq_some_iff, Prod.mk.injEq] at h1
    obtain ⟨f, hf, rfl, rfl⟩ := h1
    split at hp
    · rename_i cs he
      simp only [Option.bind_eq_some_iff, Option.map_eq_some_iff, Prod.mk.injEq] at hp
      obtain ⟨n, h2, l, h3, v', h4, rfl, rfl⟩ := hp
      have hx := h.evV he
      simp only [zaj] at hx
      obtain ⟨vs, hx, hone, hr⟩ := hx
      obtain ⟨y, w', k1, k2, k3, k4⟩ := zt6 hr hone h2 h3 h4
      exact ⟨y, w', by simp [execOp, ho, hx, Instr.field, Sem.run_bind, run_underlying hu, hf, asAgg, k1], k2, k3, k4⟩
    · simp at hp
  -- indexAddr
  · rename_i t x i ho
    split at hp
    · rename_i e s n ht hs hi
      simp only [Option.bind_eq_some_iff, Option.map_eq_some_iff, Prod.mk.injEq] at hp
      obtain ⟨len, h1, z, h2, rfl, rfl⟩ := hp
      obtain ⟨k, hi⟩ := zha hi
      have hI : a.eval i = .int k n := by have := h.evV hi; simpa [zaj] using this
      unfold zen at ht
      split at ht
      case h_2 => simp at ht
      rename_i e' hu
      simp only [Option.some.injEq] at ht; subst ht
      obtain ⟨ao, cap, hX, hcap, hb⟩ := slice_form h1 (h.evV hs)
      obtain ⟨b, o', rfl, hbase⟩ := hb (by omega)
      unfold tsz at h2
      simp only [Option.map_eq_some_iff] at h2
      obtain ⟨inf, hinf, rfl⟩ := h2
      refine .pure (x := .pointer (some ⟨b, o' + n.toNat * inf.size, none⟩)) ?_ (by simp only [zc8, zaj]; exact ⟨b, o', rfl, hbase⟩)
      simp [execOp, ho, hX, hI, Instr.indexAt, asIntOf, Sem.run_bind, run_underlying hu, hc, sizeOf, typeInfo, hinf, Addr.add_mid]
    · rename_i x2 x3 n ht hi
      simp only [Option.bind_eq_some_iff] at hp
      obtain ⟨⟨len, e⟩, ht, z, h2, hp⟩ := hp
      obtain ⟨k, hi⟩ := zha hi
      have hI : a.eval i = .int k n := by have := h.evV hi; simpa [zaj] using this
      unfold zyv at ht
      split at ht
      case h_2 => simp at ht
      rename_i n' e' hu
      simp only [Option.some.injEq, Prod.mk.injEq] at ht; obtain ⟨rfl, rfl⟩ := ht
      unfold tsz at h2
      simp only [Option.map_eq_some_iff] at h2
      obtain ⟨inf, hinf, rfl⟩ := h2
      split at hp
      · rename_i key off hx
        simp only [Option.some.injEq, Prod.mk.injEq] at hp; obtain ⟨rfl, rfl⟩ := hp
        refine .pure (x := .pointer (some ⟨lam key, off + n.toNat * inf.size, none⟩)) ?_ rfl
        simp [execOp, ho, h.evL hx, hI, Instr.indexAt, Instr.sureAddr, asIntOf, Sem.run_bind, run_underlying hu, hc, sizeOf, typeInfo, hinf, Addr.add_mid]
      · rename_i s off hx
        simp only [Option.some.injEq, Prod.mk.injEq] at hp; obtain ⟨rfl, rfl⟩ := hp
        have hX := h.evV hx
        simp only [zaj] at hX
        obtain ⟨b, o', hX, hbase⟩ := hX
        refine .pure (x := .pointer (some ⟨b, o' + (off + n.toNat * inf.size), none⟩)) ?_ (by simp only [zc8, zaj]; exact ⟨b, o', rfl, hbase⟩)
        simp [execOp, ho, hX, hI, Instr.indexAt, Instr.sureAddr, asIntOf, Sem.run_bind, run_underlying hu, hc, sizeOf, typeInfo, hinf, Addr.add_mid, Nat.add_assoc]
      · simp at hp
    · simp at hp
  -- extract
  · rename_i x i ho
    split at hp
    · rename_i vs he
      simp only [Option.map_eq_some_iff, Prod.mk.injEq] at hp
      obtain ⟨v', h1, rfl, rfl⟩ := hp
      have hx := h.evV he
      simp only [zaj] at hx
      obtain ⟨xs, hx, hr⟩ := hx
      rw [zcl] at hr
      have hlt : i < xs.size := by have := (List.getElem?_eq_some_iff.1 h1).1; have := hr.1; simp at this; omega
      refine .pure (x := xs[i]) ?_ (hr.2 i v' xs[i] h1 (by simp [hlt]))
      simp [execOp, ho, hx, Instr.extract, hlt]
    · simp at hp
  -- slice
  · rename_i t x lo hi ho
    simp only [Option.map_eq_some_iff, Prod.mk.injEq] at hp
    obtain ⟨⟨c', v'⟩, h1, h2, h3⟩ := hp
    simp only at h2 h3; subst h2 h3
    obtain ⟨X, hX, hv⟩ := zlj h h1 hc
    exact .pure (x := X) (by simp [execOp, ho, Sem.run_bind, hX]) hv
  -- index
  · rename_i t x i ho
    simp only [Option.map_eq_some_iff, Prod.mk.injEq] at hp
    obtain ⟨⟨c', v'⟩, h1, h2, h3⟩ := hp
    simp only at h2 h3; subst h2 h3
    unfold zvk at h1
    split at h1
    · rename_i s n hu hx hi
      simp only [Option.some.injEq, Prod.mk.injEq] at h1; obtain ⟨rfl, rfl⟩ := h1
      obtain ⟨k, hi⟩ := zha hi
      have hI : a.eval i = .int k n := by have := h.evV hi; simpa [zaj] using this
      have hX := h.evV hx
      simp only [zaj] at hX
      have hlt : n.toNat < s.size := by omega
      refine .pure (x := .int .u8 (zuq s n.toNat)) ?_ (by simp [zc8, zaj])
      have : zuq s n.toNat = ((s[n.toNat]'hlt).toNat : Int) := by simp [zuq, hlt]
      simp [execOp, ho, hX, hI, Sem.run_bind, run_index_string (P := C.P) (w := w) t s k n hu, hc, this]
    · simp at h1
  -- build
  · rename_i t parts ho
    simp only [Option.map_eq_some_iff, Prod.mk.injEq] at hp
    obtain ⟨v', h1, rfl, rfl⟩ := hp
    unfold zhk at h1
    split at h1
    · rename_i z fs hz hu
      split at h1
      case isFalse => simp at h1
      rename_i hall
      simp only [Option.bind_eq_some_iff, Option.map_eq_some_iff] at h1
      obtain ⟨zc, hzc, out, hfl, rfl⟩ := h1
      unfold zh4 at hz
      simp only [Option.map_eq_some_iff, Option.bind_eq_some_iff] at hz
      obtain ⟨zv, ⟨inf, hinf, hzv⟩, rfl⟩ := hz
      obtain ⟨hzr, hzo⟩ := zc0 (w := w) (g := g) hzc (zfb w g zv)
      obtain ⟨vo, k1, k2, k3⟩ := zfx (vparts := (parts.map fun (p : Nat × Operand) => (p.1, a.eval p.2)).toList) hzr hzo hfl (by simp [List.map_map, Function.comp_def]) (by
        intro i p q v h1 h2 h3
        simp only [Array.toList_map, List.getElem?_map, Option.map_eq_some_iff] at h1 h2
        obtain ⟨r, hr, rfl⟩ := h1
        obtain ⟨r', hr', rfl⟩ := h2
        rw [hr] at hr'; simp only [Option.some.injEq] at hr'; subst hr'
        exact h.evV (ze6 h3))
      have hzrun : (zeroValue t).run C.P w = .ok zv w := by simp [zeroValue, typeInfo, hinf, Sem.run_bind, hzv]
      refine .pure (x := .agg vo) ?_ (by simp only [zc8, zaj]; exact ⟨vo, rfl, k3, k2⟩)
      have hpl : (fs.mapM fun f => (do Pure.pure (f.offset, ← sizeOf f.type) : Sem (Nat × Nat))).run C.P w = .ok (fs.map fun f => (f.offset, (tsz C.P f.type).getD 0)) w := zon fs hall
      have hfp : (fun i => (fs.map fun f => (f.offset, (tsz C.P f.type).getD 0))[i]?) = zje C.P fs := by
        funext i
        simp only [zje, Array.getElem?_map]
        cases hq : fs[i]? with
        | none => rfl
        | some f =>
          have := (Array.all_eq_true_iff_forall_mem.1 hall) f (Array.mem_of_getElem? hq)
          obtain ⟨n, hn⟩ := Option.isSome_iff_exists.1 this
          simp [hn]
      have hpt : (parts.map fun x => match x with | (i, x) => (i, a.eval x)) = parts.map fun (p : Nat × Operand) => (p.1, a.eval p.2) := rfl
      simp only [execOp, ho, Instr.build, Sem.run_bind, hzrun, Result.andThen_ok, run_underlying hu, hpl, hfp]
      rw [hpt, k1]
      rfl
    · rename_i z n e hz hu
      simp only [Option.bind_eq_some_iff, Option.map_eq_some_iff] at h1
      obtain ⟨sz, hsz, zc, hzc, out, hfl, rfl⟩ := h1
      unfold zh4 at hz
      simp only [Option.map_eq_some_iff, Option.bind_eq_some_iff] at hz
      obtain ⟨zv, ⟨inf, hinf, hzv⟩, rfl⟩ := hz
      obtain ⟨hzr, hzo⟩ := zc0 (w := w) (g := g) hzc (zfb w g zv)
      obtain ⟨vo, k1, k2, k3⟩ := zfx (vparts := (parts.map fun (p : Nat × Operand) => (p.1, a.eval p.2)).toList) hzr hzo hfl (by simp [List.map_map, Function.comp_def]) (by
        intro i p q v h1 h2 h3
        simp only [Array.toList_map, List.getElem?_map, Option.map_eq_some_iff] at h1 h2
        obtain ⟨r, hr, rfl⟩ := h1
        obtain ⟨r', hr', rfl⟩ := h2
        rw [hr] at hr'; simp only [Option.some.injEq] at hr'; subst hr'
        exact h.evV (ze6 h3))
      have hzrun : (zeroValue t).run C.P w = .ok zv w := by simp [zeroValue, typeInfo, hinf, Sem.run_bind, hzv]
      unfold tsz at hsz
      simp only [Option.map_eq_some_iff] at hsz
      obtain ⟨i2, hi2, rfl⟩ := hsz
      have hs : (sizeOf e).run C.P w = .ok i2.size w := by simp [sizeOf, typeInfo, hi2, Sem.run_bind]
      refine .pure (x := .agg vo) ?_ (by simp only [zc8, zaj]; exact ⟨vo, rfl, k3, k2⟩)
      have hpt : (parts.map fun x => match x with | (i, x) => (i, a.eval x)) = parts.map fun (p : Nat × Operand) => (p.1, a.eval p.2) := rfl
      simp only [execOp, ho, Instr.build, Sem.run_bind, hzrun, Result.andThen_ok, run_underlying hu, hs]
      rw [hpt, k1]
      rfl
    · simp at h1
  -- makeFunc
  · rename_i f first caps ho
    split at hp
    · rename_i p q h1 h2
      simp only [Option.some.injEq, Prod.mk.injEq] at hp; obtain ⟨rfl, rfl⟩ := hp
      refine .pure (x := .func (.func f) (first.map a.eval) (caps.map a.eval)) ?_ ?_
      · simp only [execOp, ho, Instr.makeFunc]; rfl
      · simp only [zc8, zaj]
        exact ⟨_, _, rfl, by simpa using zi5 h (xs := first.toList) h1, by simpa using zi5 h (xs := caps.toList) h2⟩
    · simp at hp
  -- len
  · rename_i args ts ho
    split at hp
    · rename_i x e ha hu
      simp only [Option.map_eq_some_iff, Option.bind_eq_some_iff, Prod.mk.injEq] at hp
      obtain ⟨n, ⟨s, hs, hn⟩, rfl, rfl⟩ := hp
      simp only [Option.bind_eq_some_iff] at hu
      obtain ⟨t, ht, hu⟩ := hu
      obtain ⟨ao, cap, hX, _⟩ := slice_form hn (h.evV (ze6 hs))
      refine .pure (x := goInt n) ?_ (by simp [zc8, zaj, goInt])
      have := args1 ha; subst this
      simp [execOp, ho, resolve, invoke, builtin, Builtin.len_, ht, Sem.run_bind, run_underlying hu, hX]
    · rename_i x ha hu
      split at hp
      · rename_i s hs
        simp only [Option.some.injEq, Prod.mk.injEq] at hp; obtain ⟨rfl, rfl⟩ := hp
        simp only [Option.bind_eq_some_iff] at hu
        obtain ⟨t, ht, hu⟩ := hu
        have hX := h.evV hs
        simp only [zaj] at hX
        refine .pure (x := goInt s.size) ?_ (by simp [zc8, zaj, goInt])
        have := args1 ha; subst this
        simp [execOp, ho, resolve, invoke, builtin, Builtin.len_, ht, Sem.run_bind, run_underlying hu, hX]
      · simp at hp
    · simp at hp
  -- min
  · rename_i args ts ho
    have hm : ∀ {x : Operand} {k : IntKind} {n : Int}, (st.ev x).asI = some (k, n) → a.eval x = .int k n := fun hx => h.evI hx
    split at hp
    · rename_i k x k' y ha
      split at hp
      case isFalse => simp at hp
      rename_i hk; subst hk
      simp only [Option.some.injEq, Prod.mk.injEq] at hp; obtain ⟨rfl, rfl⟩ := hp
      obtain ⟨p, q, rfl, h1, h2⟩ : ∃ p q, args = #[p, q] ∧ (st.ev p).asI = some (k, x) ∧ (st.ev q).asI = some (k, y) := by
        rcases args with ⟨l⟩
        simp only [List.map_eq_cons_iff, List.map_eq_nil_iff] at ha
        obtain ⟨p, _, rfl, h1, q, _, rfl, h2, rfl⟩ := ha
        exact ⟨p, q, rfl, h1, h2⟩
      refine .pure (x := .int k (min x y)) ?_ (by simp [zc8, zaj])
      simp [execOp, ho, resolve, invoke, builtin, Builtin.min_, Sem.run_bind, hm h1, hm h2, znd]
    · rename_i k x k' y k'' z ha
      split at hp
      case isFalse => simp at hp
      rename_i hk; obtain ⟨rfl, rfl⟩ := hk
      simp only [Option.some.injEq, Prod.mk.injEq] at hp; obtain ⟨rfl, rfl⟩ := hp
      obtain ⟨p, q, r, rfl, h1, h2, h3⟩ : ∃ p q r, args = #[p, q, r] ∧ (st.ev p).asI = some (k, x) ∧ (st.ev q).asI = some (k, y) ∧ (st.ev r).asI = some (k, z) := by
        rcases args with ⟨l⟩
        simp only [List.map_eq_cons_iff, List.map_eq_nil_iff] at ha
        obtain ⟨p, _, rfl, h1, q, _, rfl, h2, r, _, rfl, h3, rfl⟩ := ha
        exact ⟨p, q, r, rfl, h1, h2, h3⟩
      refine .pure (x := .int k (min (min x y) z)) ?_ (by simp [zc8, zaj])
      simp [execOp, ho, resolve, invoke, builtin, Builtin.min_, Sem.run_bind, hm h1, hm h2, hm h3, znd]
    · simp at hp
  · rename_i args ts ho
    have hm : ∀ {x : Operand} {k : IntKind} {n : Int}, (st.ev x).asI = some (k, n) → a.eval x = .int k n := fun hx => h.evI hx
    split at hp
    · rename_i k x k' y ha
      split at hp
      case isFalse => simp at hp
      rename_i hk; subst hk
      simp only [Option.some.injEq, Prod.mk.injEq] at hp; obtain ⟨rfl, rfl⟩ := hp
      obtain ⟨p, q, rfl, h1, h2⟩ : ∃ p q, args = #[p, q] ∧ (st.ev p).asI = some (k, x) ∧ (st.ev q).asI = some (k, y) := by
        rcases args with ⟨l⟩
        simp only [List.map_eq_cons_iff, List.map_eq_nil_iff] at ha
        obtain ⟨p, _, rfl, h1, q, _, rfl, h2, rfl⟩ := ha
        exact ⟨p, q, rfl, h1, h2⟩
      refine .pure (x := .int k (max x y)) ?_ (by simp [zc8, zaj])
      simp [execOp, ho, resolve, invoke, builtin, Builtin.max_, Sem.run_bind, hm h1, hm h2, znb]
    · rename_i k x k' y k'' z ha
      split at hp
      case isFalse => simp at hp
      rename_i hk; obtain ⟨rfl, rfl⟩ := hk
      simp only [Option.some.injEq, Prod.mk.injEq] at hp; obtain ⟨rfl, rfl⟩ := hp
      obtain ⟨p, q, r, rfl, h1, h2, h3⟩ : ∃ p q r, args = #[p, q, r] ∧ (st.ev p).asI = some (k, x) ∧ (st.ev q).asI = some (k, y) ∧ (st.ev r).asI = some (k, z) := by
        rcases args with ⟨l⟩
        simp only [List.map_eq_cons_iff, List.map_eq_nil_iff] at ha
        obtain ⟨p, _, rfl, h1, q, _, rfl, h2, r, _, rfl, h3, rfl⟩ := ha
        exact ⟨p, q, r, rfl, h1, h2, h3⟩
      refine .pure (x := .int k (max (max x y) z)) ?_ (by simp [zc8, zaj])
      simp [execOp, ho, resolve, invoke, builtin, Builtin.max_, Sem.run_bind, hm h1, hm h2, hm h3, znb]
    · simp at hp
  · simp at hp
end
theorem Since.ext {w w' : World} {g g' : Gh} {H H' : List (List AV)} (hw : WRep w g H) (h : Since w g H w' g' H') : Ext w g w' g' where
  fz := h.fz
  fzw b hb := h.keep b (hw.fzlt b hb) (by
    rintro ⟨id, cs, δ, hc, hp⟩
    obtain ⟨b', δ', c, e, h1, h2, h3, h4, h5, h6⟩ := hw.blk id cs hc
    rw [hp] at h1; simp only [Option.some.injEq, Prod.mk.injEq] at h1; obtain ⟨rfl, rfl⟩ := h1
    exact h5 hb)
  rho := h.rho
  bsz := h.bszk
theorem Since.trans {w₀ w w' : World} {g₀ g g' : Gh} {H₀ H H' : List (List AV)} (h : Since w₀ g₀ H₀ w g H) (hw : WRep w g H) (k : Since w g H w' g' H') : Since w₀ g₀ H₀ w' g' H' :=
  h.step (k.ext hw) k.sz k.keep k.fro k.fznew k.hbi k.len ⟨k.same.1, k.same.2.1, k.same.2.2⟩
section
variable {C : Cx} {st : St} {a : Act} {w : World} {g : Gh} {lam : Nat → Nat}
theorem SRepG.fin (L' : List (Nat × List AV)) (H' : List (List AV)) (l : Option (Nat × List AV)) (hL : L' = (match l with | some x => x :: st.L | none => st.L))
    (h : SRepG C ⟨st.env, L', H'⟩ a w g lam) {dst : Option Tmp} (hd : ∀ d, dst = some d → d < C.N) {v : Option EV} {x : Value}
    (hv : dst ≠ none → zc8 w g lam (v.getD (.val .junk)) x) : zge C (st.app dst ⟨v, l, H'⟩) (a.put dst x) w := by
  subst hL
  refine ⟨g, lam, ?_⟩
  cases dst with
  | none => exact h
  | some d =>
    have := h.put (hd d rfl) (hv (by simp))
    cases v <;> exact this
theorem upon_value (P : Program) (o : Oper) (a : Act) (next : Act → World → Prop) (Q : Exit → Act → World → Prop) {r : Result Next} {x : Value} {w' : World} (h : r = .ok (.value x) w') (hn : next (a.put o.dst x) w') :
    o.upon P a next Q r := by subst h; exact hn
theorem zi1 (P : Program) (o : Oper) (a : Act) (next : Act → World → Prop) (Q : Exit → Act → World → Prop) {r : Result Next} {w' : World} (h : r = .ok .skip w') (hn : next (a.put o.dst undef) w') :
    o.upon P a next Q r := by subst h; exact hn
theorem ze0 {w : World} {g : Gh} {cs : List AV} {c : Array Value} (h : zba w g cs c.toList) (ho : ∀ y ∈ c.toList, y.oneCell' = true) : zgz w g cs c 0 := by
  rw [zcl] at h
  intro i cv hi
  have hlt : i < c.size := by have := (List.getElem?_eq_some_iff.1 hi).1; have := h.1; simp at this; omega
  exact ⟨c[i], by simp [hlt], ho _ (by simp), h.2 i cv c[i] hi (by simp [hlt])⟩
def ze5 (C : Cx) (st : St) (dst : Option Tmp) (K : Eff → Prop) (a' : Act) (w' : World) : Prop := ∃ e, K e ∧ zge C (st.app dst e) a' w'
theorem zis (h : SRepG C st a w g lam) {o : Oper} (hN : ∀ d, o.dst = some d → d < C.N) {NL : Nat → Prop} (hNL : ∀ d, NL d → zde st.ev d) {cs : List AV} {K : Eff → Prop}
    (hx : newX C.cfg NL st.H o.dst cs K) {zv : Value} {t : TypeId} (hr : zba w g cs zv.cells.toList) (ho : ∀ y ∈ zv.cells.toList, y.oneCell' = true)
    (Q : Exit → Act → World → Prop) {r : Result Next} (hrun : r = .ok (.value (.pointer (some ⟨w.heap.size, 0, none⟩))) (w.alloc (.cells zv.cells t))) :
    o.upon C.P a (ze5 C st o.dst K) Q r := by
  refine upon_value _ _ _ _ _ hrun ?_
  unfold newX at hx
  have hl : cs.length ≤ zv.cells.size := by have := zat hr; simp at this; omega
  split at hx
  · exact hx.elim
  · rename_i d hd
    split at hx
    · obtain ⟨h1, h2⟩ := h.newH (e := t) (ze0 hr ho) hl
      refine ⟨_, hx, ?_⟩
      refine SRepG.fin (st := st) st.L _ none rfl h1 hN (fun _ => ?_)
      simp only [Option.getD_some, zc8, zaj]
      exact ⟨w.heap.size, 0, rfl, by simp only [zbi]; exact ⟨0, by simp [newG], rfl⟩⟩
    · obtain ⟨hn, hk⟩ := hx
      have h1 := h.newL (e := t) (hNL d hn) (ze0 hr ho) hl h.si.sz
      refine ⟨_, hk, ?_⟩
      refine SRepG.fin (st := st) _ _ (some (d, cs)) rfl h1 hN (fun _ => ?_)
      simp [zc8]
theorem zo6 {P : Program} {t : TypeId} {inf : TypeInfo} {zv : Value} (hi : P.info? t = some inf) (hz : inf.zero = some zv) (w : World) :
    (Instr.alloc t true (.tuple #[])).run P w = .ok (.pointer (some ⟨w.heap.size, 0, none⟩)) (w.alloc (.cells zv.cells t)) := by
  have hzr : (zeroValue t).run P w = .ok zv w := by simp [zeroValue, typeInfo, hi, Sem.run_bind, hz]
  simp [Instr.alloc, Sem.run_bind, hzr, newVar, newRow, newObj, Sem.run]
theorem zix {cs vs : List AV} {c : Array Value} {xs : List Value} {δ p : Nat} (h : zgz w g cs c δ) (hv : zba w g vs xs) (ho : ∀ y ∈ xs, y.oneCell' = true)
    (hp : p + vs.length ≤ cs.length) (hc : δ + cs.length ≤ c.size) :
    zgz w g (sc cs p vs) (c.toList.take (δ + p) ++ xs ++ c.toList.drop (δ + p + xs.length)).toArray δ := by
  have hl := zat hv
  rw [zcl] at hv
  intro i cv hi
  rw [zrr _ _ _ _ hp] at hi
  have hidx : ((c.toList.take (δ + p) ++ xs ++ c.toList.drop (δ + p + xs.length)).toArray)[δ + i]? =
      if p ≤ i ∧ i < p + vs.length then xs[i - p]? else c[δ + i]? := by
    have ht : (c.toList.take (δ + p)).length = δ + p := by simp; omega
    simp only [List.getElem?_toArray]
    by_cases h1 : i < p
    · rw [if_neg (by omega), List.append_assoc, List.getElem?_append_left (by rw [ht]; omega), List.getElem?_take, if_pos (by omega)]
      simp
    · by_cases h2 : i < p + vs.length
      · rw [if_pos ⟨by omega, h2⟩, List.append_assoc, List.getElem?_append_right (by rw [ht]; omega), List.getElem?_append_left (by rw [ht]; omega), ht]
        congr 1; omega
      · rw [if_neg (by omega), List.append_assoc, List.getElem?_append_right (by rw [ht]; omega), List.getElem?_append_right (by rw [ht]; omega), ht, List.getElem?_drop]
        rw [show δ + p + xs.length + (δ + i - (δ + p) - xs.length) = δ + i from by omega]
        simp
  split at hi
  · rename_i hh
    have hlt : i - p < xs.length := by omega
    exact ⟨xs[i - p], by rw [hidx, if_pos hh]; simp [hlt], ho _ (by simp), hv.2 (i - p) cv _ hi (by simp [hlt])⟩
  · rename_i hh
    obtain ⟨v, h1, h2, h3⟩ := h i cv hi
    exact ⟨v, by rw [hidx, if_neg hh]; exact h1, h2, h3⟩
theorem zf9 {c : Array Value} {xs : List Value} {q : Nat} (h : q + xs.length ≤ c.size) : (c.toList.take q ++ xs ++ c.toList.drop (q + xs.length)).toArray.size = c.size := by
  simp; omega
theorem zhz (w : World) (b : Nat) (c : Array Value) : Sames w (w.setRow b c) := ⟨rfl, rfl, rfl⟩
theorem zd0 {w : World} {a : Addr} {c : Array Value} {e : TypeId} (h : w.heap[a.block]? = some (.cells c e (0, 0))) : w.frozen? a = false := by simp [World.frozen?, h]
theorem SRepG.write (h : SRepG C st a w g lam) {id : Nat} {cs vs : List AV} {p b δ : Nat} {xs : List Value} (hid : st.H[id]? = some cs) (hcur : g.ρ id cs.length = some (b, δ))
    (hp : p + vs.length ≤ cs.length) (hold : C.cfg.n0 ≤ id ∨ mxL vs ≤ C.cfg.n0) (hv : zba w g vs xs) (ho : ∀ y ∈ xs, y.oneCell' = true) :
    ∃ (c : Array Value) (e : TypeId), w.heap[b]? = some (.cells c e (0, 0)) ∧ δ + cs.length ≤ c.size ∧
    SRepG C { st with H := st.H.set id (sc cs p vs) } a (w.setRow b (c.toList.take (δ + p) ++ xs ++ c.toList.drop (δ + p + xs.length)).toArray) g lam := by
  obtain ⟨b', δ', c, e, k1, k2, k3, k4, k5, k6⟩ := h.wr.blk id cs hid
  rw [hcur] at k1; simp only [Option.some.injEq, Prod.mk.injEq] at k1; obtain ⟨rfl, rfl⟩ := k1
  refine ⟨c, e, k2, k3, ?_⟩
  have hxl := zat hv
  have hV := zix (zgz.of_crep k4 k2) hv ho hp k3
  have hsz : (c.toList.take (δ + p) ++ xs ++ c.toList.drop (δ + p + xs.length)).toArray.size = c.size := zf9 (by omega)
  have hnew := setRow_heap w b c (c.toList.take (δ + p) ++ xs ++ c.toList.drop (δ + p + xs.length)).toArray e _ k2
  have hmv : zir g id (sc cs p vs).length b δ = g := by
    unfold zir
    cases g with
    | mk ρ Fz =>
      simp only [Gh.mk.injEq, and_true]
      funext i n
      split
      · rename_i hh; obtain ⟨rfl, rfl⟩ := hh; rw [zey]; exact hcur.symm
      · rfl
  have hmx : C.cfg.n0 ≤ id ∨ mxL (sc cs p vs) ≤ C.cfg.n0 := by
    rcases Nat.lt_or_ge id C.cfg.n0 with hlt | hge
    · right
      rcases hold with h1 | h1
      · omega
      · refine z0p hp ?_ h1
        exact h.om id cs hlt hid
    · exact .inl hge
  have := (h.repl (cs' := sc cs p vs) (b' := b) (δ' := δ) (e := e) hid hcur (by rw [zey]; exact Nat.le_refl _) hmx (w' := w.setRow b _) (by rw [setRow_size]; exact Nat.le_refl _)
    (fun k _ hk => setRow_other w b k _ hk) (fun n hn => by rw [zd5 k2] at hn; rw [zd5 hnew, hsz]; exact hn)
    (fun o => (zd0 hnew).trans (zd0 k2).symm) (zhz w b _) hnew (.inl ⟨rfl, rfl⟩) hV (by rw [zey, hsz]; exact k3)
    (fun a' ha => (zd0 (by rw [ha]; exact hnew)).trans (zd0 (by rw [ha]; exact k2)).symm)).1
  rw [hmv] at this
  exact this
theorem zlm {P : Program} {t : TypeId} {b o : Nat} {c : Array Value} {e : TypeId} {x : Value} (hb : w.heap[b]? = some (.cells c e (0, 0))) (hz : tsz P t = some x.cells.size)
    (hl : o + x.cells.size ≤ c.size) (ho : ∀ y ∈ x.cells.toList, y.oneCell' = true) :
    (storeVar t ⟨b, o, none⟩ x).run P w = .ok () (w.setRow b (c.toList.take o ++ x.cells.toList ++ c.toList.drop (o + x.cells.toList.length)).toArray) := by
  unfold tsz at hz
  simp only [Option.map_eq_some_iff] at hz
  obtain ⟨i, hi, hz⟩ := hz
  have hs : (sizeOf t).run P w = .ok i.size w := by simp [sizeOf, typeInfo, hi, Sem.run_bind]
  have hst := run_storeCells_at P b o e x.cells.toList 0 c w hb (by simpa using hl) ho
  simp only [storeVar, Sem.run_bind, hs, Result.andThen_ok, hz, ne_eq, not_true, if_false]
  simpa using hst
theorem zln (h : SRepG C st a w g lam) {o : Oper} (hdst : o.dst = none) {t : TypeId} {ax vx : Operand} (hop : o.op = .store t ax vx) {v : AV} {vs : List AV} (hv : st.ev vx = .val v) (hcl : v.cells = some vs)
    (hz : tsz C.P t = some vs.length) {K : Eff → Prop} (hx : zez C.cfg (lk st.L) st.H (st.ev ax) vs K) (Q : Exit → Act → World → Prop) :
    o.upon C.P a (ze5 C st o.dst K) Q ((execOp a.eval o).run C.P w) := by
  obtain ⟨hr, ho⟩ := zc0 hcl (h.evV hv)
  have hlen : (a.eval vx).cells.size = vs.length := by have := zat hr; simpa using this
  have hrunof : ∀ {b p : Nat} {c : Array Value} {e : TypeId}, a.eval ax = .pointer (some ⟨b, p, none⟩) → w.heap[b]? = some (.cells c e (0, 0)) → p + vs.length ≤ c.size →
      (execOp a.eval o).run C.P w = .ok .skip (w.setRow b (c.toList.take p ++ (a.eval vx).cells.toList ++ c.toList.drop (p + (a.eval vx).cells.toList.length)).toArray) := by
    intro b p c e hax hb hl
    have := zlm (P := C.P) (t := t) (o := p) (x := a.eval vx) hb (by rw [hlen]; exact hz) (by rw [hlen]; exact hl) ho
    simp only [execOp, hop, hax, Instr.storeAt, Instr.sureAddr, Sem.run_bind, Sem.run_pure, Result.andThen_ok, this]
  unfold zez at hx
  split at hx
  · rename_i key off he
    split at hx
    case h_2 => exact hx.elim
    rename_i cs hc
    obtain ⟨hb, hk⟩ := hx
    obtain ⟨c, e, k1, k2, k3, k4⟩ := h.lr.box key cs hc
    refine zi1 _ _ _ _ _ (hrunof (h.evL he) k1 (by omega)) ⟨_, hk, ?_⟩
    have hV := zix (δ := 0) (zgz.of_crep k3 k1) hr ho hb (by omega)
    simp only [Nat.zero_add] at hV
    have h1 := (h.box (c' := (c.toList.take off ++ (a.eval vx).cells.toList ++ c.toList.drop (off + (a.eval vx).cells.toList.length)).toArray) hc k1
      (zf9 (by simp [hlen]; omega)) (by rw [zey]; exact k2) hV).1
    rw [hdst]
    exact SRepG.fin (st := st) _ _ (some (key, sc cs off vs)) rfl h1 (fun d hd => by simp at hd) (fun hn => absurd rfl hn)
  · rename_i id gen p₀ _ _ off he
    split at hx
    case h_2 => exact hx.elim
    rename_i cs hc
    obtain ⟨hg, hb, hold, hk⟩ := hx
    have hX := h.evV he
    simp only [zaj, zbi] at hX
    obtain ⟨b, o', hX, δ, hρ, rfl⟩ := hX
    rw [← hg] at hρ
    obtain ⟨c, e, k1, k2, k3⟩ := h.write (p := p₀ + off) hc hρ hb hold hr ho
    refine zi1 _ _ _ _ _ (hrunof (b := b) (p := δ + (p₀ + off)) (c := c) (e := e) (by rw [hX, Nat.add_assoc]) k1 (by omega)) ⟨_, hk, ?_⟩
    rw [hdst]
    exact SRepG.fin (st := st) st.L _ none rfl k3 (fun d hd => by simp at hd) (fun hn => absurd rfl hn)
  · exact hx.elim
end
section
variable {C : Cx} {st : St} {a : Act} {w : World} {g : Gh} {lam : Nat → Nat}
theorem zlr (n : Nat) (zc : List AV) : zkb n zc = (List.replicate n zc).flatten := by
  unfold zkb
  split
  · rename_i z
    induction n with
    | zero => rfl
    | succ n ih =>
      show z :: List.replicate n z = [z] ++ (List.replicate n [z]).flatten
      rw [← ih]; rfl
  · rfl
theorem flat_get (zc : List AV) : ∀ (n i : Nat), i < n * zc.length → ((List.replicate n zc).flatten)[i]? = zc[i % zc.length]?
  | 0, i, h => by simp at h
  | n + 1, i, h => by
    rw [List.replicate_succ, List.flatten_cons]
    by_cases hi : i < zc.length
    · rw [List.getElem?_append_left hi, Nat.mod_eq_of_lt hi]
    · rw [List.getElem?_append_right (by omega), flat_get zc n (i - zc.length) (by rw [Nat.succ_mul] at h; omega)]
      congr 1
      rw [Nat.mod_eq_sub_mod (a := i) (by omega)]
theorem zej (n : Nat) (zc : List AV) : (zkb n zc).length = n * zc.length := by rw [zlr]; simp
theorem znv {zc : List AV} {z : Array Value} (hr : zba w g zc z.toList) (ho : ∀ y ∈ z.toList, y.oneCell' = true) (n : Nat) :
    zba w g (zkb n zc) ((Array.range (n * zc.length)).map (fun i => z[i % z.size]!)).toList ∧ ∀ y ∈ ((Array.range (n * zc.length)).map (fun i => z[i % z.size]!)).toList, y.oneCell' = true := by
  have hl : z.size = zc.length := by have := zat hr; simpa using this
  have hpos : ∀ i, i < n * zc.length → 0 < zc.length := by intro i hi; rcases Nat.eq_zero_or_pos zc.length with h | h; · simp [h] at hi
                                                           · exact h
  rw [zcl] at hr ⊢
  refine ⟨⟨by simp [zej], fun i c v h1 h2 => ?_⟩, fun y hy => ?_⟩
  · have hi : i < n * zc.length := by have := (List.getElem?_eq_some_iff.1 h1).1; rwa [zej] at this
    rw [zlr, flat_get zc n i hi] at h1
    have hm : i % z.size < z.size := Nat.mod_lt _ (by rw [hl]; exact hpos i hi)
    simp only [Array.toList_map, List.getElem?_map, Option.map_eq_some_iff, Array.toList_range] at h2
    obtain ⟨j, hj, rfl⟩ := h2
    have : j = i := by simpa [List.getElem?_range, hi] using hj.symm
    subst this
    rw [getElem!_pos z _ hm]
    refine hr.2 (j % z.size) c _ (by rw [hl]; exact h1) (by simp [hm])
  · simp only [Array.toList_map, List.mem_map, Array.toList_range, List.mem_range] at hy
    obtain ⟨i, hi, rfl⟩ := hy
    have hm : i % z.size < z.size := Nat.mod_lt _ (by rw [hl]; exact hpos i hi)
    rw [getElem!_pos z _ hm]
    exact ho _ (by simp)
theorem zjb {P : Program} {t s by_ : Nat} {zc : List AV} (h : zic P t = some (s, by_, zc)) :
    ∃ e inf zv, P.underlying t = some (.slice e) ∧ P.info? e = some inf ∧ inf.size = s ∧ inf.bytes = by_ ∧ inf.zero = some zv ∧ (aOf zv).cells = some zc := by
  unfold zic at h
  simp only [Option.bind_eq_some_iff, Option.map_eq_some_iff, Prod.mk.injEq] at h
  obtain ⟨e, h1, inf, h2, z, ⟨zv, h3, rfl⟩, zc', h4, rfl, rfl, rfl⟩ := h
  unfold zen at h1
  split at h1
  · simp only [Option.some.injEq] at h1; subst h1
    exact ⟨_, inf, zv, by assumption, h2, rfl, rfl, h3, h4⟩
  · simp at h1
theorem zfh (h : SRepG C st a w g lam) {o : Oper} (hN : ∀ d, o.dst = some d → d < C.N) {K : Eff → Prop} {cs : List AV} {c : Array Value} {e : TypeId} {n cap s : Nat}
    (hr : zgz w g cs c 0) (hl : cs.length ≤ c.size) (hn : n * s ≤ cs.length) (hc : n ≤ cap) (hcap : cap * s ≤ c.size)
    (hk : K ⟨some (.val (.slm st.H.length cs.length 0 n s)), none, st.H ++ [cs]⟩) (Q : Exit → Act → World → Prop) {r : Result Next}
    (hrun : r = .ok (.value (.slice (some ⟨w.heap.size, 0, none⟩) n cap)) (w.alloc (.cells c e))) : o.upon C.P a (ze5 C st o.dst K) Q r := by
  refine upon_value _ _ _ _ _ hrun ⟨_, hk, ?_⟩
  obtain ⟨h1, h2⟩ := h.newH (e := e) hr hl
  refine SRepG.fin (st := st) st.L _ none rfl h1 hN (fun _ => ?_)
  simp only [Option.getD_some, zc8, zaj]
  exact ⟨w.heap.size, 0, cap, c.size, by simp [newG], rfl, hc, by omega, zd5 (zgf _ _), by omega⟩
theorem zjo {P : Program} {t e : TypeId} {inf : TypeInfo} {zv : Value} {n : Int} {k k' : IntKind} (hu : P.underlying t = some (.slice e)) (hi : P.info? e = some inf) (hz : inf.zero = some zv)
    (h0 : 0 ≤ n) (hn : n ≤ 2 ^ 32) (hb : inf.bytes ≤ 2 ^ 10) (w : World) :
    (Instr.makeSlice t (.int k n) (.int k' n)).run P w = .ok (.slice (some ⟨w.heap.size, 0, none⟩) n.toNat n.toNat)
      (w.alloc (.cells ((Array.range (n.toNat * inf.size)).map (fun i => (if n.toNat * inf.size = 0 then #[] else zv.cells)[i % (if n.toNat * inf.size = 0 then #[] else zv.cells).size]!)) e)) := by
  have hw : IntKind.i64.wrap n = n := IntWalk.i64_in _ (by omega)
  have hti : (typeInfo e).run P w = .ok inf w := by simp [typeInfo, hi, Sem.run_bind]
  have hs : (sizeOf e).run P w = .ok inf.size w := by simp [sizeOf, hti, Sem.run_bind]
  have hzr : (zeroValue e).run P w = .ok zv w := by simp [zeroValue, hti, Sem.run_bind, hz]
  have hnn : ¬ n < 0 := by omega
  have hbig : ¬ ((inf.bytes : Int) * n > 2 ^ 48) := by
    have h1 : (inf.bytes : Int) ≤ 2 ^ 10 := by exact_mod_cast hb
    have := Int.mul_le_mul h1 hn h0 (by omega)
    omega
  have hroom : ¬ n.toNat * inf.bytes > roomBytes := by
    have h1 : n.toNat ≤ 2 ^ 32 := by omega
    have := Nat.mul_le_mul h1 hb
    simp only [roomBytes]; omega
  simp only [Instr.makeSlice, Sem.run_bind, run_underlying hu, Result.andThen_ok, asInt, asIntOf, Sem.run_pure, hti, hw, hs]
  simp only [hnn, decide_false, hbig, Bool.or_false, Int.lt_irrefl, gt_iff_lt, Bool.false_eq_true, if_false, askRoom, hroom, Sem.run_pure, Result.andThen_ok]
  by_cases hz0 : n.toNat * inf.size = 0
  · simp [hs, hz0, Sem.run_bind, newRow, newObj, Sem.run]
  · simp [hs, hz0, Sem.run_bind, newRow, newObj, Sem.run, hzr]
theorem zna {P : Program} {xs : List AV} {b o m : Nat} (hc : zc9 w g xs b o) (hm : m ≤ xs.length) :
    ∃ arr : Array Value, (loadCells ⟨b, o, none⟩ m).run P w = .ok arr w ∧ zba w g (xs.take m) arr.toList ∧ ∀ y ∈ arr.toList, y.oneCell' = true := by
  obtain ⟨vs, k1, k2, k3, k4⟩ := zfq hc
  have hl := run_loadCells_list (P := P) w ⟨b, o, none⟩ (vs.take m) (fun j v hv => by
    rw [List.getElem?_take] at hv
    split at hv
    · rw [Addr.add_mid]; exact k1 j v hv
    · simp at hv)
  rw [show (vs.take m).length = m from by simp; omega] at hl
  refine ⟨_, hl, ?_, fun y hy => k4 y (List.mem_of_mem_take (by simpa using hy))⟩
  rw [zcl] at k2 ⊢
  refine ⟨by simp [k3], fun i c v h1 h2 => ?_⟩
  simp only [List.getElem?_take] at h1 h2
  split at h1
  · rename_i hi; simp only [hi, if_true] at h2; exact k2.2 i c v h1 h2
  · simp at h1
theorem zml {P : Program} {H : List (List AV)} (hw : WRep w g H) {x : AV} {X : Value} {sz n : Nat} {xs : List AV} (hs : zlk H sz x = some (n, xs)) (hv : zaj w g x X) :
    xs.length = n * sz ∧ ∃ ao cap, X = .slice ao n cap ∧ ∀ m, m ≤ n → ∃ arr : Array Value, (Builtin.firstCells sz m X).run P w = .ok arr w ∧ zba w g (xs.take (m * sz)) arr.toList ∧ ∀ y ∈ arr.toList, y.oneCell' = true := by
  unfold zlk at hs
  split at hs
  · simp only [Option.some.injEq, Prod.mk.injEq] at hs; obtain ⟨rfl, rfl⟩ := hs
    simp only [zaj] at hv; subst hv
    exact ⟨by simp, none, 0, rfl, fun m hm => ⟨#[], rfl, by simp [zba], by simp⟩⟩
  · simp only [Option.bind_eq_some_iff, Option.map_eq_some_iff, Prod.mk.injEq] at hs
    obtain ⟨len, h1, l, h2, rfl, rfl⟩ := hs
    obtain ⟨ao, cap, rfl, hcap, hb⟩ := slice_form h1 hv
    have hll : l.length = len * sz := by
      unfold zbx at h2
      split at h2
      · exact (zem h2).1
      · simp only [Option.bind_eq_some_iff] at h2
        obtain ⟨cs, _, h2⟩ := h2
        split at h2
        · exact (zem h2).1
        · simp at h2
      · simp at h2
    refine ⟨hll, ao, cap, rfl, fun m hm => ?_⟩
    rcases Nat.eq_zero_or_pos len with h0 | h0
    · subst h0
      have : m = 0 := by omega
      subst this
      cases ao with
      | none => exact ⟨#[], rfl, by simp [zba], by simp⟩
      | some q => exact ⟨#[], by simp [Builtin.firstCells, loadCells, loadCellsFrom], by simp [zba], by simp⟩
    · obtain ⟨b, o, rfl, hbase⟩ := hb h0
      obtain ⟨k1, k2⟩ := zh2 hw hbase h2
      rw [Nat.add_zero] at k1
      obtain ⟨arr, j1, j2⟩ := zna (P := P) (m := m * sz) k1 (by rw [k2]; exact Nat.mul_le_mul_right _ hm)
      exact ⟨arr, j1, j2⟩
theorem zks (newLen : Nat) : ∀ (r c : Nat), c ≤ newLen + (newLen + 768) / 4 → Builtin.growBy newLen r c ≤ newLen + (newLen + 768) / 4
  | 0, c, h => h
  | r + 1, c, h => by
    simp only [Builtin.growBy]
    split
    · exact h
    · exact zks newLen r _ (by omega)
theorem zoj (need cap : Nat) (h : cap < need) : Builtin.nextslicecap need cap ≤ 2 * need + 512 := by
  unfold Builtin.nextslicecap
  split
  · omega
  · split
    · omega
    · have := zks need 4 cap (by omega)
      omega
theorem ze9 (z : Array Value) (n : Nat) : (Builtin.zeroCells z n).size = n * z.size := by simp [Builtin.zeroCells]
theorem zeq {P : Program} {t tx e ex : TypeId} {inf : TypeInfo} {zv : Value} (hu : P.underlying t = some (.slice e)) (hux : P.underlying tx = some (.slice ex)) (hi : P.info? e = some inf) (hz : inf.zero = some zv)
    {base bx : Option Addr} {len cap n capx : Nat} {ts : Array TypeId} {args : Array Value} (hts0 : ts[0]? = some t) (hts1 : ts[1]? = some tx) (ha0 : args[0]? = some (.slice base len cap)) (ha1 : args[1]? = some (.slice bx n capx))
    (hb : inf.bytes ≤ 2 ^ 10) (hb0 : 0 < inf.bytes) (hle : len + n ≤ 2 ^ 32) (hlt : cap < len + n) {old new : Array Value} {ty : TypeId}
    (ho : (Builtin.firstCells inf.size len (.slice base len cap)).run P { w with drawn := w.drawn + 1 } = .ok old { w with drawn := w.drawn + 1 })
    (hnw : (Builtin.firstCells inf.size n (.slice bx n capx)).run P { w with drawn := w.drawn + 1 } = .ok new { w with drawn := w.drawn + 1 }) :
    ∃ (nc : Nat), len + n ≤ nc ∧
      (Builtin.append_ ts ty args).run P w = .ok (.slice (some ⟨w.heap.size, 0, none⟩) (len + n) nc) (({ w with drawn := w.drawn + 1 } : World).alloc (.cells (old ++ new ++ Builtin.zeroCells zv.cells (nc - (len + n))) e)) := by
  have hti : ∀ w : World, (typeInfo e).run P w = .ok inf w := fun w => by simp [typeInfo, hi, Sem.run_bind]
  have hs : ∀ w : World, (sizeOf e).run P w = .ok inf.size w := fun w => by simp [sizeOf, hti, Sem.run_bind]
  have hzr : ∀ w : World, (zeroValue e).run P w = .ok zv w := fun w => by simp [zeroValue, hti, Sem.run_bind, hz]
  have hnc : ¬ len + n ≤ cap := by omega
  have hbig : ¬ (Builtin.nextslicecap (len + n) cap * inf.bytes > 2 ^ 48) := by
    have h1 := zoj (len + n) cap hlt
    have h2 : Builtin.nextslicecap (len + n) cap ≤ 2 ^ 34 := by omega
    have := Nat.mul_le_mul h2 hb
    omega
  have hbne : ¬ inf.bytes = 0 := by omega
  let nc := len + n + w.tape w.drawn (.appendCap (len + n) cap e) % (2 ^ 63 - (len + n))
  refine ⟨nc, by omega, ?_⟩
  have hroom : ∀ (k : Nat) (w : World), (askRoom k).run P w = .ok () w := by
    intro k w; unfold askRoom; split <;> rfl
  simp only [Builtin.append_, hts0, hts1, ha0, ha1, Sem.run_bind, run_underlying hu, run_underlying hux, Result.andThen_ok, hs, Builtin.lenOf, Sem.run_pure, hnc, if_false, hti,
    Bool.false_eq_true, false_or, hbne, and_false, hbig, choose, Sem.run, Question.forced, hroom, Bool.not_false, if_true]
  simp only [ho, hnw, hzr, Result.andThen_ok, newRow, newObj, Sem.run_bind, Sem.run, Question.cut, Sem.run_pure]
  rfl
end
end Go.Sx
