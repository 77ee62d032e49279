/- A part of the proofs of this seat: Sx1. No condition is set. -/
import Derived.WalkKit
import Derived.WalkLawsBesides
import Derived.Laws.CopyRow
import Derived.Laws.FloatArith
import Derived.Laws.FloatBits
import Derived.Deep.MidRow
namespace Go.Sx

/-! ### floats up to a NaN's bits -/
def isNaN (b : Nat) : Bool := (Ieee.double.read b).isNaN
def qn : Nat := 9221120237041090560
def cn (b : Nat) : Nat := if isNaN b then qn else b

/-! ### abstract values -/
inductive AV where
  | junk
  | bool (b : Bool)
  | int (k : IntKind) (n : Int)
  | flt (x : Nat)
  | fraw (b : Nat)
  | str (s : ByteArray)
  | slnil
  | sl (tag : Option (Nat × Nat)) (len : Nat) (cells : List AV)
  | slm (id gen off len sz : Nat)
  | eptr (s : AV) (off : Nat)
  | agg (cells : List AV)
  | tup (vs : List AV)
  | func (f : Nat) (first caps : List AV)
  | raw (v : Value)


structure Gh where
  ρ : Nat → Nat → Option (Nat × Nat)
  Fz : Nat → Prop

def bsz (w : World) (b : Nat) : Option Nat :=
  match w.heap[b]? with
  | some (.cells c _ _) => some c.size
  | _ => none

mutual
def VRep (w : World) (g : Gh) : AV → Value → Prop
  | .junk, _ => True
  | .bool b, v => v = .bool b
  | .int k n, v => v = .int k n
  | .flt x, v => ∃ b, v = .float .f64 b ∧ b < 2 ^ 64 ∧ cn b = x
  | .fraw b, v => v = .float .f64 b ∧ b < 2 ^ 64
  | .str s, v => v = .string s
  | .slnil, v => v = .slice none 0 0
  | .sl tag len cells, v =>
    ∃ cap, len ≤ cap ∧ ((cells = [] ∧ len = 0 ∧ tag = none ∧ ∃ ao, v = .slice ao len cap) ∨
      ∃ b o, v = .slice (some ⟨b, o, none⟩) len cap ∧ (tag = none ∨ tag = some (b, o)) ∧ g.Fz b ∧ CRep w g cells b o)
  | .slm id gen off len sz, v =>
    ∃ b δ cap n, g.ρ id gen = some (b, δ) ∧ v = .slice (some ⟨b, δ + off, none⟩) len cap ∧ len ≤ cap ∧ off + len * sz ≤ gen ∧
      bsz w b = some n ∧ δ + off + cap * sz ≤ n
  | .eptr s off, v => ∃ b o, v = .pointer (some ⟨b, o + off, none⟩) ∧ SBase w g s b o
  | .agg cells, v => ∃ vs : Array Value, v = .agg vs ∧ (∀ x ∈ vs.toList, x.oneCell' = true) ∧ LRep w g cells vs.toList
  | .tup cells, v => ∃ vs : Array Value, v = .tuple vs ∧ LRep w g cells vs.toList
  | .func f first caps, v => ∃ fs cs : Array Value, v = .func (.func f) fs cs ∧ LRep w g first fs.toList ∧ LRep w g caps cs.toList
  | .raw v', v => v = v'
def SBase (w : World) (g : Gh) : AV → Nat → Nat → Prop
  | .sl tag _ cells, b, o => (tag = none ∨ tag = some (b, o)) ∧ g.Fz b ∧ CRep w g cells b o
  | .slm id gen off _ _, b, o => ∃ δ, g.ρ id gen = some (b, δ) ∧ o = δ + off
  | _, _, _ => False
def CRep (w : World) (g : Gh) : List AV → Nat → Nat → Prop
  | [], _, _ => True
  | c :: cs, b, o => (∃ v, w.cell? ⟨b, o, none⟩ = some v ∧ v.oneCell' = true ∧ VRep w g c v) ∧ CRep w g cs b (o + 1)
def LRep (w : World) (g : Gh) : List AV → List Value → Prop
  | [], vs => vs = []
  | c :: cs, vs => ∃ v rest, vs = v :: rest ∧ VRep w g c v ∧ LRep w g cs rest
end

/-! one more than the greatest block that a value leads to -/
mutual
def mx : AV → Nat
  | .sl _ _ cells => mxL cells
  | .slm id _ _ _ _ => id + 1
  | .eptr s _ => mx s
  | .agg cells => mxL cells
  | .tup cells => mxL cells
  | .func _ first caps => max (mxL first) (mxL caps)
  | _ => 0
def mxL : List AV → Nat
  | [] => 0
  | c :: cs => max (mx c) (mxL cs)
end

structure ExtN (n : Nat) (w : World) (g : Gh) (w' : World) (g' : Gh) : Prop where
  fz : ∀ b, g.Fz b → g'.Fz b
  fzw : ∀ b, g.Fz b → w'.heap[b]? = w.heap[b]?
  rho : ∀ id gen p, id < n → g.ρ id gen = some p → g'.ρ id gen = some p
  bsz : ∀ b n, bsz w b = some n → bsz w' b = some n

structure Ext (w : World) (g : Gh) (w' : World) (g' : Gh) : Prop where
  fz : ∀ b, g.Fz b → g'.Fz b
  fzw : ∀ b, g.Fz b → w'.heap[b]? = w.heap[b]?
  rho : ∀ id gen p, g.ρ id gen = some p → g'.ρ id gen = some p
  bsz : ∀ b n, bsz w b = some n → bsz w' b = some n

theorem Ext.n {w w' : World} {g g' : Gh} (h : Ext w g w' g') (n : Nat) : ExtN n w g w' g' :=
  ⟨h.fz, h.fzw, fun id gen p _ => h.rho id gen p, h.bsz⟩
theorem Ext.refl (w : World) (g : Gh) : Ext w g w g := ⟨fun _ h => h, fun _ _ => rfl, fun _ _ _ h => h, fun _ _ h => h⟩
theorem Ext.trans {w₁ w₂ w₃ : World} {g₁ g₂ g₃ : Gh} (h : Ext w₁ g₁ w₂ g₂) (k : Ext w₂ g₂ w₃ g₃) : Ext w₁ g₁ w₃ g₃ :=
  ⟨fun b hb => k.fz b (h.fz b hb), fun b hb => (k.fzw b (h.fz b hb)).trans (h.fzw b hb), fun i e p hp => k.rho i e p (h.rho i e p hp), fun b n hb => k.bsz b n (h.bsz b n hb)⟩

theorem cell_eq {w w' : World} {b o : Nat} (h : w'.heap[b]? = w.heap[b]?) : w'.cell? ⟨b, o, none⟩ = w.cell? ⟨b, o, none⟩ := by
  simp only [World.cell?, h]

mutual
theorem VRep.extN {n : Nat} {w w' : World} {g g' : Gh} (h : ExtN n w g w' g') : ∀ (a : AV) (v : Value), mx a ≤ n → VRep w g a v → VRep w' g' a v
  | .junk, _, _, _ => by simp [VRep]
  | .bool b, v, _, hv => by simpa [VRep] using hv
  | .int k n, v, _, hv => by simpa [VRep] using hv
  | .flt x, v, _, hv => by simpa [VRep] using hv
  | .fraw b, v, _, hv => by simpa [VRep] using hv
  | .str s, v, _, hv => by simpa [VRep] using hv
  | .slnil, v, _, hv => by simpa [VRep] using hv
  | .raw _, v, _, hv => by simpa [VRep] using hv
  | .sl tag len cells, v, hm, hv => by
    simp only [VRep] at hv ⊢
    obtain ⟨cap, hc, h1 | ⟨b, o, h1, h2, h3, h4⟩⟩ := hv
    · exact ⟨cap, hc, .inl h1⟩
    · exact ⟨cap, hc, .inr ⟨b, o, h1, h2, h.fz b h3, CRep.extN h cells b o (by simpa [mx] using hm) (h.fzw b h3) h4⟩⟩
  | .slm id gen off len sz, v, hm, hv => by
    simp only [VRep] at hv ⊢
    obtain ⟨b, δ, cap, m, h1, h2, h3, h4, h5, h6⟩ := hv
    exact ⟨b, δ, cap, m, h.rho id gen _ (by simp [mx] at hm; omega) h1, h2, h3, h4, h.bsz b m h5, h6⟩
  | .eptr s off, v, hm, hv => by
    simp only [VRep] at hv ⊢
    obtain ⟨b, o, h1, h2⟩ := hv
    exact ⟨b, o, h1, SBase.extN h s b o (by simpa [mx] using hm) h2⟩
  | .agg cells, v, hm, hv => by
    simp only [VRep] at hv ⊢
    obtain ⟨vs, h1, h3, h2⟩ := hv
    exact ⟨vs, h1, h3, LRep.extN h cells _ (by simpa [mx] using hm) h2⟩
  | .tup cells, v, hm, hv => by
    simp only [VRep] at hv ⊢
    obtain ⟨vs, h1, h2⟩ := hv
    exact ⟨vs, h1, LRep.extN h cells _ (by simpa [mx] using hm) h2⟩
  | .func f first caps, v, hm, hv => by
    simp only [VRep] at hv ⊢
    simp only [mx] at hm
    obtain ⟨fs, cs, h1, h2, h3⟩ := hv
    exact ⟨fs, cs, h1, LRep.extN h first _ (by omega) h2, LRep.extN h caps _ (by omega) h3⟩
theorem SBase.extN {n : Nat} {w w' : World} {g g' : Gh} (h : ExtN n w g w' g') : ∀ (a : AV) (b o : Nat), mx a ≤ n → SBase w g a b o → SBase w' g' a b o
  | .sl tag len cells, b, o, hm, hv => by
    simp only [SBase] at hv ⊢
    exact ⟨hv.1, h.fz b hv.2.1, CRep.extN h cells b o (by simpa [mx] using hm) (h.fzw b hv.2.1) hv.2.2⟩
  | .slm id gen off len sz, b, o, hm, hv => by
    simp only [SBase] at hv ⊢
    obtain ⟨δ, h1, h2⟩ := hv
    exact ⟨δ, h.rho id gen _ (by simp [mx] at hm; omega) h1, h2⟩
  | .junk, _, _, _, hv => by simp [SBase] at hv
  | .bool _, _, _, _, hv => by simp [SBase] at hv
  | .int _ _, _, _, _, hv => by simp [SBase] at hv
  | .flt _, _, _, _, hv => by simp [SBase] at hv
  | .fraw _, _, _, _, hv => by simp [SBase] at hv
  | .str _, _, _, _, hv => by simp [SBase] at hv
  | .slnil, _, _, _, hv => by simp [SBase] at hv
  | .raw _, _, _, _, hv => by simp [SBase] at hv
  | .eptr _ _, _, _, _, hv => by simp [SBase] at hv
  | .agg _, _, _, _, hv => by simp [SBase] at hv
  | .tup _, _, _, _, hv => by simp [SBase] at hv
  | .func _ _ _, _, _, _, hv => by simp [SBase] at hv
theorem CRep.extN {n : Nat} {w w' : World} {g g' : Gh} (h : ExtN n w g w' g') : ∀ (cs : List AV) (b o : Nat), mxL cs ≤ n → w'.heap[b]? = w.heap[b]? → CRep w g cs b o → CRep w' g' cs b o
  | [], _, _, _, _, _ => by simp [CRep]
  | c :: cs, b, o, hm, hb, hv => by
    simp only [mxL] at hm
    simp only [CRep] at hv ⊢
    obtain ⟨⟨v, h1, h2, h3⟩, h4⟩ := hv
    exact ⟨⟨v, (cell_eq hb).trans h1, h2, VRep.extN h c v (by omega) h3⟩, CRep.extN h cs b (o + 1) (by omega) hb h4⟩
theorem LRep.extN {n : Nat} {w w' : World} {g g' : Gh} (h : ExtN n w g w' g') : ∀ (cs : List AV) (vs : List Value), mxL cs ≤ n → LRep w g cs vs → LRep w' g' cs vs
  | [], vs, _, hv => by simpa [LRep] using hv
  | c :: cs, vs, hm, hv => by
    simp only [mxL] at hm
    simp only [LRep] at hv ⊢
    obtain ⟨v, rest, h1, h2, h3⟩ := hv
    exact ⟨v, rest, h1, VRep.extN h c v (by omega) h2, LRep.extN h cs rest (by omega) h3⟩
end
theorem VRep.ext {w w' : World} {g g' : Gh} (h : Ext w g w' g') {a : AV} {v : Value} (hv : VRep w g a v) : VRep w' g' a v := VRep.extN (h.n _) a v (Nat.le_refl _) hv
theorem SBase.ext {w w' : World} {g g' : Gh} (h : Ext w g w' g') {a : AV} {b o : Nat} (hv : SBase w g a b o) : SBase w' g' a b o := SBase.extN (h.n _) a b o (Nat.le_refl _) hv
theorem CRep.ext {w w' : World} {g g' : Gh} (h : Ext w g w' g') {cs : List AV} {b o : Nat} (hb : w'.heap[b]? = w.heap[b]?) (hv : CRep w g cs b o) : CRep w' g' cs b o :=
  CRep.extN (h.n _) cs b o (Nat.le_refl _) hb hv
theorem LRep.ext {w w' : World} {g g' : Gh} (h : Ext w g w' g') {cs : List AV} {vs : List Value} (hv : LRep w g cs vs) : LRep w' g' cs vs :=
  LRep.extN (h.n _) cs vs (Nat.le_refl _) hv

end Go.Sx
