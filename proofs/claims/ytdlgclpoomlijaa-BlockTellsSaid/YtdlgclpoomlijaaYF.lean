/- A part of the proofs of this seat: YF. No condition is set. -/
import Derived.KernelRfl
import Derived.Laws.IdiomArrays
import Derived.Test.YtdlgclpoomlijaaProg
import Derived.Test.YtdlgclpoomlijaaYE
set_option maxHeartbeats 4000000
set_option linter.unusedVariables false
set_option linter.unusedSimpArgs false
namespace Go.Sx
theorem zta (A : Nat) (row x : Nat → Nat) (s p m : Nat) : gmS A (fun k => row (p + k)) (fun k => x (p + k)) (gmS A row x s p) m = gmS A row x s (p + m) := by
  induction m with
  | zero => rfl
  | succ m ih => simp only [gmS]; rw [ih]; rfl
theorem zs8 (B y : Nat) : Can (gmB B y) := by
  unfold gmB; split
  · exact ⟨by decide, by decide⟩
  · exact zni _ _
theorem ztb {A s : Nat} {row x : Nat → Nat} (h : Can s) (n : Nat) : Can (gmS A row x s n) := by
  cases n with
  | zero => exact h
  | succ n => exact zng _ _
def gmM (a : Nat) (x y z : Nat → Nat → Nat) (p : Nat) : Nat → Nat → Nat := fun i j => gmS a (x i) (fun k => y k j) (z i j) p
def gmT (g g' : Nat → Nat → Nat) (j0 j1 i0 : Nat) : Nat → Nat → Nat := fun i j => if j < j0 ∨ (j < j1 ∧ i < i0) then g' i j else g i j
theorem znn {g g' : Nat → Nat → Nat} {j1 : Nat} (i j : Nat) : gmT g g' 0 j1 0 i j = g i j := by
  unfold gmT; rw [if_neg (by omega)]
theorem zno {g g' : Nat → Nat → Nat} {j0 j1 j2 : Nat} (i j : Nat) : gmT g g' j0 j1 0 i j = gmT g g' j0 j2 0 i j := by
  unfold gmT
  by_cases h : j < j0
  · rw [if_pos (.inl h), if_pos (.inl h)]
  · rw [if_neg (by omega), if_neg (by omega)]
theorem zp1 {g g' : Nat → Nat → Nat} {j0 j1 j2 r : Nat} (h : j0 ≤ j1) (i j : Nat) (hi : i < r) : gmT g g' j0 j1 r i j = gmT g g' j1 j2 0 i j := by
  unfold gmT
  by_cases h2 : j < j1
  · rw [if_pos (.inr ⟨h2, hi⟩), if_pos (.inl h2)]
  · rw [if_neg (by omega), if_neg (by omega)]
theorem zp0 {g g' : Nat → Nat → Nat} {c j2 : Nat} (i j : Nat) (hj : j < c) : gmT g g' c j2 0 i j = g' i j := by
  unfold gmT; rw [if_pos (.inl hj)]
theorem zp2 {g g' f : Nat → Nat → Nat} {j0 j1 i0 i1 : Nat} (hj : j0 ≤ j1) (hi : i0 ≤ i1) (hf : ∀ i j, i0 ≤ i → i < i1 → j0 ≤ j → j < j1 → f (i - i0) (j - j0) = g' i j) (i j : Nat) :
    zd4 (gmT g g' j0 j1 i0) f i0 j0 (i1 - i0) (j1 - j0) i j = gmT g g' j0 j1 i1 i j := by
  unfold zd4
  by_cases h : i0 ≤ i ∧ i < i0 + (i1 - i0) ∧ j0 ≤ j ∧ j < j0 + (j1 - j0)
  · rw [if_pos h, hf i j h.1 (by omega) h.2.2.1 (by omega)]
    unfold gmT; rw [if_pos (.inr ⟨by omega, by omega⟩)]
  · rw [if_neg h]
    unfold gmT
    by_cases h1 : j < j0 ∨ (j < j1 ∧ i < i0)
    · rw [if_pos h1, if_pos (by omega)]
    · rw [if_neg h1, if_neg (by omega)]
theorem zvq {g g' : Nat → Nat → Nat} {j0 j1 i0 i j : Nat} (hi : i0 ≤ i) (hj : j0 ≤ j) : gmT g g' j0 j1 i0 i j = g i j := by
  unfold gmT; rw [if_neg (by omega)]
theorem ztc (a : Nat) (x y z : Nat → Nat → Nat) (hz : ∀ i j, Can (z i j)) (p q : Nat) (hpq : p ≤ q) (i0 j0 i j : Nat) (hi : i0 ≤ i) (hj : j0 ≤ j) :
    gmS a (fun k => x (i0 + (i - i0)) (p + k)) (fun k => y (p + k) (j0 + (j - j0))) (gmB 4607182418800017408 (gmM a x y z p i j)) (q - p) = gmM a x y z q i j := by
  rw [show i0 + (i - i0) = i by omega, show j0 + (j - j0) = j by omega]
  unfold gmM
  rw [zs9 (ztb (hz i j) _), zta a (x i) (fun k => y k j) (z i j) p (q - p), show p + (q - p) = q by omega]
def gbP (B : Nat) (f : Nat → Nat) (t : Nat) : Nat → Nat := fun i => if i < t then gmB B (f i) else f i
def gmP (A : Nat) (a : Nat → Nat → Nat) (xv f : Nat → Nat) (j t : Nat) : Nat → Nat := fun i => if i < t then gmS A (a i) xv (f i) (j + 1) else gmS A (a i) xv (f i) j
def gmC (A : Nat) (a : Nat → Nat → Nat) (xv f : Nat → Nat) (j : Nat) : Nat → Nat := fun i => gmS A (a i) xv (f i) j
theorem zpv {B t : Nat} {f : Nat → Nat} (i : Nat) : zr5 (gbP B f t) t (gmB B (f t)) i = gbP B f (t + 1) i := by
  unfold zr5 gbP
  by_cases h : i = t
  · subst h; rw [if_pos rfl, if_pos (by omega)]
  · rw [if_neg h]
    by_cases h2 : i < t
    · rw [if_pos h2, if_pos (by omega)]
    · rw [if_neg h2, if_neg (by omega)]
theorem zvj {B t : Nat} {f : Nat → Nat} : gbP B f t t = f t := by unfold gbP; rw [if_neg (by omega)]
theorem znk {B : Nat} {f : Nat → Nat} (i : Nat) : gbP B f 0 i = f i := by unfold gbP; rw [if_neg (by omega)]
theorem zpu {B n : Nat} {f : Nat → Nat} (i : Nat) (h : i < n) : gbP B f n i = gmB B (f i) := by unfold gbP; rw [if_pos h]
theorem zvp {B y : Nat} (h : feq B 0 = true) : gmB B y = 0 := if_pos h
theorem zvo {B y : Nat} (h : feq B 0 = false) : gmB B y = zjc B y := by unfold gmB; rw [h]; rfl
theorem zpz {A : Nat} {a : Nat → Nat → Nat} {xv f : Nat → Nat} {j t : Nat} (i : Nat) : zr5 (gmP A a xv f j t) t (zpb (gmP A a xv f j t t) (zjc (zjc A (xv j)) (a t j))) i = gmP A a xv f j (t + 1) i := by
  unfold zr5
  by_cases h : i = t
  · subst h
    rw [if_pos rfl]
    have e : gmP A a xv f j i i = gmS A (a i) xv (f i) j := by unfold gmP; rw [if_neg (by omega)]
    rw [e]
    unfold gmP; rw [if_pos (by omega)]; rfl
  · rw [if_neg h]
    unfold gmP
    by_cases h2 : i < t
    · rw [if_pos h2, if_pos (by omega)]
    · rw [if_neg h2, if_neg (by omega)]
theorem znm {A : Nat} {a : Nat → Nat → Nat} {xv f : Nat → Nat} {j : Nat} (i : Nat) : gmP A a xv f j 0 i = gmC A a xv f j i := by unfold gmP; rw [if_neg (by omega)]; rfl
theorem zpy {A : Nat} {a : Nat → Nat → Nat} {xv f : Nat → Nat} {j n : Nat} (i : Nat) (h : i < n) : gmP A a xv f j n i = gmC A a xv f (j + 1) i := by unfold gmP; rw [if_pos h]; rfl
theorem zlk {off xl : Int} {j k : Nat} : pos (off + (j : Int) * xl) 1 0 k = pos off xl k j := by
  unfold pos; congr 1; omega
variable {P : Program} {e : List (Nat × EV)} {L : List (Nat × List AV)} {H N : List (List AV)} {K : St → Prop} {dd : Nat}
theorem zx3 {t : TypeId} {D : AV} {ml r c p i j : Nat} {mo ld : Int} {a : Nat → Nat → Nat} [ti : TyI P t 1 false] (h : ∃ l', FL H D l' ∧ l'.length = ml ∧ ∀ i j, i < r → j < c → mel l' mo ld i j = a i j) (hG : zaa ml mo r c ld) (hi : i < r) (hj : j < c) (hp : p = pos mo ld i j)
    (hk : K ⟨(dd, .val (.flt (a i j))) :: e, L, H ++ N⟩) : zbt P t dd K ⟨e, L, H ++ N⟩ (.val (.eptr D p)) := by
  obtain ⟨l', h1, h2, h3⟩ := h
  subst h2 hp
  refine zrp (h1.app N) (zjo hG hi hj) ?_
  have := h3 i j hi hj
  rw [zdc] at this
  rw [this]; exact hk
theorem zv5 {t : TypeId} {X : AV} {ml n p i : Nat} {xo xi : Int} {xv : Nat → Nat} [ti : TyI P t 1 false] (h : ∃ l', FL H X l' ∧ l'.length = ml ∧ ∀ i, i < n → vf l' xo xi i = xv i) (hR : zaq ml xo n xi) (hi : i < n) (hp : p = pos xo xi 0 i)
    (hk : K ⟨(dd, .val (.flt (xv i))) :: e, L, H ++ N⟩) : zbt P t dd K ⟨e, L, H ++ N⟩ (.val (.eptr X p)) := by
  obtain ⟨l', h1, h2, h3⟩ := h
  subst h2 hp
  refine zrp (h1.app N) (zfr hR hi) ?_
  have := h3 i hi
  unfold vf at this
  rw [zdc] at this
  rw [this]; exact hk
end Go.Sx
set_option linter.unusedVariables false
set_option linter.unusedSimpArgs false
namespace Go.Sx
class ArrI (P : Program) (t : TypeId) (k : outParam IntKind) : Prop where
  h : ∃ e, P.underlying t = some (.array 2 e) ∧ tsz P e = some 1 ∧ P.underlying e = some (.int k)
  g : P.eqGuardType P.depth t = false
  z : (zg6 P t).bind AV.cells = some [.int k 0, .int k 0]
def pr2 (a b : Int) : List AV := [.int .i64 a, .int .i64 b]
def pl2 (l : List (Int × Int)) : List AV := (l.map fun p => pr2 p.1 p.2).flatten
theorem zgh (a : Int × Int) (l : List (Int × Int)) : pl2 (a :: l) = .int .i64 a.1 :: .int .i64 a.2 :: pl2 l := rfl
@[simp] theorem zx5 (l : List (Int × Int)) : (pl2 l).length = 2 * l.length := by
  induction l with
  | nil => rfl
  | cons a l ih => rw [zgh]; simp only [List.length_cons, ih]; omega
theorem zqj (l : List (Int × Int)) (p : Int × Int) : pl2 l ++ pr2 p.1 p.2 = pl2 (l ++ [p]) := by simp [pl2]
theorem zth (l : List (Int × Int)) : mxL (pl2 l) = 0 := by
  induction l with
  | nil => rfl
  | cons a l ih => rw [zgh]; simp only [mxL, mx, ih]; rfl
theorem ztq (l : List (Int × Int)) : ∀ (j : Nat) (p : Int × Int), l[j]? = some p → (pl2 l)[j * 2 + 0]? = some (.int .i64 p.1) ∧ (pl2 l)[j * 2 + 1]? = some (.int .i64 p.2) := by
  induction l with
  | nil => intro j p h; simp at h
  | cons a l ih =>
    intro j p h
    cases j with
    | zero => simp at h; subst h; simp [zgh]
    | succ j =>
      have := ih j p (by simpa using h)
      rw [zgh, show (j + 1) * 2 + 0 = j * 2 + 0 + 1 + 1 by omega, show (j + 1) * 2 + 1 = (j * 2 + 1) + 1 + 1 by omega]
      simpa using this
theorem zwe (l : List (Int × Int)) {j : Nat} {p : Int × Int} (h : l[j]? = some p) : gc (pl2 l) (j * 2) 2 = some (pr2 p.1 p.2) := by
  obtain ⟨h1, h2⟩ := ztq l j p h
  rw [Nat.add_zero] at h1
  simp [gc, h1, h2, pr2]
section
variable {P : Program} {cfg : Cfg} {e : List (Nat × EV)} {L : List (Nat × List AV)} {H A N N' N₀ : List (List AV)} {K : St → Prop}
variable {ty : TypeId} {pos : String} {aft : Array Edge} {gd : Option (Nat × Bool)} {dd : Nat} {t tx : TypeId}
theorem zul {k : IntKind} [ar : ArrI P t k] {x y : Operand} {a b : Int} (hx : St.ev ⟨e, L, H⟩ x = .val (.int k a)) (hy : St.ev ⟨e, L, H⟩ y = .val (.int k b)) (h : K ⟨(dd, .val (.agg [.int k a, .int k b])) :: e, L, H⟩) :
    opX P cfg ⟨some dd, .build t #[(0, x), (1, y)], ty, pos, aft, gd⟩ K ⟨e, L, H⟩ := by
  rw [zbs P cfg e L H K _ _ _ _ _ _ rfl]
  obtain ⟨el, h1, h2, h3⟩ := ar.h
  have hz := ar.z
  cases hq : zg6 P t with
  | none => rw [hq] at hz; cases hz
  | some z =>
    rw [hq] at hz
    simp only [Option.bind_some] at hz
    have : zgr P (St.ev ⟨e, L, H⟩) t #[(0, x), (1, y)] = some (.agg [.int k a, .int k b]) := by
      have hf : zct (fun i => some (i * 1, 1)) [.int k 0, .int k 0] [(0, some (.int k a)), (1, some (.int k b))] = some [.int k a, .int k b] := by simp [zct, AV.cells, sc]
      have e2 : (#[(0, x), (1, y)] : Array (Nat × Operand)).toList.map (fun (i, x) => (i, ((St.ev ⟨e, L, H⟩) x).asV)) = [(0, some (.int k a)), (1, some (.int k b))] := by simp [hx, hy, EV.asV]
      unfold zgr
      rw [hq, h1]
      simp only [h2, Option.bind_some, hz]
      rw [e2, hf]; rfl
    simp only [zak, this, Option.map_some, zck]
    exact ⟨trivial, h⟩
theorem zun {by_ : Nat} {z1 z2 a b : AV} {x : Operand} [ei : EI P t 2 by_ [z1, z2]] (hx : St.ev ⟨e, L, H⟩ x = .val (.agg [a, b])) (hfz : cfg.fz.contains dd = true) (h : K ⟨(dd, .val (.sl none 1 [a, b])) :: e, L, H⟩) :
    opX P cfg ⟨some dd, .buildSlice t 1 #[(0, x)], ty, pos, aft, gd⟩ K ⟨e, L, H⟩ := by
  have : zct (fun i => some (i * 2, 2)) (ziw 1 [z1, z2]) ([(0, x)].map fun (p : Nat × Operand) => (p.1, ((St.ev ⟨e, L, H⟩) p.2).asV)) = some [a, b] := by
    simp [hx, EV.asV, zct, AV.cells, sc, ziw]
  simp only [opX, opE, ei.h, Option.any_some, hfz, if_true]
  have e2 : (#[(0, x)] : Array (Nat × Operand)).toList.map (fun (i, x) => (i, ((St.ev ⟨e, L, H⟩) x).asV)) = [(0, x)].map fun (p : Nat × Operand) => (p.1, ((St.ev ⟨e, L, H⟩) p.2).asV) := rfl
  rw [e2, this]
  exact ⟨rfl, by omega, by omega, h⟩
def gV2 (n i k : Nat) : AV := if k = 0 then .slnil else .slm (n + i) (2 * k) 0 k 2
theorem zsg {s x : Operand} {n i k by_ el' z' : Nat} {z1 z2 : AV} {l l' : List (Int × Int)} {p : Int × Int} [ei : EI P t 2 by_ [z1, z2]] [si : SlI P tx el' z'] (hs : St.ev ⟨e, L, A ++ (N₀ ++ gN (pl2 l))⟩ s = .val (gV2 n i k)) (hx : St.ev ⟨e, L, A ++ (N₀ ++ gN (pl2 l))⟩ x = .val (.sl none 1 (pr2 p.1 p.2)))
    (hA : A.length = n) (hi : N₀.length = i) (hk : l.length = k) (hm : k + 1 ≤ 2 ^ 32) (hn : cfg.n0 = n) (hz : (decide (by_ ≤ 2 ^ 10) && decide (0 < by_)) = true) (hl : l ++ [p] = l')
    (h : K ⟨(dd, .val (gV2 n i (k + 1))) :: e, L, A ++ (N₀ ++ gN (pl2 l'))⟩) :
    opX P cfg ⟨some dd, .call { callee := .builtin .append, args := #[s, x], argTypes := #[t, tx] }, ty, pos, aft, gd⟩ K ⟨e, L, A ++ (N₀ ++ gN (pl2 l))⟩ := by
  subst hl hA hi hk
  have hne : pl2 (l ++ [p]) ≠ [] := by intro h; have := congrArg List.length h; simp at this
  have e1 : gV2 A.length N₀.length (l.length + 1) = .slm (A.length + N₀.length) (2 * (l.length + 1)) 0 (l.length + 1) 2 := by simp [gV2]
  have e2 : gN (pl2 (l ++ [p])) = [pl2 (l ++ [p])] := by simp [gN, hne]
  rw [e1, e2] at h
  cases l with
  | nil =>
    simp only [pl2, List.map_nil, List.flatten_nil, gN, if_true, List.append_nil, List.length_nil, gV2] at hs hx h ⊢
    refine zq9 hs hx (zg4 (by simp [pr2])) (by omega) (by simpa using hz) ?_
    have e3 : pl2 ([] ++ [p]) = pr2 p.1 p.2 := by simp [pl2]
    simpa [List.append_assoc, pr2, e3] using h
  | cons q l =>
    have hne' : pl2 (q :: l) ≠ [] := by intro h; have := congrArg List.length h; simp at this
    have e3 : gV2 A.length N₀.length (q :: l).length = .slm (A.length + N₀.length) (2 * (q :: l).length) 0 (q :: l).length 2 := by simp [gV2]
    have e4 : gN (pl2 (q :: l)) = [pl2 (q :: l)] := by simp [gN, hne']
    rw [e3] at hs
    rw [e4] at hs hx ⊢
    refine zra (cs := pl2 (q :: l)) hs hx (zg4 (by simp [pr2])) (zau rfl (by simp)) (by simp) (by omega) hm (.inl (by omega)) (by simpa using hz) ?_
    rw [zet rfl (N' := N₀ ++ [pl2 (q :: l) ++ pr2 p.1 p.2]) (by simp), zqj]
    have e5 : (pl2 (q :: l)).length + (pr2 p.1 p.2).length = 2 * ((q :: l).length + 1) := by simp [pr2]; omega
    rw [e5]
    exact h
theorem zvh {n i k : Nat} {l : List (Int × Int)} (hA : A.length = n) (hi : N₀.length = i) (hk : l.length = k) : Fr n [] (A ++ (N₀ ++ gN (pl2 l))) (gV2 n i k) (.sl none k (pl2 l)) := by
  cases l with
  | nil =>
    simp only [List.length_nil] at hk; subst hk
    exact Fr.nil
  | cons a l =>
    have hk0 : k ≠ 0 := by simp at hk; omega
    have hne' : pl2 (a :: l) ≠ [] := by intro h; have := congrArg List.length h; simp at this
    simp only [gV2, if_neg hk0]
    have : (A ++ (N₀ ++ gN (pl2 (a :: l))))[n + i]? = some (pl2 (a :: l)) := by
      refine zau hA ?_
      subst hi; simp [gN, hne']
    exact Fr.fz (by omega) (by simp) this (by simp at hk ⊢; omega) (zfc _ (by simp at hk ⊢; omega)) (Frs.old (by rw [zth]; exact Nat.zero_le _))
theorem zx2 {l : List (Int × Int)} {j m : Nat} {p : Int × Int} [ti : TyI P t 2 true] (hp : l[j]? = some p) (h : K ⟨(dd, .val (.agg (pr2 p.1 p.2))) :: e, L, H⟩) : zbt P t dd K ⟨e, L, H⟩ (.val (.eptr (.sl none m (pl2 l)) (j * 2))) :=
  zrq (by simp only [zb4]; exact zwe l hp) h
end
end Go.Sx
namespace Go.Sx
theorem zhm {a b : List Int} {k : Nat} (h : k < a.length) : (il (a ++ b))[k]? = some (.int .i64 (a.getD k 0)) := by
  rw [zjh (by rw [List.length_append]; omega)]
  congr 2
  simp [List.getD, List.getElem?_append_left h]
end Go.Sx
set_option linter.unusedVariables false
set_option linter.unusedSimpArgs false
namespace Go.Sx
def InS (off r c ld lo hi : Int) : Prop := r = 0 ∨ c = 0 ∨ (lo ≤ off ∧ off + (c - 1) * ld + r - 1 ≤ hi)
def zfk (pe : Bool) (a b c d : Int) : Prop := pe = true → b < c ∨ d < a
theorem zpq {n1 n2 : Nat} {o1 r1 c1 l1 o2 r2 c2 l2 a b c d : Int} {pe : Bool} (h1 : InS o1 r1 c1 l1 a b) (h2 : InS o2 r2 c2 l2 c d) (hf : zfk pe a b c d) (hg1 : r1 ≠ 0 → c1 ≠ 0 → o1 ≤ o1 + (c1 - 1) * l1 + r1 - 1) :
    ¬ (zdn n1 o1 r1 c1 l1 ∧ zdn n2 o2 r2 c2 l2 ∧ pe = true ∧ sF n1 o1 r1 c1 l1 ≤ sT n2 o2 r2 c2 l2 ∧ sF n2 o2 r2 c2 l2 ≤ sT n1 o1 r1 c1 l1) := by
  rintro ⟨s1, s2, hp, h3, h4⟩
  obtain ⟨g1, z1, z2⟩ := id s1
  obtain ⟨g2, z3, z4⟩ := id s2
  unfold sF sT at h3 h4
  rw [if_pos s1, if_pos s2] at h3 h4
  rcases h1 with h1 | h1 | h1
  · exact z1 h1
  · exact z2 h1
  · rcases h2 with h2 | h2 | h2
    · exact z3 h2
    · exact z4 h2
    · rcases hf hp with hf | hf <;> omega
theorem InS.col {off : Int} {r c j : Nat} {ld lo hi : Int} (h : InS off r c ld lo hi) (hl : 1 ≤ ld) (hj : j < c) : InS (zdg off (r : Int) ld (j : Int)) 1 r 1 lo hi := by
  by_cases hr : r = 0
  · exact .inr (.inl (by omega))
  · rcases h with h | h | ⟨h1, h2⟩
    · omega
    · omega
    · right; right
      unfold zdg; rw [if_pos (by omega)]
      have h3 : 0 ≤ (j : Int) * ld := Int.mul_nonneg (by omega) (by omega)
      have h4 : (j : Int) * ld ≤ ((c : Int) - 1) * ld := Int.mul_le_mul_of_nonneg_right (by omega) (by omega)
      exact ⟨by omega, by omega⟩
theorem InS.part {off : Int} {r c i j r' c' : Nat} {ld lo hi : Int} (h : InS off r c ld lo hi) (hl : 1 ≤ ld) (hi' : i + r' ≤ r) (hj' : j + c' ≤ c) {o : Int} (ho : o = if (0 : Int) < (r' : Int) ∧ (0 : Int) < (c' : Int) then off + ((i : Int) + (j : Int) * ld) else off) : InS o r' c' ld lo hi := by
  by_cases hr : r' = 0
  · exact .inl (by omega)
  · by_cases hc : c' = 0
    · exact .inr (.inl (by omega))
    · rw [if_pos ⟨by omega, by omega⟩] at ho
      subst ho
      rcases h with h | h | ⟨h1, h2⟩
      · omega
      · omega
      · right; right
        have h3 : 0 ≤ (j : Int) * ld := Int.mul_nonneg (by omega) (by omega)
        have h4 : ((j : Int) + ((c' : Int) - 1)) * ld ≤ ((c : Int) - 1) * ld := Int.mul_le_mul_of_nonneg_right (by omega) (by omega)
        rw [Int.add_mul] at h4
        exact ⟨by omega, by omega⟩
theorem zkp {off ld : Int} {r c : Nat} (hl : 1 ≤ ld) : (r : Int) ≠ 0 → (c : Int) ≠ 0 → off ≤ off + ((c : Int) - 1) * ld + (r : Int) - 1 := by
  intro h1 h2
  have : 0 ≤ ((c : Int) - 1) * ld := Int.mul_nonneg (by omega) (by omega)
  omega
theorem zjv {l : List Nat} {off xl : Int} {n c j : Nat} {g : Nat → Nat → Nat} {f : Nat → Nat} (hG : zaa l.length off n c xl) (hj : j < c) (hn : 0 < n) :
    za6 (zal l off xl n c g) (zdg off (n : Int) xl (j : Int)) 1 n f = zal l off xl n c (zha g 0 n j f) := by
  have h := zoz (g := g) (f := f) (r0 := 0) (m := n) hG (by omega) hj hn
  have e : zdg off (n : Int) xl (j : Int) = off + (((0 : Nat) : Int) + (j : Int) * xl) := by unfold zdg; rw [if_pos (by omega)]; omega
  rw [e]; exact h
theorem zlc {L : List Nat} {off xl : Int} {n j k : Nat} (hk : k < n) : mel L (zdg off (n : Int) xl (j : Int)) 1 0 k = mel L off xl k j := by
  unfold zdg; rw [if_pos (by omega), zdc, zdc, zlk]
theorem zi6 {g : Nat → Nat → Nat} {n j : Nat} (i k : Nat) (hi : i < n) : zha g 0 n j (fun i => g i j) i k = g i k := by
  unfold zha; split
  · rename_i h; rw [h.1]; simp
  · rfl
theorem zmm {l : List Nat} {off ld : Int} {r c i0 j0 r' c' : Nat} {g f : Nat → Nat → Nat} (hG : zaa l.length off r c ld) (hi : i0 + r' ≤ r) (hj : j0 + c' ≤ c) (hr : 0 < r') (hc : 0 < c') :
    zal (zal l off ld r c g) (off + ((i0 : Int) + (j0 : Int) * ld)) ld r' c' f = zal l off ld r c (zd4 g f i0 j0 r' c') := by
  rw [zoy (by simpa using hG) hi hj (by simpa using zff hG hi hj hr hc), zju]
  refine za4 hG.2.2.2.1 hG.2.2.1 fun i j h1 h2 => ?_
  unfold zd4
  split
  · rfl
  · exact zgd hG h1 h2
theorem zmg {g : Nat → Nat → Nat} {i0 j0 r' c' : Nat} (i j : Nat) : zd4 g (fun i j => g (i0 + i) (j0 + j)) i0 j0 r' c' i j = g i j := by
  unfold zd4; split
  · rename_i h; show g (i0 + (i - i0)) (j0 + (j - j0)) = _; rw [show i0 + (i - i0) = i by omega, show j0 + (j - j0) = j by omega]
  · rfl
theorem zf8 (g : Nat → Nat → Nat) (r c : Nat) : zaa (cmA g r c).length 0 (r : Int) (c : Int) ((max r 1 : Nat) : Int) := by
  refine ⟨by omega, by omega, by omega, by omega, by omega, ?_⟩
  rcases Nat.eq_zero_or_pos r with h | h
  · exact .inl (by omega)
  · rcases Nat.eq_zero_or_pos c with h' | h'
    · exact .inr (.inl (by omega))
    · have e : (cmA g r c).length = r * c := by simp [cmA]
      have e2 : ((r * c : Nat) : Int) = ((c : Int) - 1) * (r : Int) + r := by rw [Int.sub_mul, Int.natCast_mul, Int.mul_comm]; omega
      have e3 : ((max r 1 : Nat) : Int) = r := by omega
      have e4 : 0 ≤ ((c : Int) - 1) * (r : Int) := Int.mul_nonneg (by omega) (by omega)
      rw [e, e3]
      exact .inr (.inr ⟨by omega, by omega, by omega⟩)
theorem zm9 {g : Nat → Nat → Nat} {r c : Nat} (hr : r ≤ 64) (hc : c ≤ 64) : MI (cmA g r c).length 0 (r : Int) (c : Int) ((max r 1 : Nat) : Int) := by
  have e : (cmA g r c).length = r * c := by simp [cmA]
  have : r * c ≤ 64 * 64 := Nat.mul_le_mul hr hc
  exact ⟨by omega, by omega, by omega, by omega, by omega, by omega, by omega, by omega, by omega⟩
theorem zn3 {g : Nat → Nat → Nat} {r c i j : Nat} (hi : i < r) (hj : j < c) : mel (cmA g r c) 0 ((max r 1 : Nat) : Int) i j = g i j := by
  have hk : i + j * r < r * c := by
    have : (j + 1) * r ≤ c * r := Nat.mul_le_mul_right r hj
    rw [Nat.add_mul, Nat.mul_comm c r] at this; omega
  have e : ((0 : Int) + (i : Int) + (j : Int) * ((max r 1 : Nat) : Int)).toNat = i + j * r := by
    rw [show ((max r 1 : Nat) : Int) = (r : Int) by omega, ← Int.natCast_mul]; omega
  unfold mel
  rw [e, cmA, zfq hk]
  have h1 : (i + j * r) % r = i := by rw [Nat.add_mul_mod_self_right]; exact Nat.mod_eq_of_lt hi
  have h2 : (i + j * r) / r = j := by rw [Nat.add_mul_div_right _ _ (by omega), Nat.div_eq_of_lt hi]; omega
  rw [h1, h2]
theorem zqq {g g' : Nat → Nat → Nat} {r c : Nat} : zal (cmA g r c) 0 ((max r 1 : Nat) : Int) r c g' = cmA g' r c := by
  have hG := zf8 g r c
  apply List.ext_getElem
  · simp [cmA]
  · intro p h1 h2
    have hp : p < r * c := by simpa [cmA] using h2
    have hr : 0 < r := Nat.pos_of_ne_zero fun h => by subst h; simp at hp
    have hi := Nat.mod_lt p hr
    have hj : p / r < c := Nat.div_lt_of_lt_mul hp
    have hpos : pos 0 ((max r 1 : Nat) : Int) (p % r) (p / r) = p := by
      unfold pos
      rw [show ((max r 1 : Nat) : Int) = (r : Int) by omega, ← Int.natCast_mul]
      have := Nat.mod_add_div p r
      rw [Nat.mul_comm] at this
      omega
    have e1 := zgd (g := g') hG hi hj
    have e2 := zn3 (g := g') hi hj
    have e3 := e1.trans e2.symm
    rw [zdc, zdc, hpos] at e3
    simp only [List.getD_eq_getElem?_getD, List.getElem?_eq_getElem h1, List.getElem?_eq_getElem h2, Option.getD_some] at e3
    exact e3
def prs (T : Nat) (P : Nat → Nat) : List (Int × Int) := (List.range T).map fun t => ((P t : Int), ((P (t + 1) - P t : Nat) : Int))
def cuV (T : Nat) (P : Nat → Nat) : AV := .sl none T (pl2 (prs T P))
theorem zoh {T t : Nat} {P : Nat → Nat} (h : t < T) : (prs T P)[t]? = some ((P t : Int), ((P (t + 1) - P t : Nat) : Int)) := by simp [prs, h]
theorem zqk {D : List Int} {P : Nat → Nat} (h : ∀ t, t < D.length → D.getD t 0 = (P t : Int)) (hi : ∀ t, t + 1 < D.length → P t ≤ P (t + 1)) : ziv D = prs (D.length - 1) P := by
  apply List.ext_getElem?
  intro t
  by_cases ht : t + 1 < D.length
  · have h9 := hi t ht
    rw [zil D t ht, zoh (by omega), h t (by omega), h (t + 1) ht]
    congr 2; omega
  · rw [List.getElem?_eq_none (by rw [zfg]; omega), List.getElem?_eq_none (by simp [prs]; omega)]
structure Cuts (n T : Nat) (P : Nat → Nat) : Prop where
  zero : P 0 = 0
  last : P T = n
  inc : ∀ t, t < T → P t < P (t + 1)
  le : ∀ t, t ≤ T → P t ≤ n
theorem zsv {n m : Nat} (hm : 0 < m) (hn : 0 < n) : Cuts n ((dL n m []).length - 1) (fun t => ((dL n m []).getD t 0).toNat) ∧ ziv (dL n m []) = prs ((dL n m []).length - 1) (fun t => ((dL n m []).getD t 0).toNat) := by
  obtain ⟨g1, g2, g3, g4⟩ := zhz (n := n) (m := m) hm hn []
  obtain ⟨h1, h2, h3⟩ := zsw (n := n) (m := m) hm hn []
  refine ⟨⟨by simp only [h1]; rfl, by simp only [h2]; omega, fun t ht => ?_, fun t ht => ?_⟩, zqk (fun t ht => ?_) (fun t ht => ?_)⟩
  · have k1 := h3 t (by omega)
    have k2 := g3 t (by omega)
    omega
  · have k2 := g3 t (by omega)
    omega
  · have k2 := g3 t ht
    omega
  · have k1 := h3 t ht
    have k2 := g3 t (by omega)
    omega
theorem zpo : Cuts 0 0 (fun _ => 0) := ⟨rfl, rfl, fun t h => absurd h (Nat.not_lt_zero t), fun _ _ => Nat.le_refl _⟩
theorem Cuts.ltn {n T : Nat} {P : Nat → Nat} (h : Cuts n T P) {t : Nat} (ht : t < T) : P t < P (t + 1) ∧ P (t + 1) ≤ n := ⟨h.inc t ht, h.le (t + 1) (by omega)⟩
theorem Cuts.t_le {n T : Nat} {P : Nat → Nat} (h : Cuts n T P) : T ≤ n := by
  have : ∀ t, t ≤ T → t ≤ P t := fun t => by
    induction t with
    | zero => intro _; omega
    | succ t ih => intro ht; have h1 := ih (by omega); have h2 := h.inc t (by omega); omega
  have h1 := this T (Nat.le_refl _)
  have h2 := h.last
  omega
section
variable {P : Program} {cfg : Cfg} {e : List (Nat × EV)} {L : List (Nat × List AV)} {H : List (List AV)} {K : St → Prop} {dd : Nat} {ty : TypeId} {pos : String} {aft : Array Edge} {gd : Option (Nat × Bool)} {t : TypeId}
theorem zph {k : IntKind} [ar : ArrI P t k] {x : Operand} {key off n : Nat} (hx : St.ev ⟨e, L, H⟩ x = .loc key off) (hn : n < 2) (h : K ⟨(dd, .loc key (off + n)) :: e, L, H⟩) :
    opX P cfg ⟨some dd, .indexAddr t x (.const (.int .i64 (n : Int))), ty, pos, aft, gd⟩ K ⟨e, L, H⟩ := by
  rw [zbs P cfg e L H K _ _ _ _ _ _ rfl]
  obtain ⟨el, h1, h2, h3⟩ := ar.h
  have ht : zd5 P t = none := by simp [zd5, h1]
  have hta : zue P t = some (2, el) := by simp [zue, h1]
  have hc : zj2 ((St.ev ⟨e, L, H⟩) (.const (.int .i64 (n : Int)))) = some (n : Int) := rfl
  have : zak P (St.ev ⟨e, L, H⟩) (lk L) H (.indexAddr t x (.const (.int .i64 (n : Int)))) = some (0 ≤ (n : Int) ∧ (n : Int) < (2 : Nat), .loc key (off + n)) := by
    simp only [zak, ht, hc, hta, Option.bind_some, h2, hx, Int.toNat_natCast, Nat.mul_one]
  rw [this]
  exact ⟨by omega, h⟩
theorem zux {t t' : TypeId} [pt : PtI P t] {x y : Operand} {s s' : AV} {a a' : Nat} (hx : St.ev ⟨e, L, H⟩ x = .val (.eptr s a)) (hy : St.ev ⟨e, L, H⟩ y = .val (.eptr s' a')) {r : Bool} (hr : ptrEq H s a s' a' = some r) (h : K ⟨(dd, .val (.bool (!r))) :: e, L, H⟩) :
    opX P cfg ⟨some dd, .binOp .neq t x y t', ty, pos, aft, gd⟩ K ⟨e, L, H⟩ := by
  rw [zoc, hx, hy]
  have : zmo P .neq t (.val (.eptr s a)) (.val (.eptr s' a')) = none := by simp [zmo, AV.asF, zwc, zmd]
  rw [this]
  simp only [ztr, pt.h, if_true, hr, Option.map_some, zck]
  exact ⟨trivial, h⟩
theorem zx1 {T t' : Nat} {Q : Nat → Nat} [ti : TyI P t 2 true] (ht : t' < T) (h : K ⟨(dd, .val (.agg [.int .i64 (Q t' : Int), .int .i64 ((Q (t' + 1) - Q t' : Nat) : Int)])) :: e, L, H⟩) : zbt P t dd K ⟨e, L, H⟩ (.val (.eptr (cuV T Q) (t' * 2))) :=
  zx2 (p := ((Q t' : Int), ((Q (t' + 1) - Q t' : Nat) : Int))) (zoh ht) h
end
section
variable {P : Program} {cfg : Cfg} {e : List (Nat × EV)} {L : List (Nat × List AV)} {H : List (List AV)} {K : St → Prop} {dd : Nat} {ty : TypeId} {pos : String} {aft : Array Edge} {gd : Option (Nat × Bool)}
theorem zmy {x y z : Operand} {ts : Array TypeId} {k : IntKind} {a c d m : Int} (hx : St.ev ⟨e, L, H⟩ x = .val (.int k a)) (hy : St.ev ⟨e, L, H⟩ y = .val (.int k c)) (hz : St.ev ⟨e, L, H⟩ z = .val (.int k d)) (hm : max (max a c) d = m) (h : K ⟨(dd, .val (.int k m)) :: e, L, H⟩) :
    opX P cfg ⟨some dd, .call { callee := .builtin .max, args := #[x, y, z], argTypes := ts }, ty, pos, aft, gd⟩ K ⟨e, L, H⟩ := by
  subst hm
  rw [zbs P cfg e L H K _ _ _ _ _ _ rfl]
  simp only [zak, List.map_cons, List.map_nil, hx, hy, hz, EV.asI, and_self, if_true, zck]
  exact ⟨trivial, h⟩
end
theorem zrk {l l' : List Nat} (h : fl l = fl l') : l = l' := by
  unfold fl at h
  induction l generalizing l' with
  | nil => cases l' with
    | nil => rfl
    | cons a t => simp at h
  | cons a t ih => cases l' with
    | nil => simp at h
    | cons a' t' =>
      simp only [List.map_cons, List.cons.injEq, AV.flt.injEq] at h
      rw [h.1, ih h.2]
theorem zn2 {L : List Nat} {zo zl xo xl : Int} {r c r' c' : Nat} {g : Nat → Nat → Nat} {lo hi lo1 hi1 : Int} (hG : zaa L.length zo r c zl) (hX : zaa L.length xo r' c' xl) (h1 : InS zo r c zl lo hi) (h2 : InS xo r' c' xl lo1 hi1) (hf : hi < lo1 ∨ hi1 < lo) {i k : Nat} (hi' : i < r') (hk : k < c') :
    mel (zal L zo zl r c g) xo xl i k = mel L xo xl i k := by
  rw [zdc, zdc]
  refine zml hG.2.2.1 hG.2.2.2.1 fun i2 j2 hi2 hj2 e => ?_
  have a1 := zaj hG (i := (i2 : Int)) (j := (j2 : Int)) (by omega) (by omega) (by omega) (by omega)
  have a2 := zaj hX (i := (i : Int)) (j := (k : Int)) (by omega) (by omega) (by omega) (by omega)
  rcases h1 with h1 | h1 | h1
  · omega
  · omega
  · rcases h2 with h2 | h2 | h2
    · omega
    · omega
    · unfold Sx.pos at e
      omega
theorem zrg {H : List (List AV)} {b bx : Nat} {l lx : List Nat} (hb : H[b]? = some (fl l)) (hbx : H[bx]? = some (fl lx)) {zo zl xo xl : Int} {r c r' c' : Nat} (hG : zaa l.length zo r c zl) (hX : zaa lx.length xo r' c' xl) {lo hi lo1 hi1 : Int} (h1 : InS zo r c zl lo hi) (h2 : InS xo r' c' xl lo1 hi1) (hf : zfk (decide (bx = b)) lo hi lo1 hi1) (g : Nat → Nat → Nat) :
    ∃ l', FL (H.set b (fl (zal l zo zl r c g))) (.slm bx lx.length 0 lx.length 1) l' ∧ l'.length = lx.length ∧ ∀ i k, i < r' → k < c' → mel l' xo xl i k = mel lx xo xl i k := by
  have hbl := (List.getElem?_eq_some_iff.1 hb).1
  by_cases h : bx = b
  · subst h
    rw [hb] at hbx
    have : l = lx := zrk (by simpa using hbx)
    subst this
    refine ⟨zal l zo zl r c g, FL.old (by simp [hbl]) (by simp) (by simp), by simp, fun i k hi' hk => zn2 hG hX h1 h2 (hf (by simp)) hi' hk⟩
  · exact ⟨lx, FL.old (by rw [List.getElem?_set_ne (Ne.symm h)]; exact hbx) rfl rfl, rfl, fun _ _ _ _ => rfl⟩
theorem znc {H : List (List AV)} {b bx : Nat} {l lx : List Nat} (hb : H[b]? = some (fl l)) (hbx : H[bx]? = some (fl lx)) {zo zl : Int} {r c : Nat} (g : Nat → Nat → Nat) (N : List (List AV)) (h1 : 0 < l.length) (h2 : 0 < lx.length) :
    ptrEq (H.set b (fl (zal l zo zl r c g)) ++ N) (.slm b l.length 0 l.length 1) 0 (.slm bx lx.length 0 lx.length 1) 0 = some (decide (bx = b)) := by
  have hbl := (List.getElem?_eq_some_iff.1 hb).1
  have e1 : (H.set b (fl (zal l zo zl r c g)) ++ N)[b]? = some (fl (zal l zo zl r c g)) := by
    rw [List.getElem?_append_left (by simpa using hbl)]; simp [hbl]
  by_cases h : bx = b
  · subst h
    rw [hb] at hbx
    have : l = lx := zrk (by simpa using hbx)
    subst this
    rw [zim e1 (by simp)]; simp
  · have e2 : (H.set b (fl (zal l zo zl r c g)) ++ N)[bx]? = some (fl lx) := by
      rw [List.getElem?_append_left (by have := (List.getElem?_eq_some_iff.1 hbx).1; simpa using this), List.getElem?_set_ne (Ne.symm h)]; exact hbx
    rw [zjq e1 (by simp) e2 rfl (Ne.symm h)]; simp [h]
end Go.Sx
set_option linter.unusedVariables false
set_option linter.unusedSimpArgs false
namespace Go.Sx
open Go.ChangeShapes Go.WideShapes Go.ChangeAt Go.RowKit Go.Deep
section
variable {H : Type} {enc : TypeId × Value → H} {P : Program} {W : World} {base : Nat}
theorem zqg {t e : TypeId} {v : Value} {d : DataW H} {ps : List MemPlace} {r : Reach} {b0 : Nat} (ht : P.underlying t = some (.array 3 e)) (he : P.underlying e = some (.int .i64)) (hc : P.cellsOf e = 1) (hct : P.cellsOf t = 3) (hv : Value.okWide P W r b0 t v) (h : DataW.Trod enc P W base (fun _ => true) true t v d ps) :
    ∃ i j k, (-9223372036854775808 ≤ i ∧ i ≤ 9223372036854775807) ∧ (-9223372036854775808 ≤ j ∧ j ≤ 9223372036854775807) ∧ (-9223372036854775808 ≤ k ∧ k ≤ 9223372036854775807) ∧ zah W (g0 W) (.agg [.int .i64 i, .int .i64 j, .int .i64 k]) v := by
  have hs : ∃ cs, v = .agg cs ∧ cs.size = P.cellsOf t := by
    simp only [Value.okWide, ht] at hv
    obtain ⟨cs, h1, h2, _⟩ := hv
    exact ⟨cs, h1, h2⟩
  obtain ⟨cs, rfl, hsz⟩ := hs
  rw [hct] at hsz
  obtain ⟨c0, c1, c2, rfl⟩ : ∃ a b c, cs = #[a, b, c] := by
    obtain ⟨l⟩ := cs
    match l, hsz with
    | [a, b, c], _ => exact ⟨a, b, c, rfl⟩
  obtain ⟨fuel, hf⟩ := h
  obtain ⟨y0, y1, y2, n, -, h0, h1, h2⟩ := trod_array3 ht hc hf
  obtain ⟨i, rfl, a1, a2⟩ := zdv he h0
  obtain ⟨j, rfl, b1, b2⟩ := zdv he h1
  obtain ⟨k, rfl, c1, c2⟩ := zdv he h2
  refine ⟨i, j, k, ⟨a1, a2⟩, ⟨b1, b2⟩, ⟨c1, c2⟩, ?_⟩
  simp only [zah]
  refine ⟨_, rfl, by intro x hx; simp at hx; rcases hx with rfl | rfl | rfl <;> rfl, ?_⟩
  simp [za7, zah]
end
class Arr3 (P : Program) (t : TypeId) (k : outParam IntKind) : Prop where
  h : ∃ e, P.underlying t = some (.array 3 e) ∧ tsz P e = some 1 ∧ P.underlying e = some (.int k)
section
variable {P : Program} {cfg : Cfg} {e : List (Nat × EV)} {L : List (Nat × List AV)} {H : List (List AV)} {K : St → Prop} {dd : Nat} {ty : TypeId} {pos : String} {aft : Array Edge} {gd : Option (Nat × Bool)} {t : TypeId}
theorem zhy {k : IntKind} [ar : Arr3 P t k] {x : Operand} {key off n : Nat} (hx : St.ev ⟨e, L, H⟩ x = .loc key off) (hn : n < 3) (h : K ⟨(dd, .loc key (off + n)) :: e, L, H⟩) :
    opX P cfg ⟨some dd, .indexAddr t x (.const (.int .i64 (n : Int))), ty, pos, aft, gd⟩ K ⟨e, L, H⟩ := by
  rw [zbs P cfg e L H K _ _ _ _ _ _ rfl]
  obtain ⟨el, h1, h2, h3⟩ := ar.h
  have ht : zd5 P t = none := by simp [zd5, h1]
  have hta : zue P t = some (3, el) := by simp [zue, h1]
  have hc : zj2 ((St.ev ⟨e, L, H⟩) (.const (.int .i64 (n : Int)))) = some (n : Int) := rfl
  have : zak P (St.ev ⟨e, L, H⟩) (lk L) H (.indexAddr t x (.const (.int .i64 (n : Int)))) = some (0 ≤ (n : Int) ∧ (n : Int) < (3 : Nat), .loc key (off + n)) := by
    simp only [zak, ht, hc, hta, Option.bind_some, h2, hx, Int.toNat_natCast, Nat.mul_one]
  rw [this]
  exact ⟨by omega, h⟩
end
end Go.Sx
set_option maxRecDepth 20000
namespace Go.Sx
open Go.Proofs
instance : TyI Try.prog 0 1 false := ⟨by kernel_rfl, by kernel_rfl⟩
instance : TyI Try.prog 1 1 false := ⟨by kernel_rfl, by kernel_rfl⟩
instance : ZI Try.prog 1 [.raw .nilFunc] := ⟨by kernel_rfl⟩
instance : TyI Try.prog 2 1 false := ⟨by kernel_rfl, by kernel_rfl⟩
instance : ZI Try.prog 2 [.int .i64 0] := ⟨by kernel_rfl⟩
instance : UI Try.prog 2 (.int .i64) := ⟨by kernel_rfl⟩
instance : TyI Try.prog 3 1 false := ⟨by kernel_rfl, by kernel_rfl⟩
instance : ZI Try.prog 3 [.int .i64 0] := ⟨by kernel_rfl⟩
instance : UI Try.prog 3 (.int .i64) := ⟨by kernel_rfl⟩
instance : TyI Try.prog 4 1 false := ⟨by kernel_rfl, by kernel_rfl⟩
instance : ZI Try.prog 4 [.bool false] := ⟨by kernel_rfl⟩
instance : UI Try.prog 4 (.bool) := ⟨by kernel_rfl⟩
instance : TyI Try.prog 5 1 false := ⟨by kernel_rfl, by kernel_rfl⟩
instance : ZI Try.prog 5 [.int .u8 0] := ⟨by kernel_rfl⟩
instance : UI Try.prog 5 (.int .u8) := ⟨by kernel_rfl⟩
instance : TyI Try.prog 6 1 false := ⟨by kernel_rfl, by kernel_rfl⟩
instance : ZI Try.prog 6 [.int .u8 0] := ⟨by kernel_rfl⟩
instance : UI Try.prog 6 (.int .u8) := ⟨by kernel_rfl⟩
instance : TyI Try.prog 7 4 true := ⟨by kernel_rfl, by kernel_rfl⟩
instance : FldI Try.prog 7 0 0 2 := ⟨by kernel_rfl, by kernel_rfl⟩
instance : FldI Try.prog 7 1 1 3 := ⟨by kernel_rfl, by kernel_rfl⟩
instance : FldI Try.prog 7 2 2 4 := ⟨by kernel_rfl, by kernel_rfl⟩
instance : FldI Try.prog 7 3 3 6 := ⟨by kernel_rfl, by kernel_rfl⟩
instance : ZI Try.prog 7 [.int .i64 0, .int .i64 0, .bool false, .int .u8 0] := ⟨by kernel_rfl⟩
instance : BdI Try.prog 7 [.int .i64 0, .int .i64 0, .bool false, .int .u8 0] [(0, 1), (1, 1), (2, 1), (3, 1)] := ⟨by kernel_rfl⟩
instance : TyI Try.prog 8 4 true := ⟨by kernel_rfl, by kernel_rfl⟩
instance : FldI Try.prog 8 0 0 2 := ⟨by kernel_rfl, by kernel_rfl⟩
instance : FldI Try.prog 8 1 1 3 := ⟨by kernel_rfl, by kernel_rfl⟩
instance : FldI Try.prog 8 2 2 4 := ⟨by kernel_rfl, by kernel_rfl⟩
instance : FldI Try.prog 8 3 3 6 := ⟨by kernel_rfl, by kernel_rfl⟩
instance : ZI Try.prog 8 [.int .i64 0, .int .i64 0, .bool false, .int .u8 0] := ⟨by kernel_rfl⟩
instance : BdI Try.prog 8 [.int .i64 0, .int .i64 0, .bool false, .int .u8 0] [(0, 1), (1, 1), (2, 1), (3, 1)] := ⟨by kernel_rfl⟩
instance : TyI Try.prog 9 1 false := ⟨by kernel_rfl, by kernel_rfl⟩
instance : ZI Try.prog 9 [.str .empty] := ⟨by kernel_rfl⟩
instance : UI Try.prog 9 (.string) := ⟨by kernel_rfl⟩
instance : TyI Try.prog 10 1 false := ⟨by kernel_rfl, by kernel_rfl⟩
instance : ZI Try.prog 10 [.str .empty] := ⟨by kernel_rfl⟩
instance : UI Try.prog 10 (.string) := ⟨by kernel_rfl⟩
instance : TyI Try.prog 11 1 false := ⟨by kernel_rfl, by kernel_rfl⟩
instance : ZI Try.prog 11 [.str .empty] := ⟨by kernel_rfl⟩
instance : UI Try.prog 11 (.string) := ⟨by kernel_rfl⟩
instance : TyI Try.prog 12 1 false := ⟨by kernel_rfl, by kernel_rfl⟩
instance : ZI Try.prog 12 [.int .u64 0] := ⟨by kernel_rfl⟩
instance : UI Try.prog 12 (.int .u64) := ⟨by kernel_rfl⟩
instance : TyI Try.prog 13 2 true := ⟨by kernel_rfl, by kernel_rfl⟩
instance : FldI Try.prog 13 0 0 9 := ⟨by kernel_rfl, by kernel_rfl⟩
instance : FldI Try.prog 13 1 1 12 := ⟨by kernel_rfl, by kernel_rfl⟩
instance : ZI Try.prog 13 [.str .empty, .int .u64 0] := ⟨by kernel_rfl⟩
instance : BdI Try.prog 13 [.str .empty, .int .u64 0] [(0, 1), (1, 1)] := ⟨by kernel_rfl⟩
instance : TyI Try.prog 14 2 true := ⟨by kernel_rfl, by kernel_rfl⟩
instance : FldI Try.prog 14 0 0 9 := ⟨by kernel_rfl, by kernel_rfl⟩
instance : FldI Try.prog 14 1 1 12 := ⟨by kernel_rfl, by kernel_rfl⟩
instance : ZI Try.prog 14 [.str .empty, .int .u64 0] := ⟨by kernel_rfl⟩
instance : BdI Try.prog 14 [.str .empty, .int .u64 0] [(0, 1), (1, 1)] := ⟨by kernel_rfl⟩
instance : TyI Try.prog 15 1 false := ⟨by kernel_rfl, by kernel_rfl⟩
instance : ZI Try.prog 15 [.raw (.pointer none)] := ⟨by kernel_rfl⟩
instance : PtI Try.prog 15 := ⟨by kernel_rfl⟩
instance : TyI Try.prog 16 1 false := ⟨by kernel_rfl, by kernel_rfl⟩
instance : ZI Try.prog 16 [.raw (.pointer none)] := ⟨by kernel_rfl⟩
instance : TyI Try.prog 17 1 false := ⟨by kernel_rfl, by kernel_rfl⟩
instance : ZI Try.prog 17 [.raw (.pointer none)] := ⟨by kernel_rfl⟩
instance : PtI Try.prog 17 := ⟨by kernel_rfl⟩
instance : TyI Try.prog 18 1 true := ⟨by kernel_rfl, by kernel_rfl⟩
instance : FldI Try.prog 18 0 0 17 := ⟨by kernel_rfl, by kernel_rfl⟩
instance : ZI Try.prog 18 [.raw (.pointer none)] := ⟨by kernel_rfl⟩
instance : BdI Try.prog 18 [.raw (.pointer none)] [(0, 1)] := ⟨by kernel_rfl⟩
instance : TyI Try.prog 19 1 true := ⟨by kernel_rfl, by kernel_rfl⟩
instance : FldI Try.prog 19 0 0 17 := ⟨by kernel_rfl, by kernel_rfl⟩
instance : ZI Try.prog 19 [.raw (.pointer none)] := ⟨by kernel_rfl⟩
instance : BdI Try.prog 19 [.raw (.pointer none)] [(0, 1)] := ⟨by kernel_rfl⟩
instance : TyI Try.prog 20 1 false := ⟨by kernel_rfl, by kernel_rfl⟩
instance : ZI Try.prog 20 [.raw .nilIface] := ⟨by kernel_rfl⟩
instance : TyI Try.prog 21 1 false := ⟨by kernel_rfl, by kernel_rfl⟩
instance : ZI Try.prog 21 [.int .i32 0] := ⟨by kernel_rfl⟩
instance : UI Try.prog 21 (.int .i32) := ⟨by kernel_rfl⟩
instance : TyI Try.prog 22 3 true := ⟨by kernel_rfl, by kernel_rfl⟩
instance : ZI Try.prog 22 [.int .i64 0, .int .i64 0, .int .i64 0] := ⟨by kernel_rfl⟩
instance : TyI Try.prog 23 1 false := ⟨by kernel_rfl, by kernel_rfl⟩
instance : ZI Try.prog 23 [.flt 0] := ⟨by kernel_rfl⟩
instance : UI Try.prog 23 (.float .f64) := ⟨by kernel_rfl⟩
instance : TyI Try.prog 24 1 false := ⟨by kernel_rfl, by kernel_rfl⟩
instance : SlI Try.prog 24 23 1 := ⟨by kernel_rfl, by kernel_rfl⟩
instance : EI Try.prog 24 1 8 [.flt 0] := ⟨by kernel_rfl⟩
instance : ZI Try.prog 24 [.slnil] := ⟨by kernel_rfl⟩
instance : TyI Try.prog 25 5 true := ⟨by kernel_rfl, by kernel_rfl⟩
instance : FldI Try.prog 25 0 0 24 := ⟨by kernel_rfl, by kernel_rfl⟩
instance : FldI Try.prog 25 1 1 3 := ⟨by kernel_rfl, by kernel_rfl⟩
instance : FldI Try.prog 25 2 2 3 := ⟨by kernel_rfl, by kernel_rfl⟩
instance : FldI Try.prog 25 3 3 3 := ⟨by kernel_rfl, by kernel_rfl⟩
instance : FldI Try.prog 25 4 4 3 := ⟨by kernel_rfl, by kernel_rfl⟩
instance : ZI Try.prog 25 [.slnil, .int .i64 0, .int .i64 0, .int .i64 0, .int .i64 0] := ⟨by kernel_rfl⟩
instance : BdI Try.prog 25 [.slnil, .int .i64 0, .int .i64 0, .int .i64 0, .int .i64 0] [(0, 1), (1, 1), (2, 1), (3, 1), (4, 1)] := ⟨by kernel_rfl⟩
instance : TyI Try.prog 26 5 true := ⟨by kernel_rfl, by kernel_rfl⟩
instance : FldI Try.prog 26 0 0 24 := ⟨by kernel_rfl, by kernel_rfl⟩
instance : FldI Try.prog 26 1 1 3 := ⟨by kernel_rfl, by kernel_rfl⟩
instance : FldI Try.prog 26 2 2 3 := ⟨by kernel_rfl, by kernel_rfl⟩
instance : FldI Try.prog 26 3 3 3 := ⟨by kernel_rfl, by kernel_rfl⟩
instance : FldI Try.prog 26 4 4 3 := ⟨by kernel_rfl, by kernel_rfl⟩
instance : ZI Try.prog 26 [.slnil, .int .i64 0, .int .i64 0, .int .i64 0, .int .i64 0] := ⟨by kernel_rfl⟩
instance : BdI Try.prog 26 [.slnil, .int .i64 0, .int .i64 0, .int .i64 0, .int .i64 0] [(0, 1), (1, 1), (2, 1), (3, 1), (4, 1)] := ⟨by kernel_rfl⟩
instance : TyI Try.prog 27 1 false := ⟨by kernel_rfl, by kernel_rfl⟩
instance : ZI Try.prog 27 [.raw .nilFunc] := ⟨by kernel_rfl⟩
instance : TyI Try.prog 28 1 false := ⟨by kernel_rfl, by kernel_rfl⟩
instance : ZI Try.prog 28 [.raw .nilFunc] := ⟨by kernel_rfl⟩
instance : TyI Try.prog 29 1 false := ⟨by kernel_rfl, by kernel_rfl⟩
instance : ZI Try.prog 29 [.raw .nilFunc] := ⟨by kernel_rfl⟩
instance : TyI Try.prog 30 3 true := ⟨by kernel_rfl, by kernel_rfl⟩
instance : FldI Try.prog 30 0 0 3 := ⟨by kernel_rfl, by kernel_rfl⟩
instance : FldI Try.prog 30 1 1 3 := ⟨by kernel_rfl, by kernel_rfl⟩
instance : FldI Try.prog 30 2 2 3 := ⟨by kernel_rfl, by kernel_rfl⟩
instance : ZI Try.prog 30 [.int .i64 0, .int .i64 0, .int .i64 0] := ⟨by kernel_rfl⟩
instance : BdI Try.prog 30 [.int .i64 0, .int .i64 0, .int .i64 0] [(0, 1), (1, 1), (2, 1)] := ⟨by kernel_rfl⟩
instance : TyI Try.prog 31 3 true := ⟨by kernel_rfl, by kernel_rfl⟩
instance : FldI Try.prog 31 0 0 3 := ⟨by kernel_rfl, by kernel_rfl⟩
instance : FldI Try.prog 31 1 1 3 := ⟨by kernel_rfl, by kernel_rfl⟩
instance : FldI Try.prog 31 2 2 3 := ⟨by kernel_rfl, by kernel_rfl⟩
instance : ZI Try.prog 31 [.int .i64 0, .int .i64 0, .int .i64 0] := ⟨by kernel_rfl⟩
instance : BdI Try.prog 31 [.int .i64 0, .int .i64 0, .int .i64 0] [(0, 1), (1, 1), (2, 1)] := ⟨by kernel_rfl⟩
instance : TyI Try.prog 32 1 false := ⟨by kernel_rfl, by kernel_rfl⟩
instance : ZI Try.prog 32 [.raw .nilFunc] := ⟨by kernel_rfl⟩
instance : TyI Try.prog 33 1 false := ⟨by kernel_rfl, by kernel_rfl⟩
instance : ZI Try.prog 33 [.int .i64 0] := ⟨by kernel_rfl⟩
instance : UI Try.prog 33 (.int .i64) := ⟨by kernel_rfl⟩
instance : TyI Try.prog 34 1 false := ⟨by kernel_rfl, by kernel_rfl⟩
instance : ZI Try.prog 34 [.raw .nilFunc] := ⟨by kernel_rfl⟩
instance : TyI Try.prog 35 1 false := ⟨by kernel_rfl, by kernel_rfl⟩
instance : ZI Try.prog 35 [.raw .nilFunc] := ⟨by kernel_rfl⟩
instance : TyI Try.prog 36 1 false := ⟨by kernel_rfl, by kernel_rfl⟩
instance : ZI Try.prog 36 [.raw .nilFunc] := ⟨by kernel_rfl⟩
instance : TyI Try.prog 37 1 false := ⟨by kernel_rfl, by kernel_rfl⟩
instance : ZI Try.prog 37 [.raw .nilFunc] := ⟨by kernel_rfl⟩
instance : TyI Try.prog 38 3 true := ⟨by kernel_rfl, by kernel_rfl⟩
instance : FldI Try.prog 38 0 0 3 := ⟨by kernel_rfl, by kernel_rfl⟩
instance : FldI Try.prog 38 1 1 3 := ⟨by kernel_rfl, by kernel_rfl⟩
instance : FldI Try.prog 38 2 2 24 := ⟨by kernel_rfl, by kernel_rfl⟩
instance : ZI Try.prog 38 [.int .i64 0, .int .i64 0, .slnil] := ⟨by kernel_rfl⟩
instance : BdI Try.prog 38 [.int .i64 0, .int .i64 0, .slnil] [(0, 1), (1, 1), (2, 1)] := ⟨by kernel_rfl⟩
instance : TyI Try.prog 39 3 true := ⟨by kernel_rfl, by kernel_rfl⟩
instance : FldI Try.prog 39 0 0 3 := ⟨by kernel_rfl, by kernel_rfl⟩
instance : FldI Try.prog 39 1 1 3 := ⟨by kernel_rfl, by kernel_rfl⟩
instance : FldI Try.prog 39 2 2 24 := ⟨by kernel_rfl, by kernel_rfl⟩
instance : ZI Try.prog 39 [.int .i64 0, .int .i64 0, .slnil] := ⟨by kernel_rfl⟩
instance : BdI Try.prog 39 [.int .i64 0, .int .i64 0, .slnil] [(0, 1), (1, 1), (2, 1)] := ⟨by kernel_rfl⟩
instance : TyI Try.prog 40 1 false := ⟨by kernel_rfl, by kernel_rfl⟩
instance : ZI Try.prog 40 [.raw .nilFunc] := ⟨by kernel_rfl⟩
instance : TyI Try.prog 41 1 false := ⟨by kernel_rfl, by kernel_rfl⟩
instance : ZI Try.prog 41 [.raw .nilFunc] := ⟨by kernel_rfl⟩
instance : TyI Try.prog 42 1 false := ⟨by kernel_rfl, by kernel_rfl⟩
instance : ZI Try.prog 42 [.raw .nilFunc] := ⟨by kernel_rfl⟩
instance : TyI Try.prog 43 1 false := ⟨by kernel_rfl, by kernel_rfl⟩
instance : ZI Try.prog 43 [.raw .nilFunc] := ⟨by kernel_rfl⟩
instance : TyI Try.prog 44 1 false := ⟨by kernel_rfl, by kernel_rfl⟩
instance : ZI Try.prog 44 [.raw .nilFunc] := ⟨by kernel_rfl⟩
instance : TyI Try.prog 45 1 false := ⟨by kernel_rfl, by kernel_rfl⟩
instance : TyI Try.prog 46 1 false := ⟨by kernel_rfl, by kernel_rfl⟩
instance : ZI Try.prog 46 [.raw .nilFunc] := ⟨by kernel_rfl⟩
instance : TyI Try.prog 47 1 false := ⟨by kernel_rfl, by kernel_rfl⟩
instance : TyI Try.prog 48 1 false := ⟨by kernel_rfl, by kernel_rfl⟩
instance : ZI Try.prog 48 [.raw .nilFunc] := ⟨by kernel_rfl⟩
instance : TyI Try.prog 49 1 false := ⟨by kernel_rfl, by kernel_rfl⟩
instance : ZI Try.prog 49 [.raw .nilFunc] := ⟨by kernel_rfl⟩
instance : TyI Try.prog 50 1 false := ⟨by kernel_rfl, by kernel_rfl⟩
instance : ZI Try.prog 50 [.raw .nilFunc] := ⟨by kernel_rfl⟩
instance : TyI Try.prog 51 1 false := ⟨by kernel_rfl, by kernel_rfl⟩
instance : ZI Try.prog 51 [.raw .nilFunc] := ⟨by kernel_rfl⟩
instance : TyI Try.prog 52 1 false := ⟨by kernel_rfl, by kernel_rfl⟩
instance : SlI Try.prog 52 3 1 := ⟨by kernel_rfl, by kernel_rfl⟩
instance : EI Try.prog 52 1 8 [.int .i64 0] := ⟨by kernel_rfl⟩
instance : ZI Try.prog 52 [.slnil] := ⟨by kernel_rfl⟩
instance : TyI Try.prog 53 6 true := ⟨by kernel_rfl, by kernel_rfl⟩
instance : FldI Try.prog 53 0 0 26 := ⟨by kernel_rfl, by kernel_rfl⟩
instance : FldI Try.prog 53 1 5 52 := ⟨by kernel_rfl, by kernel_rfl⟩
instance : ZI Try.prog 53 [.slnil, .int .i64 0, .int .i64 0, .int .i64 0, .int .i64 0, .slnil] := ⟨by kernel_rfl⟩
instance : BdI Try.prog 53 [.slnil, .int .i64 0, .int .i64 0, .int .i64 0, .int .i64 0, .slnil] [(0, 5), (5, 1)] := ⟨by kernel_rfl⟩
instance : TyI Try.prog 54 6 true := ⟨by kernel_rfl, by kernel_rfl⟩
instance : FldI Try.prog 54 0 0 26 := ⟨by kernel_rfl, by kernel_rfl⟩
instance : FldI Try.prog 54 1 5 52 := ⟨by kernel_rfl, by kernel_rfl⟩
instance : ZI Try.prog 54 [.slnil, .int .i64 0, .int .i64 0, .int .i64 0, .int .i64 0, .slnil] := ⟨by kernel_rfl⟩
instance : BdI Try.prog 54 [.slnil, .int .i64 0, .int .i64 0, .int .i64 0, .int .i64 0, .slnil] [(0, 5), (5, 1)] := ⟨by kernel_rfl⟩
instance : TyI Try.prog 55 1 false := ⟨by kernel_rfl, by kernel_rfl⟩
instance : TyI Try.prog 56 1 false := ⟨by kernel_rfl, by kernel_rfl⟩
instance : ZI Try.prog 56 [.raw .nilFunc] := ⟨by kernel_rfl⟩
instance : TyI Try.prog 57 1 false := ⟨by kernel_rfl, by kernel_rfl⟩
instance : ZI Try.prog 57 [.raw .nilFunc] := ⟨by kernel_rfl⟩
instance : TyI Try.prog 58 1 false := ⟨by kernel_rfl, by kernel_rfl⟩
instance : ZI Try.prog 58 [.raw .nilFunc] := ⟨by kernel_rfl⟩
instance : TyI Try.prog 59 1 false := ⟨by kernel_rfl, by kernel_rfl⟩
instance : ZI Try.prog 59 [.raw .nilFunc] := ⟨by kernel_rfl⟩
instance : TyI Try.prog 60 1 false := ⟨by kernel_rfl, by kernel_rfl⟩
instance : ZI Try.prog 60 [.raw .nilFunc] := ⟨by kernel_rfl⟩
instance : TyI Try.prog 61 1 false := ⟨by kernel_rfl, by kernel_rfl⟩
instance : ZI Try.prog 61 [.raw .nilFunc] := ⟨by kernel_rfl⟩
instance : TyI Try.prog 62 1 false := ⟨by kernel_rfl, by kernel_rfl⟩
instance : TyI Try.prog 63 1 false := ⟨by kernel_rfl, by kernel_rfl⟩
instance : ZI Try.prog 63 [.raw .nilFunc] := ⟨by kernel_rfl⟩
instance : TyI Try.prog 64 1 false := ⟨by kernel_rfl, by kernel_rfl⟩
instance : ZI Try.prog 64 [.raw .nilFunc] := ⟨by kernel_rfl⟩
instance : TyI Try.prog 65 1 false := ⟨by kernel_rfl, by kernel_rfl⟩
instance : ZI Try.prog 65 [.raw .nilFunc] := ⟨by kernel_rfl⟩
instance : TyI Try.prog 66 1 false := ⟨by kernel_rfl, by kernel_rfl⟩
instance : ZI Try.prog 66 [.raw .nilFunc] := ⟨by kernel_rfl⟩
instance : TyI Try.prog 67 19 true := ⟨by kernel_rfl, by kernel_rfl⟩
instance : FldI Try.prog 67 0 0 31 := ⟨by kernel_rfl, by kernel_rfl⟩
instance : FldI Try.prog 67 1 3 23 := ⟨by kernel_rfl, by kernel_rfl⟩
instance : FldI Try.prog 67 2 4 26 := ⟨by kernel_rfl, by kernel_rfl⟩
instance : FldI Try.prog 67 3 9 26 := ⟨by kernel_rfl, by kernel_rfl⟩
instance : FldI Try.prog 67 4 14 26 := ⟨by kernel_rfl, by kernel_rfl⟩
instance : ZI Try.prog 67 [.int .i64 0, .int .i64 0, .int .i64 0, .flt 0, .slnil, .int .i64 0, .int .i64 0, .int .i64 0, .int .i64 0, .slnil, .int .i64 0, .int .i64 0, .int .i64 0, .int .i64 0, .slnil, .int .i64 0, .int .i64 0, .int .i64 0, .int .i64 0] := ⟨by kernel_rfl⟩
instance : BdI Try.prog 67 [.int .i64 0, .int .i64 0, .int .i64 0, .flt 0, .slnil, .int .i64 0, .int .i64 0, .int .i64 0, .int .i64 0, .slnil, .int .i64 0, .int .i64 0, .int .i64 0, .int .i64 0, .slnil, .int .i64 0, .int .i64 0, .int .i64 0, .int .i64 0] [(0, 3), (3, 1), (4, 5), (9, 5), (14, 5)] := ⟨by kernel_rfl⟩
instance : TyI Try.prog 68 19 true := ⟨by kernel_rfl, by kernel_rfl⟩
instance : FldI Try.prog 68 0 0 31 := ⟨by kernel_rfl, by kernel_rfl⟩
instance : FldI Try.prog 68 1 3 23 := ⟨by kernel_rfl, by kernel_rfl⟩
instance : FldI Try.prog 68 2 4 26 := ⟨by kernel_rfl, by kernel_rfl⟩
instance : FldI Try.prog 68 3 9 26 := ⟨by kernel_rfl, by kernel_rfl⟩
instance : FldI Try.prog 68 4 14 26 := ⟨by kernel_rfl, by kernel_rfl⟩
instance : ZI Try.prog 68 [.int .i64 0, .int .i64 0, .int .i64 0, .flt 0, .slnil, .int .i64 0, .int .i64 0, .int .i64 0, .int .i64 0, .slnil, .int .i64 0, .int .i64 0, .int .i64 0, .int .i64 0, .slnil, .int .i64 0, .int .i64 0, .int .i64 0, .int .i64 0] := ⟨by kernel_rfl⟩
instance : BdI Try.prog 68 [.int .i64 0, .int .i64 0, .int .i64 0, .flt 0, .slnil, .int .i64 0, .int .i64 0, .int .i64 0, .int .i64 0, .slnil, .int .i64 0, .int .i64 0, .int .i64 0, .int .i64 0, .slnil, .int .i64 0, .int .i64 0, .int .i64 0, .int .i64 0] [(0, 3), (3, 1), (4, 5), (9, 5), (14, 5)] := ⟨by kernel_rfl⟩
instance : TyI Try.prog 69 1 false := ⟨by kernel_rfl, by kernel_rfl⟩
instance : ZI Try.prog 69 [.raw .nilFunc] := ⟨by kernel_rfl⟩
instance : TyI Try.prog 70 1 false := ⟨by kernel_rfl, by kernel_rfl⟩
instance : ZI Try.prog 70 [.raw .nilFunc] := ⟨by kernel_rfl⟩
instance : TyI Try.prog 71 1 false := ⟨by kernel_rfl, by kernel_rfl⟩
instance : ZI Try.prog 71 [.raw .nilFunc] := ⟨by kernel_rfl⟩
instance : TyI Try.prog 72 1 false := ⟨by kernel_rfl, by kernel_rfl⟩
instance : ZI Try.prog 72 [.raw .nilFunc] := ⟨by kernel_rfl⟩
instance : TyI Try.prog 73 1 false := ⟨by kernel_rfl, by kernel_rfl⟩
instance : ZI Try.prog 73 [.raw .nilFunc] := ⟨by kernel_rfl⟩
instance : TyI Try.prog 74 1 false := ⟨by kernel_rfl, by kernel_rfl⟩
instance : SlI Try.prog 74 76 2 := ⟨by kernel_rfl, by kernel_rfl⟩
instance : EI Try.prog 74 2 16 [.int .i64 0, .int .i64 0] := ⟨by kernel_rfl⟩
instance : ZI Try.prog 74 [.slnil] := ⟨by kernel_rfl⟩
instance : TyI Try.prog 75 1 false := ⟨by kernel_rfl, by kernel_rfl⟩
instance : ZI Try.prog 75 [.raw .nilFunc] := ⟨by kernel_rfl⟩
instance : TyI Try.prog 76 2 true := ⟨by kernel_rfl, by kernel_rfl⟩
instance : ZI Try.prog 76 [.int .i64 0, .int .i64 0] := ⟨by kernel_rfl⟩
instance : TyI Try.prog 77 1 false := ⟨by kernel_rfl, by kernel_rfl⟩
instance : ZI Try.prog 77 [.raw .nilFunc] := ⟨by kernel_rfl⟩
instance : TyI Try.prog 78 1 false := ⟨by kernel_rfl, by kernel_rfl⟩
instance : ZI Try.prog 78 [.raw .nilFunc] := ⟨by kernel_rfl⟩
instance : TyI Try.prog 79 1 false := ⟨by kernel_rfl, by kernel_rfl⟩
instance : ZI Try.prog 79 [.raw .nilFunc] := ⟨by kernel_rfl⟩
instance : TyI Try.prog 80 1 false := ⟨by kernel_rfl, by kernel_rfl⟩
instance : ZI Try.prog 80 [.raw .nilFunc] := ⟨by kernel_rfl⟩
instance : TyI Try.prog 81 1 false := ⟨by kernel_rfl, by kernel_rfl⟩
instance : ZI Try.prog 81 [.raw .nilFunc] := ⟨by kernel_rfl⟩
instance : TyI Try.prog 82 1 false := ⟨by kernel_rfl, by kernel_rfl⟩
instance : ZI Try.prog 82 [.raw .nilFunc] := ⟨by kernel_rfl⟩
instance : TyI Try.prog 83 1 false := ⟨by kernel_rfl, by kernel_rfl⟩
instance : ZI Try.prog 83 [.raw .nilFunc] := ⟨by kernel_rfl⟩
instance : TyI Try.prog 84 1 false := ⟨by kernel_rfl, by kernel_rfl⟩
instance : TyI Try.prog 85 1 false := ⟨by kernel_rfl, by kernel_rfl⟩
instance : ZI Try.prog 85 [.raw .nilFunc] := ⟨by kernel_rfl⟩
instance : TyI Try.prog 86 1 false := ⟨by kernel_rfl, by kernel_rfl⟩
instance : ZI Try.prog 86 [.raw .nilFunc] := ⟨by kernel_rfl⟩
instance : TyI Try.prog 87 1 false := ⟨by kernel_rfl, by kernel_rfl⟩
instance : ZI Try.prog 87 [.raw (.pointer none)] := ⟨by kernel_rfl⟩
instance : PtI Try.prog 87 := ⟨by kernel_rfl⟩
instance : TyI Try.prog 88 9 true := ⟨by kernel_rfl, by kernel_rfl⟩
instance : FldI Try.prog 88 0 0 31 := ⟨by kernel_rfl, by kernel_rfl⟩
instance : FldI Try.prog 88 1 3 26 := ⟨by kernel_rfl, by kernel_rfl⟩
instance : FldI Try.prog 88 2 8 52 := ⟨by kernel_rfl, by kernel_rfl⟩
instance : ZI Try.prog 88 [.int .i64 0, .int .i64 0, .int .i64 0, .slnil, .int .i64 0, .int .i64 0, .int .i64 0, .int .i64 0, .slnil] := ⟨by kernel_rfl⟩
instance : BdI Try.prog 88 [.int .i64 0, .int .i64 0, .int .i64 0, .slnil, .int .i64 0, .int .i64 0, .int .i64 0, .int .i64 0, .slnil] [(0, 3), (3, 5), (8, 1)] := ⟨by kernel_rfl⟩
instance : TyI Try.prog 89 9 true := ⟨by kernel_rfl, by kernel_rfl⟩
instance : FldI Try.prog 89 0 0 31 := ⟨by kernel_rfl, by kernel_rfl⟩
instance : FldI Try.prog 89 1 3 26 := ⟨by kernel_rfl, by kernel_rfl⟩
instance : FldI Try.prog 89 2 8 52 := ⟨by kernel_rfl, by kernel_rfl⟩
instance : ZI Try.prog 89 [.int .i64 0, .int .i64 0, .int .i64 0, .slnil, .int .i64 0, .int .i64 0, .int .i64 0, .int .i64 0, .slnil] := ⟨by kernel_rfl⟩
instance : BdI Try.prog 89 [.int .i64 0, .int .i64 0, .int .i64 0, .slnil, .int .i64 0, .int .i64 0, .int .i64 0, .int .i64 0, .slnil] [(0, 3), (3, 5), (8, 1)] := ⟨by kernel_rfl⟩
instance : TyI Try.prog 90 1 false := ⟨by kernel_rfl, by kernel_rfl⟩
instance : ZI Try.prog 90 [.raw .nilFunc] := ⟨by kernel_rfl⟩
instance : TyI Try.prog 91 1 false := ⟨by kernel_rfl, by kernel_rfl⟩
instance : ZI Try.prog 91 [.raw .nilFunc] := ⟨by kernel_rfl⟩
instance : TyI Try.prog 92 1 false := ⟨by kernel_rfl, by kernel_rfl⟩
instance : ZI Try.prog 92 [.raw .nilFunc] := ⟨by kernel_rfl⟩
instance : TyI Try.prog 93 1 false := ⟨by kernel_rfl, by kernel_rfl⟩
instance : TyI Try.prog 94 1 false := ⟨by kernel_rfl, by kernel_rfl⟩
instance : ZI Try.prog 94 [.raw .nilFunc] := ⟨by kernel_rfl⟩
instance : TyI Try.prog 95 4 true := ⟨by kernel_rfl, by kernel_rfl⟩
instance : FldI Try.prog 95 0 0 24 := ⟨by kernel_rfl, by kernel_rfl⟩
instance : FldI Try.prog 95 1 1 3 := ⟨by kernel_rfl, by kernel_rfl⟩
instance : FldI Try.prog 95 2 2 3 := ⟨by kernel_rfl, by kernel_rfl⟩
instance : FldI Try.prog 95 3 3 3 := ⟨by kernel_rfl, by kernel_rfl⟩
instance : ZI Try.prog 95 [.slnil, .int .i64 0, .int .i64 0, .int .i64 0] := ⟨by kernel_rfl⟩
instance : BdI Try.prog 95 [.slnil, .int .i64 0, .int .i64 0, .int .i64 0] [(0, 1), (1, 1), (2, 1), (3, 1)] := ⟨by kernel_rfl⟩
instance : TyI Try.prog 96 4 true := ⟨by kernel_rfl, by kernel_rfl⟩
instance : FldI Try.prog 96 0 0 24 := ⟨by kernel_rfl, by kernel_rfl⟩
instance : FldI Try.prog 96 1 1 3 := ⟨by kernel_rfl, by kernel_rfl⟩
instance : FldI Try.prog 96 2 2 3 := ⟨by kernel_rfl, by kernel_rfl⟩
instance : FldI Try.prog 96 3 3 3 := ⟨by kernel_rfl, by kernel_rfl⟩
instance : ZI Try.prog 96 [.slnil, .int .i64 0, .int .i64 0, .int .i64 0] := ⟨by kernel_rfl⟩
instance : BdI Try.prog 96 [.slnil, .int .i64 0, .int .i64 0, .int .i64 0] [(0, 1), (1, 1), (2, 1), (3, 1)] := ⟨by kernel_rfl⟩
instance : TyI Try.prog 97 1 false := ⟨by kernel_rfl, by kernel_rfl⟩
instance : ZI Try.prog 97 [.raw .nilFunc] := ⟨by kernel_rfl⟩
instance : TyI Try.prog 98 1 false := ⟨by kernel_rfl, by kernel_rfl⟩
instance : ZI Try.prog 98 [.raw .nilFunc] := ⟨by kernel_rfl⟩
instance : TyI Try.prog 99 1 false := ⟨by kernel_rfl, by kernel_rfl⟩
instance : ZI Try.prog 99 [.raw .nilFunc] := ⟨by kernel_rfl⟩
instance : TyI Try.prog 100 1 false := ⟨by kernel_rfl, by kernel_rfl⟩
instance : ZI Try.prog 100 [.raw (.pointer none)] := ⟨by kernel_rfl⟩
instance : PtI Try.prog 100 := ⟨by kernel_rfl⟩
instance : TyI Try.prog 101 1 false := ⟨by kernel_rfl, by kernel_rfl⟩
instance : ZI Try.prog 101 [.raw .nilFunc] := ⟨by kernel_rfl⟩
instance : TyI Try.prog 102 1 false := ⟨by kernel_rfl, by kernel_rfl⟩
instance : ZI Try.prog 102 [.raw .nilFunc] := ⟨by kernel_rfl⟩
instance : TyI Try.prog 103 1 false := ⟨by kernel_rfl, by kernel_rfl⟩
instance : ZI Try.prog 103 [.int .u64 0] := ⟨by kernel_rfl⟩
instance : UI Try.prog 103 (.int .u64) := ⟨by kernel_rfl⟩
instance : TyI Try.prog 104 1 false := ⟨by kernel_rfl, by kernel_rfl⟩
instance : TyI Try.prog 105 1 false := ⟨by kernel_rfl, by kernel_rfl⟩
instance : ZI Try.prog 105 [.raw .nilFunc] := ⟨by kernel_rfl⟩
instance : TyI Try.prog 106 1 false := ⟨by kernel_rfl, by kernel_rfl⟩
instance : ZI Try.prog 106 [.raw .nilFunc] := ⟨by kernel_rfl⟩
instance : TyI Try.prog 107 1 false := ⟨by kernel_rfl, by kernel_rfl⟩
instance : ZI Try.prog 107 [.raw .nilFunc] := ⟨by kernel_rfl⟩
instance : TyI Try.prog 108 1 false := ⟨by kernel_rfl, by kernel_rfl⟩
instance : ZI Try.prog 108 [.raw .nilFunc] := ⟨by kernel_rfl⟩
instance : TyI Try.prog 109 1 false := ⟨by kernel_rfl, by kernel_rfl⟩
instance : ZI Try.prog 109 [.raw .nilFunc] := ⟨by kernel_rfl⟩
instance : TyI Try.prog 110 1 false := ⟨by kernel_rfl, by kernel_rfl⟩
instance : ZI Try.prog 110 [.raw .nilFunc] := ⟨by kernel_rfl⟩
instance : TyI Try.prog 111 1 false := ⟨by kernel_rfl, by kernel_rfl⟩
instance : ZI Try.prog 111 [.raw .nilFunc] := ⟨by kernel_rfl⟩
instance : TyI Try.prog 112 1 false := ⟨by kernel_rfl, by kernel_rfl⟩
instance : ZI Try.prog 112 [.raw .nilFunc] := ⟨by kernel_rfl⟩
instance : TyI Try.prog 113 1 false := ⟨by kernel_rfl, by kernel_rfl⟩
instance : TyI Try.prog 114 1 false := ⟨by kernel_rfl, by kernel_rfl⟩
instance : ZI Try.prog 114 [.raw .nilFunc] := ⟨by kernel_rfl⟩
instance : TyI Try.prog 115 1 false := ⟨by kernel_rfl, by kernel_rfl⟩
instance : ZI Try.prog 115 [.raw .nilFunc] := ⟨by kernel_rfl⟩
instance : TyI Try.prog 116 1 false := ⟨by kernel_rfl, by kernel_rfl⟩
instance : ZI Try.prog 116 [.raw .nilFunc] := ⟨by kernel_rfl⟩
instance : TyI Try.prog 117 1 false := ⟨by kernel_rfl, by kernel_rfl⟩
instance : ZI Try.prog 117 [.raw .nilFunc] := ⟨by kernel_rfl⟩
instance : TyI Try.prog 118 1 false := ⟨by kernel_rfl, by kernel_rfl⟩
instance : ZI Try.prog 118 [.raw .nilFunc] := ⟨by kernel_rfl⟩
instance : TyI Try.prog 119 1 false := ⟨by kernel_rfl, by kernel_rfl⟩
instance : ZI Try.prog 119 [.raw .nilFunc] := ⟨by kernel_rfl⟩
instance : TyI Try.prog 120 1 false := ⟨by kernel_rfl, by kernel_rfl⟩
instance : ZI Try.prog 120 [.int .u64 0] := ⟨by kernel_rfl⟩
instance : UI Try.prog 120 (.int .u64) := ⟨by kernel_rfl⟩
instance : TyI Try.prog 121 1 false := ⟨by kernel_rfl, by kernel_rfl⟩
instance : ZI Try.prog 121 [.raw .nilFunc] := ⟨by kernel_rfl⟩
instance : TyI Try.prog 122 1 false := ⟨by kernel_rfl, by kernel_rfl⟩
instance : ZI Try.prog 122 [.raw .nilFunc] := ⟨by kernel_rfl⟩
instance : TyI Try.prog 123 1 false := ⟨by kernel_rfl, by kernel_rfl⟩
instance : ZI Try.prog 123 [.raw .nilFunc] := ⟨by kernel_rfl⟩
instance : TyI Try.prog 124 1 false := ⟨by kernel_rfl, by kernel_rfl⟩
instance : ZI Try.prog 124 [.raw .nilFunc] := ⟨by kernel_rfl⟩
instance : TyI Try.prog 125 1 false := ⟨by kernel_rfl, by kernel_rfl⟩
instance : ZI Try.prog 125 [.raw .nilFunc] := ⟨by kernel_rfl⟩
instance : TyI Try.prog 126 9 true := ⟨by kernel_rfl, by kernel_rfl⟩
instance : FldI Try.prog 126 0 0 26 := ⟨by kernel_rfl, by kernel_rfl⟩
instance : FldI Try.prog 126 1 5 96 := ⟨by kernel_rfl, by kernel_rfl⟩
instance : ZI Try.prog 126 [.slnil, .int .i64 0, .int .i64 0, .int .i64 0, .int .i64 0, .slnil, .int .i64 0, .int .i64 0, .int .i64 0] := ⟨by kernel_rfl⟩
instance : BdI Try.prog 126 [.slnil, .int .i64 0, .int .i64 0, .int .i64 0, .int .i64 0, .slnil, .int .i64 0, .int .i64 0, .int .i64 0] [(0, 5), (5, 4)] := ⟨by kernel_rfl⟩
instance : TyI Try.prog 127 9 true := ⟨by kernel_rfl, by kernel_rfl⟩
instance : FldI Try.prog 127 0 0 26 := ⟨by kernel_rfl, by kernel_rfl⟩
instance : FldI Try.prog 127 1 5 96 := ⟨by kernel_rfl, by kernel_rfl⟩
instance : ZI Try.prog 127 [.slnil, .int .i64 0, .int .i64 0, .int .i64 0, .int .i64 0, .slnil, .int .i64 0, .int .i64 0, .int .i64 0] := ⟨by kernel_rfl⟩
instance : BdI Try.prog 127 [.slnil, .int .i64 0, .int .i64 0, .int .i64 0, .int .i64 0, .slnil, .int .i64 0, .int .i64 0, .int .i64 0] [(0, 5), (5, 4)] := ⟨by kernel_rfl⟩
instance : TyI Try.prog 128 1 false := ⟨by kernel_rfl, by kernel_rfl⟩
instance : ZI Try.prog 128 [.raw .nilFunc] := ⟨by kernel_rfl⟩
instance : TyI Try.prog 129 1 false := ⟨by kernel_rfl, by kernel_rfl⟩
instance : ZI Try.prog 129 [.raw .nilFunc] := ⟨by kernel_rfl⟩
instance : TyI Try.prog 130 1 false := ⟨by kernel_rfl, by kernel_rfl⟩
instance : ZI Try.prog 130 [.raw .nilFunc] := ⟨by kernel_rfl⟩
instance : TyI Try.prog 131 1 false := ⟨by kernel_rfl, by kernel_rfl⟩
instance : TyI Try.prog 132 1 false := ⟨by kernel_rfl, by kernel_rfl⟩
instance : ZI Try.prog 132 [.raw .nilFunc] := ⟨by kernel_rfl⟩
instance : TyI Try.prog 133 1 false := ⟨by kernel_rfl, by kernel_rfl⟩
instance : ZI Try.prog 133 [.raw .nilFunc] := ⟨by kernel_rfl⟩
instance : TyI Try.prog 134 1 false := ⟨by kernel_rfl, by kernel_rfl⟩
instance : ZI Try.prog 134 [.raw .nilFunc] := ⟨by kernel_rfl⟩
instance : TyI Try.prog 135 1 false := ⟨by kernel_rfl, by kernel_rfl⟩
instance : ZI Try.prog 135 [.raw .nilFunc] := ⟨by kernel_rfl⟩
instance : TyI Try.prog 136 1 false := ⟨by kernel_rfl, by kernel_rfl⟩
instance : ZI Try.prog 136 [.raw .nilFunc] := ⟨by kernel_rfl⟩
instance : TyI Try.prog 137 1 false := ⟨by kernel_rfl, by kernel_rfl⟩
instance : ZI Try.prog 137 [.raw .nilFunc] := ⟨by kernel_rfl⟩
instance : TyI Try.prog 138 1 false := ⟨by kernel_rfl, by kernel_rfl⟩
instance : ZI Try.prog 138 [.raw .nilFunc] := ⟨by kernel_rfl⟩
instance : TyI Try.prog 139 1 false := ⟨by kernel_rfl, by kernel_rfl⟩
instance : ZI Try.prog 139 [.int .i64 0] := ⟨by kernel_rfl⟩
instance : UI Try.prog 139 (.int .i64) := ⟨by kernel_rfl⟩
instance : TyI Try.prog 140 1 false := ⟨by kernel_rfl, by kernel_rfl⟩
instance : TyI Try.prog 141 1 false := ⟨by kernel_rfl, by kernel_rfl⟩
instance : ZI Try.prog 141 [.raw .nilFunc] := ⟨by kernel_rfl⟩
instance : TyI Try.prog 142 1 false := ⟨by kernel_rfl, by kernel_rfl⟩
instance : ZI Try.prog 142 [.raw .nilFunc] := ⟨by kernel_rfl⟩
instance : TyI Try.prog 143 1 false := ⟨by kernel_rfl, by kernel_rfl⟩
instance : ZI Try.prog 143 [.raw .nilFunc] := ⟨by kernel_rfl⟩
instance : TyI Try.prog 144 1 false := ⟨by kernel_rfl, by kernel_rfl⟩
instance : ZI Try.prog 144 [.raw .nilFunc] := ⟨by kernel_rfl⟩
instance : TyI Try.prog 145 1 false := ⟨by kernel_rfl, by kernel_rfl⟩
instance : ZI Try.prog 145 [.raw .nilFunc] := ⟨by kernel_rfl⟩
instance : TyI Try.prog 146 1 false := ⟨by kernel_rfl, by kernel_rfl⟩
instance : ZI Try.prog 146 [.raw .nilFunc] := ⟨by kernel_rfl⟩
instance : TyI Try.prog 147 1 false := ⟨by kernel_rfl, by kernel_rfl⟩
instance : ZI Try.prog 147 [.int .u32 0] := ⟨by kernel_rfl⟩
instance : UI Try.prog 147 (.int .u32) := ⟨by kernel_rfl⟩
instance : TyI Try.prog 148 1 false := ⟨by kernel_rfl, by kernel_rfl⟩
instance : ZI Try.prog 148 [.raw .nilFunc] := ⟨by kernel_rfl⟩
instance : TyI Try.prog 149 1 false := ⟨by kernel_rfl, by kernel_rfl⟩
instance : ZI Try.prog 149 [.raw .nilFunc] := ⟨by kernel_rfl⟩
instance : TyI Try.prog 150 1 false := ⟨by kernel_rfl, by kernel_rfl⟩
instance : ZI Try.prog 150 [.raw .nilFunc] := ⟨by kernel_rfl⟩
instance : TyI Try.prog 151 1 false := ⟨by kernel_rfl, by kernel_rfl⟩
instance : ZI Try.prog 151 [.raw .nilFunc] := ⟨by kernel_rfl⟩
instance : TyI Try.prog 152 1 false := ⟨by kernel_rfl, by kernel_rfl⟩
instance : ZI Try.prog 152 [.int .u64 0] := ⟨by kernel_rfl⟩
instance : UI Try.prog 152 (.int .u64) := ⟨by kernel_rfl⟩
instance : TyI Try.prog 153 1 false := ⟨by kernel_rfl, by kernel_rfl⟩
instance : ZI Try.prog 153 [.raw .nilFunc] := ⟨by kernel_rfl⟩
instance : TyI Try.prog 154 1 false := ⟨by kernel_rfl, by kernel_rfl⟩
instance : ZI Try.prog 154 [.raw .nilFunc] := ⟨by kernel_rfl⟩
instance : TyI Try.prog 155 1 false := ⟨by kernel_rfl, by kernel_rfl⟩
instance : ZI Try.prog 155 [.raw .nilFunc] := ⟨by kernel_rfl⟩
instance : TyI Try.prog 156 1 false := ⟨by kernel_rfl, by kernel_rfl⟩
instance : ZI Try.prog 156 [.raw (.pointer none)] := ⟨by kernel_rfl⟩
instance : PtI Try.prog 156 := ⟨by kernel_rfl⟩
instance : TyI Try.prog 157 1 false := ⟨by kernel_rfl, by kernel_rfl⟩
instance : ZI Try.prog 157 [.raw .nilFunc] := ⟨by kernel_rfl⟩
instance : TyI Try.prog 158 1 false := ⟨by kernel_rfl, by kernel_rfl⟩
instance : ZI Try.prog 158 [.raw .nilFunc] := ⟨by kernel_rfl⟩
instance : TyI Try.prog 159 1 false := ⟨by kernel_rfl, by kernel_rfl⟩
instance : ZI Try.prog 159 [.raw .nilFunc] := ⟨by kernel_rfl⟩
instance : TyI Try.prog 160 1 false := ⟨by kernel_rfl, by kernel_rfl⟩
instance : ZI Try.prog 160 [.raw (.pointer none)] := ⟨by kernel_rfl⟩
instance : PtI Try.prog 160 := ⟨by kernel_rfl⟩
instance : TyI Try.prog 161 1 false := ⟨by kernel_rfl, by kernel_rfl⟩
instance : ZI Try.prog 161 [.raw .nilFunc] := ⟨by kernel_rfl⟩
instance : TyI Try.prog 162 1 false := ⟨by kernel_rfl, by kernel_rfl⟩
instance : ZI Try.prog 162 [.raw .nilFunc] := ⟨by kernel_rfl⟩
instance : TyI Try.prog 163 4 true := ⟨by kernel_rfl, by kernel_rfl⟩
instance : FldI Try.prog 163 0 0 17 := ⟨by kernel_rfl, by kernel_rfl⟩
instance : FldI Try.prog 163 1 1 17 := ⟨by kernel_rfl, by kernel_rfl⟩
instance : FldI Try.prog 163 2 2 17 := ⟨by kernel_rfl, by kernel_rfl⟩
instance : FldI Try.prog 163 3 3 9 := ⟨by kernel_rfl, by kernel_rfl⟩
instance : ZI Try.prog 163 [.raw (.pointer none), .raw (.pointer none), .raw (.pointer none), .str .empty] := ⟨by kernel_rfl⟩
instance : BdI Try.prog 163 [.raw (.pointer none), .raw (.pointer none), .raw (.pointer none), .str .empty] [(0, 1), (1, 1), (2, 1), (3, 1)] := ⟨by kernel_rfl⟩
instance : TyI Try.prog 164 4 true := ⟨by kernel_rfl, by kernel_rfl⟩
instance : FldI Try.prog 164 0 0 17 := ⟨by kernel_rfl, by kernel_rfl⟩
instance : FldI Try.prog 164 1 1 17 := ⟨by kernel_rfl, by kernel_rfl⟩
instance : FldI Try.prog 164 2 2 17 := ⟨by kernel_rfl, by kernel_rfl⟩
instance : FldI Try.prog 164 3 3 9 := ⟨by kernel_rfl, by kernel_rfl⟩
instance : ZI Try.prog 164 [.raw (.pointer none), .raw (.pointer none), .raw (.pointer none), .str .empty] := ⟨by kernel_rfl⟩
instance : BdI Try.prog 164 [.raw (.pointer none), .raw (.pointer none), .raw (.pointer none), .str .empty] [(0, 1), (1, 1), (2, 1), (3, 1)] := ⟨by kernel_rfl⟩
instance : TyI Try.prog 165 0 true := ⟨by kernel_rfl, by kernel_rfl⟩
instance : ZI Try.prog 165 [] := ⟨by kernel_rfl⟩
instance : TyI Try.prog 166 0 true := ⟨by kernel_rfl, by kernel_rfl⟩
instance : ZI Try.prog 166 [] := ⟨by kernel_rfl⟩
instance : BdI Try.prog 166 [] [(0, 0)] := ⟨by kernel_rfl⟩
instance : TyI Try.prog 167 0 true := ⟨by kernel_rfl, by kernel_rfl⟩
instance : ZI Try.prog 167 [] := ⟨by kernel_rfl⟩
instance : BdI Try.prog 167 [] [(0, 0)] := ⟨by kernel_rfl⟩
instance : TyI Try.prog 168 1 false := ⟨by kernel_rfl, by kernel_rfl⟩
instance : ZI Try.prog 168 [.raw .nilFunc] := ⟨by kernel_rfl⟩
instance : TyI Try.prog 169 1 false := ⟨by kernel_rfl, by kernel_rfl⟩
instance : ZI Try.prog 169 [.int .u8 0] := ⟨by kernel_rfl⟩
instance : UI Try.prog 169 (.int .u8) := ⟨by kernel_rfl⟩
instance : TyI Try.prog 170 1 false := ⟨by kernel_rfl, by kernel_rfl⟩
instance : ZI Try.prog 170 [.int .u8 0] := ⟨by kernel_rfl⟩
instance : UI Try.prog 170 (.int .u8) := ⟨by kernel_rfl⟩
instance : TyI Try.prog 171 1 false := ⟨by kernel_rfl, by kernel_rfl⟩
instance : ZI Try.prog 171 [.raw .nilFunc] := ⟨by kernel_rfl⟩
instance : TyI Try.prog 172 1 false := ⟨by kernel_rfl, by kernel_rfl⟩
instance : ZI Try.prog 172 [.raw (.pointer none)] := ⟨by kernel_rfl⟩
instance : PtI Try.prog 172 := ⟨by kernel_rfl⟩
instance : TyI Try.prog 173 1 false := ⟨by kernel_rfl, by kernel_rfl⟩
instance : ZI Try.prog 173 [.int .i32 0] := ⟨by kernel_rfl⟩
instance : UI Try.prog 173 (.int .i32) := ⟨by kernel_rfl⟩
instance : TyI Try.prog 174 1 false := ⟨by kernel_rfl, by kernel_rfl⟩
instance : ZI Try.prog 174 [.int .i32 0] := ⟨by kernel_rfl⟩
instance : UI Try.prog 174 (.int .i32) := ⟨by kernel_rfl⟩
instance : TyI Try.prog 175 11 true := ⟨by kernel_rfl, by kernel_rfl⟩
instance : FldI Try.prog 175 0 0 12 := ⟨by kernel_rfl, by kernel_rfl⟩
instance : FldI Try.prog 175 1 1 12 := ⟨by kernel_rfl, by kernel_rfl⟩
instance : FldI Try.prog 175 2 2 147 := ⟨by kernel_rfl, by kernel_rfl⟩
instance : FldI Try.prog 175 3 3 169 := ⟨by kernel_rfl, by kernel_rfl⟩
instance : FldI Try.prog 175 4 4 5 := ⟨by kernel_rfl, by kernel_rfl⟩
instance : FldI Try.prog 175 5 5 5 := ⟨by kernel_rfl, by kernel_rfl⟩
instance : FldI Try.prog 175 6 6 170 := ⟨by kernel_rfl, by kernel_rfl⟩
instance : FldI Try.prog 175 7 7 171 := ⟨by kernel_rfl, by kernel_rfl⟩
instance : FldI Try.prog 175 8 8 172 := ⟨by kernel_rfl, by kernel_rfl⟩
instance : FldI Try.prog 175 9 9 173 := ⟨by kernel_rfl, by kernel_rfl⟩
instance : FldI Try.prog 175 10 10 174 := ⟨by kernel_rfl, by kernel_rfl⟩
instance : ZI Try.prog 175 [.int .u64 0, .int .u64 0, .int .u32 0, .int .u8 0, .int .u8 0, .int .u8 0, .int .u8 0, .raw .nilFunc, .raw (.pointer none), .int .i32 0, .int .i32 0] := ⟨by kernel_rfl⟩
instance : BdI Try.prog 175 [.int .u64 0, .int .u64 0, .int .u32 0, .int .u8 0, .int .u8 0, .int .u8 0, .int .u8 0, .raw .nilFunc, .raw (.pointer none), .int .i32 0, .int .i32 0] [(0, 1), (1, 1), (2, 1), (3, 1), (4, 1), (5, 1), (6, 1), (7, 1), (8, 1), (9, 1), (10, 1)] := ⟨by kernel_rfl⟩
instance : TyI Try.prog 176 11 true := ⟨by kernel_rfl, by kernel_rfl⟩
instance : FldI Try.prog 176 0 0 12 := ⟨by kernel_rfl, by kernel_rfl⟩
instance : FldI Try.prog 176 1 1 12 := ⟨by kernel_rfl, by kernel_rfl⟩
instance : FldI Try.prog 176 2 2 147 := ⟨by kernel_rfl, by kernel_rfl⟩
instance : FldI Try.prog 176 3 3 169 := ⟨by kernel_rfl, by kernel_rfl⟩
instance : FldI Try.prog 176 4 4 5 := ⟨by kernel_rfl, by kernel_rfl⟩
instance : FldI Try.prog 176 5 5 5 := ⟨by kernel_rfl, by kernel_rfl⟩
instance : FldI Try.prog 176 6 6 170 := ⟨by kernel_rfl, by kernel_rfl⟩
instance : FldI Try.prog 176 7 7 171 := ⟨by kernel_rfl, by kernel_rfl⟩
instance : FldI Try.prog 176 8 8 172 := ⟨by kernel_rfl, by kernel_rfl⟩
instance : FldI Try.prog 176 9 9 173 := ⟨by kernel_rfl, by kernel_rfl⟩
instance : FldI Try.prog 176 10 10 174 := ⟨by kernel_rfl, by kernel_rfl⟩
instance : ZI Try.prog 176 [.int .u64 0, .int .u64 0, .int .u32 0, .int .u8 0, .int .u8 0, .int .u8 0, .int .u8 0, .raw .nilFunc, .raw (.pointer none), .int .i32 0, .int .i32 0] := ⟨by kernel_rfl⟩
instance : BdI Try.prog 176 [.int .u64 0, .int .u64 0, .int .u32 0, .int .u8 0, .int .u8 0, .int .u8 0, .int .u8 0, .raw .nilFunc, .raw (.pointer none), .int .i32 0, .int .i32 0] [(0, 1), (1, 1), (2, 1), (3, 1), (4, 1), (5, 1), (6, 1), (7, 1), (8, 1), (9, 1), (10, 1)] := ⟨by kernel_rfl⟩
instance : TyI Try.prog 177 1 false := ⟨by kernel_rfl, by kernel_rfl⟩
instance : ZI Try.prog 177 [.raw (.pointer none)] := ⟨by kernel_rfl⟩
theorem fol : Try.prog.follows .mixedOrders = true := by kernel_rfl
theorem dOk {esc : Bool} {n : Nat} {fz : List Nat} (C : Cx) (h1 : C.P = Try.prog) (h2 : C.cfg = ⟨esc, n, fz⟩) : zgk C (zi9 Try.prog ⟨esc, n, fz⟩) := by
  have := zve (C := C) (by rw [h1]; exact fol)
  rw [h1, h2] at this; exact this
end Go.Sx
set_option linter.unusedVariables false
set_option linter.unusedSimpArgs false
set_option linter.unusedSectionVars false
set_option maxRecDepth 20000
namespace Go.Sx
open Go.Proofs
section
attribute [local irreducible] Ex zas exD opX opE zdd zfl zfs Spec zab Fr zda zbc zbb ckK zcd zc0 zbt faK zcs ze5 gK fK rK zg7 lpX prK
theorem zri (H : List (List AV)) (size off steps step more : Int) (h0 : 0 ≤ size) (hs : size ≤ 9223372036854775807) (h1 : 0 ≤ more) (h2 : 0 ≤ steps) (h3 : 1 ≤ step) (hm : more ≤ 2 ^ 63 - 1) (ho : off ≤ 2^63 -1) (ho' : -(2^63) ≤ off) (hst : step ≤ 2^63 - 1) :
    zab Try.prog 58 [.int .i64 size, .int .i64 off, .int .i64 steps, .int .i64 step, .int .i64 more] H (.bool (decide (0 ≤ off ∧ off < size ∧ more < size - off ∧ steps * step ≤ size - 1 - off - more))) H := by
  refine .go Try.call58 Try.func58 false [] dOk ?_
  simp only [zbf, Nat.reduceAdd]
  repeat' (first
 |(refine za1 ?_; (first | refine zce ?_ | refine zav ?_ | refine m13 ?_ | refine m12 ?_ | refine m11 ?_ | (refine m10 ?_; (first | refine zbr ?_ | refine zbm ?_ | refine zbq ?_ | refine zbn ?_ | refine zbp ?_ ?_ | refine zbo ?_ ?_ | refine zbl ?_ ?_ | refine zbk ?_ ?_ | fail)) | (refine m09 ?_; (first | refine zbr ?_ | refine zbm ?_ | refine zbq ?_ | refine zbn ?_ | refine zbp ?_ ?_ | refine zbo ?_ ?_ | refine zbl ?_ ?_ | refine zbk ?_ ?_ | fail)) | refine m38 ?_ | fail))
 |(refine za2 ?_; (first | refine m14 ?_ | (refine m00 ?_; (first | refine m47 ?_ | refine m48 ?_ | refine m49 ?_ | refine m50 ?_ | refine zww (by omega) (by omega) ?_ | refine v_k ?_ | refine m51 ?_ | fail)) | (refine m22 ?_; (first | refine m26 ?_ | refine m27 ?_ | fail)) | refine m42 ?_ | refine zad ?_ | refine zae ?_ | refine m08 ?_ | fail))
 |refine zaz ?_ | refine za0 ?_ | refine zay ?_
 |(refine za3 ?_; (first | refine zax ?_ | refine zac ?_ | (refine m06 ?_; (first | refine c_T ?_ | refine c_F ?_ | refine c_P ?_ ?_ | refine c_B ?_ ?_ | fail)) | refine zaw ?_ | refine zam ?_ | refine zaf ?_ | refine b_exit ?_ | fail))
 |refine m05 ?_
 |refine m04 ?_ | refine m02 ?_ | refine m03 ?_ | refine zan ?_
 |intro _)
  all_goals first | refine zao rfl (by simp [mx, mxL, aOf, zb5, zai]) ?_ | (trace_state; fail)
  all_goals first
    | exact rtF (by omega)
    | (refine rvP ?_; rw [Int.le_ediv_iff_mul_le (by omega)]; omega)
theorem zd0 (H : List (List AV)) (D : AV) (n : Nat) (off rows cols ld : Int) (hD : slen D = some n) (hI : MI n off rows cols ld) :
    zab Try.prog 30 [mt D off rows cols ld] H (.bool (decide (zaa n off rows cols ld))) H := by
  obtain ⟨hn, ho1, ho2, hr1, hr2, hc1, hc2, hl1, hl2⟩ := id hI
  refine .go Try.call30 Try.func30 false [] dOk ?_
  simp only [zbf, Nat.reduceAdd]
  repeat' (first
 |(refine za1 ?_; (first | refine zce ?_ | refine zav ?_ | refine m13 ?_ | refine m12 ?_ | refine m11 ?_ | (refine m10 ?_; (first | refine zbr ?_ | refine zbm ?_ | refine zbq ?_ | refine zbn ?_ | refine zbp ?_ ?_ | refine zbo ?_ ?_ | refine zbl ?_ ?_ | refine zbk ?_ ?_ | fail)) | (refine m09 ?_; (first | refine zbr ?_ | refine zbm ?_ | refine zbq ?_ | refine zbn ?_ | refine zbp ?_ ?_ | refine zbo ?_ ?_ | refine zbl ?_ ?_ | refine zbk ?_ ?_ | fail)) | refine m38 ?_ | fail))
 |(refine za2 ?_; (first | refine m14 ?_ | (refine m17 ?_; first | refine m19 ?_ | refine m18 ?_) | (refine m07 ?_; (first | refine m15 ?_ | refine m16 ?_ | fail)) | (refine m45 ?_; (first | refine zde (by exact rfl) ?_ | refine v_k ?_ | fail)) | (refine m00 ?_; (first | refine m52 ?_ | refine m53 ?_ | refine ze3 ?_ | refine m47 ?_ | refine m48 ?_ | refine m49 ?_ | refine m50 ?_ | refine v_k ?_ | refine m51 ?_ | fail)) | (refine m22 ?_; (first | refine m26 ?_ | refine m27 ?_ | fail)) | refine m42 ?_ | refine zad ?_ | refine zae ?_ | refine m08 ?_ | refine zar ?_ | refine zbu (by (conv => {lhs; whnf}); done) (by first | rfl | assumption) ?_ | refine m01 ?_ | fail))
 |refine zaz ?_ | refine za0 ?_ | refine zay ?_
 |(refine za3 ?_; (first | refine zax ?_ | refine zac ?_ | (refine m06 ?_; (first | refine c_T ?_ | refine c_F ?_ | refine c_P ?_ ?_ | refine c_B ?_ ?_ | fail)) | refine zaw ?_ | refine zam ?_ | refine zaf ?_ | refine b_exit ?_ | fail))
 |refine m21 ?_
 |refine zbi ?_
 |(refine zbj ?_; (first | refine c_call (zri _ _ _ _ _ _ (by omega) (by omega) (by omega) (by omega) (by omega) (by omega) (by omega) (by omega) (by omega)) (zb7.refl _ _) ?_ | fail))
 |refine m05 ?_
 |refine m04 ?_ | refine m02 ?_ | refine m03 ?_ | refine zan ?_
 |intro _)
  all_goals first | refine zao rfl (by simp [mx, mxL, aOf, zb5, zai]) ?_ | (trace_state; fail)
  all_goals first
    | exact rtF (by unfold zaa; omega)
    | exact rtT (by unfold zaa; omega)
    | exact rvP (by unfold zaa; omega)
theorem zo0 (H : List (List AV)) (D : AV) (n : Nat) (off rows cols ld : Int) (hD : slen D = some n) (hI : MI n off rows cols ld) :
    zab Try.prog 56 [mt D off rows cols ld] H (.tup [.int .i64 (sF n off rows cols ld), .int .i64 (sT n off rows cols ld), .bool (decide (zdn n off rows cols ld))]) H := by
  obtain ⟨hn, ho1, ho2, hr1, hr2, hc1, hc2, hl1, hl2⟩ := id hI
  refine .go Try.call56 Try.func56 false [] dOk ?_
  simp only [zbf, Nat.reduceAdd]
  repeat' (first
 |(refine za1 ?_; (first | refine zce ?_ | refine zav ?_ | refine m13 ?_ | refine m12 ?_ | refine m11 ?_ | (refine m10 ?_; (first | refine zbr ?_ | refine zbm ?_ | refine zbq ?_ | refine zbn ?_ | refine zbp ?_ ?_ | refine zbo ?_ ?_ | refine zbl ?_ ?_ | refine zbk ?_ ?_ | fail)) | (refine m09 ?_; (first | refine zbr ?_ | refine zbm ?_ | refine zbq ?_ | refine zbn ?_ | refine zbp ?_ ?_ | refine zbo ?_ ?_ | refine zbl ?_ ?_ | refine zbk ?_ ?_ | fail)) | refine m38 ?_ | fail))
 |(refine za2 ?_; (first | refine m14 ?_ | (refine m17 ?_; first | refine m19 ?_ | refine m18 ?_) | (refine m07 ?_; (first | refine m15 ?_ | refine m16 ?_ | fail)) | (refine m45 ?_; (first | refine v_w (by first | omega | (simp only [zaa, Decidable.not_not] at *; have hh := Int.mul_nonneg (show 0 ≤ cols - 1 by omega) (show 0 ≤ ld by omega); omega)) ?_ | refine zde (by exact rfl) ?_ | refine v_k ?_ | fail)) | (refine m00 ?_; (first | refine v_w (by first | omega | (simp only [zaa, Decidable.not_not] at *; have hh := Int.mul_nonneg (show 0 ≤ cols - 1 by omega) (show 0 ≤ ld by omega); omega)) ?_ | refine m52 ?_ | refine m53 ?_ | refine ze3 ?_ | refine m49 ?_ | refine m50 ?_ | refine zd3 ?_ | refine zd1 ?_ | refine zd2 ?_ | refine v_k ?_ | refine m51 ?_ | fail)) | (refine m22 ?_; (first | refine m26 ?_ | refine m27 ?_ | fail)) | refine m42 ?_ | refine zad ?_ | refine zae ?_ | refine m08 ?_ | (refine m20 ?_; (first | refine v_w (by first | omega | (simp only [zaa, Decidable.not_not] at *; have hh := Int.mul_nonneg (show 0 ≤ cols - 1 by omega) (show 0 ≤ ld by omega); omega)) ?_ | refine m52 ?_ | refine m53 ?_ | refine ze3 ?_ | refine m49 ?_ | refine m50 ?_ | refine zd3 ?_ | refine zd1 ?_ | refine zd2 ?_ | refine v_k ?_ | refine m51 ?_ | fail)) | refine zar ?_ | refine m01 ?_ | fail))
 |(refine zcy ?_; (first | refine m36 ?_ | refine zcw ?_ | refine m32 ?_ | refine m31 ?_ | refine m30 ?_ | (refine m28 ?_; (first | refine zb2 ?_ | refine zbx ?_ | refine zb1 ?_ | refine zby ?_ | refine zb0 ?_ ?_ | refine zbz ?_ ?_ | refine zbw ?_ ?_ | refine zbv ?_ ?_ | fail)) | (refine m29 ?_; (first | refine zb2 ?_ | refine zbx ?_ | refine zb1 ?_ | refine zby ?_ | refine zb0 ?_ ?_ | refine zbz ?_ ?_ | refine zbw ?_ ?_ | refine zbv ?_ ?_ | fail)) | refine m37 ?_ | fail))
 |(refine zcx ?_; (first | refine zgb ?_ | refine m34 ?_ | refine m35 ?_ | refine m33 ?_ | refine zgc ?_ | refine m56 ?_ | refine zcz ?_ | fail))
 |refine zaz ?_ | refine za0 ?_ | refine zay ?_
 |(refine za3 ?_; (first | refine zax ?_ | refine zac ?_ | (refine m06 ?_; (first | refine c_T ?_ | refine c_F ?_ | refine c_P ?_ ?_ | refine c_B ?_ ?_ | fail)) | refine zaw ?_ | refine zam ?_ | refine zaf ?_ | refine b_exit ?_ | refine zba [] [] [(0, .lt), (1, .ld true), (2, .lt), (3, .ld true), (4, .lt), (5, .ld true), (6, .lt), (7, .lt), (8, .ld true), (9, .lt), (10, .lt), (11, .lt), (12, .ld true), (13, .lt), (14, .lt), (15, .lt), (16, .lt), (17, .lt)] (by kernel_rfl) ?_ | fail))
 |refine m21 ?_
 |refine zbi ?_
 |(refine zbj ?_; (first | refine c_call (zd0 _ D n off rows cols ld hD hI) (zb7.refl _ _) ?_ | fail))
 |refine m05 ?_
 |refine m04 ?_ | refine m02 ?_ | refine m03 ?_ | refine zan ?_
 |intro _)
  all_goals first | refine zao rfl (by simp [mx, mxL, aOf, zb5, zai]) ?_ | (trace_state; fail)
  all_goals (unfold sF sT; simp only [zai, List.nil_append, List.cons_append, aOf, zb5])
  all_goals first
    | (have hp : ¬ zdn n off rows cols ld := by (unfold zdn; simp_all)
       rw [if_neg hp, if_neg hp, decide_eq_false hp]; done)
    | (have hp : zdn n off rows cols ld := by (unfold zdn; simp_all)
       rw [if_pos hp, if_pos hp, decide_eq_true hp]; done)
theorem zn1 (H : List (List AV)) (Da : AV) (na : Nat) (offa rowsa colsa lda : Int) (hDa : slen Da = some na) (hIa : MI na offa rowsa colsa lda) (Db : AV) (nb : Nat) (offb rowsb colsb ldb : Int) (hDb : slen Db = some nb) (hIb : MI nb offb rowsb colsb ldb) (pe : Bool) (hpe : 0 < na → 0 < nb → ptrEq H Da 0 Db 0 = some pe) :
    zab Try.prog 34 [mt Da offa rowsa colsa lda, mt Db offb rowsb colsb ldb] H (.bool (decide (zdn na offa rowsa colsa lda ∧ zdn nb offb rowsb colsb ldb ∧ pe = true ∧ sF na offa rowsa colsa lda ≤ sT nb offb rowsb colsb ldb ∧ sF nb offb rowsb colsb ldb ≤ sT na offa rowsa colsa lda))) H := by
  obtain ⟨hna, ho1a, ho2a, hr1a, hr2a, hc1a, hc2a, hl1a, hl2a⟩ := id hIa
  obtain ⟨hnb, ho1b, ho2b, hr1b, hr2b, hc1b, hc2b, hl1b, hl2b⟩ := id hIb
  refine .go Try.call34 Try.func34 false [] dOk ?_
  simp only [zbf, Nat.reduceAdd]
  repeat' (first
 |(refine za1 ?_; (first | refine zce ?_ | refine zav ?_ | refine m13 ?_ | refine m12 ?_ | refine m11 ?_ | (refine m10 ?_; (first | refine zbr ?_ | refine zbm ?_ | refine zbq ?_ | refine zbn ?_ | refine zbp ?_ ?_ | refine zbo ?_ ?_ | refine zbl ?_ ?_ | refine zbk ?_ ?_ | fail)) | (refine m09 ?_; (first | refine zbr ?_ | refine zbm ?_ | refine zbq ?_ | refine zbn ?_ | refine zbp ?_ ?_ | refine zbo ?_ ?_ | refine zbl ?_ ?_ | refine zbk ?_ ?_ | fail)) | refine m38 ?_ | fail))
 |(refine za2 ?_; (first | refine m14 ?_ | (refine m17 ?_; first | refine m19 ?_ | refine m18 ?_) | (refine m07 ?_; (first | refine m15 ?_ | refine m16 ?_ | fail)) | refine zus (by (conv => {lhs; whnf}); done) (by assumption) (zis (by assumption)) ?_ | refine zxf (by (conv => {lhs; whnf}); done) (by (conv => {lhs; whnf}); done) (by rw [List.append_nil]; exact hpe (zis (by assumption)) (zis (by assumption))) ?_ | (refine m45 ?_; (first | refine zde (by exact rfl) ?_ | refine v_k ?_ | fail)) | (refine m00 ?_; (first | refine m52 ?_ | refine m53 ?_ | refine ze3 ?_ | refine m47 ?_ | refine m48 ?_ | refine m49 ?_ | refine m50 ?_ | refine v_k ?_ | refine m51 ?_ | fail)) | (refine m22 ?_; (first | refine m26 ?_ | refine m27 ?_ | fail)) | refine m42 ?_ | refine zad ?_ | refine zae ?_ | refine m08 ?_ | refine zar ?_ | refine m23 ?_ | refine m01 ?_ | fail))
 |(refine zcy ?_; (first | refine m36 ?_ | refine zcw ?_ | refine m32 ?_ | refine m31 ?_ | refine m30 ?_ | (refine m28 ?_; (first | refine zb2 ?_ | refine zbx ?_ | refine zb1 ?_ | refine zby ?_ | refine zb0 ?_ ?_ | refine zbz ?_ ?_ | refine zbw ?_ ?_ | refine zbv ?_ ?_ | fail)) | (refine m29 ?_; (first | refine zb2 ?_ | refine zbx ?_ | refine zb1 ?_ | refine zby ?_ | refine zb0 ?_ ?_ | refine zbz ?_ ?_ | refine zbw ?_ ?_ | refine zbv ?_ ?_ | fail)) | refine m37 ?_ | fail))
 |(refine zcx ?_; (first | refine zgb ?_ | refine m34 ?_ | refine m35 ?_ | refine m33 ?_ | refine zgc ?_ | refine m56 ?_ | refine zcz ?_ | fail))
 |refine zaz ?_ | refine za0 ?_ | refine zay ?_
 |(refine za3 ?_; (first | refine zax ?_ | refine zac ?_ | (refine m06 ?_; (first | refine c_T ?_ | refine c_F ?_ | refine c_P ?_ ?_ | refine c_B ?_ ?_ | fail)) | refine zaw ?_ | refine zam ?_ | refine zaf ?_ | refine b_exit ?_ | refine zba [] [] [(0, .lt), (1, .lt), (2, .lt), (3, .lt), (4, .lt), (5, .lt), (6, .ld true), (7, .lt), (8, .lt), (9, .ld true), (10, .lt), (11, .ld true), (12, .lt), (13, .lt), (14, .lt), (15, .lt), (16, .lt), (17, .lt), (18, .lt), (19, .lt), (20, .lt), (21, .lt), (22, .lt), (23, .lt)] (by kernel_rfl) ?_ | fail))
 |refine m21 ?_
 |refine zbi ?_
 |(refine zbj ?_; (first | refine c_call (zo0 _ Da na offa rowsa colsa lda hDa hIa) (zb7.refl _ _) ?_ | refine c_call (zo0 _ Db nb offb rowsb colsb ldb hDb hIb) (zb7.refl _ _) ?_ | fail))
 |refine m05 ?_
 |refine m04 ?_ | refine m02 ?_ | refine m03 ?_ | refine zan ?_
 |intro _)
  all_goals first | refine zao rfl (by simp [mx, mxL, aOf, zb5, zai]) ?_ | (trace_state; fail)
  all_goals first
    | (refine rtF ?_; first | (simp_all; done) | (simp_all; omega))
    | (refine rvF ?_; first | (simp_all; done) | (simp_all; omega))
    | (refine rtT ?_; first | (simp_all; done) | (simp_all; omega))
    | (refine rvT ?_; first | (simp_all; done) | (simp_all; omega))
    | (refine rvP ?_; first | (simp_all; done) | (simp_all; omega))
theorem zrv (H : List (List AV)) (Da : AV) (na : Nat) (offa rowsa colsa lda : Int) (hDa : slen Da = some na) (hIa : MI na offa rowsa colsa lda) (Db : AV) (nb : Nat) (offb rowsb colsb ldb : Int) (hDb : slen Db = some nb) (hIb : MI nb offb rowsb colsb ldb) (hpe : 0 < na → 0 < nb → ptrEq H Da 0 Db 0 = some true) :
    zab Try.prog 34 [mt Da offa rowsa colsa lda, mt Db offb rowsb colsb ldb] H (.bool (decide (zdn na offa rowsa colsa lda ∧ zdn nb offb rowsb colsb ldb ∧ sF na offa rowsa colsa lda ≤ sT nb offb rowsb colsb ldb ∧ sF nb offb rowsb colsb ldb ≤ sT na offa rowsa colsa lda))) H := by
  have := zn1 H Da na offa rowsa colsa lda hDa hIa Db nb offb rowsb colsb ldb hDb hIb true hpe
  simpa using this
theorem zru (H : List (List AV)) (Da : AV) (na : Nat) (offa rowsa colsa lda : Int) (hDa : slen Da = some na) (hIa : MI na offa rowsa colsa lda) (Db : AV) (nb : Nat) (offb rowsb colsb ldb : Int) (hDb : slen Db = some nb) (hIb : MI nb offb rowsb colsb ldb) (hpe : 0 < na → 0 < nb → ptrEq H Da 0 Db 0 = some false) :
    zab Try.prog 34 [mt Da offa rowsa colsa lda, mt Db offb rowsb colsb ldb] H (.bool false) H := by
  have := zn1 H Da na offa rowsa colsa lda hDa hIa Db nb offb rowsb colsb ldb hDb hIb false hpe
  simpa using this
end
theorem zpl (b : Nat) (w : World) : (callFunc 64 #[.float .f64 b]).run Try.prog w = .ok (.value (.int .u64 b)) w := by
  rw [run_callFunc_extern (fn := Try.f64) Try.func64 (by kernel_rfl) (by kernel_rfl) (by kernel_rfl) (e := Extern.MathFloatBits.float64bits) (by kernel_rfl)]
  rfl
theorem zre (H : List (List AV)) (b : Nat) : zab Try.prog 64 [.fraw b] H (.int .u64 b) H := by
  refine .inr ⟨rfl, fun w g cargs h => ?_⟩
  simp only [za7] at h
  obtain ⟨v, r, hv, h1, rfl⟩ := h
  simp only [zah] at h1
  obtain ⟨rfl, _⟩ := h1
  have : cargs = #[.float .f64 b] := Array.ext' hv
  subst this
  exact ⟨_, zpl b w, by simp [zah]⟩
section
attribute [local irreducible] Ex zas exD opX opE zdd zfl zfs Spec zab Fr zda zbc zbb ckK zcd zc0 zbt faK zcs ze5 gK fK rK zg7 lpX prK
theorem ztp (H : List (List AV)) (b : Nat) (hb : b < 2 ^ 64) :
    zab Try.prog 63 [.fraw b] H (.tup [.bool (zyk b), .int .u64 (pM b), .int .i64 (pE b), .int .i64 (pK b)]) H := by
  refine .go Try.call63 Try.func63 false [] dOk ?_
  simp only [zbf, Nat.reduceAdd]
  repeat' (first
 |(refine za1 ?_; (first | refine zce ?_ | refine zav ?_ | refine m13 ?_ | refine m12 ?_ | refine m11 ?_ | (refine m10 ?_; (first | refine zbr ?_ | refine zbm ?_ | refine zbq ?_ | refine zbn ?_ | refine zbp ?_ ?_ | refine zbo ?_ ?_ | refine zbl ?_ ?_ | refine zbk ?_ ?_ | fail)) | (refine m09 ?_; (first | refine zbr ?_ | refine zbm ?_ | refine zbq ?_ | refine zbn ?_ | refine zbp ?_ ?_ | refine zbo ?_ ?_ | refine zbl ?_ ?_ | refine zbk ?_ ?_ | fail)) | refine m38 ?_ | fail))
 |(refine za2 ?_; (first | refine m14 ?_ | (refine m45 ?_; (first | refine zde (by exact rfl) ?_ | refine v_k ?_ | fail)) | (refine m00 ?_; (first | refine m52 ?_ | refine m53 ?_ | refine ze3 ?_ | refine m49 ?_ | refine m50 ?_ | refine zwy (by omega) (by decide) (by (conv => {lhs; simp [IntKind.bits]}); done) ?_ | refine zo7 (by omega) (by omega) ?_ | refine v_k ?_ | refine m51 ?_ | fail)) | (refine m22 ?_; (first | refine m26 ?_ | refine m27 ?_ | fail)) | refine m42 ?_ | refine zad ?_ | refine zae ?_ | refine m08 ?_ | refine zar ?_ | (refine m46 ?_; (first | refine m52 ?_ | refine m53 ?_ | refine ze3 ?_ | refine m49 ?_ | refine m50 ?_ | refine zwy (by omega) (by decide) (by (conv => {lhs; simp [IntKind.bits]}); done) ?_ | refine zo7 (by omega) (by omega) ?_ | refine v_k ?_ | refine m51 ?_ | fail)) | refine zuo (by (conv => {lhs; whnf}); done) (by exact rfl) ?_ | refine zsf (by (conv => {lhs; whnf}); done) ?_ | fail))
 |refine zaz ?_ | refine za0 ?_ | refine zay ?_
 |(refine za3 ?_; (first | refine zax ?_ | refine zac ?_ | (refine m06 ?_; (first | refine c_T ?_ | refine c_F ?_ | refine c_P ?_ ?_ | refine c_B ?_ ?_ | fail)) | refine zaw ?_ | refine zam ?_ | refine zaf ?_ | refine b_exit ?_ | fail))
 |refine m21 ?_
 |refine zbi ?_
 |(refine zbj ?_; (first | refine c_call (zre _ _) (zb7.refl _ _) ?_ | fail))
 |refine m05 ?_
 |refine m04 ?_ | refine m02 ?_ | refine m03 ?_ | refine zan ?_
 |intro _)
  all_goals first | refine zao rfl (by simp [mx, mxL, aOf, zb5, zai]) ?_ | (trace_state; fail)
  all_goals (simp only [zai, List.nil_append, List.cons_append, aOf, zb5, pM, pE, pK, zyk, pE₀, pM₀] at *; simp_all)
end
theorem zji (b : Nat) : isNaN b = true ↔ 9218868437227405312 < b % 9223372036854775808 := by
  have e1 : Ieee.double.signWeight = 9223372036854775808 := by decide
  have e2 : Ieee.double.binade = 4503599627370496 := by decide
  have e3 : Ieee.double.infRung = 9218868437227405312 := by decide
  unfold isNaN Ieee.Format.read
  simp only [e1, e2, e3]
  split
  · simp [Ieee.Datum.isNaN]; omega
  · split
    · simp [Ieee.Datum.isNaN]; omega
    · split
      · simp [Ieee.Datum.isNaN]; omega
      · simp [Ieee.Datum.isNaN]; omega
theorem zry (b : Nat) : pK b = 2 ↔ isNaN b = true := by
  rw [zji]
  unfold pK pE₀ pM₀
  split
  · omega
  · split <;> omega
theorem zk8 : isNaN qn = true := by rw [zji]; decide
theorem same_iff (b c : Nat) : ((b : Int) = c ∨ (pK b = 2 ∧ pK c = 2)) ↔ cn b = cn c := by
  rw [zry, zry]
  rcases zcv b with ⟨h1, h2⟩ | ⟨h1, h2⟩ <;> rcases zcv c with ⟨h3, h4⟩ | ⟨h3, h4⟩
  · simp [h1, h2, h3, h4]
  · rw [h2, h4, h1, h3]
    simp only [Bool.false_eq_true, and_false, or_false]
    constructor
    · intro h; have : b = c := by omega
      subst this; rw [h1] at h3; cases h3
    · intro h; rw [← h, zk8] at h3; cases h3
  · rw [h2, h4, h1, h3]
    simp only [Bool.false_eq_true, false_and, or_false]
    constructor
    · intro h; have : b = c := by omega
      subst this; rw [h1] at h3; cases h3
    · intro h; rw [h, zk8] at h1; cases h1
  · rw [h2, h4, h1, h3]
    simp only [Bool.false_eq_true, and_false, or_false]
    omega
section
attribute [local irreducible] Ex zas exD opX opE zdd zfl zfs Spec zab Fr zda zbc zbb ckK zcd zc0 zbt faK zcs ze5 gK fK rK zg7 lpX prK
theorem zwm (H : List (List AV)) (x y : Nat) :
    zab Try.prog 37 [.flt x, .flt y] H (.bool (decide (x = y))) H := by
  refine .mk (fun args w => Try.call37 args w) (Spec.raw2 (fun b c hb hbx hc hcy => Spec.intro' (fn := Try.f37) Try.func37 rfl (by kernel_rfl) (by simp) false [] (draw := zi9 Try.prog ⟨false, _, []⟩) dOk ?_))
  simp only [zbf, Nat.reduceAdd]
  repeat' (first
 |(refine za1 ?_; (first | refine zce ?_ | refine zav ?_ | refine m13 ?_ | refine m12 ?_ | refine m11 ?_ | (refine m10 ?_; (first | refine zbr ?_ | refine zbm ?_ | refine zbq ?_ | refine zbn ?_ | refine zbp ?_ ?_ | refine zbo ?_ ?_ | refine zbl ?_ ?_ | refine zbk ?_ ?_ | fail)) | (refine m09 ?_; (first | refine zbr ?_ | refine zbm ?_ | refine zbq ?_ | refine zbn ?_ | refine zbp ?_ ?_ | refine zbo ?_ ?_ | refine zbl ?_ ?_ | refine zbk ?_ ?_ | fail)) | refine m38 ?_ | fail))
 |(refine za2 ?_; (first | refine m14 ?_ | (refine m45 ?_; (first | refine zde (by exact rfl) ?_ | refine v_k ?_ | fail)) | (refine m00 ?_; (first | refine m52 ?_ | refine m53 ?_ | refine ze3 ?_ | refine m49 ?_ | refine m50 ?_ | refine v_k ?_ | refine m51 ?_ | fail)) | (refine m22 ?_; (first | refine m26 ?_ | refine m27 ?_ | fail)) | refine m42 ?_ | refine zad ?_ | refine zae ?_ | refine m08 ?_ | refine zar ?_ | refine m23 ?_ | fail))
 |refine zaz ?_ | refine za0 ?_ | refine zay ?_
 |(refine za3 ?_; (first | refine zax ?_ | refine zac ?_ | (refine m06 ?_; (first | refine c_T ?_ | refine c_F ?_ | refine c_P ?_ ?_ | refine c_B ?_ ?_ | fail)) | refine zaw ?_ | refine zam ?_ | refine zaf ?_ | refine b_exit ?_ | fail))
 |refine m21 ?_
 |refine zbi ?_
 |(refine zbj ?_; (first | refine c_call (zre _ _) (zb7.refl _ _) ?_ | refine c_call (ztp _ _ (by assumption)) (zb7.refl _ _) ?_ | fail))
 |refine m05 ?_
 |refine m04 ?_ | refine m02 ?_ | refine m03 ?_ | refine zan ?_
 |intro _)
  all_goals first | refine zao rfl (by simp [mx, mxL, aOf, zb5, zai]) ?_ | (trace_state; fail)
  all_goals (subst hbx hcy; have hs := same_iff b c)
  all_goals (simp only [zai, List.nil_append, List.cons_append, aOf, zb5] at *)
  all_goals first
    | (refine rvF ?_; first | (simp_all; done) | (simp_all; omega))
    | (refine rvT ?_; first | (simp_all; done) | (simp_all; omega))
    | (refine rvP ?_; first | (simp_all; done) | (simp_all; omega))
    | trace_state
theorem zw8 (H : List (List AV)) (Da : AV) (la : List Nat) (hFa : FL H Da la) (hBa : la.length ≤ 2 ^ 48) (Db : AV) (lb : List Nat) (hFb : FL H Db lb) (hBb : lb.length ≤ 2 ^ 48) :
    zab Try.prog 14 [Da, Db] H (.bool (decide (la = lb))) H := by
  obtain ⟨N, hN1, hN2, hN3⟩ := zhj la lb
  refine .go Try.call14 Try.func14 false [] dOk ?_
  simp only [zbf, Nat.reduceAdd]
  repeat' (first
 |(refine za1 ?_; (first | refine zce ?_ | refine zav ?_ | fail))
 |(refine za2 ?_; (first | refine m14 ?_ | (refine m07 ?_; (first | refine m15 ?_ | refine m16 ?_ | refine zrp (FL.app hFa _) (by omega) ?_ | refine zrp (FL.app hFb _) (by omega) ?_ | fail)) | refine zi2 (by (conv => {lhs; whnf}); done) (by (conv => {lhs; whnf}); done) (by exact hFa.len) (by omega) ?_ | refine zi2 (by (conv => {lhs; whnf}); done) (by (conv => {lhs; whnf}); done) (by exact hFb.len) (by omega) ?_ | refine zbu (by (conv => {lhs; whnf}); done) (by exact hFa.len) ?_ | refine zbu (by (conv => {lhs; whnf}); done) (by exact hFb.len) ?_ | (refine m00 ?_; (first | refine m54 ?_ | refine m55 ?_ | refine zcb ?_ | refine m47 ?_ | refine m48 ?_ | refine m49 ?_ | refine m50 ?_ | refine zd3 ?_ | refine zd1 ?_ | refine zd2 ?_ | refine v_k ?_ | refine m51 ?_ | fail)) | refine m42 ?_ | refine zad ?_ | refine zae ?_ | refine m08 ?_ | (refine m20 ?_; (first | refine m54 ?_ | refine m55 ?_ | refine zcb ?_ | refine m47 ?_ | refine m48 ?_ | refine m49 ?_ | refine m50 ?_ | refine zd3 ?_ | refine zd1 ?_ | refine zd2 ?_ | refine v_k ?_ | refine m51 ?_ | fail)) | refine zar ?_ | refine zbu (by (conv => {lhs; whnf}); done) (by first | rfl | assumption) ?_ | fail))
 |(refine zcy ?_; (first | refine m36 ?_ | refine zcw ?_ | fail))
 |(refine zcx ?_; (first | refine zgb ?_ | refine m34 ?_ | refine m35 ?_ | refine m33 ?_ | refine zgc ?_ | refine m56 ?_ | refine zcz ?_ | fail))
 |refine zaz ?_ | refine za0 ?_ | refine zay ?_
 |(refine za3 ?_; (first | refine zax ?_ | refine zac ?_ | (refine m06 ?_; (first | refine c_T ?_ | refine c_F ?_ | refine c_P ?_ ?_ | refine c_B ?_ ?_ | fail)) | refine zaw ?_ | refine zam ?_ | refine zaf ?_ | refine b_exit ?_ | refine zba [] [] [(0, .lt), (1, .lt), (2, .lt), (3, .ld true), (4, .lt), (5, .lt), (6, .lt), (7, .ld true), (8, .mn true), (9, .lt)] (by kernel_rfl) ?_ | (refine zb3 [5, 0, 1] N (fun k => ⟨[(5, .val (.int .i64 (k : Int))), (0, .val Da), (1, .val Db)], [], H ++ []⟩) (by exact rfl) ?_ ?_ <;> (first | intro k hk K hK | intro K) <;> (try dsimp only at *) <;> (try simp only [Int.natCast_add, Int.natCast_one] at *)) | fail))
 |refine m21 ?_
 |refine zbi ?_
 |(refine zbj ?_; (first | refine c_call (zwm _ _ _) (zb7.refl _ _) ?_ | fail))
 |refine zc7 ?_ | refine zc8 ?_ | refine zc6 ?_ | refine m57 ?_
 |refine zkg ?_ | refine zkh ?_ | refine zkf ?_
 |(refine zkk (by exact rfl) ?_; first | exact hK | (exfalso; first | omega | (simp_all; done) | (simp_all; omega)))
 |refine m05 ?_
 |refine m04 ?_ | refine m02 ?_ | refine m03 ?_ | refine zan ?_
 |intro _)
  all_goals first | refine zao rfl (by simp [mx, mxL, aOf, zb5, zai]) ?_ | (trace_state; fail)
  all_goals first
    | (refine rtF (fun h => ?_); subst h; first | contradiction | omega | (simp_all; done))
    | (refine rtT (zl8 (by omega) (fun k hk => hN2 k (by omega))))
theorem zb9 (H H' : List (List AV)) (D : AV) (l : List Nat) (hF : FL H D l) (hB : l.length ≤ 2 ^ 30) (off rows cols ld : Int) (m : Nat) (hm : H.length = m) (hH : H ++ [fl l] = H') :
    zab Try.prog 9 [mt D off rows cols ld] H (mt (.slm m l.length 0 l.length 1) off rows cols ld) H' := by
  subst hH hm
  refine .go Try.call9 Try.func9 false [] dOk ?_
  simp only [zbf, Nat.reduceAdd]
  repeat' (first
 |(refine za1 ?_; (first | refine zce ?_ | refine zav ?_ | fail))
 |(refine za2 ?_; (first | (refine m17 ?_; first | refine m19 ?_ | refine m18 ?_) | (refine m07 ?_; (first | refine m15 ?_ | refine m16 ?_ | fail)) | refine zmx (by exact rfl) (by exact rfl) (by decide) (by exact rfl) (by (conv => {lhs; whnf}); done) ?_ | refine zi0 (by (conv => {lhs; whnf}); done) (by (conv => {lhs; whnf}); done) (by exact rfl) (by exact rfl) (by exact zo3 hF) (by simp) (by exact rfl) (by simp; omega) (.inl (Nat.le_refl _)) (by exact rfl) (by (conv => {lhs; simp only [List.nil_append, zrj, zrm]}); done) (by (conv => {lhs; simp only [List.set_cons_zero, List.set_cons_succ]}); done) (by (conv => {lhs; simp only [zjb, zeu, List.length_append, List.length_nil, Nat.zero_add]}); done) (by (conv => {lhs; simp only [Nat.zero_add]}); done) ?_ | refine m25 ?_ | refine m01 ?_ | refine m24 ?_ | refine zi1 (by exact rfl) (by exact rfl) (by decide) ?_ | fail))
 |refine zaz ?_ | refine za0 ?_ | refine zay ?_
 |(refine za3 ?_; (first | refine zax ?_ | refine zac ?_ | (refine m06 ?_; (first | refine c_T ?_ | refine c_F ?_ | refine c_P ?_ ?_ | refine c_B ?_ ?_ | fail)) | refine zaw ?_ | refine zam ?_ | refine zaf ?_ | refine b_exit ?_ | fail))
 |refine m44 ?_
 |refine m40 ?_
 |(refine ze0 (by (conv => {lhs; simp only [List.nil_append, List.cons_append]}); done) ?_; first | refine ⟨by exact rfl, ?_⟩ | skip)
 |refine zfx ?_
 |(intro N' hN'; simp only [List.nil_append, List.cons_append] at hN'; subst hN')
 |refine m05 ?_
 |refine m04 ?_ | refine m02 ?_ | refine m03 ?_ | refine zan ?_
 |(refine ⟨by simp [zqc], fun N' hN' => ?_⟩; simp only [List.nil_append, List.cons_append] at hN'; subst hN')
 |intro _)
  all_goals first
    | exact zqp (j := 0) (cs := fl l) rfl rfl (by rw [zcl]; exact Nat.zero_le _) (Fr.agg (Frs.cons (Fr.kp (j := 0) (cs := fl l) rfl (zau rfl rfl) (zjb l)) (Frs.old (by simp [mxL, mx]))))
theorem zq3 (H : List (List AV)) (n off a b c : Int) (hn0 : 0 ≤ n) (hn : n ≤ 9223372036854775807) (h1 : 0 ≤ off) (h2 : 0 ≤ a) (h3 : 0 ≤ b) (h4 : 0 ≤ c) (ho : off ≤ 9223372036854775807) (ha : a ≤ 9223372036854775807) (hb : b ≤ 9223372036854775807) (hc : c ≤ 9223372036854775807) :
    zab Try.prog 49 [.int .i64 n, .int .i64 off, .int .i64 a, .int .i64 b, .int .i64 c] H (.bool (decide (off < n ∧ c < n - off ∧ a * b ≤ n - off - c - 1))) H := by
  refine .go Try.call49 Try.func49 false [] dOk ?_
  simp only [zbf, Nat.reduceAdd]
  repeat' (first
 |(refine za1 ?_; (first | refine zce ?_ | refine zav ?_ | refine m13 ?_ | refine m12 ?_ | refine m11 ?_ | (refine m10 ?_; (first | refine zbr ?_ | refine zbm ?_ | refine zbq ?_ | refine zbn ?_ | refine zbp ?_ ?_ | refine zbo ?_ ?_ | refine zbl ?_ ?_ | refine zbk ?_ ?_ | fail)) | (refine m09 ?_; (first | refine zbr ?_ | refine zbm ?_ | refine zbq ?_ | refine zbn ?_ | refine zbp ?_ ?_ | refine zbo ?_ ?_ | refine zbl ?_ ?_ | refine zbk ?_ ?_ | fail)) | refine m38 ?_ | fail))
 |(refine za2 ?_; (first | refine m14 ?_ | (refine m45 ?_; (first | refine zde (by exact rfl) ?_ | refine v_k ?_ | fail)) | (refine m00 ?_; (first | refine m52 ?_ | refine m53 ?_ | refine ze3 ?_ | refine m47 ?_ | refine m48 ?_ | refine m49 ?_ | refine m50 ?_ | refine zww (by omega) (by omega) ?_ | refine v_k ?_ | refine m51 ?_ | fail)) | (refine m22 ?_; (first | refine m26 ?_ | refine m27 ?_ | fail)) | refine m42 ?_ | refine zad ?_ | refine zae ?_ | refine m08 ?_ | fail))
 |refine zaz ?_ | refine za0 ?_ | refine zay ?_
 |(refine za3 ?_; (first | refine zax ?_ | refine zac ?_ | (refine m06 ?_; (first | refine c_T ?_ | refine c_F ?_ | refine c_P ?_ ?_ | refine c_B ?_ ?_ | fail)) | refine zaw ?_ | refine zam ?_ | refine zaf ?_ | refine b_exit ?_ | fail))
 |refine m05 ?_
 |refine m04 ?_ | refine m02 ?_ | refine m03 ?_ | refine zan ?_
 |intro _)
  all_goals first | refine zao rfl (by simp [mx, mxL, aOf, zb5, zai]) ?_ | (trace_state; fail)
  all_goals first
    | exact rtF (by omega)
    | (refine rtT ?_; subst a; simp; omega)
    | (refine rvT ?_; simp_all; omega)
    | (refine rvP ?_; rw [Int.le_ediv_iff_mul_le (by omega), Int.mul_comm]; omega)
theorem zgu (H : List (List AV)) (D : AV) (n : Nat) (off rows cols ld : Int) (hD : slen D = some n) (hI : MI n off rows cols ld) :
    zab Try.prog 21 [mt D off rows cols ld] H (.bool (decide (zaa n off rows cols ld))) H := by
  obtain ⟨hn, ho1, ho2, hr1, hr2, hc1, hc2, hl1, hl2⟩ := id hI
  refine .go Try.call21 Try.func21 false [] dOk ?_
  simp only [zbf, Nat.reduceAdd]
  repeat' (first
 |(refine za1 ?_; (first | refine zce ?_ | refine zav ?_ | refine m13 ?_ | refine m12 ?_ | refine m11 ?_ | (refine m10 ?_; (first | refine zbr ?_ | refine zbm ?_ | refine zbq ?_ | refine zbn ?_ | refine zbp ?_ ?_ | refine zbo ?_ ?_ | refine zbl ?_ ?_ | refine zbk ?_ ?_ | fail)) | (refine m09 ?_; (first | refine zbr ?_ | refine zbm ?_ | refine zbq ?_ | refine zbn ?_ | refine zbp ?_ ?_ | refine zbo ?_ ?_ | refine zbl ?_ ?_ | refine zbk ?_ ?_ | fail)) | refine m38 ?_ | fail))
 |(refine za2 ?_; (first | refine m14 ?_ | (refine m17 ?_; first | refine m19 ?_ | refine m18 ?_) | (refine m07 ?_; (first | refine m15 ?_ | refine m16 ?_ | fail)) | (refine m45 ?_; (first | refine zde (by exact rfl) ?_ | refine v_k ?_ | fail)) | (refine m00 ?_; (first | refine m52 ?_ | refine m53 ?_ | refine ze3 ?_ | refine m47 ?_ | refine m48 ?_ | refine m49 ?_ | refine m50 ?_ | refine v_k ?_ | refine m51 ?_ | fail)) | (refine m22 ?_; (first | refine m26 ?_ | refine m27 ?_ | fail)) | refine m42 ?_ | refine zad ?_ | refine zae ?_ | refine m08 ?_ | refine zar ?_ | refine zbu (by (conv => {lhs; whnf}); done) (by first | rfl | assumption) ?_ | refine m01 ?_ | fail))
 |refine zaz ?_ | refine za0 ?_ | refine zay ?_
 |(refine za3 ?_; (first | refine zax ?_ | refine zac ?_ | (refine m06 ?_; (first | refine c_T ?_ | refine c_F ?_ | refine c_P ?_ ?_ | refine c_B ?_ ?_ | fail)) | refine zaw ?_ | refine zam ?_ | refine zaf ?_ | refine b_exit ?_ | fail))
 |refine m21 ?_
 |refine zbi ?_
 |(refine zbj ?_; (first | refine c_call (zq3 _ _ _ _ _ _ (by omega) (by omega) (by omega) (by omega) (by omega) (by omega) (by omega) (by omega) (by omega) (by omega)) (zb7.refl _ _) ?_ | fail))
 |refine m05 ?_
 |refine m04 ?_ | refine m02 ?_ | refine m03 ?_ | refine zan ?_
 |intro _)
  all_goals first | refine zao rfl (by simp [mx, mxL, aOf, zb5, zai]) ?_ | (trace_state; fail)
  all_goals first
    | exact rtF (by unfold zaa; omega)
    | exact rtT (by unfold zaa; omega)
    | exact rvP (by unfold zaa; omega)
theorem zh0 (H H' : List (List AV)) (r c : Nat) (hr : r ≤ 64) (hc : c ≤ 64) (D : AV) (l : List Nat) (hF : FL H D l) (hB : l.length ≤ 2 ^ 30) (m : Nat) (hm : H.length = m) (hH : H ++ [fl (za5 r c l)] = H') :
    zab Try.prog 29 [.int .i64 (r : Int), .int .i64 (c : Int), D] H (mt (.slm m (r * c) 0 (r * c) 1) 0 r c ((max r 1 : Nat) : Int)) H' := by
  subst hH hm
  obtain ⟨D', hs, hF'⟩ := hF.slc (Nat.zero_le (min l.length (r * c))) (Nat.min_le_left _ _)
  simp only [List.drop_zero, Nat.sub_zero] at hF'
  have hql : (l.take (min l.length (r * c))).length = min l.length (r * c) := by rw [List.length_take]; omega
  have hrc : r * c ≤ 4096 := by have := Nat.mul_le_mul hr hc; omega
  have hmin : min (l.length : Int) ((r * c : Nat) : Int) = ((min l.length (r * c) : Nat) : Int) := by omega
  have hmax : max (r : Int) 1 = ((max r 1 : Nat) : Int) := by omega
  have hmax2 : max r 1 ≤ 64 := by omega
  have hdiv : ∀ k, k < r * c → 0 < c ∧ k / c ≤ 4096 ∧ k % c ≤ 64 ∧ k % c * max r 1 ≤ 4096 ∧ k / c + k % c * max r 1 < r * c := fun k hk => by
    have hc0 : 0 < c := by rcases Nat.eq_zero_or_pos c with h0 | h0; · subst h0; simp at hk
                           · exact h0
    have h1 := Nat.div_le_self k c
    have h2 := Nat.mod_lt k hc0
    have h3 := zvc hk
    unfold dIx at h3
    exact ⟨hc0, by omega, by omega, by have := Nat.mul_le_mul (show k % c ≤ 64 by omega) hmax2; omega, h3⟩
  generalize hl' : l.take (min l.length (r * c)) = l' at hF' hql
  have hH0 : fl (List.replicate (r * c) 0) = fl (zd9 r c l' 0) := rfl
  have hdl : za5 r c l = zd9 r c l' (min l.length (r * c)) := by rw [za5, hl']
  refine .go Try.call29 Try.func29 false [] dOk ?_
  simp only [zbf, Nat.reduceAdd]
  repeat' (first
 |(refine za1 ?_; (first | refine zce ?_ | refine zav ?_ | refine m13 ?_ | refine m12 ?_ | refine m11 ?_ | (refine m10 ?_; (first | refine zbr ?_ | refine zbm ?_ | refine zbq ?_ | refine zbn ?_ | refine zbp ?_ ?_ | refine zbo ?_ ?_ | refine zbl ?_ ?_ | refine zbk ?_ ?_ | fail)) | (refine m09 ?_; (first | refine zbr ?_ | refine zbm ?_ | refine zbq ?_ | refine zbn ?_ | refine zbp ?_ ?_ | refine zbo ?_ ?_ | refine zbl ?_ ?_ | refine zbk ?_ ?_ | fail)) | refine m38 ?_ | fail))
 |(refine za2 ?_; (first | refine m41 ?_ | refine zc9 ?_ | refine m14 ?_ | (refine m17 ?_; first | refine m19 ?_ | refine m18 ?_) | (refine m07 ?_; (first | refine m15 ?_ | refine m16 ?_ | refine zrp (FL.app hF' _) (by omega) ?_ | fail)) | refine zi2 (by (conv => {lhs; whnf}); done) (by (conv => {lhs; whnf}); done) (by exact hF'.len) (by omega) ?_ | refine zi2 (by (conv => {lhs; whnf}); done) (by (conv => {lhs; whnf}); done) (by exact rfl) (by (have hd := hdiv k (by omega); omega)) ?_ | refine zbu (by (conv => {lhs; whnf}); done) (by exact hF.len) ?_ | refine zbu (by (conv => {lhs; whnf}); done) (by exact hF'.len.trans (congrArg some hql)) ?_ | refine zuv (by (conv => {lhs; whnf}); done) (by (conv => {lhs; whnf}); done) (by exact rfl) (by (conv => {lhs; whnf}); done) (by (conv => {lhs; simp only [List.nil_append, List.cons_append]}); done) (by exact rfl) (by omega) ?_ | refine zuz (by (conv => {lhs; whnf}); done) (by exact hF.len) (by (conv => {lhs; whnf}); done) (by (conv => {lhs; whnf}); done) (by omega) (by exact hs) ?_ | refine zu3 (by (conv => {lhs; whnf}); done) (by (conv => {lhs; whnf}); done) (by exact rfl) (by exact rfl) (by simp) (by simp; (have hd := hdiv k (by omega); omega)) (m' := zd9 r c l' (k + 1)) (by rw [Nat.zero_add]; rfl) (by (conv => {lhs; simp only [List.set_cons_zero, List.set_cons_succ]}); done) ?_ | (refine m00 ?_; (first | refine zls (by first | omega | (have hd := hdiv k (by omega); omega)) ?_ | refine zlt (by first | omega | (have hd := hdiv k (by omega); omega)) ?_ | refine zwx (by first | omega | (have hd := hdiv k (by omega); omega)) (by omega) ?_ | refine zwv (by first | omega | (have hd := hdiv k (by omega); omega)) ?_ | refine m47 ?_ | refine m48 ?_ | refine m49 ?_ | refine m50 ?_ | refine zo7 (by omega) (by omega) ?_ | refine zww (by omega) (by omega) ?_ | refine v_k ?_ | refine m51 ?_ | fail)) | (refine m22 ?_; (first | refine m26 ?_ | refine m27 ?_ | fail)) | refine m08 ?_ | refine zbu (by (conv => {lhs; whnf}); done) (by first | rfl | assumption) ?_ | refine m25 ?_ | refine m24 ?_ | refine zca ?_ | refine zky (by first | (conv => {lhs; whnf}; done) | exact (by exact rfl) | fail) (by first | (conv => {lhs; whnf}; done) | exact (by exact rfl) | fail) (by first | assumption | exact rfl) ?_ | refine zrb (by first | (conv => {lhs; whnf}; done) | exact (by exact rfl) | fail) (by first | (conv => {lhs; whnf}; done) | exact (by exact rfl) | fail) (by first | assumption | exact rfl) ?_ | fail))
 |(refine zcy ?_; (first | refine m36 ?_ | refine zcw ?_ | refine m32 ?_ | refine m31 ?_ | refine m30 ?_ | (refine m28 ?_; (first | refine zb2 ?_ | refine zbx ?_ | refine zb1 ?_ | refine zby ?_ | refine zb0 ?_ ?_ | refine zbz ?_ ?_ | refine zbw ?_ ?_ | refine zbv ?_ ?_ | fail)) | (refine m29 ?_; (first | refine zb2 ?_ | refine zbx ?_ | refine zb1 ?_ | refine zby ?_ | refine zb0 ?_ ?_ | refine zbz ?_ ?_ | refine zbw ?_ ?_ | refine zbv ?_ ?_ | fail)) | refine m37 ?_ | fail))
 |(refine zcx ?_; (first | refine zgb ?_ | refine zh9 ?_ | refine zia (by (conv => {lhs; whnf}); done) ?_ | refine zib ?_ | refine zh8 (by exact rfl) (by exact rfl) ?_ | refine m34 ?_ | refine m35 ?_ | refine m33 ?_ | refine zgc ?_ | refine m56 ?_ | refine zcz ?_ | refine zdr (by exact rfl) ?_ | fail))
 |refine zaz ?_ | refine za0 ?_ | refine zay ?_
 |(refine za3 ?_; (first | refine zax ?_ | refine zac ?_ | (refine m06 ?_; (first | refine c_T ?_ | refine c_F ?_ | refine c_P ?_ ?_ | refine c_B ?_ ?_ | fail)) | refine zaw ?_ | refine zam ?_ | refine zaf ?_ | refine b_exit ?_ | refine zba (id := 7) [] [14] [(0, .lt), (1, .ld true), (2, .lt), (3, .lt), (4, .lt), (5, .lt), (6, .lt), (7, .lt), (8, .lt), (9, .ld true), (10, .lt), (11, .lt), (12, .lt), (13, .lt), (14, .mn false)] (by kernel_rfl) ?_ | (refine zb3 [43, 41, 42, 1, 7, 6] (min l.length (r * c)) (fun k => ⟨[(43, .val (.int .i64 (k : Int))), (41, .val D'), (42, .val (.int .i64 ((min l.length (r * c) : Nat) : Int))), (1, .val (.int .i64 (c : Int))), (7, .loc 7 0), (6, .loc 6 0)], [(7, [.slm (H.length + 0) (r * c) 0 (r * c) 1, .int .i64 0, .int .i64 (r : Int), .int .i64 (c : Int), .int .i64 ((max r 1 : Nat) : Int)]), (6, [.slnil, .int .i64 0, .int .i64 0, .int .i64 0, .int .i64 0])], H ++ [fl (zd9 r c l' k)]⟩) (by exact rfl) ?_ ?_ <;> (first | intro k hk K hK | intro K) <;> (try dsimp only at *) <;> (try simp only [Int.natCast_add, Int.natCast_one] at *)) | fail))
 |refine m58 ?_
 |refine zdb ?_
 |refine zc7 ?_ | refine zc8 ?_ | refine zc6 ?_ | refine m57 ?_
 |refine zkg ?_ | refine zkh ?_ | refine zkf ?_
 |(refine zkk (by exact rfl) ?_; first | exact hK | (exfalso; first | omega | (simp_all; done) | (simp_all; omega)))
 |refine m05 ?_
 |refine m04 ?_ | refine m02 ?_ | refine m03 ?_ | refine zan ?_
 |intro _)
  all_goals first
    | (rw [hdl]; exact zqp (j := 0) (cs := fl (zd9 r c l' (min l.length (r * c)))) rfl rfl (by rw [zcl]; exact Nat.zero_le _) (Fr.agg (Frs.cons (Fr.kp (j := 0) (cs := fl (zd9 r c l' (min l.length (r * c)))) rfl (zau rfl rfl) (by simp)) (Frs.old (by simp [mxL, mx])))))
end
theorem zey (H : List (List AV)) (Da : AV) (la : List Nat) (hFa : FL H Da la) (hBa : la.length ≤ 2 ^ 48) (Db : AV) (lb : List Nat) (hFb : FL H Db lb) (h : la = lb) : zab Try.prog 14 [Da, Db] H (.bool true) H := by
  have := zw8 H Da la hFa hBa Db lb hFb (by rw [← h]; exact hBa)
  rwa [decide_eq_true h] at this
section
attribute [local irreducible] Ex zas exD opX opE zdd zfl zfs Spec zab Fr zda zbc zbb ckK zcd zc0 zbt faK zcs ze5 gK fK rK zg7 lpX prK
theorem ztx (H : List (List AV)) (D : AV) (l : List Nat) (hF : FL H D l) (off n inc : Int) (hI : VI l.length off n inc) :
    zab Try.prog 82 [vt D off n inc] H (.bool (decide (zaq l.length off n inc))) H := by
  obtain ⟨hm, ho1, ho2, hn1, hn2, hi1, hi2⟩ := id hI
  refine .go Try.call82 Try.func82 false [] dOk ?_
  simp only [zbf, Nat.reduceAdd]
  repeat' (first
 |(refine za1 ?_; (first | refine zce ?_ | refine zav ?_ | refine m13 ?_ | refine m12 ?_ | refine m11 ?_ | (refine m10 ?_; (first | refine zbr ?_ | refine zbm ?_ | refine zbq ?_ | refine zbn ?_ | refine zbp ?_ ?_ | refine zbo ?_ ?_ | refine zbl ?_ ?_ | refine zbk ?_ ?_ | fail)) | (refine m09 ?_; (first | refine zbr ?_ | refine zbm ?_ | refine zbq ?_ | refine zbn ?_ | refine zbp ?_ ?_ | refine zbo ?_ ?_ | refine zbl ?_ ?_ | refine zbk ?_ ?_ | fail)) | refine m38 ?_ | fail))
 |(refine za2 ?_; (first | refine m14 ?_ | (refine m17 ?_; first | refine m19 ?_ | refine m18 ?_) | (refine m07 ?_; (first | refine m15 ?_ | refine m16 ?_ | fail)) | refine zbu (by (conv => {lhs; whnf}); done) (by exact hF.len) ?_ | (refine m45 ?_; (first | refine zde (by exact rfl) ?_ | refine v_k ?_ | fail)) | (refine m00 ?_; (first | refine m52 ?_ | refine m53 ?_ | refine ze3 ?_ | refine m47 ?_ | refine m48 ?_ | refine m49 ?_ | refine m50 ?_ | refine v_k ?_ | refine m51 ?_ | fail)) | (refine m22 ?_; (first | refine m26 ?_ | refine m27 ?_ | fail)) | refine m42 ?_ | refine zad ?_ | refine zae ?_ | refine m08 ?_ | refine zar ?_ | refine zbu (by (conv => {lhs; whnf}); done) (by first | rfl | assumption) ?_ | refine m01 ?_ | fail))
 |refine zaz ?_ | refine za0 ?_ | refine zay ?_
 |(refine za3 ?_; (first | refine zax ?_ | refine zac ?_ | (refine m06 ?_; (first | refine c_T ?_ | refine c_F ?_ | refine c_P ?_ ?_ | refine c_B ?_ ?_ | fail)) | refine zaw ?_ | refine zam ?_ | refine zaf ?_ | refine b_exit ?_ | fail))
 |refine m43 ?_
 |refine zd7 ?_
 |refine m21 ?_
 |refine zbi ?_
 |(refine zbj ?_; (first | refine cA (zri _ _ _ _ _ _ (by omega) (by omega) (by omega) (by omega) (by omega) (by omega) (by omega) (by omega) (by omega)) ?_ | fail))
 |refine m05 ?_
 |refine m04 ?_ | refine m02 ?_ | refine m03 ?_ | refine zan ?_
 |intro _)
  all_goals first | refine zao rfl (by simp [mx, mxL, aOf, zb5, zai]) ?_ | (trace_state; fail)
  all_goals first
    | exact rtF (by unfold zaq; omega)
    | exact rtT (by unfold zaq; omega)
    | exact rvP (by unfold zaq; omega)
theorem zvb (H : List (List AV)) (D : AV) (l : List Nat) (hF : FL H D l) (off rows cols ld : Int) (hI : MI l.length off rows cols ld) (hG : zaa l.length off rows cols ld) (j : Int) (hj : 0 ≤ j) (hj' : j < cols) :
    zab Try.prog 57 [mt D off rows cols ld, .int .i64 j] H (vt D (zdg off rows ld j) rows 1) H := by
  obtain ⟨hn, ho1, ho2, hr1, hr2, hc1, hc2, hl1, hl2⟩ := id hI
  refine .go Try.call57 Try.func57 false [] dOk ?_
  simp only [zbf, Nat.reduceAdd]
  repeat' (first
 |(refine za1 ?_; (first | refine zce ?_ | refine zav ?_ | refine m13 ?_ | refine m12 ?_ | refine m11 ?_ | (refine m10 ?_; (first | refine zbr ?_ | refine zbm ?_ | refine zbq ?_ | refine zbn ?_ | refine zbp ?_ ?_ | refine zbo ?_ ?_ | refine zbl ?_ ?_ | refine zbk ?_ ?_ | fail)) | (refine m09 ?_; (first | refine zbr ?_ | refine zbm ?_ | refine zbq ?_ | refine zbn ?_ | refine zbp ?_ ?_ | refine zbo ?_ ?_ | refine zbl ?_ ?_ | refine zbk ?_ ?_ | fail)) | refine m38 ?_ | fail))
 |(refine za2 ?_; (first | refine m14 ?_ | (refine m17 ?_; first | refine m19 ?_ | refine m18 ?_) | (refine m07 ?_; (first | refine m15 ?_ | refine m16 ?_ | fail)) | (refine m00 ?_; (first | refine v_w (by first | omega | (have hp := zaj hG (i := 0) (j := j) (by omega) (by omega) (by omega) (by omega); omega) | fail) ?_ | refine m47 ?_ | refine m48 ?_ | refine m49 ?_ | refine m50 ?_ | refine zd3 ?_ | refine zd1 ?_ | refine zd2 ?_ | refine v_k ?_ | refine m51 ?_ | fail)) | (refine m22 ?_; (first | refine m26 ?_ | refine m27 ?_ | fail)) | (refine m20 ?_; (first | refine v_w (by first | omega | (have hp := zaj hG (i := 0) (j := j) (by omega) (by omega) (by omega) (by omega); omega) | fail) ?_ | refine m47 ?_ | refine m48 ?_ | refine m49 ?_ | refine m50 ?_ | refine zd3 ?_ | refine zd1 ?_ | refine zd2 ?_ | refine v_k ?_ | refine m51 ?_ | fail)) | refine zar ?_ | refine m25 ?_ | refine m01 ?_ | refine m24 ?_ | refine zca ?_ | fail))
 |refine zaz ?_ | refine za0 ?_ | refine zay ?_
 |(refine za3 ?_; (first | refine zax ?_ | refine zac ?_ | (refine m06 ?_; (first | refine c_T ?_ | refine c_F ?_ | refine c_P ?_ ?_ | refine c_B ?_ ?_ | fail)) | refine zaw ?_ | refine zam ?_ | refine zaf ?_ | refine b_exit ?_ | fail))
 |refine m21 ?_
 |refine zbi ?_
 |(refine zbj ?_; (first | refine cA (zd0 _ D l.length off rows cols ld hF.len hI) ?_ | fail))
 |refine m58 ?_
 |refine zdb ?_
 |refine m05 ?_
 |refine m04 ?_ | refine m02 ?_ | refine m03 ?_ | refine zan ?_
 |intro _)
  all_goals first
    | (exfalso; contradiction)
    | (exfalso; omega)
    | (refine zao rfl (by have := hF.mx; simp [mx, mxL, zai, aOf, zb5]; omega) ?_; first | (unfold zdg; rw [if_pos (by omega)]; exact rfl) | (unfold zdg; rw [if_neg (by omega)]; exact rfl) | (unfold zym; rw [if_pos (by omega)]; exact rfl) | (unfold zym; rw [if_neg (by omega)]; exact rfl) | fail)
theorem zh7 (H : List (List AV)) (D : AV) (l : List Nat) (hF : FL H D l) (off rows cols ld : Int) (hI : MI l.length off rows cols ld) :
    zab Try.prog 19 [mt D off rows cols ld] H (.bool (decide (1000 < (l.length : Int) ∨ 20 < rows ∨ 20 < cols))) H := by
  obtain ⟨hn, ho1, ho2, hr1, hr2, hc1, hc2, hl1, hl2⟩ := id hI
  refine .go Try.call19 Try.func19 false [] dOk ?_
  simp only [zbf, Nat.reduceAdd]
  repeat' (first
 |(refine za1 ?_; (first | refine zce ?_ | refine zav ?_ | refine m13 ?_ | refine m12 ?_ | refine m11 ?_ | (refine m10 ?_; (first | refine zbr ?_ | refine zbm ?_ | refine zbq ?_ | refine zbn ?_ | refine zbp ?_ ?_ | refine zbo ?_ ?_ | refine zbl ?_ ?_ | refine zbk ?_ ?_ | fail)) | (refine m09 ?_; (first | refine zbr ?_ | refine zbm ?_ | refine zbq ?_ | refine zbn ?_ | refine zbp ?_ ?_ | refine zbo ?_ ?_ | refine zbl ?_ ?_ | refine zbk ?_ ?_ | fail)) | refine m38 ?_ | fail))
 |(refine za2 ?_; (first | refine m14 ?_ | (refine m17 ?_; first | refine m19 ?_ | refine m18 ?_) | (refine m07 ?_; (first | refine m15 ?_ | refine m16 ?_ | fail)) | refine zbu (by (conv => {lhs; whnf}); done) (by exact hF.len) ?_ | (refine m00 ?_; (first | refine m47 ?_ | refine m48 ?_ | refine m49 ?_ | refine m50 ?_ | refine v_k ?_ | refine m51 ?_ | fail)) | (refine m22 ?_; (first | refine m26 ?_ | refine m27 ?_ | fail)) | refine m42 ?_ | refine zad ?_ | refine zae ?_ | refine m08 ?_ | refine zbu (by (conv => {lhs; whnf}); done) (by first | rfl | assumption) ?_ | refine m01 ?_ | fail))
 |refine zaz ?_ | refine za0 ?_ | refine zay ?_
 |(refine za3 ?_; (first | refine zax ?_ | refine zac ?_ | (refine m06 ?_; (first | refine c_T ?_ | refine c_F ?_ | refine c_P ?_ ?_ | refine c_B ?_ ?_ | fail)) | refine zaw ?_ | refine zam ?_ | refine zaf ?_ | refine b_exit ?_ | fail))
 |refine m05 ?_
 |refine m04 ?_ | refine m02 ?_ | refine m03 ?_ | refine zan ?_
 |intro _)
  all_goals first | refine zao rfl (by simp [mx, mxL, aOf, zb5, zai]) ?_ | (trace_state; fail)
  all_goals first
    | exact rtF (by omega)
    | exact rtT (by omega)
    | exact rvT (by omega)
    | exact rvP (by omega)
theorem zv9 (H H' : List (List AV)) (r c : Nat) (hr : r ≤ 1000) (hc : c ≤ 1000) (m : Nat) (hm : H.length = m) (hH : H ++ [fl (List.replicate (r * c) 0)] = H') :
    zab Try.prog 39 [.int .i64 (r : Int), .int .i64 (c : Int)] H (mM (.slm m (r * c) 0 (r * c) 1) r c) H' := by
  subst hH hm
  have hrc : r * c ≤ 1000000 := by (have := Nat.mul_le_mul hr hc; omega)
  refine .go Try.call39 Try.func39 false [] dOk ?_
  simp only [zbf, Nat.reduceAdd]
  repeat' (first
 |(refine za1 ?_; (first | refine zce ?_ | refine zav ?_ | fail))
 |(refine za2 ?_; (first | refine m14 ?_ | refine zuv (by (conv => {lhs; whnf}); done) (by (conv => {lhs; whnf}); done) (by exact rfl) (by (conv => {lhs; whnf}); done) (by (conv => {lhs; simp only [List.nil_append, List.cons_append]}); done) (by exact rfl) (by omega) ?_ | (refine m00 ?_; (first | refine zlt (by omega) ?_ | refine zls (by omega) ?_ | refine m49 ?_ | refine m50 ?_ | refine v_k ?_ | refine m51 ?_ | fail)) | refine m25 ?_ | refine m24 ?_ | refine zca ?_ | fail))
 |refine zaz ?_ | refine za0 ?_ | refine zay ?_
 |(refine za3 ?_; (first | refine zax ?_ | refine zac ?_ | (refine m06 ?_; (first | refine c_T ?_ | refine c_F ?_ | refine c_P ?_ ?_ | refine c_B ?_ ?_ | fail)) | refine zaw ?_ | refine zam ?_ | refine zaf ?_ | refine b_exit ?_ | fail))
 |refine m58 ?_
 |refine zdb ?_
 |refine m05 ?_
 |refine m04 ?_ | refine m02 ?_ | refine m03 ?_ | refine zan ?_
 |intro _)
  all_goals first
    | exact zqp (j := 0) (cs := fl (List.replicate (r * c) 0)) rfl rfl (by rw [zcl]; exact Nat.zero_le _) (Fr.agg (Frs.cons (Fr.old (by simp [mx])) (Frs.cons (Fr.old (by simp [mx])) (Frs.cons (Fr.kp (j := 0) (cs := fl (List.replicate (r * c) 0)) rfl (zau rfl rfl) (by simp)) Frs.nil))))
theorem zx8 (H : List (List AV)) (A : AV) (a : List Nat) (hA : FL H A a) (r c : Nat) (ha : a.length = r * c) (hr : r ≤ 1000) (hc : c ≤ 1000) (i j : Nat) (hi : i < r) (hj : j < c) :
    zab Try.prog 38 [mM A r c, .int .i64 (i : Int), .int .i64 (j : Int)] H (.flt (a.getD (i * c + j) 0)) H := by
  have hrc : r * c ≤ 1000000 := by (have := Nat.mul_le_mul hr hc; omega)
  have hlt := znv hi hj
  have hic : i * c ≤ 1000000 := by omega
  refine .go Try.call38 Try.func38 false [] dOk ?_
  simp only [zbf, Nat.reduceAdd]
  repeat' (first
 |(refine za1 ?_; (first | refine zce ?_ | refine zav ?_ | fail))
 |(refine za2 ?_; (first | refine m14 ?_ | (refine m17 ?_; first | refine m19 ?_ | refine m18 ?_) | (refine m07 ?_; (first | refine m15 ?_ | refine m16 ?_ | refine zrp (FL.app hA _) (by omega) ?_ | fail)) | refine zi2 (by (conv => {lhs; whnf}); done) (by (conv => {lhs; whnf}); done) (by exact hA.len) (by omega) ?_ | (refine m00 ?_; (first | refine zlt (by omega) ?_ | refine zls (by omega) ?_ | refine m49 ?_ | refine m50 ?_ | refine v_k ?_ | refine m51 ?_ | fail)) | refine m42 ?_ | refine zad ?_ | refine zae ?_ | refine m08 ?_ | refine m01 ?_ | fail))
 |refine zaz ?_ | refine za0 ?_ | refine zay ?_
 |(refine za3 ?_; (first | refine zax ?_ | refine zac ?_ | (refine m06 ?_; (first | refine c_T ?_ | refine c_F ?_ | refine c_P ?_ ?_ | refine c_B ?_ ?_ | fail)) | refine zaw ?_ | refine zam ?_ | refine zaf ?_ | refine b_exit ?_ | fail))
 |refine m05 ?_
 |refine m04 ?_ | refine m02 ?_ | refine m03 ?_ | refine zan ?_
 |intro _)
  all_goals first | refine zao rfl (by simp [mx, mxL, aOf, zb5, zai]) ?_ | (trace_state; fail)
  all_goals exact rfl
theorem zr3 (H H' : List (List AV)) (b : Nat) (a : List Nat) (hb : H[b]? = some (fl a)) (r c : Nat) (ha : a.length = r * c) (hr : r ≤ 1000) (hc : c ≤ 1000) (i j : Nat) (hi : i < r) (hj : j < c) (x : Nat) (hH : H.set b (fl (a.set (i * c + j) x)) = H') :
    zab Try.prog 43 [mM (.slm b (r * c) 0 (r * c) 1) r c, .int .i64 (i : Int), .int .i64 (j : Int), .flt x] H (.tup []) H' := by
  subst hH
  have hrc : r * c ≤ 1000000 := by (have := Nat.mul_le_mul hr hc; omega)
  have hlt := znv hi hj
  have hic : i * c ≤ 1000000 := by omega
  refine .go Try.call43 Try.func43 false [] dOk ?_
  simp only [zbf, Nat.reduceAdd]
  repeat' (first
 |(refine za1 ?_; (first | refine zce ?_ | refine zav ?_ | fail))
 |(refine za2 ?_; (first | refine m14 ?_ | (refine m17 ?_; first | refine m19 ?_ | refine m18 ?_) | (refine m07 ?_; (first | refine m15 ?_ | refine m16 ?_ | fail)) | refine zi2 (by (conv => {lhs; whnf}); done) (by (conv => {lhs; whnf}); done) (by exact rfl) (by omega) ?_ | refine zu0 (by (conv => {lhs; whnf}); done) (by (conv => {lhs; whnf}); done) hb ha (by omega) (m' := a.set (i * c + j) x) (by rw [Nat.zero_add]) ?_ | (refine m00 ?_; (first | refine zlt (by omega) ?_ | refine zls (by omega) ?_ | refine m49 ?_ | refine m50 ?_ | refine v_k ?_ | refine m51 ?_ | fail)) | refine m25 ?_ | refine m01 ?_ | fail))
 |refine zaz ?_ | refine za0 ?_ | refine zay ?_
 |(refine za3 ?_; (first | refine zax ?_ | refine zac ?_ | (refine m06 ?_; (first | refine c_T ?_ | refine c_F ?_ | refine c_P ?_ ?_ | refine c_B ?_ ?_ | fail)) | refine zaw ?_ | refine zam ?_ | refine zaf ?_ | refine b_exit ?_ | fail))
 |refine m05 ?_
 |refine m04 ?_ | refine m02 ?_ | refine m03 ?_ | refine zan ?_
 |intro _)
  all_goals first
    | (refine zao (by simp) (by simp [mx, mxL, zai]) ?_; exact rfl)
theorem zze (H : List (List AV)) (D : AV) (l : List Nat) (hF : FL H D l) (off rows cols ld : Int) (hI : MI l.length off rows cols ld) (hG : zaa l.length off rows cols ld) (hr : rows ≤ 1000) (hc : cols ≤ 1000) :
    zab Try.prog 17 [mt D off rows cols ld] H (mM (.sl none (rows.toNat * cols.toNat) (fl (rmA (mel l off ld) rows.toNat cols.toNat))) rows cols) H := by
  obtain ⟨r, rfl⟩ : ∃ r : Nat, rows = (r : Int) := ⟨rows.toNat, by have := hG.1; omega⟩
  obtain ⟨c, rfl⟩ : ∃ c : Nat, cols = (c : Int) := ⟨cols.toNat, by have := hG.2.1; omega⟩
  simp only [Int.toNat_natCast]
  obtain ⟨hn, ho1, ho2, hr1, hr2, hc1, hc2, hl1, hl2⟩ := id hI
  have hrc : r * c ≤ 1000000 := by (have := Nat.mul_le_mul (show r ≤ 1000 by omega) (show c ≤ 1000 by omega); omega)
  refine .go Try.call17 Try.func17 false [] dOk ?_
  simp only [zbf, Nat.reduceAdd]
  repeat' (first
 |(refine za1 ?_; (first | refine zce ?_ | refine zav ?_ | fail))
 |(refine za2 ?_; (first | refine m14 ?_ | (refine m17 ?_; first | refine m19 ?_ | refine m18 ?_) | (refine m07 ?_; (first | refine m15 ?_ | refine m16 ?_ | refine zrp (FL.app hF _) (by first | omega | (have hp := zaj hG (i := (k : Int)) (j := (j : Int)) (by omega) (by omega) (by omega) (by omega); omega) | fail) ?_ | fail)) | refine zut (by (conv => {lhs; whnf}); done) (by (conv => {lhs; whnf}); done) (by exact hF.len) (by first | omega | (have hp := zaj hG (i := (k : Int)) (j := (j : Int)) (by omega) (by omega) (by omega) (by omega); omega) | fail) ?_ | (refine m00 ?_; (first | refine v_w (by first | omega | (have hp := zaj hG (i := (k : Int)) (j := (j : Int)) (by omega) (by omega) (by omega) (by omega); omega) | fail) ?_ | refine m47 ?_ | refine m48 ?_ | refine m49 ?_ | refine m50 ?_ | refine v_k ?_ | refine m51 ?_ | fail)) | refine m42 ?_ | refine zad ?_ | refine zae ?_ | refine m08 ?_ | refine zar ?_ | refine m25 ?_ | refine m01 ?_ | refine m24 ?_ | fail))
 |(refine zcy ?_; (first | refine m36 ?_ | refine zcw ?_ | fail))
 |(refine zcx ?_; (first | refine zgb ?_ | refine m34 ?_ | refine m35 ?_ | refine m33 ?_ | refine zgc ?_ | refine m56 ?_ | refine zcz ?_ | fail))
 |refine zaz ?_ | refine za0 ?_ | refine zay ?_
 |(refine za3 ?_; (first | refine zax ?_ | refine zac ?_ | (refine m06 ?_; (first | refine c_T ?_ | refine c_F ?_ | refine c_P ?_ ?_ | refine c_B ?_ ?_ | fail)) | refine zaw ?_ | refine zam ?_ | refine zaf ?_ | refine b_exit ?_ | refine zba [] [16] [(0, .ld true), (1, .lt), (2, .lt), (3, .lt), (4, .ld true), (5, .lt), (6, .ld true), (7, .lt), (8, .lt), (9, .lt), (10, .lt), (11, .ld true), (12, .lt), (13, .lt), (14, .lt), (15, .ld true), (16, .mn false)] (by kernel_rfl) ?_ | (refine zb3 [5, 4, 1, 2, 3] c (fun j => ⟨[(5, .val (.int .i64 (j : Int))), (4, .val (.int .i64 (k : Int))), (1, .loc 1 0), (2, .loc 2 0), (3, .loc 3 0)], [(1, [D, .int .i64 off, .int .i64 (r : Int), .int .i64 (c : Int), .int .i64 ld]), (2, [.int .i64 0, .int .i64 0, .slnil]), (3, [.int .i64 (r : Int), .int .i64 (c : Int), .slm (H.length + 0) (r * c) 0 (r * c) 1])], H ++ [fl (ofL (mel l off ld) r c (k * c + j))]⟩) (by exact rfl) ?_ ?_ <;> (first | intro j hj K hK | intro K) <;> (try dsimp only at *) <;> (try simp only [Int.natCast_add, Int.natCast_one] at *)) | (refine zb3 [4, 1, 2, 3] r (fun k => ⟨[(4, .val (.int .i64 (k : Int))), (1, .loc 1 0), (2, .loc 2 0), (3, .loc 3 0)], [(1, [D, .int .i64 off, .int .i64 (r : Int), .int .i64 (c : Int), .int .i64 ld]), (2, [.int .i64 0, .int .i64 0, .slnil]), (3, [.int .i64 (r : Int), .int .i64 (c : Int), .slm (H.length + 0) (r * c) 0 (r * c) 1])], H ++ [fl (ofL (mel l off ld) r c (k * c))]⟩) (by simp only [Nat.zero_mul, zlf]; exact rfl) ?_ ?_ <;> (first | intro k hk K hK | intro K) <;> (try dsimp only at *) <;> (try simp only [Int.natCast_add, Int.natCast_one, Nat.add_mul, Nat.one_mul] at *)) | fail))
 |refine m21 ?_
 |refine zbi ?_
 |(refine zbj ?_; (first | refine cA (zv9 _ _ r c (by omega) (by omega) _ (by (conv => {lhs; simp only [List.length_append, List.length_cons, List.length_nil, List.length_set, Nat.reduceAdd, Nat.zero_add]}); done) (by (conv => {lhs; simp only [List.append_assoc, List.cons_append, List.nil_append]}); done)) ?_ | refine cA (zr3 _ _ _ (ofL (mel l off ld) r c (k * c + j)) (zau (by exact rfl) rfl) r c (by simp) (by omega) (by omega) k j (by omega) (by omega) _ (by rw [zn7 (by omega) (by omega) (by exact rfl)]; exact zet (by exact rfl) (by (conv => {lhs; simp only [List.set_cons_zero, List.set_cons_succ]}); done))) ?_ | fail))
 |refine zc7 ?_ | refine zc8 ?_ | refine zc6 ?_ | refine m57 ?_
 |refine zkg ?_ | refine zkh ?_ | refine zkf ?_
 |(refine zkk (by exact rfl) ?_; first | exact hK | fail | (exfalso; first | omega | (simp_all; done) | (simp_all; omega)))
 |refine m05 ?_
 |refine m04 ?_ | refine m02 ?_ | refine m03 ?_ | refine zan ?_
 |intro _)
  all_goals first
    | (refine zko rfl ?_; simp only [zn6]; exact Fr.agg (Frs.cons (Fr.old (by simp [mx])) (Frs.cons (Fr.old (by simp [mx])) (Frs.cons (Fr.fz (by omega) (by simp) (zau rfl rfl) (by simp) (zfc _ (by simp)) (Frs.old (by rw [zcl]; exact Nat.zero_le _))) Frs.nil))))
theorem zn5 (H : List (List AV)) (D : AV) (l : List Nat) (hF : FL H D l) (off rows cols ld : Int) (hI : MI l.length off rows cols ld) (hG : zaa l.length off rows cols ld) (hr : rows ≤ 1000) (hc : cols ≤ 1000) :
    zab Try.prog 28 [mt D off rows cols ld] H (.sl none (rows.toNat * cols.toNat) (fl (cmA (mel l off ld) rows.toNat cols.toNat))) H := by
  obtain ⟨r, rfl⟩ : ∃ r : Nat, rows = (r : Int) := ⟨rows.toNat, by have := hG.1; omega⟩
  obtain ⟨c, rfl⟩ : ∃ c : Nat, cols = (c : Int) := ⟨cols.toNat, by have := hG.2.1; omega⟩
  simp only [Int.toNat_natCast]
  obtain ⟨hn, ho1, ho2, hr1, hr2, hc1, hc2, hl1, hl2⟩ := id hI
  have hrc : c * r ≤ 1000000 := by (have := Nat.mul_le_mul (show c ≤ 1000 by omega) (show r ≤ 1000 by omega); omega)
  have hcO : ∀ k : Nat, 0 < r → zdg off (r : Int) ld (k : Int) = off + (k : Int) * ld := fun k h => by (unfold zdg; exact if_pos (by omega))
  have hx : ∀ k j, k < c → j < r → l.getD (zdg off (r : Int) ld (k : Int) + (j : Int)).toNat 0 = (fun n => mel l off ld (n % r) (n / r)) (k * r + j) := fun k j hk hj => by
    simp only [znw hj, znu hj, mel, hcO k (by omega)]
    congr 2; omega
  refine .go Try.call28 Try.func28 false [40] dOk ?_
  simp only [zbf, Nat.reduceAdd]
  repeat' (first
 |(refine za1 ?_; (first | refine zce ?_ | refine zav ?_ | fail))
 |(refine za2 ?_; (first | refine m41 ?_ | refine zc9 ?_ | refine m14 ?_ | (refine m17 ?_; first | refine m19 ?_ | refine m18 ?_) | (refine m07 ?_; (first | refine m15 ?_ | refine m16 ?_ | refine zrp (FL.app hF _) (by first | omega | (have hp := zaj hG (i := (j : Int)) (j := (k : Int)) (by omega) (by omega) (by omega) (by omega); have hco := hcO k (by omega); omega) | fail) ?_ | fail)) | refine zut (by (conv => {lhs; whnf}); done) (by (conv => {lhs; whnf}); done) (by exact hF.len) (by first | omega | (have hp := zaj hG (i := (j : Int)) (j := (k : Int)) (by omega) (by omega) (by omega) (by omega); have hco := hcO k (by omega); omega) | fail) ?_ | refine zur (i := 0) (N₀ := []) (by (conv => {lhs; whnf}); done) (by (conv => {lhs; whnf}); done) (by exact rfl) (by exact rfl) (by simp) (by have := znv hk hj; omega) (by exact rfl) (by exact rfl) (l' := fl (rml (fun n => mel l off ld (n % r) (n / r)) (k * r + j + 1))) (by rw [hx k j hk hj]; exact zwl (fun n => mel l off ld (n % r) (n / r)) _) ?_ | (refine m00 ?_; (first | refine v_w (by first | omega | (have hp := zaj hG (i := (j : Int)) (j := (k : Int)) (by omega) (by omega) (by omega) (by omega); have hco := hcO k (by omega); omega) | fail) ?_ | refine m47 ?_ | refine m48 ?_ | refine m49 ?_ | refine m50 ?_ | refine zd3 ?_ | refine zd1 ?_ | refine zd2 ?_ | refine v_k ?_ | refine m51 ?_ | fail)) | refine m42 ?_ | refine zad ?_ | refine zae ?_ | refine m08 ?_ | (refine m20 ?_; (first | refine v_w (by first | omega | (have hp := zaj hG (i := (j : Int)) (j := (k : Int)) (by omega) (by omega) (by omega) (by omega); have hco := hcO k (by omega); omega) | fail) ?_ | refine m47 ?_ | refine m48 ?_ | refine m49 ?_ | refine m50 ?_ | refine zd3 ?_ | refine zd1 ?_ | refine zd2 ?_ | refine v_k ?_ | refine m51 ?_ | fail)) | refine zar ?_ | refine m23 ?_ | refine m25 ?_ | refine m01 ?_ | refine m24 ?_ | refine zi1 (by exact rfl) (by exact rfl) (by decide) ?_ | fail))
 |refine zaz ?_ | refine za0 ?_ | refine zay ?_
 |(refine za3 ?_; (first | refine zax ?_ | refine zac ?_ | (refine m06 ?_; (first | refine c_T ?_ | refine c_F ?_ | refine c_P ?_ ?_ | refine c_B ?_ ?_ | fail)) | refine zaw ?_ | refine zam ?_ | refine zaf ?_ | refine b_exit ?_ | (refine zb3 [28, 27, 20, 19, 1, 6, 8] r (fun j => ⟨[(28, .val (.int .i64 (j : Int))), (27, .val (.int .i64 (r : Int))), (20, .val (.int .i64 (k : Int))), (19, .val (.int .i64 (c : Int))), (1, .loc 1 0), (6, .val (gV H.length 0 (k * r + j))), (8, .loc 8 0)], [(1, [D, .int .i64 off, .int .i64 (r : Int), .int .i64 (c : Int), .int .i64 ld]), (8, [D, .int .i64 (zdg off (r : Int) ld (k : Int)), .int .i64 (r : Int), .int .i64 1])], H ++ ([] ++ gN (fl (rml (fun n => mel l off ld (n % r) (n / r)) (k * r + j))))⟩) (by exact rfl) ?_ ?_ <;> (first | intro j hj K hK | intro K) <;> (try dsimp only at *) <;> (try simp only [Int.natCast_add, Int.natCast_one] at *)) | (refine zb3 [20, 19, 1, 6] c (fun k => ⟨[(20, .val (.int .i64 (k : Int))), (19, .val (.int .i64 (c : Int))), (1, .loc 1 0), (6, .val (gV H.length 0 (k * r)))], [(1, [D, .int .i64 off, .int .i64 (r : Int), .int .i64 (c : Int), .int .i64 ld])], H ++ ([] ++ gN (fl (rml (fun n => mel l off ld (n % r) (n / r)) (k * r))))⟩) (by simp only [Nat.zero_mul]; exact rfl) ?_ ?_ <;> (first | intro k hk K hK | intro K) <;> (try dsimp only at *) <;> (try simp only [Int.natCast_add, Int.natCast_one, Nat.add_mul, Nat.one_mul] at *)) | fail))
 |refine m21 ?_
 |refine zbi ?_
 |(refine zbj ?_; (first | refine cA (zo0 _ D l.length off _ _ ld hF.len hI) ?_ | refine cA (zvb _ D l (FL.app hF _) off _ _ ld hI hG (k : Int) (by omega) (by omega)) ?_ | fail))
 |refine m44 ?_
 |refine m40 ?_
 |(refine ze0 (by (conv => {lhs; simp only [List.nil_append, List.cons_append]}); done) ?_; first | refine ⟨by exact rfl, ?_⟩ | skip)
 |refine zfx ?_
 |(intro N' hN'; simp only [List.nil_append, List.cons_append] at hN'; subst hN')
 |refine zc7 ?_ | refine zc8 ?_ | refine zc6 ?_ | refine m57 ?_
 |refine zkg ?_ | refine zkh ?_ | refine zkf ?_
 |(refine zkk (by exact rfl) ?_; first | exact hK | fail | (exfalso; first | omega | (simp_all; done) | (simp_all; omega)))
 |refine m05 ?_
 |refine m04 ?_ | refine m02 ?_ | refine m03 ?_ | refine zan ?_
 |intro _)
  all_goals first
    | (refine zko rfl ?_; have hz : r * c = 0 := by (have hsp : ¬ zdn l.length off r c ld := by assumption); (have : r = 0 ∨ c = 0 := by (rcases Nat.eq_zero_or_pos r with h | h; exact .inl h; rcases Nat.eq_zero_or_pos c with h' | h'; exact .inr h'; exact absurd ⟨hG, by omega, by omega⟩ hsp)); rcases this with h | h <;> simp [h]
       rw [show fl (cmA (mel l off ld) r c) = [] from by rw [cmA, hz]; rfl, hz]; exact Fr.nil)
    | (refine zko rfl ?_; rw [Nat.mul_comm r c, cmA, Nat.mul_comm r c]; exact zxu (N₀ := []) (i := 0) rfl rfl (by simp) (by rw [zcl]; exact Nat.zero_le _))
theorem zo5 (H : List (List AV)) (x y : Nat) :
    zab Try.prog 42 [.flt x, .flt y] H (.flt (zjc x y)) H := by
  refine .go Try.call42 Try.func42 false [] dOk ?_
  simp only [zbf, Nat.reduceAdd]
  repeat' (first
 |(refine za1 ?_; (first | refine zce ?_ | refine zav ?_ | fail))
 |(refine za2 ?_; (first | refine m14 ?_ | (refine m00 ?_; (first | refine m49 ?_ | refine m50 ?_ | refine v_k ?_ | refine m51 ?_ | fail)) | refine m42 ?_ | refine zad ?_ | refine zae ?_ | refine m08 ?_ | fail))
 |refine zaz ?_ | refine za0 ?_ | refine zay ?_
 |(refine za3 ?_; (first | refine zax ?_ | refine zac ?_ | (refine m06 ?_; (first | refine c_T ?_ | refine c_F ?_ | refine c_P ?_ ?_ | refine c_B ?_ ?_ | fail)) | refine zaw ?_ | refine zam ?_ | refine zaf ?_ | refine b_exit ?_ | fail))
 |refine m05 ?_
 |refine m04 ?_ | refine m02 ?_ | refine m03 ?_ | refine zan ?_
 |intro _)
  all_goals first | refine zao rfl (by simp [mx, mxL, aOf, zb5, zai]) ?_ | (trace_state; fail)
  all_goals exact rfl
theorem zq0 (H : List (List AV)) (A : AV) (g : Nat → Nat → Nat) (r c : Nat) (hA : FL H A (rmA g r c)) (hr : r ≤ 1000) (hc : c ≤ 1000) (i j : Nat) (hi : i < r) (hj : j < c) : zab Try.prog 38 [mM A r c, .int .i64 (i : Int), .int .i64 (j : Int)] H (.flt (g i j)) H := by
  have := zx8 H A _ hA r c (by simp) hr hc i j hi hj
  rwa [ztz hi hj] at this
def zii (off ld i j r c : Int) : Int := if 0 < r ∧ 0 < c then off + (i + j * ld) else off
theorem zgz (H : List (List AV)) (D : AV) (l : List Nat) (hF : FL H D l) (off rows cols ld : Int) (hI : MI l.length off rows cols ld) (hG : zaa l.length off rows cols ld) (i j r c : Int) (hi : 0 ≤ i) (hj : 0 ≤ j) (hr : 0 ≤ r) (hc : 0 ≤ c) (hir : i + r ≤ rows) (hjc : j + c ≤ cols) :
    zab Try.prog 33 [mt D off rows cols ld, .int .i64 i, .int .i64 j, .int .i64 r, .int .i64 c] H (mt D (zii off ld i j r c) r c ld) H := by
  obtain ⟨hn, ho1, ho2, hr1, hr2, hc1, hc2, hl1, hl2⟩ := id hI
  have hgd := id hG
  obtain ⟨hg1, hg2, hg3, hg4, hg5, hg6⟩ := hgd
  refine .go Try.call33 Try.func33 false [] dOk ?_
  simp only [zbf, Nat.reduceAdd]
  repeat' (first
 |(refine za1 ?_; (first | refine zce ?_ | refine zav ?_ | refine m13 ?_ | refine m12 ?_ | refine m11 ?_ | (refine m10 ?_; (first | refine zbr ?_ | refine zbm ?_ | refine zbq ?_ | refine zbn ?_ | refine zbp ?_ ?_ | refine zbo ?_ ?_ | refine zbl ?_ ?_ | refine zbk ?_ ?_ | fail)) | (refine m09 ?_; (first | refine zbr ?_ | refine zbm ?_ | refine zbq ?_ | refine zbn ?_ | refine zbp ?_ ?_ | refine zbo ?_ ?_ | refine zbl ?_ ?_ | refine zbk ?_ ?_ | fail)) | refine m38 ?_ | fail))
 |(refine za2 ?_; (first | refine m14 ?_ | (refine m17 ?_; first | refine m19 ?_ | refine m18 ?_) | (refine m07 ?_; (first | refine m15 ?_ | refine m16 ?_ | fail)) | (refine m00 ?_; (first | refine v_w (by first | omega | (have hp := zaj hG (i := i) (j := j) (by omega) (by omega) (by omega) (by omega); have hp2 := zaj hG (i := 0) (j := j) (by omega) (by omega) (by omega) (by omega); omega) | fail) ?_ | refine m47 ?_ | refine m48 ?_ | refine m49 ?_ | refine m50 ?_ | refine zd3 ?_ | refine zd1 ?_ | refine zd2 ?_ | refine v_k ?_ | refine m51 ?_ | fail)) | (refine m22 ?_; (first | refine m26 ?_ | refine m27 ?_ | fail)) | (refine m20 ?_; (first | refine v_w (by first | omega | (have hp := zaj hG (i := i) (j := j) (by omega) (by omega) (by omega) (by omega); have hp2 := zaj hG (i := 0) (j := j) (by omega) (by omega) (by omega) (by omega); omega) | fail) ?_ | refine m47 ?_ | refine m48 ?_ | refine m49 ?_ | refine m50 ?_ | refine zd3 ?_ | refine zd1 ?_ | refine zd2 ?_ | refine v_k ?_ | refine m51 ?_ | fail)) | refine zar ?_ | refine m25 ?_ | refine m01 ?_ | refine m24 ?_ | refine zca ?_ | fail))
 |refine zaz ?_ | refine za0 ?_ | refine zay ?_
 |(refine za3 ?_; (first | refine zax ?_ | refine zac ?_ | (refine m06 ?_; (first | refine c_T ?_ | refine c_F ?_ | refine c_P ?_ ?_ | refine c_B ?_ ?_ | fail)) | refine zaw ?_ | refine zam ?_ | refine zaf ?_ | refine b_exit ?_ | fail))
 |refine m21 ?_
 |refine zbi ?_
 |(refine zbj ?_; (first | refine cA (zd0 _ D l.length off rows cols ld hF.len hI) ?_ | fail))
 |refine m58 ?_
 |refine zdb ?_
 |refine m05 ?_
 |refine m04 ?_ | refine m02 ?_ | refine m03 ?_ | refine zan ?_
 |intro _)
  all_goals first
    | (exfalso; contradiction)
    | (exfalso; omega)
    | (refine zao rfl (by have := hF.mx; simp [mx, mxL, zai, aOf, zb5]; omega) ?_; unfold zii; first | (rw [if_pos (by omega)]; exact rfl) | (rw [if_neg (by omega)]; exact rfl) | fail)
theorem zj9 (H H' : List (List AV)) (D : AV) (l : List Nat) (hF : FL H D l) (off ld : Int) (r c : Nat) (hI : MI l.length off r c ld) (hG : zaa l.length off r c ld) (hr : r ≤ 64) (hc : c ≤ 64) (m : Nat) (hm : H.length = m) (hH : H ++ [fl (cmA (mel l off ld) r c)] = H') :
    zab Try.prog 32 [mt D off r c ld] H (.tup [mt (.slm m (r * c) 0 (r * c) 1) 0 r c ((max r 1 : Nat) : Int), .int .i64 0]) H' := by
  subst hH hm
  obtain ⟨hn, ho1, ho2, hr1, hr2, hc1, hc2, hl1, hl2⟩ := id hI
  refine .go Try.call32 Try.func32 false [] dOk ?_
  simp only [zbf, Nat.reduceAdd]
  repeat' (first
 |(refine za1 ?_; (first | refine zce ?_ | refine zav ?_ | refine m13 ?_ | refine m12 ?_ | refine m11 ?_ | (refine m10 ?_; (first | refine zbr ?_ | refine zbm ?_ | refine zbq ?_ | refine zbn ?_ | refine zbp ?_ ?_ | refine zbo ?_ ?_ | refine zbl ?_ ?_ | refine zbk ?_ ?_ | fail)) | (refine m09 ?_; (first | refine zbr ?_ | refine zbm ?_ | refine zbq ?_ | refine zbn ?_ | refine zbp ?_ ?_ | refine zbo ?_ ?_ | refine zbl ?_ ?_ | refine zbk ?_ ?_ | fail)) | refine m38 ?_ | fail))
 |(refine za2 ?_; (first | refine m14 ?_ | (refine m17 ?_; first | refine m19 ?_ | refine m18 ?_) | (refine m07 ?_; (first | refine m15 ?_ | refine m16 ?_ | fail)) | refine zuq (by (conv => {lhs; whnf}); done) (by (conv => {lhs; whnf}); done) (by exact rfl) (by exact rfl) (by simp [zfm]) (by exact rfl) (by simp) (by simp) (by exact rfl) (by (conv => {lhs; simp only [List.set_cons_zero, List.set_cons_succ]}); done) ?_ | (refine m00 ?_; (first | refine m47 ?_ | refine m48 ?_ | refine m49 ?_ | refine m50 ?_ | refine zd3 ?_ | refine zd1 ?_ | refine zd2 ?_ | refine v_k ?_ | refine m51 ?_ | fail)) | (refine m22 ?_; (first | refine m26 ?_ | refine m27 ?_ | fail)) | refine m42 ?_ | refine zad ?_ | refine zae ?_ | refine m08 ?_ | (refine m20 ?_; (first | refine m47 ?_ | refine m48 ?_ | refine m49 ?_ | refine m50 ?_ | refine zd3 ?_ | refine zd1 ?_ | refine zd2 ?_ | refine v_k ?_ | refine m51 ?_ | fail)) | refine zar ?_ | refine m25 ?_ | refine m01 ?_ | refine m24 ?_ | refine zca ?_ | fail))
 |(refine zcy ?_; (first | refine m36 ?_ | refine zcw ?_ | refine m32 ?_ | refine m31 ?_ | refine m30 ?_ | (refine m28 ?_; (first | refine zb2 ?_ | refine zbx ?_ | refine zb1 ?_ | refine zby ?_ | refine zb0 ?_ ?_ | refine zbz ?_ ?_ | refine zbw ?_ ?_ | refine zbv ?_ ?_ | fail)) | (refine m29 ?_; (first | refine zb2 ?_ | refine zbx ?_ | refine zb1 ?_ | refine zby ?_ | refine zb0 ?_ ?_ | refine zbz ?_ ?_ | refine zbw ?_ ?_ | refine zbv ?_ ?_ | fail)) | refine m37 ?_ | fail))
 |(refine zcx ?_; (first | refine zgb ?_ | refine m34 ?_ | refine m35 ?_ | refine m33 ?_ | refine zgc ?_ | refine m56 ?_ | refine zcz ?_ | refine zdr (by exact rfl) ?_ | fail))
 |refine zaz ?_ | refine za0 ?_ | refine zay ?_
 |(refine za3 ?_; (first | refine zax ?_ | refine zac ?_ | (refine m06 ?_; (first | refine c_T ?_ | refine c_F ?_ | refine c_P ?_ ?_ | refine c_B ?_ ?_ | fail)) | refine zaw ?_ | refine zam ?_ | refine zaf ?_ | refine b_exit ?_ | refine zba (id := 6) [] [4] [(0, .lt), (1, .ld true), (2, .ld true), (3, .mn true), (4, .mn false)] (by kernel_rfl) ?_ | fail))
 |refine m43 ?_
 |refine zd7 ?_
 |refine m21 ?_
 |refine zbi ?_
 |(refine zbj ?_; (first | refine cA (zd0 _ D l.length off _ _ ld hF.len hI) ?_ | refine cA (zh0 _ _ r c hr hc .slnil [] (FL.nil _) (by simp) _ (by (conv => {lhs; simp only [List.length_append, List.length_cons, List.length_nil, List.length_set, Nat.reduceAdd, Nat.zero_add]}); done) (by (conv => {lhs; simp only [List.append_assoc, List.cons_append, List.nil_append]}); done)) ?_ | refine cA (zn5 _ D l (FL.app hF _) off r c ld hI hG (by omega) (by omega)) ?_ | fail))
 |refine m58 ?_
 |refine zdb ?_
 |refine zc7 ?_ | refine zc8 ?_ | refine zc6 ?_ | refine m57 ?_
 |refine m05 ?_
 |refine m04 ?_ | refine m02 ?_ | refine m03 ?_ | refine zan ?_
 |intro _)
  all_goals first
    | (exfalso; contradiction)
    | (exfalso; omega)
    | exact zqp (j := 0) (cs := fl (cmA (mel l off ld) r c)) rfl rfl (by rw [zcl]; exact Nat.zero_le _) (Fr.tup (Frs.cons (Fr.agg (Frs.cons (Fr.kp (j := 0) (cs := fl (cmA (mel l off ld) r c)) rfl (zau rfl rfl) (by simp)) (Frs.old (by simp [mxL, mx])))) (Frs.cons (Fr.old (by simp [mx])) Frs.nil)))
end
section
attribute [local irreducible] Ex zas exD opX opE zdd zfl zfs Spec zab Fr zda zbc zbb ckK zcd zc0 zbt faK zcs ze5 gK fK rK zg7 lpX prK
theorem ztg {off ld : Int} {r c m i j : Nat} (hG : zaa m off r c ld) (hi : i < r) (hj : j < c) : off + (i : Int) + (j : Int) * ld = ((pos off ld i j : Nat) : Int) := by
  have hp := zaj hG (i := (i : Int)) (j := (j : Int)) (by omega) (by omega) (by omega) (by omega)
  unfold pos
  omega
end
section
variable (H : List (List AV)) (b : Nat) (l : List Nat) (hbl : b < H.length) (xo xi : Int) (n : Nat) (hxI : VI l.length xo n xi) (hxR : zaq l.length xo n xi) (D : AV) (hD : mx D ≤ H.length) (ml : Nat) (mo ld : Int) (hI : MI ml mo n n ld) (hG : zaa ml mo n n ld) (a : Nat → Nat → Nat) (hrd : ∀ f, ∃ l', FL (H.set b (fl (za6 l xo xi n f))) D l' ∧ l'.length = ml ∧ ∀ i j, i < n → j < n → mel l' mo ld i j = a i j)
include hbl hxI hxR hD hI hG hrd in
end
section
variable (H : List (List AV)) (b : Nat) (l : List Nat) (hbl : b < H.length) (xo xi : Int) (n : Nat) (hxI : VI l.length xo n xi) (hxR : zaq l.length xo n xi) (D : AV) (hD : mx D ≤ H.length) (ml : Nat) (mo ld : Int) (hI : MI ml mo n n ld) (hG : zaa ml mo n n ld) (a : Nat → Nat → Nat) (hrd : ∀ f, ∃ l', FL (H.set b (fl (za6 l xo xi n f))) D l' ∧ l'.length = ml ∧ ∀ i j, i < n → j < n → mel l' mo ld i j = a i j)
include hbl hxI hxR hD hI hG hrd in
end
section
variable (H : List (List AV)) (b : Nat) (l : List Nat) (hbl : b < H.length) (xo xi : Int) (n : Nat) (hxI : VI l.length xo n xi) (hxR : zaq l.length xo n xi) (D : AV) (hD : mx D ≤ H.length) (ml : Nat) (mo ld : Int) (hI : MI ml mo n n ld) (hG : zaa ml mo n n ld) (a : Nat → Nat → Nat) (hrd : ∀ f, ∃ l', FL (H.set b (fl (za6 l xo xi n f))) D l' ∧ l'.length = ml ∧ ∀ i j, i < n → j < n → mel l' mo ld i j = a i j)
include hbl hxI hxR hD hI hG hrd in
end
section
variable (H : List (List AV)) (b : Nat) (l : List Nat) (hbl : b < H.length) (xo xi : Int) (n : Nat) (hxI : VI l.length xo n xi) (hxR : zaq l.length xo n xi) (D : AV) (hD : mx D ≤ H.length) (ml : Nat) (mo ld : Int) (hI : MI ml mo n n ld) (hG : zaa ml mo n n ld) (a : Nat → Nat → Nat) (hrd : ∀ f, ∃ l', FL (H.set b (fl (za6 l xo xi n f))) D l' ∧ l'.length = ml ∧ ∀ i j, i < n → j < n → mel l' mo ld i j = a i j)
include hbl hxI hxR hD hI hG hrd in
end
section
variable (H : List (List AV)) (b : Nat) (l : List Nat) (hbl : b < H.length) (xo xi : Int) (n : Nat) (hxI : VI l.length xo n xi) (hxR : zaq l.length xo n xi) (D : AV) (hD : mx D ≤ H.length) (ml : Nat) (mo ld : Int) (hI : MI ml mo n n ld) (hG : zaa ml mo n n ld) (a : Nat → Nat → Nat) (hrd : ∀ f, ∃ l', FL (H.set b (fl (za6 l xo xi n f))) D l' ∧ l'.length = ml ∧ ∀ i j, i < n → j < n → mel l' mo ld i j = a i j)
include hbl hxI hxR hD hI hG hrd in
end
section
variable (H : List (List AV)) (b : Nat) (l : List Nat) (hbl : b < H.length) (xo xi : Int) (n : Nat) (hxI : VI l.length xo n xi) (hxR : zaq l.length xo n xi) (D : AV) (hD : mx D ≤ H.length) (ml : Nat) (mo ld : Int) (hI : MI ml mo n n ld) (hG : zaa ml mo n n ld) (a : Nat → Nat → Nat) (hrd : ∀ f, ∃ l', FL (H.set b (fl (za6 l xo xi n f))) D l' ∧ l'.length = ml ∧ ∀ i j, i < n → j < n → mel l' mo ld i j = a i j)
include hbl hxI hxR hD hI hG hrd in
end
section
variable (H : List (List AV)) (b : Nat) (l : List Nat) (hbl : b < H.length) (xo xi : Int) (n : Nat) (hxI : VI l.length xo n xi) (hxR : zaq l.length xo n xi) (D : AV) (hD : mx D ≤ H.length) (ml : Nat) (mo ld : Int) (hI : MI ml mo n n ld) (hG : zaa ml mo n n ld) (a : Nat → Nat → Nat) (hrd : ∀ f, ∃ l', FL (H.set b (fl (za6 l xo xi n f))) D l' ∧ l'.length = ml ∧ ∀ i j, i < n → j < n → mel l' mo ld i j = a i j)
include hbl hxI hxR hD hI hG hrd in
end
section
attribute [local irreducible] Ex zas exD opX opE zdd zfl zfs Spec zab Fr zda zbc zbb ckK zcd zc0 zbt faK zcs ze5 gK fK rK zg7 lpX prK
theorem zgw (H : List (List AV)) (D : AV) (l : List Nat) (hF : FL H D l) (off rows cols ld : Int) (hI : MI l.length off rows cols ld) (hG : zaa l.length off rows cols ld) :
    zab Try.prog 23 [mt D off rows cols ld] H (.tup [.int .i64 (msF off rows cols), .int .i64 (msT off rows cols ld)]) H := by
  obtain ⟨hn, ho1, ho2, hr1, hr2, hc1, hc2, hl1, hl2⟩ := id hI
  have hG' := id hG
  obtain ⟨g1, g2, g3, g4, g5, g6⟩ := hG'
  refine .go Try.call23 Try.func23 false [] dOk ?_
  simp only [zbf, Nat.reduceAdd]
  repeat' (first
 |(refine za1 ?_; (first | refine zce ?_ | refine zav ?_ | refine m13 ?_ | refine m12 ?_ | refine m11 ?_ | (refine m10 ?_; (first | refine zbr ?_ | refine zbm ?_ | refine zbq ?_ | refine zbn ?_ | refine zbp ?_ ?_ | refine zbo ?_ ?_ | refine zbl ?_ ?_ | refine zbk ?_ ?_ | fail)) | (refine m09 ?_; (first | refine zbr ?_ | refine zbm ?_ | refine zbq ?_ | refine zbn ?_ | refine zbp ?_ ?_ | refine zbo ?_ ?_ | refine zbl ?_ ?_ | refine zbk ?_ ?_ | fail)) | refine m38 ?_ | fail))
 |(refine za2 ?_; (first | refine m14 ?_ | (refine m17 ?_; first | refine m19 ?_ | refine m18 ?_) | (refine m07 ?_; (first | refine m15 ?_ | refine m16 ?_ | fail)) | (refine m45 ?_; (first | refine v_w (by first | omega | (have hp := zaj hG (i := rows - 1) (j := cols - 1) (by omega) (by omega) (by omega) (by omega); omega) | fail) ?_ | refine zde (by exact rfl) ?_ | refine v_k ?_ | fail)) | (refine m00 ?_; (first | refine v_w (by first | omega | (have hp := zaj hG (i := rows - 1) (j := cols - 1) (by omega) (by omega) (by omega) (by omega); omega) | fail) ?_ | refine m52 ?_ | refine m53 ?_ | refine ze3 ?_ | refine m49 ?_ | refine m50 ?_ | refine v_k ?_ | refine m51 ?_ | fail)) | (refine m22 ?_; (first | refine m26 ?_ | refine m27 ?_ | fail)) | refine m42 ?_ | refine zad ?_ | refine zae ?_ | refine m08 ?_ | refine m01 ?_ | fail))
 |(refine zcy ?_; (first | refine m36 ?_ | refine zcw ?_ | refine m32 ?_ | refine m31 ?_ | refine m30 ?_ | (refine m28 ?_; (first | refine zb2 ?_ | refine zbx ?_ | refine zb1 ?_ | refine zby ?_ | refine zb0 ?_ ?_ | refine zbz ?_ ?_ | refine zbw ?_ ?_ | refine zbv ?_ ?_ | fail)) | (refine m29 ?_; (first | refine zb2 ?_ | refine zbx ?_ | refine zb1 ?_ | refine zby ?_ | refine zb0 ?_ ?_ | refine zbz ?_ ?_ | refine zbw ?_ ?_ | refine zbv ?_ ?_ | fail)) | refine m37 ?_ | fail))
 |(refine zcx ?_; (first | refine zgb ?_ | refine zh9 ?_ | refine zia (by (conv => {lhs; whnf}); done) ?_ | refine zib ?_ | refine zh8 (by exact rfl) (by exact rfl) ?_ | refine m34 ?_ | refine m35 ?_ | refine m33 ?_ | refine zgc ?_ | refine m56 ?_ | refine zcz ?_ | refine zdr (by exact rfl) ?_ | fail))
 |refine zaz ?_ | refine za0 ?_ | refine zay ?_
 |(refine za3 ?_; (first | refine zax ?_ | refine zac ?_ | (refine m06 ?_; (first | refine c_T ?_ | refine c_F ?_ | refine c_P ?_ ?_ | refine c_B ?_ ?_ | fail)) | refine zaw ?_ | refine zam ?_ | refine zaf ?_ | refine b_exit ?_ | refine zba (id := 3) [] [] [(0, .lt), (1, .ld true), (2, .lt), (3, .ld true), (4, .lt), (5, .ld true), (6, .lt), (7, .lt), (8, .ld true), (9, .lt), (10, .lt), (11, .lt), (12, .ld true), (13, .lt), (14, .lt), (15, .lt), (16, .lt)] (by kernel_rfl) ?_ | fail))
 |refine m05 ?_
 |refine m04 ?_ | refine m02 ?_ | refine m03 ?_ | refine zan ?_
 |intro _)
  all_goals first
    | (refine zao rfl (by simp [mx, mxL, zai, aOf, zb5]) ?_; unfold msF msT; rw [if_pos (by omega), if_pos (by omega)]; exact rfl)
    | (refine zao rfl (by simp [mx, mxL, zai, aOf, zb5]) ?_; unfold msF msT; rw [if_neg (by omega), if_neg (by omega)]; exact rfl)
theorem zt4 (H : List (List AV)) (a b c d : Int) :
    zab Try.prog 24 [.int .i64 a, .int .i64 b, .int .i64 c, .int .i64 d] H (.bool (decide (zcf a b c d))) H := by
  refine .go Try.call24 Try.func24 false [] dOk ?_
  simp only [zbf, Nat.reduceAdd]
  repeat' (first
 |(refine za1 ?_; (first | refine zce ?_ | refine zav ?_ | refine m13 ?_ | refine m12 ?_ | refine m11 ?_ | (refine m10 ?_; (first | refine zbr ?_ | refine zbm ?_ | refine zbq ?_ | refine zbn ?_ | refine zbp ?_ ?_ | refine zbo ?_ ?_ | refine zbl ?_ ?_ | refine zbk ?_ ?_ | fail)) | (refine m09 ?_; (first | refine zbr ?_ | refine zbm ?_ | refine zbq ?_ | refine zbn ?_ | refine zbp ?_ ?_ | refine zbo ?_ ?_ | refine zbl ?_ ?_ | refine zbk ?_ ?_ | fail)) | refine m38 ?_ | fail))
 |(refine za2 ?_; (first | refine m14 ?_ | (refine m00 ?_; (first | refine m47 ?_ | refine m48 ?_ | refine m49 ?_ | refine m50 ?_ | refine v_k ?_ | refine m51 ?_ | fail)) | (refine m22 ?_; (first | refine m26 ?_ | refine m27 ?_ | fail)) | refine m42 ?_ | refine zad ?_ | refine zae ?_ | refine m08 ?_ | fail))
 |refine zaz ?_ | refine za0 ?_ | refine zay ?_
 |(refine za3 ?_; (first | refine zax ?_ | refine zac ?_ | (refine m06 ?_; (first | refine c_T ?_ | refine c_F ?_ | refine c_P ?_ ?_ | refine c_B ?_ ?_ | fail)) | refine zaw ?_ | refine zam ?_ | refine zaf ?_ | refine b_exit ?_ | fail))
 |refine m05 ?_
 |refine m04 ?_ | refine m02 ?_ | refine m03 ?_ | refine zan ?_
 |intro _)
  all_goals first | refine zao rfl (by simp [mx, mxL, aOf, zb5, zai]) ?_ | (trace_state; fail)
  all_goals first
    | exact rtF (by unfold zcf; omega)
    | exact rtT (by unfold zcf; omega)
    | (refine congrArg AV.bool (decide_eq_decide.2 ?_); unfold zcf; omega)
end
section
attribute [local irreducible] Ex zas exD opX opE zdd zfl zfs Spec zab Fr zda zbc zbb ckK zcd zc0 zbt faK zcs ze5 gK fK rK zg7 lpX prK
end
theorem zty (H : List (List AV)) (D : AV) (l : List Nat) (hF : FL H D l) (off n inc : Int) (hI : VI l.length off n inc) (r : Bool) (hr : decide (zaq l.length off n inc) = r) : zab Try.prog 82 [vt D off n inc] H (.bool r) H := by
  subst hr; exact ztx H D l hF off n inc hI
theorem zn8 (H : List (List AV)) (D : AV) (l : List Nat) (hF : FL H D l) (off ld : Int) (r c : Nat) (hI : MI l.length off r c ld) (hG : zaa l.length off r c ld) (hr : r ≤ 1000) (hc : c ≤ 1000) : zab Try.prog 17 [mt D off (r : Int) (c : Int) ld] H (mM (.sl none (r * c) (fl (rmA (mel l off ld) r c))) r c) H := by
  have h := zze H D l hF off r c ld hI hG (by omega) (by omega)
  simpa only [Int.toNat_natCast] using h
def nb : Nat → DV → AV
  | 0, _ => .bool false
  | _ + 1, d => .bool d.neg
end Go.Sx
