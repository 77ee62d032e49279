/- A part of the proofs of this seat: SxY. No condition is set. -/
import Derived.Test.YtfnjkmdcmokciaaLM
set_option linter.unusedVariables false
set_option linter.unusedSimpArgs false
namespace Go.Sx
section
variable {P : Program} {cfg : Cfg} {e : List (Nat × EV)} {L : List (Nat × List AV)} {H N : List (List AV)} {K : St → Prop}
variable {ty : TypeId} {pos : String} {aft : Array Edge} {gd : Option (Nat × Bool)} {dd : Nat}
/-! ### one block of old that is written over and over: the blocks are 'H.set b ..' -/
theorem hb_set {b : Nat} {cs : List AV} (h : b < H.length) : (H.set b cs)[b]? = some cs := by simp [h]
theorem l_bF {t : TypeId} {b g o len sz k : Nat} {X : List Nat} [i : TyI P t 1 false] (hb : b < H.length) (hg : X.length = g) (hk : o + k < X.length) (h : K ⟨(dd, .val (.flt (X.getD (o + k) 0))) :: e, L, H.set b (fl X) ++ N⟩) :
    loadK P t dd K ⟨e, L, H.set b (fl X) ++ N⟩ (.val (.eptr (.slm b g o len sz) k)) :=
  l_ptr1 (by simp only [sread, hg_old (hb_set hb), Option.bind_some, fl_len, hg, if_true]; exact gc_one (fl_get hk)) h
theorem b_stB {t : TypeId} {x v : Operand} {b g o len sz k : Nat} {X X' : List Nat} {f : Nat} [ti : TyI P t 1 false] (hx : St.ev ⟨e, L, H.set b (fl X) ++ N⟩ x = .val (.eptr (.slm b g o len sz) k)) (hv : St.ev ⟨e, L, H.set b (fl X) ++ N⟩ v = .val (.flt f)) (hb : b < H.length)
    (hg : X.length = g) (hk : o + k < X.length) (hX : X.set (o + k) f = X') (h : K ⟨e, L, H.set b (fl X') ++ N⟩) : opX P cfg ⟨none, .store t x v, ty, pos, aft, gd⟩ K ⟨e, L, H.set b (fl X) ++ N⟩ := by
  refine b_stF hx hv (hb_set hb) hg hk hX ?_
  rw [List.set_set]; exact h
theorem b_nilC {x : Operand} {s : AV} {o : Nat} (hx : St.ev ⟨e, L, H⟩ x = .val (.eptr s o)) (h : K ⟨(dd, .val (.eptr s o)) :: e, L, H⟩) : opX P cfg ⟨some dd, .nilCheck x, ty, pos, aft, gd⟩ K ⟨e, L, H⟩ := by
  rw [op_pure P cfg e L H K _ _ _ _ _ _ rfl]
  simp only [pureV, hx]
  exact ⟨trivial, h⟩
theorem b_iaM {m : Nat} {t el : TypeId} {x y : Operand} [si : SlI P t el 1] {s : AV} {k : IntKind} {i : Int} {len : Nat} (hx : St.ev ⟨e, L, H⟩ x = .val s) (hy : St.ev ⟨e, L, H⟩ y = .val (.int k i)) (hl : slen s = some len) (hi : i = (m : Int)) (hm : m < len)
    (h : K ⟨(dd, .val (.eptr s m)) :: e, L, H⟩) : opX P cfg ⟨some dd, .indexAddr t x y, ty, pos, aft, gd⟩ K ⟨e, L, H⟩ :=
  b_ia (i := m) hx hy hl hi hm (by simpa using h)
theorem FL.set {b g q : Nat} {X : List Nat} (hb : b < H.length) (hg : g = X.length) (hq : q = X.length) : FL (H.set b (fl X) ++ N) (.slm b g 0 q 1) X :=
  (FL.old (hb_set hb) hg hq).app N
end
/-- two rows, swapped -/
def swpG (g : Nat → Nat → Nat) (i k : Nat) : Nat → Nat → Nat := fun i' j => if i' = i then g k j else if i' = k then g i j else g i' j
def swpS (g : Nat → Nat → Nat) (i k t : Nat) : Nat → Nat → Nat := fun i' j => if j < t then swpG g i k i' j else g i' j
theorem swpS_step' {g : Nat → Nat → Nat} {i k t : Nat} (i' j : Nat) : updG (updG (swpS g i k t) i t (g k t)) k t (g i t) i' j = swpS g i k (t + 1) i' j := by
  unfold updG swpS swpG
  by_cases h1 : j = t
  · subst h1
    by_cases h2 : i' = k
    · subst h2
      by_cases h3 : i' = i
      · subst h3; simp
      · simp [h3]
    · by_cases h3 : i' = i
      · subst h3; simp [h2]
      · simp [h2, h3]
  · have : (j < t + 1) = (j < t) := by apply propext; omega
    simp [h1, this]
theorem swpS_step {g : Nat → Nat → Nat} {i k t : Nat} (hik : i ≠ k) (i' j : Nat) : updG (updG (swpS g i k t) i t (g k t)) k t (g i t) i' j = swpS g i k (t + 1) i' j := swpS_step' i' j
theorem swpG_same {g : Nat → Nat → Nat} {i : Nat} (i' j : Nat) : swpG g i i i' j = g i' j := by
  unfold swpG; split
  · rename_i h; rw [h]
  · rfl
/-- a table, one number set -/
theorem rmA_congr {g g' : Nat → Nat → Nat} {r c : Nat} (h : ∀ i j, i < r → j < c → g i j = g' i j) : rmA g r c = rmA g' r c := by
  unfold rmA
  exact rml_congr fun k hk => h _ _ (div_lt' (by simpa using hk)) (Nat.mod_lt _ (pos_of_lt hk))
theorem rmA_set {g : Nat → Nat → Nat} {r c i j x : Nat} (hi : i < r) (hj : j < c) : (rmA g r c).set (i * c + j) x = rmA (updG g i j x) r c := by
  apply List.ext_getElem
  · simp
  · intro k h1 h2
    simp only [rmA_len] at h2
    rw [List.getElem_set]
    split
    · rename_i hk
      subst hk
      simp [rmA, rml, ix_div hj, ix_mod hj, updG]
    · rename_i hk
      simp only [rmA, rml, List.getElem_map, List.getElem_range, updG]
      rw [if_neg]
      rintro ⟨h3, h4⟩
      apply hk
      have := Nat.div_add_mod k c
      rw [h3, h4, Nat.mul_comm] at this
      exact this
theorem rmA_ext {a : List Nat} {r c : Nat} (h : a.length = r * c) : a = rmA (fun i j => a.getD (i * c + j) 0) r c := by
  apply List.ext_getElem
  · simp [h]
  · intro k h1 h2
    simp only [rmA_len] at h2
    have e : k / c * c + k % c = k := by rw [Nat.mul_comm]; exact Nat.div_add_mod k c
    simp [rmA, rml, e, List.getD, h1]
/-- the place of the greatest number without its sign, among the first -/
def moN (x : List Nat) : Nat → Nat
  | 0 => 0
  | k + 1 => if k = 0 then 0 else if flt (absF (x.getD (moN x k) 0)) (absF (x.getD k 0)) then k else moN x k
theorem moN_one (x : List Nat) : moN x 1 = 0 := rfl
theorem moN_T {x : List Nat} {k : Nat} (hk : 0 < k) (h : flt (absF (x.getD (moN x k) 0)) (absF (x.getD k 0)) = true) : moN x (k + 1) = k := by
  simp only [moN]; rw [if_neg (by omega), if_pos h]
theorem moN_F {x : List Nat} {k : Nat} (hk : 0 < k) (h : flt (absF (x.getD (moN x k) 0)) (absF (x.getD k 0)) = false) : moN x (k + 1) = moN x k := by
  simp only [moN]; rw [if_neg (by omega), h]; rfl
theorem moN_lt (x : List Nat) : ∀ k, 0 < k → moN x k < k
  | 0, h => by omega
  | k + 1, _ => by
    simp only [moN]
    split
    · omega
    · split
      · omega
      · have := moN_lt x k (by omega); omega
def moI (x : List Nat) (k : Nat) : Int := if k = 0 then -1 else (moN x k : Int)
theorem moI_zero (x : List Nat) : moI x 0 = -1 := rfl
theorem moI_pos {x : List Nat} {k : Nat} (h : 0 < k) : moI x k = (moN x k : Int) := by unfold moI; rw [if_neg (by omega)]
theorem moI_one (x : List Nat) : moI x (0 + 1) = 0 := rfl
theorem row_pos {off ld : Int} {r c n i t : Nat} (hG : GoodP n off r c ld) (hi : i < r) (ht : t < c) : rOff off (c : Int) (i : Int) + (t : Int) * ld = ((pos off ld i t : Nat) : Int) := by
  have hp := good_place hG (i := (i : Int)) (j := (t : Int)) (by omega) (by omega) (by omega) (by omega)
  unfold rOff pos
  rw [if_pos (by omega)]
  omega
theorem col_pos {off ld : Int} {r c n i t : Nat} (hG : GoodP n off r c ld) (hi : i < r) (ht : t < c) : cOff off (r : Int) ld (t : Int) + (i : Int) = ((pos off ld i t : Nat) : Int) := by
  have hp := good_place hG (i := (i : Int)) (j := (t : Int)) (by omega) (by omega) (by omega) (by omega)
  unfold cOff pos
  rw [if_pos (by omega)]
  omega
end Go.Sx
