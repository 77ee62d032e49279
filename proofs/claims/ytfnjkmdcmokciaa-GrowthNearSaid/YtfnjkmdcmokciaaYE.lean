/- A part of the proofs of this seat: YE. No condition is set. -/
import Derived.Test.YtfnjkmdcmokciaaXR
import Derived.Test.YtfnjkmdcmokciaaYC
import Derived.Test.YtfnjkmdcmokciaaYD
set_option linter.unusedVariables false
set_option linter.unusedSimpArgs false
set_option maxRecDepth 20000
/-! ### what sums, products and quotients of floats are worth -/
namespace Go.Sx
open Ieee
def dv : Datum → Rat
  | .number s m p => sgn s ((m : Rat) * p2 p)
  | _ => 0
theorem read_fin {x : Nat} (h : pK x = 0) : Ieee.double.read x = .number (sNeg x) (pM x).toNat (pE x) := by
  have hE : pE₀ x ≠ 2047 := by
    intro hE
    unfold pK at h
    rw [if_pos hE] at h
    split at h <;> cases h
  unfold Ieee.Format.read
  simp only [e_sw, e_bn, e_ir, e_lp]
  have hs : (x / 9223372036854775808 % 2 == 1) = sNeg x := rfl
  rw [hs]
  by_cases h0 : pE₀ x = 0
  · have e1 : pM x = pM₀ x := by unfold pM; rw [if_neg hE, if_pos h0]
    have e2 : pE x = -1074 := by unfold pE; rw [if_neg hE, if_pos h0]
    rw [e1, e2]
    unfold pE₀ at h0
    rw [if_pos (by omega)]
    congr 1
    unfold pM₀; omega
  · have e1 : pM x = pM₀ x + 4503599627370496 := by unfold pM; rw [if_neg hE, if_neg h0]
    have e2 : pE x = pE₀ x - 1075 := by unfold pE; rw [if_neg hE, if_neg h0]
    rw [e1, e2]
    unfold pE₀ at *
    unfold pM₀
    rw [if_neg (by omega), if_pos (by omega)]
    congr 1 <;> omega
theorem fv_read {x : Nat} (h : pK x = 0) : fv x = dv (Ieee.double.read x) := by
  rw [read_fin h]
  unfold fv dv
  have := (pM_rng (x := x)).1
  have e : ((pM x : Int) : Rat) = (((pM x).toNat : Nat) : Rat) := by
    conv => lhs; rw [show pM x = (((pM x).toNat : Nat) : Int) by omega]
    rfl
  rw [e]
theorem fin_of {x : Nat} {s : Bool} {m : Nat} {p : Int} (h : Ieee.double.read x = .number s m p) : pK x = 0 := by
  unfold Ieee.Format.read at h
  simp only [e_sw, e_bn, e_ir] at h
  unfold pK pE₀
  split at h
  · rw [if_neg (by omega), if_neg (by omega)]
  · split at h
    · rw [if_neg (by omega), if_neg (by omega)]
    · split at h <;> cases h
theorem not_fin {x : Nat} (h : pK x ≠ 0) : (∃ s, Ieee.double.read x = .infinity s) ∨ ∃ s t, Ieee.double.read x = .nan s t := by
  cases hr : Ieee.double.read x with
  | number s m p => exact absurd (fin_of hr) h
  | infinity s => exact .inl ⟨s, rfl⟩
  | nan s t => exact .inr ⟨s, t, rfl⟩
theorem sgn_near {s : Bool} {a b t : Rat} (h : Near a b t) : Near (sgn s a) (sgn s b) t := by
  obtain ⟨h1, h2⟩ := h
  unfold Near
  cases s <;> simp only [sgn, if_true, Bool.false_eq_true, if_false] <;> constructor <;> grind
theorem fin_word {s : Bool} {k : Nat} (hk : k ≤ 9218868437227405312) (h : pK (Ieee.double.word s k) = 0) : k < 9218868437227405312 := by
  rcases Nat.lt_or_ge k 9218868437227405312 with hh | hh
  · exact hh
  · have : k = 9218868437227405312 := by omega
    subst this
    revert h; cases s <;> decide
theorem fv_word {s : Bool} {k : Nat} (hk : k < 9218868437227405312) : pK (Ieee.double.word s k) = 0 ∧ fv (Ieee.double.word s k) = sgn s (fv k) := by
  obtain ⟨m, p, h1, _⟩ := rungF_read hk
  have hr := read_word s k (Nat.le_of_lt hk)
  rw [h1] at hr
  have hr' : Ieee.double.read (Ieee.double.word s k) = .number s m p := by rw [hr]; cases s <;> rfl
  have f1 := fin_of hr'
  have f2 := fin_of h1
  refine ⟨f1, ?_⟩
  rw [fv_read f1, fv_read f2, hr', h1]
  rfl
def absR (x : Rat) : Rat := if x < 0 then -x else x
theorem absR_nn (x : Rat) : 0 ≤ absR x := by unfold absR; split <;> grind
theorem absR_ge (x : Rat) : x ≤ absR x ∧ -x ≤ absR x := by unfold absR; split <;> constructor <;> grind
theorem absR_le {x t : Rat} (h1 : x ≤ t) (h2 : -x ≤ t) : absR x ≤ t := by unfold absR; split <;> assumption
theorem absR_sgn {s : Bool} {a : Rat} (h : 0 ≤ a) : absR (sgn s a) = a := by
  unfold absR
  cases s <;> simp only [sgn, if_true, Bool.false_eq_true, if_false] <;> split <;> grind
theorem absR_pos {x : Rat} (h : 0 ≤ x) : absR x = x := by unfold absR; rw [if_neg (by grind)]
theorem absR_neg (x : Rat) : absR (-x) = absR x := by unfold absR; split <;> split <;> grind
theorem absR_mul (x y : Rat) : absR (x * y) = absR x * absR y := by
  have pp : ∀ a b : Rat, 0 ≤ a → 0 ≤ b → 0 ≤ a * b := fun a b h1 h2 => Rat.mul_nonneg h1 h2
  by_cases hx : x < 0
  · by_cases hy : y < 0
    · have := pp (-x) (-y) (by grind) (by grind)
      have e1 : absR x = -x := if_pos hx
      have e2 : absR y = -y := if_pos hy
      rw [e1, e2, absR_pos (by grind)]; grind
    · have := pp (-x) y (by grind) (by grind)
      have e1 : absR x = -x := if_pos hx
      rw [e1, absR_pos (x := y) (by grind)]
      have : x * y = -(-x * y) := by grind
      rw [this, absR_neg, absR_pos (by grind)]
  · by_cases hy : y < 0
    · have := pp x (-y) (by grind) (by grind)
      have e2 : absR y = -y := if_pos hy
      rw [e2, absR_pos (x := x) (by grind)]
      have : x * y = -(x * -y) := by grind
      rw [this, absR_neg, absR_pos (by grind)]
    · have := pp x y (by grind) (by grind)
      rw [absR_pos (x := x) (by grind), absR_pos (x := y) (by grind), absR_pos this]
theorem absR_zero : absR 0 = 0 := by unfold absR; rw [if_neg (by decide)]
def uR : Rat := p2 (-53)
def tR : Rat := p2 (-1075)
theorem uR_pos : 0 < uR := p2_pos _
theorem tR_pos : 0 < tR := p2_pos _
theorem uR_val : uR = 1 / 9007199254740992 := by decide +kernel
/-- a number written is a number nearby -/
theorem write_near {s : Bool} {m : Nat} {p : Int} (h : pK (Ieee.double.write (.number s m p)) = 0) :
    ∃ t, 0 ≤ t ∧ Near (fv (Ieee.double.write (.number s m p))) (sgn s ((m : Rat) * p2 p)) t ∧ t ≤ absR (sgn s ((m : Rat) * p2 p)) * uR + tR ∧ t ≤ absR (fv (Ieee.double.write (.number s m p))) * uR + tR := by
  have e1 : Ieee.double.write (.number s m p) = Ieee.double.word s (rungF m p) := nearest_eq s m p
  rw [e1] at h ⊢
  have hk := fin_word (rungF_le m p) h
  rw [(fv_word (s := s) hk).2]
  have hp := p2_pos p
  have hm0 : (0 : Rat) ≤ m := by exact_mod_cast Nat.zero_le m
  have hmp : 0 ≤ (m : Rat) * p2 p := Rat.mul_nonneg hm0 (Rat.le_of_lt hp)
  by_cases hm : m = 0
  · subst hm
    have e2 : rungF 0 p = 0 := by unfold rungF; rw [if_pos rfl]
    rw [e2]
    have e3 : fv 0 = 0 := by decide +kernel
    rw [e3, show ((0 : Nat) : Rat) * p2 p = 0 by simp]
    have e4 : sgn s (0 : Rat) = 0 := by cases s <;> simp [sgn]
    rw [e4, absR_zero]
    refine ⟨0, Rat.le_refl, ⟨by grind, by grind⟩, ?_, ?_⟩ <;> (have := tR_pos; grind)
  · obtain ⟨r1, r2, r3, t, t0, t1, t2, t3⟩ := rung_err hm hk
    refine ⟨t, t0, sgn_near t1, ?_, ?_⟩
    · rw [absR_sgn hmp]; exact t2
    · rw [absR_sgn r3]; exact t3
theorem fop_fin {f : Nat → Nat → Option Nat} {x y : Nat} (h : pK (fop f x y) = 0) : ∃ r, f x y = some r ∧ fop f x y = r ∧ pK r = 0 := by
  have ff : fop f x y = (match f x y with | some r => cn r | none => qn) := rfl
  rw [ff] at h ⊢
  cases hf : f x y with
  | none => rw [hf] at h; exact absurd h (by decide)
  | some r =>
    rw [hf] at h
    simp only at h ⊢
    have := cn_fin h rfl
    exact ⟨r, rfl, this.symm, by rw [this]; exact h⟩
theorem write_num {d : Datum} (h : pK (Ieee.double.write d) = 0) : ∃ s m p, d = .number s m p := by
  cases d with
  | number s m p => exact ⟨s, m, p, rfl⟩
  | infinity s => exact absurd h (by cases s <;> decide)
  | nan s t =>
    exfalso
    have e : Ieee.double.write (.nan s t) = Ieee.double.word s (9218868437227405312 + t % 4503599627370496) := by simp only [Ieee.Format.write, e_ir, e_bn]
    rw [e] at h
    have hlt := Nat.mod_lt t (show 0 < 4503599627370496 by decide)
    generalize t % 4503599627370496 = q at *
    unfold Ieee.Format.word at h
    rw [e_sw] at h
    unfold pK pE₀ at h
    cases s
    · simp only [Bool.false_eq_true, if_false] at h
      split at h
      · cases h
      · rw [if_pos (by omega)] at h; cases h
    · simp only [if_true] at h
      split at h
      · cases h
      · rw [if_pos (by omega)] at h; cases h
theorem le_of_mul_p {a b c : Rat} (h : a * c ≤ b * c) (hc : 0 < c) : a ≤ b := by
  rcases Rat.le_total (a := a) (b := b) with h1 | h1
  · exact h1
  · have h2 := Rat.mul_le_mul_of_nonneg_right h1 (Rat.le_of_lt hc)
    have h3 : (a - b) * c = 0 := by grind
    have h4 : a - b = 0 := by
      rcases Rat.mul_eq_zero.1 h3 with h | h
      · exact h
      · grind
    grind
theorem quot_big {m n : Nat} : m = 0 ∨ n * 9007199254740992 ≤ m * 2 ^ (54 + n.log2 - m.log2) := by
  generalize hmore : 54 + n.log2 - m.log2 = more
  by_cases hm : m = 0
  · exact .inl hm
  · right
    have h1 := Nat.log2_self_le hm
    have h2 : n < 2 ^ (n.log2 + 1) := Nat.lt_log2_self
    have h3 := Nat.mul_le_mul_right (2 ^ more) h1
    rw [← Nat.pow_add] at h3
    have h4 : 2 ^ (n.log2 + 1 + 53) ≤ 2 ^ (m.log2 + more) := Nat.pow_le_pow_right (by omega) (by omega)
    rw [Nat.pow_add 2 (n.log2 + 1) 53] at h4
    have : (2 : Nat) ^ 53 = 9007199254740992 := by decide
    rw [this] at h4
    have := Nat.mul_le_mul_right 9007199254740992 (Nat.le_of_lt h2)
    have := Nat.mul_le_mul_right 9007199254740992 (Nat.le_of_lt h2)
    generalize 2 ^ (m.log2 + more) = A at *
    generalize 2 ^ (n.log2 + 1) = B at *
    exact Nat.le_trans this (Nat.le_trans h4 h3)
theorem quot_near {m n : Nat} {i j : Int} (hn : n ≠ 0) :
    Near (((2 * ((m <<< (54 + n.log2 - m.log2)) / n) + ((m <<< (54 + n.log2 - m.log2)) % n != 0).toNat : Nat) : Rat) * p2 (i - j - ((54 + n.log2 - m.log2 : Nat) : Int) - 1) * ((n : Rat) * p2 j)) ((m : Rat) * p2 i) ((m : Rat) * p2 i * (uR / 2)) := by
  generalize hmore : 54 + n.log2 - m.log2 = more
  rw [Nat.shiftLeft_eq]
  have hd := Nat.div_add_mod (m * 2 ^ more) n
  have hlt := Nat.mod_lt (m * 2 ^ more) (Nat.pos_of_ne_zero hn)
  have hD : m = 0 ∨ n * 9007199254740992 ≤ m * 2 ^ more := by rw [← hmore]; exact quot_big
  have key : ∃ M, M = 2 * ((m * 2 ^ more) / n) + ((m * 2 ^ more) % n != 0).toNat ∧ M * n ≤ 2 * (m * 2 ^ more) + n ∧ 2 * (m * 2 ^ more) ≤ M * n + n ∧ (m = 0 → M = 0) := by
    refine ⟨_, rfl, ?_, ?_, ?_⟩
    · by_cases hz : (m * 2 ^ more) % n = 0
      · rw [hz] at hd ⊢
        simp only [bne_self_eq_false, Bool.toNat_false, Nat.add_zero] at hd ⊢
        have : 2 * (m * 2 ^ more / n) * n = 2 * (n * (m * 2 ^ more / n)) := by rw [Nat.mul_assoc, Nat.mul_comm _ n]
        omega
      · have : ((m * 2 ^ more) % n != 0) = true := by simpa using hz
        rw [this, Bool.toNat_true, Nat.add_mul]
        have : 2 * (m * 2 ^ more / n) * n = 2 * (n * (m * 2 ^ more / n)) := by rw [Nat.mul_assoc, Nat.mul_comm _ n]
        omega
    · by_cases hz : (m * 2 ^ more) % n = 0
      · rw [hz] at hd ⊢
        simp only [bne_self_eq_false, Bool.toNat_false, Nat.add_zero] at hd ⊢
        have : 2 * (m * 2 ^ more / n) * n = 2 * (n * (m * 2 ^ more / n)) := by rw [Nat.mul_assoc, Nat.mul_comm _ n]
        omega
      · have : ((m * 2 ^ more) % n != 0) = true := by simpa using hz
        rw [this, Bool.toNat_true, Nat.add_mul]
        have : 2 * (m * 2 ^ more / n) * n = 2 * (n * (m * 2 ^ more / n)) := by rw [Nat.mul_assoc, Nat.mul_comm _ n]
        omega
    · intro hm; subst hm; simp
  obtain ⟨M, hM, k1, k2, k3⟩ := key
  rw [← hM]
  have e1 : p2 (i - j - (more : Int) - 1) * p2 j = p2 (i - more - 1) := by rw [← p2_add]; congr 1; omega
  have e2 : p2 i = 2 * ((2 ^ more : Nat) : Rat) * p2 (i - more - 1) := by
    have : p2 1 = 2 := by decide +kernel
    rw [← this, ← p2_natC, ← p2_add, ← p2_add]; congr 1; omega
  have e3 : (M : Rat) * p2 (i - j - (more : Int) - 1) * ((n : Rat) * p2 j) = ((M * n : Nat) : Rat) * p2 (i - more - 1) := by rw [← e1, Rat.natCast_mul]; grind
  have e4 : (m : Rat) * p2 i = ((2 * (m * 2 ^ more) : Nat) : Rat) * p2 (i - more - 1) := by rw [e2, Rat.natCast_mul, Rat.natCast_mul]; have : ((2 : Nat) : Rat) = 2 := rfl; rw [this]; grind
  rw [e3, e4]
  have hp := Rat.le_of_lt (p2_pos (i - more - 1))
  generalize p2 (i - more - 1) = L at *
  by_cases hm : m = 0
  · have := k3 hm
    subst this; subst hm
    simp only [Nat.zero_mul, Nat.mul_zero]
    unfold Near
    have : ((0 : Nat) : Rat) = 0 := rfl
    rw [this]
    constructor <;> grind
  · have hD' : n * 9007199254740992 ≤ m * 2 ^ more := by rcases hD with h | h; exact absurd h hm; exact h
    have c1 := natCast_le k1
    have c2 := natCast_le k2
    have c3 := natCast_le hD'
    generalize m * 2 ^ more = D at *
    rw [Rat.natCast_add] at c1 c2
    rw [Rat.natCast_mul n] at c3
    have : ((9007199254740992 : Nat) : Rat) = 9007199254740992 := rfl
    rw [this] at c3
    generalize ((M * n : Nat) : Rat) = A at *
    rw [Rat.natCast_mul] at c1 c2 ⊢
    have : ((2 : Nat) : Rat) = 2 := rfl
    rw [this] at c1 c2 ⊢
    generalize (D : Rat) = B at *
    generalize (n : Rat) = C at *
    have d1 := Rat.mul_le_mul_of_nonneg_right c1 hp
    have d2 := Rat.mul_le_mul_of_nonneg_right c2 hp
    have d3 := Rat.mul_le_mul_of_nonneg_right c3 hp
    rw [uR_val]
    unfold Near
    have z1 : C * 9007199254740992 * L = 9007199254740992 * (C * L) := by grind
    have z2 : (2 * B + C) * L = 2 * (B * L) + C * L := by grind
    have z3 : (A + C) * L = A * L + C * L := by grind
    have z4 : 2 * B * L = 2 * (B * L) := by grind
    rw [z1] at d3; rw [z2] at d1; rw [z3, z4] at d2
    rw [z4]
    generalize B * L = BL at *
    generalize C * L = CL at *
    generalize A * L = AL at *
    constructor <;> grind
theorem near_abs {x y t : Rat} (h : Near x y t) : absR x ≤ absR y + t := by
  obtain ⟨h1, h2⟩ := h
  have := absR_ge y
  exact absR_le (by grind) (by grind)
theorem near_trans {x y z t s : Rat} (h1 : Near x y t) (h2 : Near y z s) : Near x z (t + s) := by
  obtain ⟨a, b⟩ := h1; obtain ⟨c, d⟩ := h2
  constructor <;> grind
theorem near_abs' {x y t : Rat} : Near x y t ↔ absR (x - y) ≤ t := by
  have := absR_ge (x - y)
  constructor
  · rintro ⟨h1, h2⟩; exact absR_le h1 (by grind)
  · intro h; constructor <;> grind
theorem near_mul {x y t z : Rat} (h : Near x y t) : Near (x * z) (y * z) (t * absR z) := by
  rw [near_abs'] at h ⊢
  rw [show x * z - y * z = (x - y) * z by grind, absR_mul]
  exact Rat.mul_le_mul_of_nonneg_right h (absR_nn z)
theorem fv_abs {x : Nat} (h : pK x = 0) : absR (fv x) = (((pM x).toNat : Nat) : Rat) * p2 (pE x) := by
  rw [fv_read h, read_fin h]
  exact absR_sgn (Rat.mul_nonneg (by exact_mod_cast Nat.zero_le _) (Rat.le_of_lt (p2_pos _)))
/-- the quotient -/
theorem fdiv_write {x y : Nat} (h : pK (fdiv x y) = 0) (hy : pK y = 0) : pK x = 0 ∧ fv y ≠ 0 ∧ ∃ s M p, fdiv x y = Ieee.double.write (.number s M p) ∧ Near (sgn s ((M : Rat) * p2 p) * fv y) (fv x) (absR (fv x) * (uR / 2)) ∧ (absR (fv x) ≤ absR (fv y) → (M : Rat) * p2 p ≤ 1) := by
  obtain ⟨r, h1, h2, h3⟩ := fop_fin (f := Ieee.double.div) h
  have e : fdiv x y = r := h2
  rw [e]
  have hm : Ieee.double.div x y = ((Ieee.double.read x).quotient 54 (Ieee.double.read y)).map Ieee.double.write := rfl
  rw [hm] at h1
  cases hp : (Ieee.double.read x).quotient 54 (Ieee.double.read y) with
  | none => rw [hp] at h1; cases h1
  | some d =>
    rw [hp] at h1
    simp only [Option.map_some, Option.some.injEq] at h1
    rw [← h1] at h3 ⊢
    obtain ⟨s, M, p, rfl⟩ := write_num h3
    have hry := read_fin hy
    have kx : pK x = 0 := by
      apply Classical.byContradiction; intro hx
      rcases not_fin hx with ⟨s', hr⟩ | ⟨s', t', hr⟩
      · rw [hr, hry] at hp; simp [Ieee.Datum.quotient] at hp
      · rw [hr, hry] at hp; simp [Ieee.Datum.quotient] at hp
    have hrx := read_fin kx
    have ax := fv_abs kx
    have ay := fv_abs hy
    rw [fv_read kx, fv_read hy] at *
    rw [hrx, hry] at hp
    rw [hrx] at ax ⊢
    rw [hry] at ay ⊢
    generalize (pM x).toNat = m at *
    generalize (pM y).toNat = n at *
    generalize pE x = i at *
    generalize pE y = j at *
    by_cases hn : n = 0
    · rw [hn] at hp
      simp only [Ieee.Datum.quotient, if_true] at hp
      split at hp <;> simp at hp
    · have hn0 : (0 : Rat) < (n : Rat) := by exact_mod_cast Nat.pos_of_ne_zero hn
      have hnp := Rat.mul_pos hn0 (p2_pos j)
      simp only [Ieee.Datum.quotient, if_neg hn, Option.some.injEq, Ieee.Datum.number.injEq] at hp
      obtain ⟨p1, p2', p3⟩ := hp
      have hq := quot_near (m := m) (n := n) (i := i) (j := j) hn
      rw [ax, ay]
      refine ⟨kx, ?_, s, M, p, rfl, ?_, ?_⟩
      · simp only [dv]
        cases sNeg y <;> simp only [sgn, if_true, Bool.false_eq_true, if_false] <;> grind
      · rw [p2', p3] at hq
        simp only [dv]
        rw [← p1]
        have := sgn_near (s := sNeg x) hq
        have e2 : sgn (sNeg x ^^ sNeg y) ((M : Rat) * p2 p) * sgn (sNeg y) ((n : Rat) * p2 j) = sgn (sNeg x) ((M : Rat) * p2 p * ((n : Rat) * p2 j)) := by
          generalize (M : Rat) * p2 p = a
          generalize (n : Rat) * p2 j = b
          cases sNeg x <;> cases sNeg y <;> simp only [sgn, Bool.xor_self, Bool.true_xor, Bool.false_xor, Bool.not_true, Bool.not_false, if_true, Bool.false_eq_true, if_false] <;> grind
        rw [e2]
        exact this
      · intro hle
        -- M n ≤ 2 D when D/n is whole, and M/2 < ceil
        rw [← p2', ← p3]
        generalize hmore : 54 + n.log2 - m.log2 = more at *
        rw [Nat.shiftLeft_eq] at *
        -- m 2^i ≤ n 2^j
        have hP : ∃ P : Int, i - j - (more : Int) = P := ⟨_, rfl⟩
        obtain ⟨P, hP⟩ := hP
        rw [hP]
        have h5 : ((m * 2 ^ more : Nat) : Rat) * p2 P ≤ (n : Rat) := by
          have : p2 i = ((2 ^ more : Nat) : Rat) * p2 P * p2 j := by rw [← p2_natC, ← p2_add, ← p2_add]; congr 1; omega
          rw [this] at hle
          have e : ((m * 2 ^ more : Nat) : Rat) * p2 P * p2 j = (m : Rat) * (((2 ^ more : Nat) : Rat) * p2 P * p2 j) := by rw [Rat.natCast_mul]; grind
          have h6 : ((m * 2 ^ more : Nat) : Rat) * p2 P * p2 j ≤ (n : Rat) * p2 j := by rw [e]; exact hle
          exact le_of_mul_p h6 (p2_pos j)
        have hd := Nat.div_add_mod (m * 2 ^ more) n
        have hlt := Nat.mod_lt (m * 2 ^ more) (Nat.pos_of_ne_zero hn)
        have hbig : m * 2 ^ more = 0 ∨ n * 9007199254740992 ≤ m * 2 ^ more := by
          rcases quot_big (m := m) (n := n) with h | h
          · left; rw [h]; simp
          · right; rw [← hmore]; exact h
        generalize m * 2 ^ more = D at *
        -- with P ≥ 0 whole
        rcases Int.lt_or_le P 1 with hP0 | hP0
        · -- p2 P = 1 / 2^k
          obtain ⟨k, hk⟩ : ∃ k : Nat, P = -(k : Int) := ⟨(-P).toNat, by omega⟩
          have hk2 : p2 P * ((2 ^ k : Nat) : Rat) = 1 := by rw [← p2_natC, ← p2_add, hk, show -(k : Int) + k = 0 by omega, p2_zero]
          have h7 : D ≤ n * 2 ^ k := by
            have h8 := Rat.mul_le_mul_of_nonneg_right h5 (show (0 : Rat) ≤ ((2 ^ k : Nat) : Rat) by exact_mod_cast Nat.zero_le _)
            rw [Rat.mul_assoc, hk2, Rat.mul_one, ← Rat.natCast_mul] at h8
            exact_mod_cast h8
          have h9 : 2 * (D / n) + (D % n != 0).toNat ≤ 2 * 2 ^ k := by
            by_cases hz : D % n = 0
            · have : (D % n != 0) = false := by simp [hz]
              rw [this, Bool.toNat_false]
              have : D / n ≤ 2 ^ k := by
                rw [Nat.div_le_iff_le_mul_add_pred (Nat.pos_of_ne_zero hn)]; omega
              omega
            · have : (D % n != 0) = true := by simpa using hz
              rw [this, Bool.toNat_true]
              have : D / n < 2 ^ k := by
                rw [Nat.div_lt_iff_lt_mul (Nat.pos_of_ne_zero hn)]
                rcases Nat.lt_or_ge D (2 ^ k * n) with h | h
                · exact h
                · exfalso
                  have : D = n * 2 ^ k := by rw [Nat.mul_comm n] at h7 ⊢; omega
                  rw [this] at hz
                  exact hz (Nat.mul_mod_right _ _)
              omega
          have h10 := natCast_le h9
          have h11 : p2 (P - 1) * (((2 * 2 ^ k : Nat)) : Rat) = 1 := by
            have : (2 * 2 ^ k : Nat) = 2 ^ (k + 1) := by rw [Nat.pow_succ']
            rw [this, ← p2_natC, ← p2_add, hk, show -(k : Int) - 1 + ((k + 1 : Nat) : Int) = 0 by omega, p2_zero]
          have h12 := Rat.mul_le_mul_of_nonneg_right h10 (Rat.le_of_lt (p2_pos (P - 1)))
          rw [Rat.mul_comm ((2 * 2 ^ k : Nat) : Rat), h11] at h12
          exact h12
        · -- D < n
          obtain ⟨k, hk⟩ : ∃ k : Nat, P = (k : Int) + 1 := ⟨(P - 1).toNat, by omega⟩
          have h7 : D * 2 ^ (k + 1) ≤ n := by
            have : p2 P = ((2 ^ (k + 1) : Nat) : Rat) := by rw [hk, show (k : Int) + 1 = ((k + 1 : Nat) : Int) by omega, p2_natC]
            rw [this, ← Rat.natCast_mul] at h5
            exact_mod_cast h5
          rw [Nat.pow_succ] at h7
          have hk1 := Nat.two_pow_pos k
          have h8 := Nat.mul_le_mul_left D hk1
          rw [← Nat.mul_assoc] at h7
          have hDn : D < n := by omega
          rw [Nat.div_eq_of_lt hDn, Nat.mod_eq_of_lt hDn]
          have e5 : P - 1 = (k : Int) := by omega
          rw [e5, p2_natC]
          by_cases hz : D = 0
          · subst hz; simp; decide
          · exfalso; omega
theorem fdiv_near {x y : Nat} (h : pK (fdiv x y) = 0) (hy : pK y = 0) : pK x = 0 ∧ fv y ≠ 0 ∧ ∃ t, 0 ≤ t ∧ Near (fv (fdiv x y) * fv y) (fv x) t ∧ t ≤ absR (fv x) * (2 * uR) + absR (fv y) * tR := by
  obtain ⟨kx, hy0, s, M, p, h1, h2, _⟩ := fdiv_write h hy
  refine ⟨kx, hy0, ?_⟩
  rw [h1] at h ⊢
  obtain ⟨t, t0, t1, t2, _⟩ := write_near h
  have n1 := near_trans (near_mul (z := fv y) t1) h2
  have a2 := near_abs h2
  rw [absR_mul] at a2
  have hu := uR_val
  have x0 := absR_nn (fv x)
  have y0 := absR_nn (fv y)
  refine ⟨_, ?_, n1, ?_⟩
  · have := Rat.mul_nonneg t0 y0
    have := Rat.mul_nonneg x0 (Rat.le_of_lt uR_pos)
    grind
  · have := Rat.mul_le_mul_of_nonneg_right t2 y0
    generalize absR (sgn s ((M : Rat) * p2 p)) = W at *
    generalize absR (fv x) = X at *
    generalize absR (fv y) = Y at *
    have z1 : (W * uR + tR) * Y = (W * Y) * uR + Y * tR := by grind
    rw [z1] at this
    generalize W * Y = WY at *
    generalize t * Y = TY at *
    generalize Y * tR = YT at *
    rw [hu] at *
    grind
end Go.Sx

set_option linter.unusedVariables false
set_option linter.unusedSimpArgs false
/-! ### the growth is as near as one rounding -/
namespace Go.Sx
theorem fin_lt {y : Nat} (h : y < 9218868437227405312) : pK y = 0 ∧ 0 ≤ fv y := by
  obtain ⟨m, p, hr, _⟩ := rungF_read h
  have hf := fin_of hr
  refine ⟨hf, ?_⟩
  have hs : sNeg y = false := by unfold sNeg; rw [Nat.div_eq_of_lt (by omega)]; rfl
  unfold fv
  rw [hs]
  have h0 := (pM_rng (x := y)).1
  exact Rat.mul_nonneg (by exact_mod_cast h0) (Rat.le_of_lt (p2_pos _))
theorem abs_fin {x : Nat} (h : pK x = 0) : absF x = x % 9223372036854775808 ∧ absF x < 9218868437227405312 := by
  have hlt : x % 9223372036854775808 < 9218868437227405312 := by
    unfold pK at h
    split at h
    · cases h
    · split at h
      · cases h
      · rename_i h2
        unfold pE₀ at h2
        omega
  have e : absF x = x % 9223372036854775808 := by
    unfold absF
    rcases cn_cases (x % 9223372036854775808) with ⟨h1, h2⟩ | ⟨h1, h2⟩
    · exfalso
      obtain ⟨m, p, hr, _⟩ := rungF_read hlt
      unfold isNaN at h1
      rw [hr] at h1; cases h1
    · exact h2
  exact ⟨e, by rw [e]; exact hlt⟩
theorem mxN_mem : ∀ (l : List Nat) (m : Nat), l.foldl max m = m ∨ l.foldl max m ∈ l
  | [], m => .inl rfl
  | a :: l, m => by
    simp only [List.foldl_cons, List.mem_cons]
    rcases mxN_mem l (max m a) with h | h
    · rw [h]
      by_cases hh : m ≤ a
      · right; left; omega
      · left; omega
    · exact .inr (.inr h)
theorem great_fin {l : List Nat} (h : ∀ x ∈ l, x < 9218868437227405312) : greatF l = mxN l ∧ greatF l < 9218868437227405312 := by
  have hq : ¬ qn ∈ l := fun hm => absurd (h _ hm) (by decide)
  have h1 := great_abs l (fun x hx => .inr (by have := h x hx; unfold fInf; omega))
  rw [if_neg hq] at h1
  refine ⟨h1, ?_⟩
  rw [h1]
  rcases mxN_mem l 0 with h2 | h2
  · unfold mxN; rw [h2]; decide
  · exact h _ h2
theorem mstP_mem {g : Nat → Nat → Nat} {rw : Nat → Nat} : ∀ {c x : Nat}, x ∈ mstP g rw c ↔ ∃ i j, j < c ∧ i < rw j ∧ x = absF (g i j)
  | 0, x => by simp [mstP]
  | c + 1, x => by
    simp only [mstP, List.mem_append, mstP_mem (c := c)]
    constructor
    · rintro (⟨i, j, h1, h2, h3⟩ | h)
      · exact ⟨i, j, by omega, h2, h3⟩
      · simp only [rml, List.mem_map, List.mem_range] at h
        obtain ⟨i, h1, rfl⟩ := h
        exact ⟨i, c, by omega, h1, rfl⟩
    · rintro ⟨i, j, h1, h2, h3⟩
      by_cases hj : j < c
      · exact .inl ⟨i, j, hj, h2, h3⟩
      · have : j = c := by omega
        subst this
        right
        simp only [rml, List.mem_map, List.mem_range]
        exact ⟨i, h2, h3.symm⟩
theorem top_fin {g : Nat → Nat → Nat} {rw : Nat → Nat} {c : Nat} (h : ∀ i j, j < c → i < rw j → pK (g i j) = 0) : topF g rw c < 9218868437227405312 ∧ ∀ i j, j < c → i < rw j → absF (g i j) ≤ topF g rw c := by
  have hl : ∀ x ∈ mstP g rw c, x < 9218868437227405312 := fun x hx => by
    obtain ⟨i, j, h1, h2, rfl⟩ := mstP_mem.1 hx
    exact (abs_fin (h i j h1 h2)).2
  obtain ⟨h1, h2⟩ := great_fin hl
  refine ⟨h2, fun i j hj hi => ?_⟩
  unfold topF
  rw [h1]
  exact ((mxN_le (mstP g rw c) 0 (mxN (mstP g rw c))).1 (Nat.le_refl _)).2 _ (mstP_mem.2 ⟨i, j, hj, hi, rfl⟩)
theorem feq_zero {x : Nat} (h : x < 9218868437227405312) : feq x 0 = decide (x = 0) := by
  unfold feq
  rw [order_pos (show x ≤ fInf by unfold fInf; omega) (show 0 ≤ fInf by decide)]
  by_cases h0 : x = 0
  · subst h0; rfl
  · rw [decide_eq_false h0, Nat.compare_eq_gt.2 (by omega)]; rfl
theorem feq_abs0 {x : Nat} (h : pK x = 0) (h0 : absF x = 0) : feq x 0 = true := by
  have h1 := (abs_fin h).1
  rw [h0] at h1
  obtain ⟨s, hs⟩ := read_split x
  rw [← h1] at hs
  have r0 : Ieee.double.read 0 = .number false 0 (-1074) := by decide
  unfold feq Ieee.Format.order
  rw [hs, r0]
  cases s <;> decide
theorem grow_near {g a : Nat → Nat → Nat} {n : Nat} (hg : ∀ i j, i < n → j < n → pK (g i j) = 0) (ha : ∀ i j, i < n → j < n → pK (a i j) = 0) (hN : fN g n = n) (hx : pK (growF g a n n) = 0) :
    pK (topF g (fun _ => n) n) = 0 ∧ pK (topF a (fun j => j + 1) n) = 0 ∧ (fv (growF g a n n) * fv (topF g (fun _ => n) n) - fv (topF a (fun j => j + 1) n)).abs ≤ fv (topF a (fun j => j + 1) n) * p2 (-52) + fv (topF g (fun _ => n) n) * p2 (-1074) := by
  have S1 := top_fin (g := g) (rw := fun _ => n) (c := n) (fun i j hj hi => hg i j hi hj)
  have M1 := top_fin (g := a) (rw := fun j => j + 1) (c := n) (fun i j hj hi => ha i j (by omega) hj)
  obtain ⟨s1, s2⟩ := fin_lt S1.1
  obtain ⟨m1, m2⟩ := fin_lt M1.1
  refine ⟨s1, m1, ?_⟩
  have hab : ∀ x : Rat, x.abs = absR x := fun x => by
    unfold absR
    split
    · rw [← Rat.abs_neg, Rat.abs_of_nonneg (by grind)]
    · rw [Rat.abs_of_nonneg (by grind)]
  rw [hab]
  have e52 : p2 (-52) = 2 * uR := by rw [uR_val]; decide +kernel
  have e74 : tR ≤ p2 (-1074) := p2_le (by decide)
  have b1 := Rat.mul_nonneg m2 (Rat.le_of_lt (p2_pos (-52)))
  have b2 := Rat.mul_nonneg s2 (Rat.le_of_lt (p2_pos (-1074)))
  have hfe := feq_zero S1.1
  by_cases h0 : topF g (fun _ => n) n = 0
  · rw [decide_eq_true h0] at hfe
    rw [growF_z hfe]
    have e3 : fv 0 = 0 := by decide +kernel
    rw [e3]
    have hn : n = 0 := by
      rcases Nat.eq_zero_or_pos n with h | h
      · exact h
      · exfalso
        have h1 := fN_lt (g := g) (n := n) (k := 0) (by omega)
        have h2 := pvK_lt (g := g) h
        have h3 := S1.2 (pvK g 0 n) 0 h h2
        have h4 := feq_abs0 (hg _ _ h2 h) (by omega)
        have h5 : swK (stG g n 0) 0 n 0 0 = g (pvK g 0 n) 0 ∨ swK (stG g n 0) 0 n 0 0 = g 0 0 := by
          show swK g 0 n 0 0 = _ ∨ swK g 0 n 0 0 = _
          unfold swK swpG
          split
          · left; rfl
          · split
            · rename_i h; left; rw [← h]
            · right; rfl
        have h6 := feq_abs0 (hg 0 0 h h) (by have := S1.2 0 0 h h; omega)
        unfold sgK at h1
        rcases h5 with h5 | h5 <;> rw [h5] at h1
        · rw [h4] at h1; cases h1
        · rw [h6] at h1; cases h1
    subst hn
    have e4 : topF a (fun j => j + 1) 0 = 0 := rfl
    have e5 : topF g (fun _ => 0) 0 = 0 := rfl
    rw [e4, e5, e3]
    decide +kernel
  · rw [decide_eq_false h0] at hfe
    rw [growF_p hfe] at hx ⊢
    obtain ⟨_, h2, t, t0, t1, t2⟩ := fdiv_near hx s1
    rw [near_abs'] at t1
    rw [absR_pos m2, absR_pos s2, ← e52] at t2
    have := Rat.mul_le_mul_of_nonneg_left e74 s2
    grind
end Go.Sx

set_option linter.unusedVariables false
set_option linter.unusedSimpArgs false
set_option maxRecDepth 20000
namespace Go.Sx
open Go.Proofs

theorem gr_n (H : List (List AV)) (g : Nat → Nat → Nat) (n : Nat) (hn : n ≤ 64) : CSpec Try.prog 16 [mt (.sl none (n * n) (fl (cmA g n n))) 0 (n : Int) (n : Int) ((max n 1 : Nat) : Int)] H (.bool true) H := by
  have h := goodref_c H (.sl none (n * n) (fl (cmA g n n))) (cmA g n n).length 0 n n ((max n 1 : Nat) : Int) (by simp [slen]) (cm_MI hn)
  rwa [decide_eq_true (cm_good g n)] at h
theorem of_rc (H : List (List AV)) (D : AV) (l : List Nat) (hF : FL H D l) (off ld : Int) (r c : Nat) (hI : MI l.length off r c ld) (hG : GoodP l.length off r c ld) (hr : r ≤ 1000) (hc : c ≤ 1000) : CSpec Try.prog 27 [mt D off (r : Int) (c : Int) ld] H (mM (.sl none (r * c) (fl (rmA (mel l off ld) r c))) r c) H := by
  have h := of_c H D l hF off r c ld hI hG (by omega) (by omega)
  simpa only [Int.toNat_natCast] using h
theorem finite_t (H : List (List AV)) (D : AV) (l : List Nat) (hF : FL H D l) (hB : l.length ≤ 2 ^ 30) (h : ∀ k, k < l.length → pK (l.getD k 0) = 0) : CSpec Try.prog 38 [D] H (.bool true) H := by
  have := finite_c H D l hF hB
  rwa [decide_eq_true h] at this
theorem finite_f (H : List (List AV)) (D : AV) (l : List Nat) (hF : FL H D l) (hB : l.length ≤ 2 ^ 30) (h : ¬ ∀ k, k < l.length → pK (l.getD k 0) = 0) : CSpec Try.prog 38 [D] H (.bool false) H := by
  have := finite_c H D l hF hB
  rwa [decide_eq_false h] at this
theorem rm_fin {g : Nat → Nat → Nat} {n : Nat} (h : ∀ k, k < (rmA g n n).length → pK ((rmA g n n).getD k 0) = 0) : ∀ i j, i < n → j < n → pK (g i j) = 0 := fun i j hi hj => by
  have := h (i * n + j) (by have := ix_lt hi hj; simp; omega)
  rwa [rmA_get hi hj] at this
theorem cons_fin {x : Nat} {l : List Nat} (h : ∀ k, k < (x :: l).length → pK ((x :: l).getD k 0) = 0) : pK x = 0 ∧ ∀ k, k < l.length → pK (l.getD k 0) = 0 :=
  ⟨h 0 (by simp), fun k hk => h (k + 1) (by simp; omega)⟩
theorem cmpR_le {x y : Rat} (h : x ≤ y) : cmpR x y ≤ 0 := by
  unfold cmpR
  split
  · decide
  · split
    · decide
    · rename_i h1 h2
      exact absurd h (by grind)
attribute [local irreducible] Ex exOps exD opX opE thenX blkX RetQ Spec CSpec Fr condK guardK guardD ckK valK pickK loadK faK callK argK gK fK rK RetV lpX prK
set_option maxHeartbeats 4000000 in
theorem gnear_b (H : List (List AV)) (x : Nat × Nat) (l : List Nat) (off rows cols ld : Int) (hI : MI l.length off rows cols ld) (hG : ¬ GoodP l.length off rows cols ld) :
    Spec Try.prog 10 [mt (aD x l) off rows cols ld] H (.bool true) H := by
  obtain ⟨hm, ho1, ho2, hr1, hr2, hc1, hc2, hl1, hl2⟩ := id hI
  refine (Spec.intro' (fn := Try.f10) Try.func10 rfl (by kernel_rfl) (by simp) false [] (draw := drawX Try.prog ⟨false, _, []⟩) dOk ?_)
  simp only [argE, Nat.reduceAdd]
  repeat' (first
    | (refine gateE ?_; (first | refine b_c0 ?_ | refine b_nil ?_ | refine b_gT (by exact rfl) (by exact rfl) ?_ | refine b_gF (by exact rfl) (by exact rfl) (by exact rfl) ?_ | refine b_gU (by exact rfl) (by exact rfl) (by constructor <;> simp) (by exact rfl) (by exact rfl) ?_ | (refine b_g0 (by exact rfl) (by exact rfl) (by (conv => {lhs; whnf}); done) ?_; (first | refine g_TT ?_ | refine g_FF ?_ | refine g_TF ?_ | refine g_FT ?_ | refine g_PT ?_ ?_ | refine g_PF ?_ ?_ | refine g_BT ?_ ?_ | refine g_BF ?_ ?_ | fail)) | (refine b_g1 (by exact rfl) (by exact rfl) (by exact rfl) (by (conv => {lhs; whnf}); done) ?_; (first | refine g_TT ?_ | refine g_FF ?_ | refine g_TF ?_ | refine g_FT ?_ | refine g_PT ?_ ?_ | refine g_PF ?_ ?_ | refine g_BT ?_ ?_ | refine g_BF ?_ ?_ | fail)) | refine b_c1 (by exact rfl) ?_ | fail))
    | (refine gateO ?_; (first | refine b_move (by (conv => {lhs; whnf}); done) ?_ | (refine b_fa (by (conv => {lhs; whnf}); done) ?_; first | refine f_loc (by (conv => {lhs; whnf}); done) ?_ | refine f_ptr (by (conv => {lhs; whnf}); done) ?_) | (refine b_load (by (conv => {lhs; whnf}); done) ?_; (first | refine l_loc1 (by exact rfl) (by exact rfl) ?_ | refine l_locA (by exact rfl) (by exact rfl) ?_ | fail)) | (refine b_binBn (by first | (conv => {lhs; whnf}; done) | exact (by exact rfl) | fail) (by first | (conv => {lhs; whnf}; done) | exact (by exact rfl) | fail) ?_; (first | refine v_bnF (by exact rfl) ?_ | refine v_bnT (by decide) ?_ | fail)) | (refine b_binB (by first | (conv => {lhs; whnf}; done) | exact (by exact rfl) | fail) (by first | (conv => {lhs; whnf}; done) | exact (by exact rfl) | fail) ?_; (first | refine v_bbT (by exact rfl) ?_ | refine v_k ?_ | fail)) | (refine b_bin (by (conv => {lhs; whnf}); done) (by (conv => {lhs; whnf}); done) (by (conv => {lhs; whnf}); done) ?_; (first | refine v_eT (by omega) ?_ | refine v_eF (by omega) ?_ | refine v_eP ?_ | refine v_neT (by omega) ?_ | refine v_neF (by omega) ?_ | refine v_neP ?_ | refine v_T (by omega) ?_ | refine v_F (by omega) ?_ | refine v_w (by omega) ?_ | refine v_wu (by omega) ?_ | refine v_nT ?_ | refine v_nF ?_ | refine v_nP ?_ | refine v_k ?_ | refine v_c (by omega) ?_ | fail)) | (refine b_pick (by (conv => {lhs; whnf}); done) ?_; (first | refine p_T (by (conv => {lhs; whnf}); done) ?_ | refine p_F (by (conv => {lhs; whnf}); done) ?_ | fail)) | refine b_assignF (by kernel_rfl) ?_ | refine b_assignI ?_ | refine b_assignN ?_ | refine b_assign (by (conv => {lhs; whnf}); done) ?_ | (refine b_un (by (conv => {lhs; whnf}); done) (by (conv => {lhs; whnf}); done) ?_; (first | refine v_eT (by omega) ?_ | refine v_eF (by omega) ?_ | refine v_eP ?_ | refine v_neT (by omega) ?_ | refine v_neF (by omega) ?_ | refine v_neP ?_ | refine v_T (by omega) ?_ | refine v_F (by omega) ?_ | refine v_w (by omega) ?_ | refine v_wu (by omega) ?_ | refine v_nT ?_ | refine v_nF ?_ | refine v_nP ?_ | refine v_k ?_ | refine v_c (by omega) ?_ | fail)) | refine b_callB ?_ | refine b_ext (by (conv => {lhs; whnf}); done) (by exact rfl) ?_ | refine b_stL (by (conv => {lhs; whnf}); done) (by (conv => {lhs; whnf}); done) (by first | exact (by exact rfl) | exact cells_of_len hF.len | fail) (by exact rfl) (by exact rfl) (by exact Nat.le_of_ble_eq_true rfl) (by (conv => {lhs; simp only [sc, List.set_cons_zero, List.set_cons_succ]}); done) ?_ | refine b_box (by (conv => {lhs; whnf}); done) (by exact rfl) (by exact rfl) (by exact rfl) (by exact rfl) ?_ | refine b_alloc (by exact rfl) (by exact rfl) ?_ | refine b_field (by (conv => {lhs; whnf}); done) (by exact rfl) (by exact rfl) (by exact rfl) ?_ | refine b_bslZ (by exact rfl) (by exact rfl) (by decide) ?_ | fail))
    | (refine gateD ?_; (first | refine d_c0 (by exact rfl) ?_ | refine d_nil ?_ | refine d_gT (by exact rfl) (by exact rfl) (by exact rfl) ?_ | refine d_gF (by exact rfl) (by exact rfl) (by exact rfl) (by exact rfl) ?_ | refine d_gU (by exact rfl) (by exact rfl) (by exact rfl) (by constructor <;> simp) (by exact rfl) (by exact rfl) ?_ | (refine d_g0 (by exact rfl) (by exact rfl) (by exact rfl) (by (conv => {lhs; whnf}); done) ?_; (first | refine dg_TT ?_ | refine dg_FF ?_ | refine dg_TF ?_ | refine dg_FT ?_ | refine dg_PT ?_ ?_ | refine dg_PF ?_ ?_ | refine dg_BT ?_ ?_ | refine dg_BF ?_ ?_ | fail)) | (refine d_g1 (by exact rfl) (by exact rfl) (by exact rfl) (by exact rfl) (by (conv => {lhs; whnf}); done) ?_; (first | refine dg_TT ?_ | refine dg_FF ?_ | refine dg_TF ?_ | refine dg_FT ?_ | refine dg_PT ?_ ?_ | refine dg_PF ?_ ?_ | refine dg_BT ?_ ?_ | refine dg_BF ?_ ?_ | fail)) | refine d_c1 (by exact rfl) (by exact rfl) ?_ | fail))
    | (refine gateC ?_; (first | refine k_lt ?_ | refine k_fz ?_ | refine k_lb (by (conv => {lhs; whnf}); done) ?_ | refine k_ms ?_ | refine k_bx (by exact rfl) (by exact rfl) ?_ | refine k_ld (by (conv => {lhs; whnf}); done) (by exact rfl) ?_ | refine k_ldT (by (conv => {lhs; whnf}); done) ?_ | refine k_bin (by (conv => {lhs; whnf}); done) (by exact rfl) ?_ | refine k_mn ?_ | refine k_mnB (by exact rfl) ?_ | refine k_mnF ?_ | refine k_mnL (by exact rfl) ?_ | fail))
    | (refine gateT ?_; (first | refine b_thn ?_ | refine b_thr ?_ | refine b_the ?_ | fail))
    | (refine gateX ?_; (first | refine b_seq ?_ | refine b_region ?_ | (refine b_cond (by (conv => {lhs; whnf}); done) ?_; (first | refine c_T ?_ | refine c_F ?_ | refine c_P ?_ ?_ | refine c_B ?_ ?_ | fail)) | refine b_ret ?_ | refine b_skip ?_ | refine b_block ?_ | refine b_exit ?_ | refine b_draw (id := 14) [9, 10] [] [(0, .ld true), (2, .lt), (3, .ld true), (6, .ld true), (7, .lt), (8, .ld true), (11, .bx), (12, .bx), (1, .mn true), (4, .mn true), (5, .mn true), (9, .mn true), (10, .mn true), (13, .mn true), (14, .mn true)] (by kernel_rfl) ?_ | refine b_draw (id := 15) [11] [] [(0, .lt), (2, .ld true), (4, .ld true), (7, .bx), (1, .mn true), (3, .mn true), (5, .mn true), (6, .mn true), (8, .mn true)] (by kernel_rfl) ?_ | refine b_draw (id := 16) [] [] [(0, .ld true), (1, .ld true), (3, .ld true), (2, .mn true), (4, .mn true), (5, .mn true), (6, .mn true), (7, .lt), (8, .lt), (9, .mn true), (10, .lt), (11, .lt)] (by kernel_rfl) ?_ | fail))
    | refine a_consF (by kernel_rfl) ?_
    | refine a_consI ?_
    | refine a_cons (by (conv => {lhs; whnf}); done) ?_
    | refine a_nil ?_
    | (refine gateK ?_; (first | refine c_call (run_47_c _) (OldOk.app (by simp)) ?_ | refine c_call (greatm_c _ _ l (aD_FL _ x l) off rows cols ld hI) (OldOk.app (by simp)) ?_ | refine c_call (goodref_c _ _ l.length off rows cols ld (aD_len x l) hI) (OldOk.app (by simp)) ?_ | fail))
    | refine gk_consF (by kernel_rfl) ?_
    | refine gk_cons (by (conv => {lhs; whnf}); done) ?_
    | (refine gk_nilN (by (conv => {lhs; simp only [List.nil_append, List.cons_append]}); done) ?_; first | refine ⟨by exact rfl, ?_⟩ | skip)
    | refine gk_nil ?_
    | (intro N' hN'; simp only [List.nil_append, List.cons_append] at hN'; subst hN')
    | (refine gateQ ?_; refine b_retK (by simp) (by (conv => {lhs; whnf}); done) ?_)
    | (refine gateR ?_; (first | refine rk_tmp (by (conv => {lhs; whnf}); done) ?_ | refine rk_cellA (by (conv => {lhs; whnf}); done) (by exact rfl) (by exact rfl) ?_ | refine rk_cell1 (by (conv => {lhs; whnf}); done) (by exact rfl) (by exact rfl) ?_ | refine rk_nil ?_ | fail))
    | intro _)
  all_goals first
    | (exfalso; contradiction)
    | (exfalso; omega)
    | (exfalso; simp_all; done)
    | (refine rv_old rfl (by simp [mx, mxL, resOne, aOf, aOf1]) ?_; exact rfl)

set_option maxHeartbeats 4000000 in
theorem gnear_f (H : List (List AV)) (x : Nat × Nat) (l : List Nat) (off ld : Int) (r c : Nat) (hI : MI l.length off r c ld) (hG : GoodP l.length off r c ld) (hf : ¬ (∀ k, k < (rmA (mel l off ld) r c).length → pK ((rmA (mel l off ld) r c).getD k 0) = 0)) :
    Spec Try.prog 10 [mt (aD x l) off (r : Int) (c : Int) ld] H (.bool true) H := by
  obtain ⟨hm, ho1, ho2, hr1, hr2, hc1, hc2, hl1, hl2⟩ := id hI
  refine (Spec.intro' (fn := Try.f10) Try.func10 rfl (by kernel_rfl) (by simp) false [] (draw := drawX Try.prog ⟨false, _, []⟩) dOk ?_)
  simp only [argE, Nat.reduceAdd]
  repeat' (first
    | (refine gateE ?_; (first | refine b_c0 ?_ | refine b_nil ?_ | refine b_gT (by exact rfl) (by exact rfl) ?_ | refine b_gF (by exact rfl) (by exact rfl) (by exact rfl) ?_ | refine b_gU (by exact rfl) (by exact rfl) (by constructor <;> simp) (by exact rfl) (by exact rfl) ?_ | (refine b_g0 (by exact rfl) (by exact rfl) (by (conv => {lhs; whnf}); done) ?_; (first | refine g_TT ?_ | refine g_FF ?_ | refine g_TF ?_ | refine g_FT ?_ | refine g_PT ?_ ?_ | refine g_PF ?_ ?_ | refine g_BT ?_ ?_ | refine g_BF ?_ ?_ | fail)) | (refine b_g1 (by exact rfl) (by exact rfl) (by exact rfl) (by (conv => {lhs; whnf}); done) ?_; (first | refine g_TT ?_ | refine g_FF ?_ | refine g_TF ?_ | refine g_FT ?_ | refine g_PT ?_ ?_ | refine g_PF ?_ ?_ | refine g_BT ?_ ?_ | refine g_BF ?_ ?_ | fail)) | refine b_c1 (by exact rfl) ?_ | fail))
    | (refine gateO ?_; (first | refine b_move (by (conv => {lhs; whnf}); done) ?_ | (refine b_fa (by (conv => {lhs; whnf}); done) ?_; first | refine f_loc (by (conv => {lhs; whnf}); done) ?_ | refine f_ptr (by (conv => {lhs; whnf}); done) ?_) | (refine b_load (by (conv => {lhs; whnf}); done) ?_; (first | refine l_loc1 (by exact rfl) (by exact rfl) ?_ | refine l_locA (by exact rfl) (by exact rfl) ?_ | fail)) | (refine b_binBn (by first | (conv => {lhs; whnf}; done) | exact (by exact rfl) | fail) (by first | (conv => {lhs; whnf}; done) | exact (by exact rfl) | fail) ?_; (first | refine v_bnF (by exact rfl) ?_ | refine v_bnT (by decide) ?_ | fail)) | (refine b_binB (by first | (conv => {lhs; whnf}; done) | exact (by exact rfl) | fail) (by first | (conv => {lhs; whnf}; done) | exact (by exact rfl) | fail) ?_; (first | refine v_bbT (by exact rfl) ?_ | refine v_k ?_ | fail)) | (refine b_bin (by (conv => {lhs; whnf}); done) (by (conv => {lhs; whnf}); done) (by (conv => {lhs; whnf}); done) ?_; (first | refine v_eT (by omega) ?_ | refine v_eF (by omega) ?_ | refine v_eP ?_ | refine v_neT (by omega) ?_ | refine v_neF (by omega) ?_ | refine v_neP ?_ | refine v_T (by omega) ?_ | refine v_F (by omega) ?_ | refine v_w (by omega) ?_ | refine v_wu (by omega) ?_ | refine v_nT ?_ | refine v_nF ?_ | refine v_nP ?_ | refine v_k ?_ | refine v_c (by omega) ?_ | fail)) | (refine b_pick (by (conv => {lhs; whnf}); done) ?_; (first | refine p_T (by (conv => {lhs; whnf}); done) ?_ | refine p_F (by (conv => {lhs; whnf}); done) ?_ | fail)) | refine b_assignF (by kernel_rfl) ?_ | refine b_assignI ?_ | refine b_assignN ?_ | refine b_assign (by (conv => {lhs; whnf}); done) ?_ | (refine b_un (by (conv => {lhs; whnf}); done) (by (conv => {lhs; whnf}); done) ?_; (first | refine v_eT (by omega) ?_ | refine v_eF (by omega) ?_ | refine v_eP ?_ | refine v_neT (by omega) ?_ | refine v_neF (by omega) ?_ | refine v_neP ?_ | refine v_T (by omega) ?_ | refine v_F (by omega) ?_ | refine v_w (by omega) ?_ | refine v_wu (by omega) ?_ | refine v_nT ?_ | refine v_nF ?_ | refine v_nP ?_ | refine v_k ?_ | refine v_c (by omega) ?_ | fail)) | refine b_callB ?_ | refine b_ext (by (conv => {lhs; whnf}); done) (by exact rfl) ?_ | refine b_stL (by (conv => {lhs; whnf}); done) (by (conv => {lhs; whnf}); done) (by first | exact (by exact rfl) | exact cells_of_len hF.len | fail) (by exact rfl) (by exact rfl) (by exact Nat.le_of_ble_eq_true rfl) (by (conv => {lhs; simp only [sc, List.set_cons_zero, List.set_cons_succ]}); done) ?_ | refine b_box (by (conv => {lhs; whnf}); done) (by exact rfl) (by exact rfl) (by exact rfl) (by exact rfl) ?_ | refine b_alloc (by exact rfl) (by exact rfl) ?_ | refine b_field (by (conv => {lhs; whnf}); done) (by exact rfl) (by exact rfl) (by exact rfl) ?_ | refine b_bslZ (by exact rfl) (by exact rfl) (by decide) ?_ | fail))
    | (refine gateD ?_; (first | refine d_c0 (by exact rfl) ?_ | refine d_nil ?_ | refine d_gT (by exact rfl) (by exact rfl) (by exact rfl) ?_ | refine d_gF (by exact rfl) (by exact rfl) (by exact rfl) (by exact rfl) ?_ | refine d_gU (by exact rfl) (by exact rfl) (by exact rfl) (by constructor <;> simp) (by exact rfl) (by exact rfl) ?_ | (refine d_g0 (by exact rfl) (by exact rfl) (by exact rfl) (by (conv => {lhs; whnf}); done) ?_; (first | refine dg_TT ?_ | refine dg_FF ?_ | refine dg_TF ?_ | refine dg_FT ?_ | refine dg_PT ?_ ?_ | refine dg_PF ?_ ?_ | refine dg_BT ?_ ?_ | refine dg_BF ?_ ?_ | fail)) | (refine d_g1 (by exact rfl) (by exact rfl) (by exact rfl) (by exact rfl) (by (conv => {lhs; whnf}); done) ?_; (first | refine dg_TT ?_ | refine dg_FF ?_ | refine dg_TF ?_ | refine dg_FT ?_ | refine dg_PT ?_ ?_ | refine dg_PF ?_ ?_ | refine dg_BT ?_ ?_ | refine dg_BF ?_ ?_ | fail)) | refine d_c1 (by exact rfl) (by exact rfl) ?_ | fail))
    | (refine gateC ?_; (first | refine k_lt ?_ | refine k_fz ?_ | refine k_lb (by (conv => {lhs; whnf}); done) ?_ | refine k_ms ?_ | refine k_bx (by exact rfl) (by exact rfl) ?_ | refine k_ld (by (conv => {lhs; whnf}); done) (by exact rfl) ?_ | refine k_ldT (by (conv => {lhs; whnf}); done) ?_ | refine k_bin (by (conv => {lhs; whnf}); done) (by exact rfl) ?_ | refine k_mn ?_ | refine k_mnB (by exact rfl) ?_ | refine k_mnF ?_ | refine k_mnL (by exact rfl) ?_ | fail))
    | (refine gateT ?_; (first | refine b_thn ?_ | refine b_thr ?_ | refine b_the ?_ | fail))
    | (refine gateX ?_; (first | refine b_seq ?_ | refine b_region ?_ | (refine b_cond (by (conv => {lhs; whnf}); done) ?_; (first | refine c_T ?_ | refine c_F ?_ | refine c_P ?_ ?_ | refine c_B ?_ ?_ | fail)) | refine b_ret ?_ | refine b_skip ?_ | refine b_block ?_ | refine b_exit ?_ | refine b_draw (id := 14) [9, 10] [] [(0, .ld true), (2, .lt), (3, .ld true), (6, .ld true), (7, .lt), (8, .ld true), (11, .bx), (12, .bx), (1, .mn true), (4, .mn true), (5, .mn true), (9, .mn true), (10, .mn true), (13, .mn true), (14, .mn true)] (by kernel_rfl) ?_ | refine b_draw (id := 15) [11] [] [(0, .lt), (2, .ld true), (4, .ld true), (7, .bx), (1, .mn true), (3, .mn true), (5, .mn true), (6, .mn true), (8, .mn true)] (by kernel_rfl) ?_ | refine b_draw (id := 16) [] [] [(0, .ld true), (1, .ld true), (3, .ld true), (2, .mn true), (4, .mn true), (5, .mn true), (6, .mn true), (7, .lt), (8, .lt), (9, .mn true), (10, .lt), (11, .lt)] (by kernel_rfl) ?_ | fail))
    | refine a_consF (by kernel_rfl) ?_
    | refine a_consI ?_
    | refine a_cons (by (conv => {lhs; whnf}); done) ?_
    | refine a_nil ?_
    | (refine gateK ?_; (first | refine c_call (run_47_c _) (OldOk.app (by simp)) ?_ | refine c_call (greatm_c _ _ l (aD_FL _ x l) off (r : Int) (c : Int) ld hI) (OldOk.app (by simp)) ?_ | refine c_call (goodref_c _ _ l.length off (r : Int) (c : Int) ld (aD_len x l) hI) (OldOk.app (by simp)) ?_ | refine c_call (of_rc _ _ l (aD_FL _ x l) off ld r c hI hG (by omega) (by omega)) (OldOk.app (by simp)) ?_ | refine c_call (finite_f _ _ (rmA (mel l off ld) r c) (FL.fzn _ _ _ (by simp)) (by have hq := Nat.mul_le_mul (show r ≤ 20 by omega) (show c ≤ 20 by omega); simp; omega) hf) (OldOk.app (by simp)) ?_ | fail))
    | refine gk_consF (by kernel_rfl) ?_
    | refine gk_cons (by (conv => {lhs; whnf}); done) ?_
    | (refine gk_nilN (by (conv => {lhs; simp only [List.nil_append, List.cons_append]}); done) ?_; first | refine ⟨by exact rfl, ?_⟩ | skip)
    | refine gk_nil ?_
    | (intro N' hN'; simp only [List.nil_append, List.cons_append] at hN'; subst hN')
    | (refine gateQ ?_; refine b_retK (by simp) (by (conv => {lhs; whnf}); done) ?_)
    | (refine gateR ?_; (first | refine rk_tmp (by (conv => {lhs; whnf}); done) ?_ | refine rk_cellA (by (conv => {lhs; whnf}); done) (by exact rfl) (by exact rfl) ?_ | refine rk_cell1 (by (conv => {lhs; whnf}); done) (by exact rfl) (by exact rfl) ?_ | refine rk_nil ?_ | fail))
    | intro _)
  all_goals first
    | (exfalso; contradiction)
    | (exfalso; omega)
    | (exfalso; simp_all; done)
    | (refine rv_old rfl (by simp [mx, mxL, resOne, aOf, aOf1]) ?_; exact rfl)

set_option maxHeartbeats 4000000 in
theorem gnear_q (H : List (List AV)) (x : Nat × Nat) (l : List Nat) (off ld : Int) (r c : Nat) (hI : MI l.length off r c ld) (hG : GoodP l.length off r c ld) (hf : (∀ k, k < (rmA (mel l off ld) r c).length → pK ((rmA (mel l off ld) r c).getD k 0) = 0)) (hne : (r : Int) ≠ (c : Int)) :
    Spec Try.prog 10 [mt (aD x l) off (r : Int) (c : Int) ld] H (.bool true) H := by
  obtain ⟨hm, ho1, ho2, hr1, hr2, hc1, hc2, hl1, hl2⟩ := id hI
  refine (Spec.intro' (fn := Try.f10) Try.func10 rfl (by kernel_rfl) (by simp) false [] (draw := drawX Try.prog ⟨false, _, []⟩) dOk ?_)
  simp only [argE, Nat.reduceAdd]
  repeat' (first
    | (refine gateE ?_; (first | refine b_c0 ?_ | refine b_nil ?_ | refine b_gT (by exact rfl) (by exact rfl) ?_ | refine b_gF (by exact rfl) (by exact rfl) (by exact rfl) ?_ | refine b_gU (by exact rfl) (by exact rfl) (by constructor <;> simp) (by exact rfl) (by exact rfl) ?_ | (refine b_g0 (by exact rfl) (by exact rfl) (by (conv => {lhs; whnf}); done) ?_; (first | refine g_TT ?_ | refine g_FF ?_ | refine g_TF ?_ | refine g_FT ?_ | refine g_PT ?_ ?_ | refine g_PF ?_ ?_ | refine g_BT ?_ ?_ | refine g_BF ?_ ?_ | fail)) | (refine b_g1 (by exact rfl) (by exact rfl) (by exact rfl) (by (conv => {lhs; whnf}); done) ?_; (first | refine g_TT ?_ | refine g_FF ?_ | refine g_TF ?_ | refine g_FT ?_ | refine g_PT ?_ ?_ | refine g_PF ?_ ?_ | refine g_BT ?_ ?_ | refine g_BF ?_ ?_ | fail)) | refine b_c1 (by exact rfl) ?_ | fail))
    | (refine gateO ?_; (first | refine b_move (by (conv => {lhs; whnf}); done) ?_ | (refine b_fa (by (conv => {lhs; whnf}); done) ?_; first | refine f_loc (by (conv => {lhs; whnf}); done) ?_ | refine f_ptr (by (conv => {lhs; whnf}); done) ?_) | (refine b_load (by (conv => {lhs; whnf}); done) ?_; (first | refine l_loc1 (by exact rfl) (by exact rfl) ?_ | refine l_locA (by exact rfl) (by exact rfl) ?_ | fail)) | (refine b_binBn (by first | (conv => {lhs; whnf}; done) | exact (by exact rfl) | fail) (by first | (conv => {lhs; whnf}; done) | exact (by exact rfl) | fail) ?_; (first | refine v_bnF (by exact rfl) ?_ | refine v_bnT (by decide) ?_ | fail)) | (refine b_binB (by first | (conv => {lhs; whnf}; done) | exact (by exact rfl) | fail) (by first | (conv => {lhs; whnf}; done) | exact (by exact rfl) | fail) ?_; (first | refine v_bbT (by exact rfl) ?_ | refine v_k ?_ | fail)) | (refine b_bin (by (conv => {lhs; whnf}); done) (by (conv => {lhs; whnf}); done) (by (conv => {lhs; whnf}); done) ?_; (first | refine v_eT (by omega) ?_ | refine v_eF (by omega) ?_ | refine v_eP ?_ | refine v_neT (by omega) ?_ | refine v_neF (by omega) ?_ | refine v_neP ?_ | refine v_T (by omega) ?_ | refine v_F (by omega) ?_ | refine v_w (by omega) ?_ | refine v_wu (by omega) ?_ | refine v_nT ?_ | refine v_nF ?_ | refine v_nP ?_ | refine v_k ?_ | refine v_c (by omega) ?_ | fail)) | (refine b_pick (by (conv => {lhs; whnf}); done) ?_; (first | refine p_T (by (conv => {lhs; whnf}); done) ?_ | refine p_F (by (conv => {lhs; whnf}); done) ?_ | fail)) | refine b_assignF (by kernel_rfl) ?_ | refine b_assignI ?_ | refine b_assignN ?_ | refine b_assign (by (conv => {lhs; whnf}); done) ?_ | (refine b_un (by (conv => {lhs; whnf}); done) (by (conv => {lhs; whnf}); done) ?_; (first | refine v_eT (by omega) ?_ | refine v_eF (by omega) ?_ | refine v_eP ?_ | refine v_neT (by omega) ?_ | refine v_neF (by omega) ?_ | refine v_neP ?_ | refine v_T (by omega) ?_ | refine v_F (by omega) ?_ | refine v_w (by omega) ?_ | refine v_wu (by omega) ?_ | refine v_nT ?_ | refine v_nF ?_ | refine v_nP ?_ | refine v_k ?_ | refine v_c (by omega) ?_ | fail)) | refine b_callB ?_ | refine b_ext (by (conv => {lhs; whnf}); done) (by exact rfl) ?_ | refine b_stL (by (conv => {lhs; whnf}); done) (by (conv => {lhs; whnf}); done) (by first | exact (by exact rfl) | exact cells_of_len hF.len | fail) (by exact rfl) (by exact rfl) (by exact Nat.le_of_ble_eq_true rfl) (by (conv => {lhs; simp only [sc, List.set_cons_zero, List.set_cons_succ]}); done) ?_ | refine b_box (by (conv => {lhs; whnf}); done) (by exact rfl) (by exact rfl) (by exact rfl) (by exact rfl) ?_ | refine b_alloc (by exact rfl) (by exact rfl) ?_ | refine b_field (by (conv => {lhs; whnf}); done) (by exact rfl) (by exact rfl) (by exact rfl) ?_ | refine b_bslZ (by exact rfl) (by exact rfl) (by decide) ?_ | fail))
    | (refine gateD ?_; (first | refine d_c0 (by exact rfl) ?_ | refine d_nil ?_ | refine d_gT (by exact rfl) (by exact rfl) (by exact rfl) ?_ | refine d_gF (by exact rfl) (by exact rfl) (by exact rfl) (by exact rfl) ?_ | refine d_gU (by exact rfl) (by exact rfl) (by exact rfl) (by constructor <;> simp) (by exact rfl) (by exact rfl) ?_ | (refine d_g0 (by exact rfl) (by exact rfl) (by exact rfl) (by (conv => {lhs; whnf}); done) ?_; (first | refine dg_TT ?_ | refine dg_FF ?_ | refine dg_TF ?_ | refine dg_FT ?_ | refine dg_PT ?_ ?_ | refine dg_PF ?_ ?_ | refine dg_BT ?_ ?_ | refine dg_BF ?_ ?_ | fail)) | (refine d_g1 (by exact rfl) (by exact rfl) (by exact rfl) (by exact rfl) (by (conv => {lhs; whnf}); done) ?_; (first | refine dg_TT ?_ | refine dg_FF ?_ | refine dg_TF ?_ | refine dg_FT ?_ | refine dg_PT ?_ ?_ | refine dg_PF ?_ ?_ | refine dg_BT ?_ ?_ | refine dg_BF ?_ ?_ | fail)) | refine d_c1 (by exact rfl) (by exact rfl) ?_ | fail))
    | (refine gateC ?_; (first | refine k_lt ?_ | refine k_fz ?_ | refine k_lb (by (conv => {lhs; whnf}); done) ?_ | refine k_ms ?_ | refine k_bx (by exact rfl) (by exact rfl) ?_ | refine k_ld (by (conv => {lhs; whnf}); done) (by exact rfl) ?_ | refine k_ldT (by (conv => {lhs; whnf}); done) ?_ | refine k_bin (by (conv => {lhs; whnf}); done) (by exact rfl) ?_ | refine k_mn ?_ | refine k_mnB (by exact rfl) ?_ | refine k_mnF ?_ | refine k_mnL (by exact rfl) ?_ | fail))
    | (refine gateT ?_; (first | refine b_thn ?_ | refine b_thr ?_ | refine b_the ?_ | fail))
    | (refine gateX ?_; (first | refine b_seq ?_ | refine b_region ?_ | (refine b_cond (by (conv => {lhs; whnf}); done) ?_; (first | refine c_T ?_ | refine c_F ?_ | refine c_P ?_ ?_ | refine c_B ?_ ?_ | fail)) | refine b_ret ?_ | refine b_skip ?_ | refine b_block ?_ | refine b_exit ?_ | refine b_draw (id := 14) [9, 10] [] [(0, .ld true), (2, .lt), (3, .ld true), (6, .ld true), (7, .lt), (8, .ld true), (11, .bx), (12, .bx), (1, .mn true), (4, .mn true), (5, .mn true), (9, .mn true), (10, .mn true), (13, .mn true), (14, .mn true)] (by kernel_rfl) ?_ | refine b_draw (id := 15) [11] [] [(0, .lt), (2, .ld true), (4, .ld true), (7, .bx), (1, .mn true), (3, .mn true), (5, .mn true), (6, .mn true), (8, .mn true)] (by kernel_rfl) ?_ | refine b_draw (id := 16) [] [] [(0, .ld true), (1, .ld true), (3, .ld true), (2, .mn true), (4, .mn true), (5, .mn true), (6, .mn true), (7, .lt), (8, .lt), (9, .mn true), (10, .lt), (11, .lt)] (by kernel_rfl) ?_ | fail))
    | refine a_consF (by kernel_rfl) ?_
    | refine a_consI ?_
    | refine a_cons (by (conv => {lhs; whnf}); done) ?_
    | refine a_nil ?_
    | (refine gateK ?_; (first | refine c_call (run_47_c _) (OldOk.app (by simp)) ?_ | refine c_call (greatm_c _ _ l (aD_FL _ x l) off (r : Int) (c : Int) ld hI) (OldOk.app (by simp)) ?_ | refine c_call (goodref_c _ _ l.length off (r : Int) (c : Int) ld (aD_len x l) hI) (OldOk.app (by simp)) ?_ | refine c_call (of_rc _ _ l (aD_FL _ x l) off ld r c hI hG (by omega) (by omega)) (OldOk.app (by simp)) ?_ | refine c_call (finite_t _ _ (rmA (mel l off ld) r c) (FL.fzn _ _ _ (by simp)) (by have hq := Nat.mul_le_mul (show r ≤ 20 by omega) (show c ≤ 20 by omega); simp; omega) hf) (OldOk.app (by simp)) ?_ | refine c_call (fac_q _ _ l (aD_FL _ x l) off r c ld hI hG hne) (OldOk.app (by simp)) ?_ | fail))
    | refine gk_consF (by kernel_rfl) ?_
    | refine gk_cons (by (conv => {lhs; whnf}); done) ?_
    | (refine gk_nilN (by (conv => {lhs; simp only [List.nil_append, List.cons_append]}); done) ?_; first | refine ⟨by exact rfl, ?_⟩ | skip)
    | refine gk_nil ?_
    | (intro N' hN'; simp only [List.nil_append, List.cons_append] at hN'; subst hN')
    | (refine gateQ ?_; refine b_retK (by simp) (by (conv => {lhs; whnf}); done) ?_)
    | (refine gateR ?_; (first | refine rk_tmp (by (conv => {lhs; whnf}); done) ?_ | refine rk_cellA (by (conv => {lhs; whnf}); done) (by exact rfl) (by exact rfl) ?_ | refine rk_cell1 (by (conv => {lhs; whnf}); done) (by exact rfl) (by exact rfl) ?_ | refine rk_nil ?_ | fail))
    | intro _)
  all_goals first
    | (exfalso; contradiction)
    | (exfalso; omega)
    | (exfalso; simp_all; done)
    | (refine rv_old rfl (by simp [mx, mxL, resOne, aOf, aOf1]) ?_; exact rfl)

set_option maxHeartbeats 4000000 in
theorem gnear_s (H : List (List AV)) (x : Nat × Nat) (l : List Nat) (off ld : Int) (n : Nat) (hI : MI l.length off n n ld) (hG : GoodP l.length off n n ld) (hf : (∀ k, k < (rmA (mel l off ld) n n).length → pK ((rmA (mel l off ld) n n).getD k 0) = 0)) (hN : fN (mel l off ld) n < n) :
    Spec Try.prog 10 [mt (aD x l) off (n : Int) (n : Int) ld] H (.bool true) H := by
  obtain ⟨hm, ho1, ho2, hr1, hr2, hc1, hc2, hl1, hl2⟩ := id hI
  refine (Spec.intro' (fn := Try.f10) Try.func10 rfl (by kernel_rfl) (by simp) false [] (draw := drawX Try.prog ⟨false, _, []⟩) dOk ?_)
  simp only [argE, Nat.reduceAdd]
  repeat' (first
    | (refine gateE ?_; (first | refine b_c0 ?_ | refine b_nil ?_ | refine b_gT (by exact rfl) (by exact rfl) ?_ | refine b_gF (by exact rfl) (by exact rfl) (by exact rfl) ?_ | refine b_gU (by exact rfl) (by exact rfl) (by constructor <;> simp) (by exact rfl) (by exact rfl) ?_ | (refine b_g0 (by exact rfl) (by exact rfl) (by (conv => {lhs; whnf}); done) ?_; (first | refine g_TT ?_ | refine g_FF ?_ | refine g_TF ?_ | refine g_FT ?_ | refine g_PT ?_ ?_ | refine g_PF ?_ ?_ | refine g_BT ?_ ?_ | refine g_BF ?_ ?_ | fail)) | (refine b_g1 (by exact rfl) (by exact rfl) (by exact rfl) (by (conv => {lhs; whnf}); done) ?_; (first | refine g_TT ?_ | refine g_FF ?_ | refine g_TF ?_ | refine g_FT ?_ | refine g_PT ?_ ?_ | refine g_PF ?_ ?_ | refine g_BT ?_ ?_ | refine g_BF ?_ ?_ | fail)) | refine b_c1 (by exact rfl) ?_ | fail))
    | (refine gateO ?_; (first | refine b_move (by (conv => {lhs; whnf}); done) ?_ | (refine b_fa (by (conv => {lhs; whnf}); done) ?_; first | refine f_loc (by (conv => {lhs; whnf}); done) ?_ | refine f_ptr (by (conv => {lhs; whnf}); done) ?_) | (refine b_load (by (conv => {lhs; whnf}); done) ?_; (first | refine l_loc1 (by exact rfl) (by exact rfl) ?_ | refine l_locA (by exact rfl) (by exact rfl) ?_ | fail)) | (refine b_binBn (by first | (conv => {lhs; whnf}; done) | exact (by exact rfl) | fail) (by first | (conv => {lhs; whnf}; done) | exact (by exact rfl) | fail) ?_; (first | refine v_bnF (by exact rfl) ?_ | refine v_bnT (by decide) ?_ | fail)) | (refine b_binB (by first | (conv => {lhs; whnf}; done) | exact (by exact rfl) | fail) (by first | (conv => {lhs; whnf}; done) | exact (by exact rfl) | fail) ?_; (first | refine v_bbT (by exact rfl) ?_ | refine v_k ?_ | fail)) | (refine b_bin (by (conv => {lhs; whnf}); done) (by (conv => {lhs; whnf}); done) (by (conv => {lhs; whnf}); done) ?_; (first | refine v_eT (by omega) ?_ | refine v_eF (by omega) ?_ | refine v_eP ?_ | refine v_neT (by omega) ?_ | refine v_neF (by omega) ?_ | refine v_neP ?_ | refine v_T (by omega) ?_ | refine v_F (by omega) ?_ | refine v_w (by omega) ?_ | refine v_wu (by omega) ?_ | refine v_nT ?_ | refine v_nF ?_ | refine v_nP ?_ | refine v_k ?_ | refine v_c (by omega) ?_ | fail)) | (refine b_pick (by (conv => {lhs; whnf}); done) ?_; (first | refine p_T (by (conv => {lhs; whnf}); done) ?_ | refine p_F (by (conv => {lhs; whnf}); done) ?_ | fail)) | refine b_assignF (by kernel_rfl) ?_ | refine b_assignI ?_ | refine b_assignN ?_ | refine b_assign (by (conv => {lhs; whnf}); done) ?_ | (refine b_un (by (conv => {lhs; whnf}); done) (by (conv => {lhs; whnf}); done) ?_; (first | refine v_eT (by omega) ?_ | refine v_eF (by omega) ?_ | refine v_eP ?_ | refine v_neT (by omega) ?_ | refine v_neF (by omega) ?_ | refine v_neP ?_ | refine v_T (by omega) ?_ | refine v_F (by omega) ?_ | refine v_w (by omega) ?_ | refine v_wu (by omega) ?_ | refine v_nT ?_ | refine v_nF ?_ | refine v_nP ?_ | refine v_k ?_ | refine v_c (by omega) ?_ | fail)) | refine b_callB ?_ | refine b_ext (by (conv => {lhs; whnf}); done) (by exact rfl) ?_ | refine b_stL (by (conv => {lhs; whnf}); done) (by (conv => {lhs; whnf}); done) (by first | exact (by exact rfl) | exact cells_of_len hF.len | fail) (by exact rfl) (by exact rfl) (by exact Nat.le_of_ble_eq_true rfl) (by (conv => {lhs; simp only [sc, List.set_cons_zero, List.set_cons_succ]}); done) ?_ | refine b_box (by (conv => {lhs; whnf}); done) (by exact rfl) (by exact rfl) (by exact rfl) (by exact rfl) ?_ | refine b_alloc (by exact rfl) (by exact rfl) ?_ | refine b_field (by (conv => {lhs; whnf}); done) (by exact rfl) (by exact rfl) (by exact rfl) ?_ | refine b_bslZ (by exact rfl) (by exact rfl) (by decide) ?_ | fail))
    | (refine gateD ?_; (first | refine d_c0 (by exact rfl) ?_ | refine d_nil ?_ | refine d_gT (by exact rfl) (by exact rfl) (by exact rfl) ?_ | refine d_gF (by exact rfl) (by exact rfl) (by exact rfl) (by exact rfl) ?_ | refine d_gU (by exact rfl) (by exact rfl) (by exact rfl) (by constructor <;> simp) (by exact rfl) (by exact rfl) ?_ | (refine d_g0 (by exact rfl) (by exact rfl) (by exact rfl) (by (conv => {lhs; whnf}); done) ?_; (first | refine dg_TT ?_ | refine dg_FF ?_ | refine dg_TF ?_ | refine dg_FT ?_ | refine dg_PT ?_ ?_ | refine dg_PF ?_ ?_ | refine dg_BT ?_ ?_ | refine dg_BF ?_ ?_ | fail)) | (refine d_g1 (by exact rfl) (by exact rfl) (by exact rfl) (by exact rfl) (by (conv => {lhs; whnf}); done) ?_; (first | refine dg_TT ?_ | refine dg_FF ?_ | refine dg_TF ?_ | refine dg_FT ?_ | refine dg_PT ?_ ?_ | refine dg_PF ?_ ?_ | refine dg_BT ?_ ?_ | refine dg_BF ?_ ?_ | fail)) | refine d_c1 (by exact rfl) (by exact rfl) ?_ | fail))
    | (refine gateC ?_; (first | refine k_lt ?_ | refine k_fz ?_ | refine k_lb (by (conv => {lhs; whnf}); done) ?_ | refine k_ms ?_ | refine k_bx (by exact rfl) (by exact rfl) ?_ | refine k_ld (by (conv => {lhs; whnf}); done) (by exact rfl) ?_ | refine k_ldT (by (conv => {lhs; whnf}); done) ?_ | refine k_bin (by (conv => {lhs; whnf}); done) (by exact rfl) ?_ | refine k_mn ?_ | refine k_mnB (by exact rfl) ?_ | refine k_mnF ?_ | refine k_mnL (by exact rfl) ?_ | fail))
    | (refine gateT ?_; (first | refine b_thn ?_ | refine b_thr ?_ | refine b_the ?_ | fail))
    | (refine gateX ?_; (first | refine b_seq ?_ | refine b_region ?_ | (refine b_cond (by (conv => {lhs; whnf}); done) ?_; (first | refine c_T ?_ | refine c_F ?_ | refine c_P ?_ ?_ | refine c_B ?_ ?_ | fail)) | refine b_ret ?_ | refine b_skip ?_ | refine b_block ?_ | refine b_exit ?_ | refine b_draw (id := 14) [9, 10] [] [(0, .ld true), (2, .lt), (3, .ld true), (6, .ld true), (7, .lt), (8, .ld true), (11, .bx), (12, .bx), (1, .mn true), (4, .mn true), (5, .mn true), (9, .mn true), (10, .mn true), (13, .mn true), (14, .mn true)] (by kernel_rfl) ?_ | refine b_draw (id := 15) [11] [] [(0, .lt), (2, .ld true), (4, .ld true), (7, .bx), (1, .mn true), (3, .mn true), (5, .mn true), (6, .mn true), (8, .mn true)] (by kernel_rfl) ?_ | refine b_draw (id := 16) [] [] [(0, .ld true), (1, .ld true), (3, .ld true), (2, .mn true), (4, .mn true), (5, .mn true), (6, .mn true), (7, .lt), (8, .lt), (9, .mn true), (10, .lt), (11, .lt)] (by kernel_rfl) ?_ | fail))
    | refine a_consF (by kernel_rfl) ?_
    | refine a_consI ?_
    | refine a_cons (by (conv => {lhs; whnf}); done) ?_
    | refine a_nil ?_
    | (refine gateK ?_; (first | refine c_call (run_47_c _) (OldOk.app (by simp)) ?_ | refine c_call (greatm_c _ _ l (aD_FL _ x l) off (n : Int) (n : Int) ld hI) (OldOk.app (by simp)) ?_ | refine c_call (goodref_c _ _ l.length off (n : Int) (n : Int) ld (aD_len x l) hI) (OldOk.app (by simp)) ?_ | refine c_call (of_n _ _ l (aD_FL _ x l) off ld n hI hG (by omega)) (OldOk.app (by simp)) ?_ | refine c_call (finite_t _ _ (rmA (mel l off ld) n n) (FL.fzn _ _ _ (by simp)) (by have hq := Nat.mul_le_mul (show n ≤ 20 by omega) (show n ≤ 20 by omega); simp; omega) hf) (OldOk.app (by simp)) ?_ | refine c_call (fac_s _ _ l (aD_FL _ x l) off ld n hI hG (by omega) _ (by exact rfl) hN) (OldOk.app (by simp)) ?_ | fail))
    | refine gk_consF (by kernel_rfl) ?_
    | refine gk_cons (by (conv => {lhs; whnf}); done) ?_
    | (refine gk_nilN (by (conv => {lhs; simp only [List.nil_append, List.cons_append]}); done) ?_; first | refine ⟨by exact rfl, ?_⟩ | skip)
    | refine gk_nil ?_
    | (intro N' hN'; simp only [List.nil_append, List.cons_append] at hN'; subst hN')
    | (refine gateQ ?_; refine b_retK (by simp) (by (conv => {lhs; whnf}); done) ?_)
    | (refine gateR ?_; (first | refine rk_tmp (by (conv => {lhs; whnf}); done) ?_ | refine rk_cellA (by (conv => {lhs; whnf}); done) (by exact rfl) (by exact rfl) ?_ | refine rk_cell1 (by (conv => {lhs; whnf}); done) (by exact rfl) (by exact rfl) ?_ | refine rk_nil ?_ | fail))
    | intro _)
  all_goals first
    | (exfalso; contradiction)
    | (exfalso; omega)
    | (exfalso; simp_all; done)
    | (refine rv_old rfl (by simp [mx, mxL, resOne, aOf, aOf1]) ?_; exact rfl)

set_option maxHeartbeats 4000000 in
theorem gnear_y (H : List (List AV)) (x : Nat × Nat) (l : List Nat) (off ld : Int) (n : Nat) (hI : MI l.length off n n ld) (hG : GoodP l.length off n n ld) (hf : (∀ k, k < (rmA (mel l off ld) n n).length → pK ((rmA (mel l off ld) n n).getD k 0) = 0)) (hN : fN (mel l off ld) n = n) (hx : ¬ (∀ k, k < ((growF (mel l off ld) (mel (cmA (stG (mel l off ld) n n) n n) 0 ((max n 1 : Nat) : Int)) n n) :: rmA (stG (mel l off ld) n n) n n).length → pK (((growF (mel l off ld) (mel (cmA (stG (mel l off ld) n n) n n) 0 ((max n 1 : Nat) : Int)) n n) :: rmA (stG (mel l off ld) n n) n n).getD k 0) = 0)) :
    Spec Try.prog 10 [mt (aD x l) off (n : Int) (n : Int) ld] H (.bool true) H := by
  obtain ⟨hm, ho1, ho2, hr1, hr2, hc1, hc2, hl1, hl2⟩ := id hI
  refine (Spec.intro' (fn := Try.f10) Try.func10 rfl (by kernel_rfl) (by simp) false [] (draw := drawX Try.prog ⟨false, _, []⟩) dOk ?_)
  simp only [argE, Nat.reduceAdd]
  repeat' (first
    | (refine gateE ?_; (first | refine b_c0 ?_ | refine b_nil ?_ | refine b_gT (by exact rfl) (by exact rfl) ?_ | refine b_gF (by exact rfl) (by exact rfl) (by exact rfl) ?_ | refine b_gU (by exact rfl) (by exact rfl) (by constructor <;> simp) (by exact rfl) (by exact rfl) ?_ | (refine b_g0 (by exact rfl) (by exact rfl) (by (conv => {lhs; whnf}); done) ?_; (first | refine g_TT ?_ | refine g_FF ?_ | refine g_TF ?_ | refine g_FT ?_ | refine g_PT ?_ ?_ | refine g_PF ?_ ?_ | refine g_BT ?_ ?_ | refine g_BF ?_ ?_ | fail)) | (refine b_g1 (by exact rfl) (by exact rfl) (by exact rfl) (by (conv => {lhs; whnf}); done) ?_; (first | refine g_TT ?_ | refine g_FF ?_ | refine g_TF ?_ | refine g_FT ?_ | refine g_PT ?_ ?_ | refine g_PF ?_ ?_ | refine g_BT ?_ ?_ | refine g_BF ?_ ?_ | fail)) | refine b_c1 (by exact rfl) ?_ | fail))
    | (refine gateO ?_; (first | refine b_move (by (conv => {lhs; whnf}); done) ?_ | (refine b_fa (by (conv => {lhs; whnf}); done) ?_; first | refine f_loc (by (conv => {lhs; whnf}); done) ?_ | refine f_ptr (by (conv => {lhs; whnf}); done) ?_) | (refine b_load (by (conv => {lhs; whnf}); done) ?_; (first | refine l_loc1 (by exact rfl) (by exact rfl) ?_ | refine l_locA (by exact rfl) (by exact rfl) ?_ | fail)) | (refine b_binBn (by first | (conv => {lhs; whnf}; done) | exact (by exact rfl) | fail) (by first | (conv => {lhs; whnf}; done) | exact (by exact rfl) | fail) ?_; (first | refine v_bnF (by exact rfl) ?_ | refine v_bnT (by decide) ?_ | fail)) | refine b_bslN (by exact rfl) (by exact rfl) (by decide) (by exact rfl) (by (conv => {lhs; whnf}); done) ?_ | refine b_appN (cs' := fl ((growF (mel l off ld) (mel (cmA (stG (mel l off ld) n n) n n) 0 ((max n 1 : Nat) : Int)) n n) :: rmA (stG (mel l off ld) n n) n n)) (g' := n * n + 1) (q := n * n + 1) (by (conv => {lhs; whnf}); done) (by (conv => {lhs; whnf}); done) (by exact rfl) (by exact rfl) (by exact src_fl' (FL.fzn _ (rmA (stG (mel l off ld) n n) n n) (n * n) (by simp))) (by simp) (by exact rfl) (by have hq := Nat.mul_le_mul (show n ≤ 20 by omega) (show n ≤ 20 by omega); simp; omega) (.inl (Nat.le_refl _)) (by exact rfl) (by exact rfl) (by (conv => {lhs; simp only [List.set_cons_zero, List.set_cons_succ]}); done) (by simp; omega) (by simp; omega) ?_ | (refine b_binB (by first | (conv => {lhs; whnf}; done) | exact (by exact rfl) | fail) (by first | (conv => {lhs; whnf}; done) | exact (by exact rfl) | fail) ?_; (first | refine v_bbT (by exact rfl) ?_ | refine v_k ?_ | fail)) | (refine b_bin (by (conv => {lhs; whnf}); done) (by (conv => {lhs; whnf}); done) (by (conv => {lhs; whnf}); done) ?_; (first | refine v_eT (by omega) ?_ | refine v_eF (by omega) ?_ | refine v_eP ?_ | refine v_neT (by omega) ?_ | refine v_neF (by omega) ?_ | refine v_neP ?_ | refine v_T (by omega) ?_ | refine v_F (by omega) ?_ | refine v_w (by omega) ?_ | refine v_wu (by omega) ?_ | refine v_nT ?_ | refine v_nF ?_ | refine v_nP ?_ | refine v_k ?_ | refine v_c (by omega) ?_ | fail)) | (refine b_pick (by (conv => {lhs; whnf}); done) ?_; (first | refine p_T (by (conv => {lhs; whnf}); done) ?_ | refine p_F (by (conv => {lhs; whnf}); done) ?_ | fail)) | refine b_assignF (by kernel_rfl) ?_ | refine b_assignI ?_ | refine b_assignN ?_ | refine b_assign (by (conv => {lhs; whnf}); done) ?_ | (refine b_un (by (conv => {lhs; whnf}); done) (by (conv => {lhs; whnf}); done) ?_; (first | refine v_eT (by omega) ?_ | refine v_eF (by omega) ?_ | refine v_eP ?_ | refine v_neT (by omega) ?_ | refine v_neF (by omega) ?_ | refine v_neP ?_ | refine v_T (by omega) ?_ | refine v_F (by omega) ?_ | refine v_w (by omega) ?_ | refine v_wu (by omega) ?_ | refine v_nT ?_ | refine v_nF ?_ | refine v_nP ?_ | refine v_k ?_ | refine v_c (by omega) ?_ | fail)) | refine b_callB ?_ | refine b_ext (by (conv => {lhs; whnf}); done) (by exact rfl) ?_ | refine b_stL (by (conv => {lhs; whnf}); done) (by (conv => {lhs; whnf}); done) (by first | exact (by exact rfl) | exact cells_of_len hF.len | fail) (by exact rfl) (by exact rfl) (by exact Nat.le_of_ble_eq_true rfl) (by (conv => {lhs; simp only [sc, List.set_cons_zero, List.set_cons_succ]}); done) ?_ | refine b_box (by (conv => {lhs; whnf}); done) (by exact rfl) (by exact rfl) (by exact rfl) (by exact rfl) ?_ | refine b_alloc (by exact rfl) (by exact rfl) ?_ | refine b_field (by (conv => {lhs; whnf}); done) (by exact rfl) (by exact rfl) (by exact rfl) ?_ | refine b_bslZ (by exact rfl) (by exact rfl) (by decide) ?_ | fail))
    | (refine gateD ?_; (first | refine d_c0 (by exact rfl) ?_ | refine d_nil ?_ | refine d_gT (by exact rfl) (by exact rfl) (by exact rfl) ?_ | refine d_gF (by exact rfl) (by exact rfl) (by exact rfl) (by exact rfl) ?_ | refine d_gU (by exact rfl) (by exact rfl) (by exact rfl) (by constructor <;> simp) (by exact rfl) (by exact rfl) ?_ | (refine d_g0 (by exact rfl) (by exact rfl) (by exact rfl) (by (conv => {lhs; whnf}); done) ?_; (first | refine dg_TT ?_ | refine dg_FF ?_ | refine dg_TF ?_ | refine dg_FT ?_ | refine dg_PT ?_ ?_ | refine dg_PF ?_ ?_ | refine dg_BT ?_ ?_ | refine dg_BF ?_ ?_ | fail)) | (refine d_g1 (by exact rfl) (by exact rfl) (by exact rfl) (by exact rfl) (by (conv => {lhs; whnf}); done) ?_; (first | refine dg_TT ?_ | refine dg_FF ?_ | refine dg_TF ?_ | refine dg_FT ?_ | refine dg_PT ?_ ?_ | refine dg_PF ?_ ?_ | refine dg_BT ?_ ?_ | refine dg_BF ?_ ?_ | fail)) | refine d_c1 (by exact rfl) (by exact rfl) ?_ | fail))
    | (refine gateC ?_; (first | refine k_lt ?_ | refine k_fz ?_ | refine k_lb (by (conv => {lhs; whnf}); done) ?_ | refine k_ms ?_ | refine k_bx (by exact rfl) (by exact rfl) ?_ | refine k_ld (by (conv => {lhs; whnf}); done) (by exact rfl) ?_ | refine k_ldT (by (conv => {lhs; whnf}); done) ?_ | refine k_bin (by (conv => {lhs; whnf}); done) (by exact rfl) ?_ | refine k_mn ?_ | refine k_mnB (by exact rfl) ?_ | refine k_mnF ?_ | refine k_mnL (by exact rfl) ?_ | fail))
    | (refine gateT ?_; (first | refine b_thn ?_ | refine b_thr ?_ | refine b_the ?_ | fail))
    | (refine gateX ?_; (first | refine b_seq ?_ | refine b_region ?_ | (refine b_cond (by (conv => {lhs; whnf}); done) ?_; (first | refine c_T ?_ | refine c_F ?_ | refine c_P ?_ ?_ | refine c_B ?_ ?_ | fail)) | refine b_ret ?_ | refine b_skip ?_ | refine b_block ?_ | refine b_exit ?_ | refine b_draw (id := 14) [9, 10] [] [(0, .ld true), (2, .lt), (3, .ld true), (6, .ld true), (7, .lt), (8, .ld true), (11, .bx), (12, .bx), (1, .mn true), (4, .mn true), (5, .mn true), (9, .mn true), (10, .mn true), (13, .mn true), (14, .mn true)] (by kernel_rfl) ?_ | refine b_draw (id := 15) [11] [] [(0, .lt), (2, .ld true), (4, .ld true), (7, .bx), (1, .mn true), (3, .mn true), (5, .mn true), (6, .mn true), (8, .mn true)] (by kernel_rfl) ?_ | refine b_draw (id := 16) [] [] [(0, .ld true), (1, .ld true), (3, .ld true), (2, .mn true), (4, .mn true), (5, .mn true), (6, .mn true), (7, .lt), (8, .lt), (9, .mn true), (10, .lt), (11, .lt)] (by kernel_rfl) ?_ | fail))
    | refine a_consF (by kernel_rfl) ?_
    | refine a_consI ?_
    | refine a_cons (by (conv => {lhs; whnf}); done) ?_
    | refine a_nil ?_
    | (refine gateK ?_; (first | refine c_call (run_47_c _) (OldOk.app (by simp)) ?_ | refine c_call (greatm_c _ _ l (aD_FL _ x l) off (n : Int) (n : Int) ld hI) (OldOk.app (by simp)) ?_ | refine c_call (goodref_c _ _ l.length off (n : Int) (n : Int) ld (aD_len x l) hI) (OldOk.app (by simp)) ?_ | refine c_call (of_n _ _ l (aD_FL _ x l) off ld n hI hG (by omega)) (OldOk.app (by simp)) ?_ | refine c_call (finite_t _ _ (rmA (mel l off ld) n n) (FL.fzn _ _ _ (by simp)) (by have hq := Nat.mul_le_mul (show n ≤ 20 by omega) (show n ≤ 20 by omega); simp; omega) hf) (OldOk.app (by simp)) ?_ | refine c_call (fac_n _ _ l (aD_FL _ x l) off ld n hI hG (by omega) _ (by exact rfl) hN) (OldOk.app (by simp)) ?_ | refine c_call (gr_n _ (stG (mel l off ld) n n) n (by omega)) (OldOk.app (by simp)) ?_ | refine c_call (lu_of _ (stG (mel l off ld) n n) n (by omega)) (OldOk.app (by simp)) ?_ | refine c_call (growth_g _ _ l (aD_FL _ x l) off ld n hI hG (by omega) _ (cmA (stG (mel l off ld) n n) n n) (FL.fzn _ _ _ (by simp)) 0 ((max n 1 : Nat) : Int) (cm_MI (by omega)) (cm_good _ n) _ (pvL (mel l off ld) n n) (IL.fzn _ _ _ (by simp)) (by simp; omega) (by simp) (pvL_piv _ n) (by simp [mx, mxL_il])) (OldOk.app (by simp)) ?_ | refine c_call (finite_f _ _ ((growF (mel l off ld) (mel (cmA (stG (mel l off ld) n n) n n) 0 ((max n 1 : Nat) : Int)) n n) :: rmA (stG (mel l off ld) n n) n n) (FL.bln (hg_new (by exact rfl) rfl) (by simp)) (by have hq := Nat.mul_le_mul (show n ≤ 20 by omega) (show n ≤ 20 by omega); simp; omega) hx) (OldOk.app (by simp)) ?_ | fail))
    | refine gk_consF (by kernel_rfl) ?_
    | refine gk_cons (by (conv => {lhs; whnf}); done) ?_
    | (refine gk_nilN (by (conv => {lhs; simp only [List.nil_append, List.cons_append]}); done) ?_; first | refine ⟨by exact rfl, ?_⟩ | skip)
    | refine gk_nil ?_
    | (intro N' hN'; simp only [List.nil_append, List.cons_append] at hN'; subst hN')
    | (refine gateQ ?_; refine b_retK (by simp) (by (conv => {lhs; whnf}); done) ?_)
    | (refine gateR ?_; (first | refine rk_tmp (by (conv => {lhs; whnf}); done) ?_ | refine rk_cellA (by (conv => {lhs; whnf}); done) (by exact rfl) (by exact rfl) ?_ | refine rk_cell1 (by (conv => {lhs; whnf}); done) (by exact rfl) (by exact rfl) ?_ | refine rk_nil ?_ | fail))
    | intro _)
  all_goals first
    | (exfalso; contradiction)
    | (exfalso; omega)
    | (exfalso; simp_all; done)
    | (refine rv_old rfl (by simp [mx, mxL, resOne, aOf, aOf1]) ?_; exact rfl)


theorem ngrow_c (H : List (List AV)) (D : AV) (l : List Nat) (hF : FL H D l) (off ld : Int) (n : Nat) (hI : MI l.length off n n ld) (hG : GoodP l.length off n n ld) (hn : n ≤ 64) :
    CSpec Try.prog 48 [mt D off (n : Int) (n : Int) ld, .agg [.sl none (n * n) (fl (cmA (stG (mel l off ld) n n) n n)), .int .i64 0, .int .i64 (n : Int), .int .i64 (n : Int), .int .i64 ((max n 1 : Nat) : Int), .sl none n (il (pvL (mel l off ld) n n))]] H (.tup [.flt (growF (mel l off ld) (stG (mel l off ld) n n) n n), .int .i64 0]) H := by
  have h := growth_g H D l hF off ld n hI hG hn (.sl none (n * n) (fl (cmA (stG (mel l off ld) n n) n n))) (cmA (stG (mel l off ld) n n) n n) (FL.fzn _ _ _ (by simp)) 0 ((max n 1 : Nat) : Int) (cm_MI hn) (cm_good _ n) (.sl none n (il (pvL (mel l off ld) n n))) (pvL (mel l off ld) n n) (IL.fzn _ _ _ (by simp)) (by simp; omega) (by simp) (pvL_piv _ n) (by simp [mx, mxL_il])
  have hgx : (growF (mel l off ld) (mel (cmA (stG (mel l off ld) n n) n n) 0 ((max n 1 : Nat) : Int)) n n) = growF (mel l off ld) (stG (mel l off ld) n n) n n := by
    unfold growF
    rw [show topF (mel (cmA (stG (mel l off ld) n n) n n) 0 ((max n 1 : Nat) : Int)) (fun j => j + 1) n = topF (stG (mel l off ld) n n) (fun j => j + 1) n from by unfold topF; rw [mstP_congr (fun _ _ => rfl) (fun i k hk hi => mel_cm (by omega) hk)]]
  rwa [hgx] at h
set_option maxHeartbeats 4000000 in
theorem gnear_n (H : List (List AV)) (x : Nat × Nat) (l : List Nat) (off ld : Int) (n : Nat) (hI : MI l.length off n n ld) (hG : GoodP l.length off n n ld) (hf : (∀ k, k < (rmA (mel l off ld) n n).length → pK ((rmA (mel l off ld) n n).getD k 0) = 0)) (hN : fN (mel l off ld) n = n) (hx : (∀ k, k < ((growF (mel l off ld) (mel (cmA (stG (mel l off ld) n n) n n) 0 ((max n 1 : Nat) : Int)) n n) :: rmA (stG (mel l off ld) n n) n n).length → pK (((growF (mel l off ld) (mel (cmA (stG (mel l off ld) n n) n n) 0 ((max n 1 : Nat) : Int)) n n) :: rmA (stG (mel l off ld) n n) n n).getD k 0) = 0)) :
    Spec Try.prog 10 [mt (aD x l) off (n : Int) (n : Int) ld] H (.bool true) H := by
  obtain ⟨hm, ho1, ho2, hr1, hr2, hc1, hc2, hl1, hl2⟩ := id hI
  have hgx : (growF (mel l off ld) (mel (cmA (stG (mel l off ld) n n) n n) 0 ((max n 1 : Nat) : Int)) n n) = growF (mel l off ld) (stG (mel l off ld) n n) n n := by
    unfold growF
    rw [show topF (mel (cmA (stG (mel l off ld) n n) n n) 0 ((max n 1 : Nat) : Int)) (fun j => j + 1) n = topF (stG (mel l off ld) n n) (fun j => j + 1) n from by unfold topF; rw [mstP_congr (fun _ _ => rfl) (fun i k hk hi => mel_cm (by omega) hk)]]
  rw [hgx] at hx
  obtain ⟨hx0, hax⟩ := cons_fin hx
  obtain ⟨s1, m1, hfar⟩ := grow_near (rm_fin hf) (rm_fin hax) hN hx0
  obtain ⟨dS, iS, eS, cS⟩ := dof s1
  obtain ⟨dM, iM, eM, cM⟩ := dof m1
  obtain ⟨dX, iX, eX, cX⟩ := dof hx0
  obtain ⟨dP, iP, eP, cP⟩ := dmul iX iS (by decide) (by decide) (by decide) (by decide)
  obtain ⟨dD, iD, eD, cD⟩ := dsubt iP (iM.mono (by decide)) (by decide) (by decide)
  have iA := dAb_In iD
  obtain ⟨d1, i1, e1, c1⟩ := dshift iM (by decide) (by decide) (-52) (C := 100) (by decide) (by decide)
  obtain ⟨d2, i2, e2, c2⟩ := dshift iS (by decide) (by decide) (-1074) (C := 100) (by decide) (by decide)
  obtain ⟨dB, iB, eB, cB⟩ := dadd i1 i2 (by decide) (by decide)
  have cC := fun H => dcmp (H := H) (iA.mono (show _ ≤ (300 : Int) by decide)) (iB.mono (show _ ≤ (300 : Int) by decide)) (by decide) (by decide)
  have hc : cmpR (V (dAb dD)) (V dB) ≤ 0 := cmpR_le (by rw [dAb_V iD, eB, e1, e2, eD, eP, eX, eS, eM]; exact hfar)
  generalize cmpR (V (dAb dD)) (V dB) = z at *
  refine (Spec.intro' (fn := Try.f10) Try.func10 rfl (by kernel_rfl) (by simp) false [] (draw := drawX Try.prog ⟨false, _, []⟩) dOk ?_)
  simp only [argE, Nat.reduceAdd]
  repeat' (first
    | (refine gateE ?_; (first | refine b_c0 ?_ | refine b_nil ?_ | refine b_gT (by exact rfl) (by exact rfl) ?_ | refine b_gF (by exact rfl) (by exact rfl) (by exact rfl) ?_ | refine b_gU (by exact rfl) (by exact rfl) (by constructor <;> simp) (by exact rfl) (by exact rfl) ?_ | (refine b_g0 (by exact rfl) (by exact rfl) (by (conv => {lhs; whnf}); done) ?_; (first | refine g_TT ?_ | refine g_FF ?_ | refine g_TF ?_ | refine g_FT ?_ | refine g_PT ?_ ?_ | refine g_PF ?_ ?_ | refine g_BT ?_ ?_ | refine g_BF ?_ ?_ | fail)) | (refine b_g1 (by exact rfl) (by exact rfl) (by exact rfl) (by (conv => {lhs; whnf}); done) ?_; (first | refine g_TT ?_ | refine g_FF ?_ | refine g_TF ?_ | refine g_FT ?_ | refine g_PT ?_ ?_ | refine g_PF ?_ ?_ | refine g_BT ?_ ?_ | refine g_BF ?_ ?_ | fail)) | refine b_c1 (by exact rfl) ?_ | fail))
    | (refine gateO ?_; (first | refine b_move (by (conv => {lhs; whnf}); done) ?_ | (refine b_fa (by (conv => {lhs; whnf}); done) ?_; first | refine f_loc (by (conv => {lhs; whnf}); done) ?_ | refine f_ptr (by (conv => {lhs; whnf}); done) ?_) | (refine b_load (by (conv => {lhs; whnf}); done) ?_; (first | refine l_loc1 (by exact rfl) (by exact rfl) ?_ | refine l_locA (by exact rfl) (by exact rfl) ?_ | fail)) | (refine b_binBn (by first | (conv => {lhs; whnf}; done) | exact (by exact rfl) | fail) (by first | (conv => {lhs; whnf}; done) | exact (by exact rfl) | fail) ?_; (first | refine v_bnF (by exact rfl) ?_ | refine v_bnT (by decide) ?_ | fail)) | refine b_bslN (by exact rfl) (by exact rfl) (by decide) (by exact rfl) (by (conv => {lhs; whnf}); done) ?_ | refine b_appN (cs' := fl (growF (mel l off ld) (stG (mel l off ld) n n) n n :: rmA (stG (mel l off ld) n n) n n)) (g' := n * n + 1) (q := n * n + 1) (by (conv => {lhs; whnf}); done) (by (conv => {lhs; whnf}); done) (by exact rfl) (by exact rfl) (by exact src_fl' (FL.fzn _ (rmA (stG (mel l off ld) n n) n n) (n * n) (by simp))) (by simp) (by exact rfl) (by have hq := Nat.mul_le_mul (show n ≤ 20 by omega) (show n ≤ 20 by omega); simp; omega) (.inl (Nat.le_refl _)) (by exact rfl) (by exact rfl) (by (conv => {lhs; simp only [List.set_cons_zero, List.set_cons_succ]}); done) (by simp; omega) (by simp; omega) ?_ | (refine b_binB (by first | (conv => {lhs; whnf}; done) | exact (by exact rfl) | fail) (by first | (conv => {lhs; whnf}; done) | exact (by exact rfl) | fail) ?_; (first | refine v_bbT (by exact rfl) ?_ | refine v_k ?_ | fail)) | (refine b_bin (by (conv => {lhs; whnf}); done) (by (conv => {lhs; whnf}); done) (by (conv => {lhs; whnf}); done) ?_; (first | refine v_eT (by omega) ?_ | refine v_eF (by omega) ?_ | refine v_eP ?_ | refine v_neT (by omega) ?_ | refine v_neF (by omega) ?_ | refine v_neP ?_ | refine v_T (by omega) ?_ | refine v_F (by omega) ?_ | refine v_w (by omega) ?_ | refine v_wu (by omega) ?_ | refine v_nT ?_ | refine v_nF ?_ | refine v_nP ?_ | refine v_k ?_ | refine v_c (by omega) ?_ | fail)) | (refine b_pick (by (conv => {lhs; whnf}); done) ?_; (first | refine p_T (by (conv => {lhs; whnf}); done) ?_ | refine p_F (by (conv => {lhs; whnf}); done) ?_ | fail)) | refine b_assignF (by kernel_rfl) ?_ | refine b_assignI ?_ | refine b_assignN ?_ | refine b_assign (by (conv => {lhs; whnf}); done) ?_ | (refine b_un (by (conv => {lhs; whnf}); done) (by (conv => {lhs; whnf}); done) ?_; (first | refine v_eT (by omega) ?_ | refine v_eF (by omega) ?_ | refine v_eP ?_ | refine v_neT (by omega) ?_ | refine v_neF (by omega) ?_ | refine v_neP ?_ | refine v_T (by omega) ?_ | refine v_F (by omega) ?_ | refine v_w (by omega) ?_ | refine v_wu (by omega) ?_ | refine v_nT ?_ | refine v_nF ?_ | refine v_nP ?_ | refine v_k ?_ | refine v_c (by omega) ?_ | fail)) | refine b_callB ?_ | refine b_ext (by (conv => {lhs; whnf}); done) (by exact rfl) ?_ | refine b_stL (by (conv => {lhs; whnf}); done) (by (conv => {lhs; whnf}); done) (by first | exact (by exact rfl) | exact cells_of_len hF.len | fail) (by exact rfl) (by exact rfl) (by exact Nat.le_of_ble_eq_true rfl) (by (conv => {lhs; simp only [sc, List.set_cons_zero, List.set_cons_succ]}); done) ?_ | refine b_box (by (conv => {lhs; whnf}); done) (by exact rfl) (by exact rfl) (by exact rfl) (by exact rfl) ?_ | refine b_alloc (by exact rfl) (by exact rfl) ?_ | refine b_field (by (conv => {lhs; whnf}); done) (by exact rfl) (by exact rfl) (by exact rfl) ?_ | refine b_bslZ (by exact rfl) (by exact rfl) (by decide) ?_ | fail))
    | (refine gateD ?_; (first | refine d_c0 (by exact rfl) ?_ | refine d_nil ?_ | refine d_gT (by exact rfl) (by exact rfl) (by exact rfl) ?_ | refine d_gF (by exact rfl) (by exact rfl) (by exact rfl) (by exact rfl) ?_ | refine d_gU (by exact rfl) (by exact rfl) (by exact rfl) (by constructor <;> simp) (by exact rfl) (by exact rfl) ?_ | (refine d_g0 (by exact rfl) (by exact rfl) (by exact rfl) (by (conv => {lhs; whnf}); done) ?_; (first | refine dg_TT ?_ | refine dg_FF ?_ | refine dg_TF ?_ | refine dg_FT ?_ | refine dg_PT ?_ ?_ | refine dg_PF ?_ ?_ | refine dg_BT ?_ ?_ | refine dg_BF ?_ ?_ | fail)) | (refine d_g1 (by exact rfl) (by exact rfl) (by exact rfl) (by exact rfl) (by (conv => {lhs; whnf}); done) ?_; (first | refine dg_TT ?_ | refine dg_FF ?_ | refine dg_TF ?_ | refine dg_FT ?_ | refine dg_PT ?_ ?_ | refine dg_PF ?_ ?_ | refine dg_BT ?_ ?_ | refine dg_BF ?_ ?_ | fail)) | refine d_c1 (by exact rfl) (by exact rfl) ?_ | fail))
    | (refine gateC ?_; (first | refine k_lt ?_ | refine k_fz ?_ | refine k_lb (by (conv => {lhs; whnf}); done) ?_ | refine k_ms ?_ | refine k_bx (by exact rfl) (by exact rfl) ?_ | refine k_ld (by (conv => {lhs; whnf}); done) (by exact rfl) ?_ | refine k_ldT (by (conv => {lhs; whnf}); done) ?_ | refine k_bin (by (conv => {lhs; whnf}); done) (by exact rfl) ?_ | refine k_mn ?_ | refine k_mnB (by exact rfl) ?_ | refine k_mnF ?_ | refine k_mnL (by exact rfl) ?_ | fail))
    | (refine gateT ?_; (first | refine b_thn ?_ | refine b_thr ?_ | refine b_the ?_ | fail))
    | (refine gateX ?_; (first | refine b_seq ?_ | refine b_region ?_ | (refine b_cond (by (conv => {lhs; whnf}); done) ?_; (first | refine c_T ?_ | refine c_F ?_ | refine c_P ?_ ?_ | refine c_B ?_ ?_ | fail)) | refine b_ret ?_ | refine b_skip ?_ | refine b_block ?_ | refine b_exit ?_ | refine b_draw (id := 14) [9, 10] [] [(0, .ld true), (2, .lt), (3, .ld true), (6, .ld true), (7, .lt), (8, .ld true), (11, .bx), (12, .bx), (1, .mn true), (4, .mn true), (5, .mn true), (9, .mn true), (10, .mn true), (13, .mn true), (14, .mn true)] (by kernel_rfl) ?_ | refine b_draw (id := 15) [11] [] [(0, .lt), (2, .ld true), (4, .ld true), (7, .bx), (1, .mn true), (3, .mn true), (5, .mn true), (6, .mn true), (8, .mn true)] (by kernel_rfl) ?_ | refine b_draw (id := 16) [] [] [(0, .ld true), (1, .ld true), (3, .ld true), (2, .mn true), (4, .mn true), (5, .mn true), (6, .mn true), (7, .lt), (8, .lt), (9, .mn true), (10, .lt), (11, .lt)] (by kernel_rfl) ?_ | fail))
    | refine a_consF (by kernel_rfl) ?_
    | refine a_consI ?_
    | refine a_cons (by (conv => {lhs; whnf}); done) ?_
    | refine a_nil ?_
    | (refine gateK ?_; (first | refine c_call (run_47_c _) (OldOk.app (by simp)) ?_ | refine c_call (greatm_c _ _ l (aD_FL _ x l) off (n : Int) (n : Int) ld hI) (OldOk.app (by simp)) ?_ | refine c_call (goodref_c _ _ l.length off (n : Int) (n : Int) ld (aD_len x l) hI) (OldOk.app (by simp)) ?_ | refine c_call (of_n _ _ l (aD_FL _ x l) off ld n hI hG (by omega)) (OldOk.app (by simp)) ?_ | refine c_call (finite_t _ _ (rmA (mel l off ld) n n) (FL.fzn _ _ _ (by simp)) (by have hq := Nat.mul_le_mul (show n ≤ 20 by omega) (show n ≤ 20 by omega); simp; omega) hf) (OldOk.app (by simp)) ?_ | refine c_call (fac_n _ _ l (aD_FL _ x l) off ld n hI hG (by omega) _ (by exact rfl) hN) (OldOk.app (by simp)) ?_ | refine c_call (gr_n _ (stG (mel l off ld) n n) n (by omega)) (OldOk.app (by simp)) ?_ | refine c_call (lu_of _ (stG (mel l off ld) n n) n (by omega)) (OldOk.app (by simp)) ?_ | refine c_call (ngrow_c _ _ l (aD_FL _ x l) off ld n hI hG (by omega)) (OldOk.app (by simp)) ?_ | refine c_call (finite_t _ _ (growF (mel l off ld) (stG (mel l off ld) n n) n n :: rmA (stG (mel l off ld) n n) n n) (FL.bln (hg_new (by exact rfl) rfl) (by simp)) (by have hq := Nat.mul_le_mul (show n ≤ 20 by omega) (show n ≤ 20 by omega); simp; omega) hx) (OldOk.app (by simp)) ?_ | refine c_call (rmostF_c _ _ (mel l off ld) n (FL.fzn _ _ _ (by simp)) (by omega) n (Nat.le_refl _)) (OldOk.app (by simp)) ?_ | refine c_call (rmostT_c _ _ (stG (mel l off ld) n n) n (FL.fzn _ _ _ (by simp)) (by omega) n (Nat.le_refl _)) (OldOk.app (by simp)) ?_ | refine c_call (cS _) (OldOk.app (by simp)) ?_ | refine c_call (cM _) (OldOk.app (by simp)) ?_ | refine c_call (cX _) (OldOk.app (by simp)) ?_ | refine c_call (cP _) (OldOk.app (by simp)) ?_ | refine c_call (cD _) (OldOk.app (by simp)) ?_ | refine c_call (c1 _) (OldOk.app (by simp)) ?_ | refine c_call (c2 _) (OldOk.app (by simp)) ?_ | refine c_call (cB _) (OldOk.app (by simp)) ?_ | refine c_call (cC _) (OldOk.app (by simp)) ?_ | refine c_call (dabs _ dD) (OldOk.app (by simp)) ?_ | fail))
    | refine gk_consF (by kernel_rfl) ?_
    | refine gk_cons (by (conv => {lhs; whnf}); done) ?_
    | (refine gk_nilN (by (conv => {lhs; simp only [List.nil_append, List.cons_append]}); done) ?_; first | refine ⟨by exact rfl, ?_⟩ | skip)
    | refine gk_nil ?_
    | (intro N' hN'; simp only [List.nil_append, List.cons_append] at hN'; subst hN')
    | (refine gateQ ?_; refine b_retK (by simp) (by (conv => {lhs; whnf}); done) ?_)
    | (refine gateR ?_; (first | refine rk_tmp (by (conv => {lhs; whnf}); done) ?_ | refine rk_cellA (by (conv => {lhs; whnf}); done) (by exact rfl) (by exact rfl) ?_ | refine rk_cell1 (by (conv => {lhs; whnf}); done) (by exact rfl) (by exact rfl) ?_ | refine rk_nil ?_ | fail))
    | intro _)
  all_goals first
    | (exfalso; contradiction)
    | (exfalso; omega)
    | (exfalso; simp_all; done)
    | (refine rv_old rfl (by simp [mx, mxL, resOne, aOf, aOf1]) ?_; exact rfl)


theorem gnear (H : List (List AV)) (x : Nat × Nat) (l : List Nat) (off rows cols ld : Int) (hI : MI l.length off rows cols ld) : Spec Try.prog 10 [mt (aD x l) off rows cols ld] H (.bool true) H := by
  by_cases hG : GoodP l.length off rows cols ld
  · obtain ⟨r, rfl⟩ : ∃ r : Nat, rows = (r : Int) := ⟨rows.toNat, by have := hG.1; omega⟩
    obtain ⟨c, rfl⟩ : ∃ c : Nat, cols = (c : Int) := ⟨cols.toNat, by have := hG.2.1; omega⟩
    by_cases hf : (∀ k, k < (rmA (mel l off ld) r c).length → pK ((rmA (mel l off ld) r c).getD k 0) = 0)
    · by_cases hne : (r : Int) = (c : Int)
      · have : r = c := by omega
        subst this
        have hle := fN_le (mel l off ld) r
        by_cases hN : fN (mel l off ld) r < r
        · exact gnear_s H x l off ld r hI hG hf hN
        · have hN' : fN (mel l off ld) r = r := by omega
          by_cases hx : (∀ k, k < ((growF (mel l off ld) (mel (cmA (stG (mel l off ld) r r) r r) 0 ((max r 1 : Nat) : Int)) r r) :: rmA (stG (mel l off ld) r r) r r).length → pK (((growF (mel l off ld) (mel (cmA (stG (mel l off ld) r r) r r) 0 ((max r 1 : Nat) : Int)) r r) :: rmA (stG (mel l off ld) r r) r r).getD k 0) = 0)
          · exact gnear_n H x l off ld r hI hG hf hN' hx
          · exact gnear_y H x l off ld r hI hG hf hN' hx
      · exact gnear_q H x l off ld r c hI hG hf hne
    · exact gnear_f H x l off ld r c hI hG hf
  · exact gnear_b H x l off rows cols ld hI hG

end Go.Sx
