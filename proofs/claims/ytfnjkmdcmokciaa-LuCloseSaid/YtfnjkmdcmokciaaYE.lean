/- A part of the proofs of this seat: YE. No condition is set. -/
import Derived.Test.YtfnjkmdcmokciaaXR
import Derived.Test.YtfnjkmdcmokciaaXS
import Derived.Test.YtfnjkmdcmokciaaYA
import Derived.Test.YtfnjkmdcmokciaaYC
import Derived.Test.YtfnjkmdcmokciaaYD
set_option linter.unusedVariables false
set_option linter.unusedSimpArgs false
set_option maxRecDepth 20000
/-! ### what sums, products and quotients of floats are worth -/
namespace Go.Sx
open Ieee
def dv : Datum → Rat
  | .number s m p => sgn s ((m : Rat) * p2 p)
  | _ => 0
theorem read_fin {x : Nat} (h : pK x = 0) : Ieee.double.read x = .number (sNeg x) (pM x).toNat (pE x) := by
  have hE : pE₀ x ≠ 2047 := by
    intro hE
    unfold pK at h
    rw [if_pos hE] at h
    split at h <;> cases h
  unfold Ieee.Format.read
  simp only [e_sw, e_bn, e_ir, e_lp]
  have hs : (x / 9223372036854775808 % 2 == 1) = sNeg x := rfl
  rw [hs]
  by_cases h0 : pE₀ x = 0
  · have e1 : pM x = pM₀ x := by unfold pM; rw [if_neg hE, if_pos h0]
    have e2 : pE x = -1074 := by unfold pE; rw [if_neg hE, if_pos h0]
    rw [e1, e2]
    unfold pE₀ at h0
    rw [if_pos (by omega)]
    congr 1
    unfold pM₀; omega
  · have e1 : pM x = pM₀ x + 4503599627370496 := by unfold pM; rw [if_neg hE, if_neg h0]
    have e2 : pE x = pE₀ x - 1075 := by unfold pE; rw [if_neg hE, if_neg h0]
    rw [e1, e2]
    unfold pE₀ at *
    unfold pM₀
    rw [if_neg (by omega), if_pos (by omega)]
    congr 1 <;> omega
theorem fv_read {x : Nat} (h : pK x = 0) : fv x = dv (Ieee.double.read x) := by
  rw [read_fin h]
  unfold fv dv
  have := (pM_rng (x := x)).1
  have e : ((pM x : Int) : Rat) = (((pM x).toNat : Nat) : Rat) := by
    conv => lhs; rw [show pM x = (((pM x).toNat : Nat) : Int) by omega]
    rfl
  rw [e]
theorem fin_of {x : Nat} {s : Bool} {m : Nat} {p : Int} (h : Ieee.double.read x = .number s m p) : pK x = 0 := by
  unfold Ieee.Format.read at h
  simp only [e_sw, e_bn, e_ir] at h
  unfold pK pE₀
  split at h
  · rw [if_neg (by omega), if_neg (by omega)]
  · split at h
    · rw [if_neg (by omega), if_neg (by omega)]
    · split at h <;> cases h
theorem not_fin {x : Nat} (h : pK x ≠ 0) : (∃ s, Ieee.double.read x = .infinity s) ∨ ∃ s t, Ieee.double.read x = .nan s t := by
  cases hr : Ieee.double.read x with
  | number s m p => exact absurd (fin_of hr) h
  | infinity s => exact .inl ⟨s, rfl⟩
  | nan s t => exact .inr ⟨s, t, rfl⟩
theorem sgn_near {s : Bool} {a b t : Rat} (h : Near a b t) : Near (sgn s a) (sgn s b) t := by
  obtain ⟨h1, h2⟩ := h
  unfold Near
  cases s <;> simp only [sgn, if_true, Bool.false_eq_true, if_false] <;> constructor <;> grind
theorem fin_word {s : Bool} {k : Nat} (hk : k ≤ 9218868437227405312) (h : pK (Ieee.double.word s k) = 0) : k < 9218868437227405312 := by
  rcases Nat.lt_or_ge k 9218868437227405312 with hh | hh
  · exact hh
  · have : k = 9218868437227405312 := by omega
    subst this
    revert h; cases s <;> decide
theorem fv_word {s : Bool} {k : Nat} (hk : k < 9218868437227405312) : pK (Ieee.double.word s k) = 0 ∧ fv (Ieee.double.word s k) = sgn s (fv k) := by
  obtain ⟨m, p, h1, _⟩ := rungF_read hk
  have hr := read_word s k (Nat.le_of_lt hk)
  rw [h1] at hr
  have hr' : Ieee.double.read (Ieee.double.word s k) = .number s m p := by rw [hr]; cases s <;> rfl
  have f1 := fin_of hr'
  have f2 := fin_of h1
  refine ⟨f1, ?_⟩
  rw [fv_read f1, fv_read f2, hr', h1]
  rfl
def absR (x : Rat) : Rat := if x < 0 then -x else x
theorem absR_nn (x : Rat) : 0 ≤ absR x := by unfold absR; split <;> grind
theorem absR_ge (x : Rat) : x ≤ absR x ∧ -x ≤ absR x := by unfold absR; split <;> constructor <;> grind
theorem absR_le {x t : Rat} (h1 : x ≤ t) (h2 : -x ≤ t) : absR x ≤ t := by unfold absR; split <;> assumption
theorem absR_sgn {s : Bool} {a : Rat} (h : 0 ≤ a) : absR (sgn s a) = a := by
  unfold absR
  cases s <;> simp only [sgn, if_true, Bool.false_eq_true, if_false] <;> split <;> grind
theorem absR_pos {x : Rat} (h : 0 ≤ x) : absR x = x := by unfold absR; rw [if_neg (by grind)]
theorem absR_neg (x : Rat) : absR (-x) = absR x := by unfold absR; split <;> split <;> grind
theorem absR_mul (x y : Rat) : absR (x * y) = absR x * absR y := by
  have pp : ∀ a b : Rat, 0 ≤ a → 0 ≤ b → 0 ≤ a * b := fun a b h1 h2 => Rat.mul_nonneg h1 h2
  by_cases hx : x < 0
  · by_cases hy : y < 0
    · have := pp (-x) (-y) (by grind) (by grind)
      have e1 : absR x = -x := if_pos hx
      have e2 : absR y = -y := if_pos hy
      rw [e1, e2, absR_pos (by grind)]; grind
    · have := pp (-x) y (by grind) (by grind)
      have e1 : absR x = -x := if_pos hx
      rw [e1, absR_pos (x := y) (by grind)]
      have : x * y = -(-x * y) := by grind
      rw [this, absR_neg, absR_pos (by grind)]
  · by_cases hy : y < 0
    · have := pp x (-y) (by grind) (by grind)
      have e2 : absR y = -y := if_pos hy
      rw [e2, absR_pos (x := x) (by grind)]
      have : x * y = -(x * -y) := by grind
      rw [this, absR_neg, absR_pos (by grind)]
    · have := pp x y (by grind) (by grind)
      rw [absR_pos (x := x) (by grind), absR_pos (x := y) (by grind), absR_pos this]
theorem absR_zero : absR 0 = 0 := by unfold absR; rw [if_neg (by decide)]
def uR : Rat := p2 (-53)
def tR : Rat := p2 (-1075)
theorem uR_pos : 0 < uR := p2_pos _
theorem tR_pos : 0 < tR := p2_pos _
theorem uR_val : uR = 1 / 9007199254740992 := by decide +kernel
/-- a number written is a number nearby -/
theorem write_near {s : Bool} {m : Nat} {p : Int} (h : pK (Ieee.double.write (.number s m p)) = 0) :
    ∃ t, 0 ≤ t ∧ Near (fv (Ieee.double.write (.number s m p))) (sgn s ((m : Rat) * p2 p)) t ∧ t ≤ absR (sgn s ((m : Rat) * p2 p)) * uR + tR ∧ t ≤ absR (fv (Ieee.double.write (.number s m p))) * uR + tR := by
  have e1 : Ieee.double.write (.number s m p) = Ieee.double.word s (rungF m p) := nearest_eq s m p
  rw [e1] at h ⊢
  have hk := fin_word (rungF_le m p) h
  rw [(fv_word (s := s) hk).2]
  have hp := p2_pos p
  have hm0 : (0 : Rat) ≤ m := by exact_mod_cast Nat.zero_le m
  have hmp : 0 ≤ (m : Rat) * p2 p := Rat.mul_nonneg hm0 (Rat.le_of_lt hp)
  by_cases hm : m = 0
  · subst hm
    have e2 : rungF 0 p = 0 := by unfold rungF; rw [if_pos rfl]
    rw [e2]
    have e3 : fv 0 = 0 := by decide +kernel
    rw [e3, show ((0 : Nat) : Rat) * p2 p = 0 by simp]
    have e4 : sgn s (0 : Rat) = 0 := by cases s <;> simp [sgn]
    rw [e4, absR_zero]
    refine ⟨0, Rat.le_refl, ⟨by grind, by grind⟩, ?_, ?_⟩ <;> (have := tR_pos; grind)
  · obtain ⟨r1, r2, r3, t, t0, t1, t2, t3⟩ := rung_err hm hk
    refine ⟨t, t0, sgn_near t1, ?_, ?_⟩
    · rw [absR_sgn hmp]; exact t2
    · rw [absR_sgn r3]; exact t3
theorem fop_fin {f : Nat → Nat → Option Nat} {x y : Nat} (h : pK (fop f x y) = 0) : ∃ r, f x y = some r ∧ fop f x y = r ∧ pK r = 0 := by
  have ff : fop f x y = (match f x y with | some r => cn r | none => qn) := rfl
  rw [ff] at h ⊢
  cases hf : f x y with
  | none => rw [hf] at h; exact absurd h (by decide)
  | some r =>
    rw [hf] at h
    simp only at h ⊢
    have := cn_fin h rfl
    exact ⟨r, rfl, this.symm, by rw [this]; exact h⟩
theorem write_num {d : Datum} (h : pK (Ieee.double.write d) = 0) : ∃ s m p, d = .number s m p := by
  cases d with
  | number s m p => exact ⟨s, m, p, rfl⟩
  | infinity s => exact absurd h (by cases s <;> decide)
  | nan s t =>
    exfalso
    have e : Ieee.double.write (.nan s t) = Ieee.double.word s (9218868437227405312 + t % 4503599627370496) := by simp only [Ieee.Format.write, e_ir, e_bn]
    rw [e] at h
    have hlt := Nat.mod_lt t (show 0 < 4503599627370496 by decide)
    generalize t % 4503599627370496 = q at *
    unfold Ieee.Format.word at h
    rw [e_sw] at h
    unfold pK pE₀ at h
    cases s
    · simp only [Bool.false_eq_true, if_false] at h
      split at h
      · cases h
      · rw [if_pos (by omega)] at h; cases h
    · simp only [if_true] at h
      split at h
      · cases h
      · rw [if_pos (by omega)] at h; cases h
/-- the product -/
theorem fmul_near {x y : Nat} (h : pK (fmul x y) = 0) : pK x = 0 ∧ pK y = 0 ∧ ∃ t, 0 ≤ t ∧ Near (fv (fmul x y)) (fv x * fv y) t ∧ t ≤ absR (fv x * fv y) * uR + tR := by
  obtain ⟨r, h1, h2, h3⟩ := fop_fin (f := Ieee.double.mul) h
  have e : fmul x y = r := h2
  rw [e]
  have hm : Ieee.double.mul x y = ((Ieee.double.read x).product (Ieee.double.read y)).map Ieee.double.write := rfl
  rw [hm] at h1
  cases hp : (Ieee.double.read x).product (Ieee.double.read y) with
  | none => rw [hp] at h1; cases h1
  | some d =>
    rw [hp] at h1
    simp only [Option.map_some, Option.some.injEq] at h1
    rw [← h1] at h3 ⊢
    obtain ⟨s, m, p, rfl⟩ := write_num h3
    have key : pK x = 0 ∧ pK y = 0 := by
      constructor
      · apply Classical.byContradiction; intro hx
        rcases not_fin hx with ⟨s', hr⟩ | ⟨s', t', hr⟩
        · rw [hr] at hp
          cases hy : Ieee.double.read y <;> rw [hy] at hp <;> simp [Ieee.Datum.product] at hp
        · rw [hr] at hp; simp [Ieee.Datum.product] at hp
      · apply Classical.byContradiction; intro hx
        rcases not_fin hx with ⟨s', hr⟩ | ⟨s', t', hr⟩
        · rw [hr] at hp
          cases hy : Ieee.double.read x <;> rw [hy] at hp <;> simp [Ieee.Datum.product] at hp
        · rw [hr] at hp
          cases hy : Ieee.double.read x <;> rw [hy] at hp <;> simp [Ieee.Datum.product] at hp
    obtain ⟨kx, ky⟩ := key
    have v : fv x * fv y = sgn s ((m : Rat) * p2 p) := by
      rw [fv_read kx, fv_read ky]
      rw [read_fin kx, read_fin ky] at hp ⊢
      simp only [Ieee.Datum.product, Option.some.injEq, Ieee.Datum.number.injEq] at hp
      obtain ⟨rfl, rfl, rfl⟩ := hp
      simp only [dv]
      rw [p2_add, Rat.natCast_mul]
      cases sNeg x <;> cases sNeg y <;> simp only [sgn, Bool.xor_self, Bool.true_xor, Bool.false_xor, Bool.not_true, Bool.not_false, if_true, Bool.false_eq_true, if_false] <;> grind
    obtain ⟨t, t0, t1, t2, _⟩ := write_near h3
    exact ⟨kx, ky, t, t0, by rw [v]; exact t1, by rw [v]; exact t2⟩
theorem signed_v {s : Bool} {m : Nat} {i b : Int} (h : b ≤ i) : ((Ieee.signed s m (i - b).toNat : Int) : Rat) * p2 b = sgn s ((m : Rat) * p2 i) := by
  have e1 : p2 i = p2 b * (((2 ^ (i - b).toNat : Nat) : Int) : Rat) := by
    conv => lhs; rw [show i = b + ((i - b).toNat : Int) by omega]
    rw [p2_add, p2_natC]; rfl
  rw [e1]
  unfold Ieee.signed
  rw [Nat.shiftLeft_eq]
  cases s
  · simp only [Bool.false_eq_true, if_false, sgn]
    rw [Int.natCast_mul, Rat.intCast_mul]
    have : (((m : Nat) : Int) : Rat) = (m : Rat) := rfl
    rw [this]
    grind
  · simp only [if_true, sgn]
    rw [Rat.intCast_neg, Int.natCast_mul, Rat.intCast_mul]
    have : (((m : Nat) : Int) : Rat) = (m : Rat) := rfl
    rw [this]
    grind
theorem sum_v {a b : Bool} {m n : Nat} {i j : Int} {s : Bool} {k : Nat} {p : Int} (h : Ieee.Datum.sum (.number a m i) (.number b n j) = some (.number s k p)) : sgn a ((m : Rat) * p2 i) + sgn b ((n : Rat) * p2 j) = sgn s ((k : Rat) * p2 p) := by
  simp only [Ieee.Datum.sum, Option.some.injEq, Ieee.Datum.number.injEq] at h
  obtain ⟨h1, h2, h3⟩ := h
  rw [← signed_v (s := a) (m := m) (i := i) (b := min i j) (by omega), ← signed_v (s := b) (m := n) (i := j) (b := min i j) (by omega), ← Rat.add_mul, ← Rat.intCast_add]
  generalize Ieee.signed a m (i - min i j).toNat + Ieee.signed b n (j - min i j).toNat = T at *
  rw [← h3]
  by_cases hT : T = 0
  · subst hT
    have : k = 0 := by rw [← h2]; rfl
    rw [this]
    have : ((0 : Nat) : Rat) * p2 (min i j) = 0 := by simp
    rw [this]
    cases s <;> simp [sgn]
  · rw [if_neg hT] at h1
    have e : ((T : Int) : Rat) = sgn s (k : Rat) := by
      rw [← h1, ← h2]
      by_cases hneg : T < 0
      · rw [decide_eq_true hneg]
        simp only [sgn, if_true]
        have : T = -(T.natAbs : Int) := by omega
        conv => lhs; rw [this, Rat.intCast_neg]
        rfl
      · rw [decide_eq_false hneg]
        simp only [sgn, Bool.false_eq_true, if_false]
        have : T = (T.natAbs : Int) := by omega
        conv => lhs; rw [this]
        rfl
    rw [e]
    cases s <;> simp only [sgn, if_true, Bool.false_eq_true, if_false] <;> grind
theorem sum_fin {x y s m p} (h : Ieee.Datum.sum x y = some (.number s m p)) : (∃ a k i, x = .number a k i) ∧ ∃ a k i, y = .number a k i := by
  cases x <;> cases y <;> simp [Ieee.Datum.sum] at h <;> exact ⟨⟨_, _, _, rfl⟩, ⟨_, _, _, rfl⟩⟩
/-- the difference -/
theorem fsub_near {x y : Nat} (h : pK (fsub x y) = 0) : pK x = 0 ∧ pK y = 0 ∧ ∃ t, 0 ≤ t ∧ Near (fv (fsub x y)) (fv x - fv y) t ∧ t ≤ absR (fv x - fv y) * uR + tR ∧ t ≤ absR (fv (fsub x y)) * uR + tR := by
  obtain ⟨r, h1, h2, h3⟩ := fop_fin (f := Ieee.double.sub) h
  have e : fsub x y = r := h2
  rw [e]
  have hm : Ieee.double.sub x y = ((Ieee.double.read x).sum (Ieee.double.read y).opposite).map Ieee.double.write := rfl
  rw [hm] at h1
  cases hp : (Ieee.double.read x).sum (Ieee.double.read y).opposite with
  | none => rw [hp] at h1; cases h1
  | some d =>
    rw [hp] at h1
    simp only [Option.map_some, Option.some.injEq] at h1
    rw [← h1] at h3 ⊢
    obtain ⟨s, m, p, rfl⟩ := write_num h3
    obtain ⟨⟨a, k, i, hx⟩, ⟨b, n, j, hy⟩⟩ := sum_fin hp
    have hy' : Ieee.double.read y = .number (!b) n j := by
      have := congrArg Ieee.Datum.opposite hy
      rw [opp_opp] at this
      exact this
    have kx := fin_of hx
    have ky := fin_of hy'
    have v : fv x - fv y = sgn s ((m : Rat) * p2 p) := by
      rw [fv_read kx, fv_read ky, hx, hy']
      rw [hx, hy] at hp
      rw [← sum_v hp]
      simp only [dv]
      cases b <;> simp only [sgn, Bool.not_true, Bool.not_false, if_true, Bool.false_eq_true, if_false] <;> grind
    obtain ⟨t, t0, t1, t2, t3⟩ := write_near h3
    exact ⟨kx, ky, t, t0, by rw [v]; exact t1, by rw [v]; exact t2, t3⟩
theorem le_of_mul_p {a b c : Rat} (h : a * c ≤ b * c) (hc : 0 < c) : a ≤ b := by
  rcases Rat.le_total (a := a) (b := b) with h1 | h1
  · exact h1
  · have h2 := Rat.mul_le_mul_of_nonneg_right h1 (Rat.le_of_lt hc)
    have h3 : (a - b) * c = 0 := by grind
    have h4 : a - b = 0 := by
      rcases Rat.mul_eq_zero.1 h3 with h | h
      · exact h
      · grind
    grind
theorem quot_big {m n : Nat} : m = 0 ∨ n * 9007199254740992 ≤ m * 2 ^ (54 + n.log2 - m.log2) := by
  generalize hmore : 54 + n.log2 - m.log2 = more
  by_cases hm : m = 0
  · exact .inl hm
  · right
    have h1 := Nat.log2_self_le hm
    have h2 : n < 2 ^ (n.log2 + 1) := Nat.lt_log2_self
    have h3 := Nat.mul_le_mul_right (2 ^ more) h1
    rw [← Nat.pow_add] at h3
    have h4 : 2 ^ (n.log2 + 1 + 53) ≤ 2 ^ (m.log2 + more) := Nat.pow_le_pow_right (by omega) (by omega)
    rw [Nat.pow_add 2 (n.log2 + 1) 53] at h4
    have : (2 : Nat) ^ 53 = 9007199254740992 := by decide
    rw [this] at h4
    have := Nat.mul_le_mul_right 9007199254740992 (Nat.le_of_lt h2)
    have := Nat.mul_le_mul_right 9007199254740992 (Nat.le_of_lt h2)
    generalize 2 ^ (m.log2 + more) = A at *
    generalize 2 ^ (n.log2 + 1) = B at *
    exact Nat.le_trans this (Nat.le_trans h4 h3)
theorem quot_near {m n : Nat} {i j : Int} (hn : n ≠ 0) :
    Near (((2 * ((m <<< (54 + n.log2 - m.log2)) / n) + ((m <<< (54 + n.log2 - m.log2)) % n != 0).toNat : Nat) : Rat) * p2 (i - j - ((54 + n.log2 - m.log2 : Nat) : Int) - 1) * ((n : Rat) * p2 j)) ((m : Rat) * p2 i) ((m : Rat) * p2 i * (uR / 2)) := by
  generalize hmore : 54 + n.log2 - m.log2 = more
  rw [Nat.shiftLeft_eq]
  have hd := Nat.div_add_mod (m * 2 ^ more) n
  have hlt := Nat.mod_lt (m * 2 ^ more) (Nat.pos_of_ne_zero hn)
  have hD : m = 0 ∨ n * 9007199254740992 ≤ m * 2 ^ more := by rw [← hmore]; exact quot_big
  have key : ∃ M, M = 2 * ((m * 2 ^ more) / n) + ((m * 2 ^ more) % n != 0).toNat ∧ M * n ≤ 2 * (m * 2 ^ more) + n ∧ 2 * (m * 2 ^ more) ≤ M * n + n ∧ (m = 0 → M = 0) := by
    refine ⟨_, rfl, ?_, ?_, ?_⟩
    · by_cases hz : (m * 2 ^ more) % n = 0
      · rw [hz] at hd ⊢
        simp only [bne_self_eq_false, Bool.toNat_false, Nat.add_zero] at hd ⊢
        have : 2 * (m * 2 ^ more / n) * n = 2 * (n * (m * 2 ^ more / n)) := by rw [Nat.mul_assoc, Nat.mul_comm _ n]
        omega
      · have : ((m * 2 ^ more) % n != 0) = true := by simpa using hz
        rw [this, Bool.toNat_true, Nat.add_mul]
        have : 2 * (m * 2 ^ more / n) * n = 2 * (n * (m * 2 ^ more / n)) := by rw [Nat.mul_assoc, Nat.mul_comm _ n]
        omega
    · by_cases hz : (m * 2 ^ more) % n = 0
      · rw [hz] at hd ⊢
        simp only [bne_self_eq_false, Bool.toNat_false, Nat.add_zero] at hd ⊢
        have : 2 * (m * 2 ^ more / n) * n = 2 * (n * (m * 2 ^ more / n)) := by rw [Nat.mul_assoc, Nat.mul_comm _ n]
        omega
      · have : ((m * 2 ^ more) % n != 0) = true := by simpa using hz
        rw [this, Bool.toNat_true, Nat.add_mul]
        have : 2 * (m * 2 ^ more / n) * n = 2 * (n * (m * 2 ^ more / n)) := by rw [Nat.mul_assoc, Nat.mul_comm _ n]
        omega
    · intro hm; subst hm; simp
  obtain ⟨M, hM, k1, k2, k3⟩ := key
  rw [← hM]
  have e1 : p2 (i - j - (more : Int) - 1) * p2 j = p2 (i - more - 1) := by rw [← p2_add]; congr 1; omega
  have e2 : p2 i = 2 * ((2 ^ more : Nat) : Rat) * p2 (i - more - 1) := by
    have : p2 1 = 2 := by decide +kernel
    rw [← this, ← p2_natC, ← p2_add, ← p2_add]; congr 1; omega
  have e3 : (M : Rat) * p2 (i - j - (more : Int) - 1) * ((n : Rat) * p2 j) = ((M * n : Nat) : Rat) * p2 (i - more - 1) := by rw [← e1, Rat.natCast_mul]; grind
  have e4 : (m : Rat) * p2 i = ((2 * (m * 2 ^ more) : Nat) : Rat) * p2 (i - more - 1) := by rw [e2, Rat.natCast_mul, Rat.natCast_mul]; have : ((2 : Nat) : Rat) = 2 := rfl; rw [this]; grind
  rw [e3, e4]
  have hp := Rat.le_of_lt (p2_pos (i - more - 1))
  generalize p2 (i - more - 1) = L at *
  by_cases hm : m = 0
  · have := k3 hm
    subst this; subst hm
    simp only [Nat.zero_mul, Nat.mul_zero]
    unfold Near
    have : ((0 : Nat) : Rat) = 0 := rfl
    rw [this]
    constructor <;> grind
  · have hD' : n * 9007199254740992 ≤ m * 2 ^ more := by rcases hD with h | h; exact absurd h hm; exact h
    have c1 := natCast_le k1
    have c2 := natCast_le k2
    have c3 := natCast_le hD'
    generalize m * 2 ^ more = D at *
    rw [Rat.natCast_add] at c1 c2
    rw [Rat.natCast_mul n] at c3
    have : ((9007199254740992 : Nat) : Rat) = 9007199254740992 := rfl
    rw [this] at c3
    generalize ((M * n : Nat) : Rat) = A at *
    rw [Rat.natCast_mul] at c1 c2 ⊢
    have : ((2 : Nat) : Rat) = 2 := rfl
    rw [this] at c1 c2 ⊢
    generalize (D : Rat) = B at *
    generalize (n : Rat) = C at *
    have d1 := Rat.mul_le_mul_of_nonneg_right c1 hp
    have d2 := Rat.mul_le_mul_of_nonneg_right c2 hp
    have d3 := Rat.mul_le_mul_of_nonneg_right c3 hp
    rw [uR_val]
    unfold Near
    have z1 : C * 9007199254740992 * L = 9007199254740992 * (C * L) := by grind
    have z2 : (2 * B + C) * L = 2 * (B * L) + C * L := by grind
    have z3 : (A + C) * L = A * L + C * L := by grind
    have z4 : 2 * B * L = 2 * (B * L) := by grind
    rw [z1] at d3; rw [z2] at d1; rw [z3, z4] at d2
    rw [z4]
    generalize B * L = BL at *
    generalize C * L = CL at *
    generalize A * L = AL at *
    constructor <;> grind
theorem near_abs {x y t : Rat} (h : Near x y t) : absR x ≤ absR y + t := by
  obtain ⟨h1, h2⟩ := h
  have := absR_ge y
  exact absR_le (by grind) (by grind)
theorem near_trans {x y z t s : Rat} (h1 : Near x y t) (h2 : Near y z s) : Near x z (t + s) := by
  obtain ⟨a, b⟩ := h1; obtain ⟨c, d⟩ := h2
  constructor <;> grind
theorem near_mono {x y t s : Rat} (h : Near x y t) (hs : t ≤ s) : Near x y s := ⟨Rat.le_trans h.1 hs, Rat.le_trans h.2 hs⟩
theorem near_abs' {x y t : Rat} : Near x y t ↔ absR (x - y) ≤ t := by
  have := absR_ge (x - y)
  constructor
  · rintro ⟨h1, h2⟩; exact absR_le h1 (by grind)
  · intro h; constructor <;> grind
theorem near_mul {x y t z : Rat} (h : Near x y t) : Near (x * z) (y * z) (t * absR z) := by
  rw [near_abs'] at h ⊢
  rw [show x * z - y * z = (x - y) * z by grind, absR_mul]
  exact Rat.mul_le_mul_of_nonneg_right h (absR_nn z)
theorem fv_abs {x : Nat} (h : pK x = 0) : absR (fv x) = (((pM x).toNat : Nat) : Rat) * p2 (pE x) := by
  rw [fv_read h, read_fin h]
  exact absR_sgn (Rat.mul_nonneg (by exact_mod_cast Nat.zero_le _) (Rat.le_of_lt (p2_pos _)))
/-- the quotient -/
theorem fdiv_write {x y : Nat} (h : pK (fdiv x y) = 0) (hy : pK y = 0) : pK x = 0 ∧ fv y ≠ 0 ∧ ∃ s M p, fdiv x y = Ieee.double.write (.number s M p) ∧ Near (sgn s ((M : Rat) * p2 p) * fv y) (fv x) (absR (fv x) * (uR / 2)) ∧ (absR (fv x) ≤ absR (fv y) → (M : Rat) * p2 p ≤ 1) := by
  obtain ⟨r, h1, h2, h3⟩ := fop_fin (f := Ieee.double.div) h
  have e : fdiv x y = r := h2
  rw [e]
  have hm : Ieee.double.div x y = ((Ieee.double.read x).quotient 54 (Ieee.double.read y)).map Ieee.double.write := rfl
  rw [hm] at h1
  cases hp : (Ieee.double.read x).quotient 54 (Ieee.double.read y) with
  | none => rw [hp] at h1; cases h1
  | some d =>
    rw [hp] at h1
    simp only [Option.map_some, Option.some.injEq] at h1
    rw [← h1] at h3 ⊢
    obtain ⟨s, M, p, rfl⟩ := write_num h3
    have hry := read_fin hy
    have kx : pK x = 0 := by
      apply Classical.byContradiction; intro hx
      rcases not_fin hx with ⟨s', hr⟩ | ⟨s', t', hr⟩
      · rw [hr, hry] at hp; simp [Ieee.Datum.quotient] at hp
      · rw [hr, hry] at hp; simp [Ieee.Datum.quotient] at hp
    have hrx := read_fin kx
    have ax := fv_abs kx
    have ay := fv_abs hy
    rw [fv_read kx, fv_read hy] at *
    rw [hrx, hry] at hp
    rw [hrx] at ax ⊢
    rw [hry] at ay ⊢
    generalize (pM x).toNat = m at *
    generalize (pM y).toNat = n at *
    generalize pE x = i at *
    generalize pE y = j at *
    by_cases hn : n = 0
    · rw [hn] at hp
      simp only [Ieee.Datum.quotient, if_true] at hp
      split at hp <;> simp at hp
    · have hn0 : (0 : Rat) < (n : Rat) := by exact_mod_cast Nat.pos_of_ne_zero hn
      have hnp := Rat.mul_pos hn0 (p2_pos j)
      simp only [Ieee.Datum.quotient, if_neg hn, Option.some.injEq, Ieee.Datum.number.injEq] at hp
      obtain ⟨p1, p2', p3⟩ := hp
      have hq := quot_near (m := m) (n := n) (i := i) (j := j) hn
      rw [ax, ay]
      refine ⟨kx, ?_, s, M, p, rfl, ?_, ?_⟩
      · simp only [dv]
        cases sNeg y <;> simp only [sgn, if_true, Bool.false_eq_true, if_false] <;> grind
      · rw [p2', p3] at hq
        simp only [dv]
        rw [← p1]
        have := sgn_near (s := sNeg x) hq
        have e2 : sgn (sNeg x ^^ sNeg y) ((M : Rat) * p2 p) * sgn (sNeg y) ((n : Rat) * p2 j) = sgn (sNeg x) ((M : Rat) * p2 p * ((n : Rat) * p2 j)) := by
          generalize (M : Rat) * p2 p = a
          generalize (n : Rat) * p2 j = b
          cases sNeg x <;> cases sNeg y <;> simp only [sgn, Bool.xor_self, Bool.true_xor, Bool.false_xor, Bool.not_true, Bool.not_false, if_true, Bool.false_eq_true, if_false] <;> grind
        rw [e2]
        exact this
      · intro hle
        -- M n ≤ 2 D when D/n is whole, and M/2 < ceil
        rw [← p2', ← p3]
        generalize hmore : 54 + n.log2 - m.log2 = more at *
        rw [Nat.shiftLeft_eq] at *
        -- m 2^i ≤ n 2^j
        have hP : ∃ P : Int, i - j - (more : Int) = P := ⟨_, rfl⟩
        obtain ⟨P, hP⟩ := hP
        rw [hP]
        have h5 : ((m * 2 ^ more : Nat) : Rat) * p2 P ≤ (n : Rat) := by
          have : p2 i = ((2 ^ more : Nat) : Rat) * p2 P * p2 j := by rw [← p2_natC, ← p2_add, ← p2_add]; congr 1; omega
          rw [this] at hle
          have e : ((m * 2 ^ more : Nat) : Rat) * p2 P * p2 j = (m : Rat) * (((2 ^ more : Nat) : Rat) * p2 P * p2 j) := by rw [Rat.natCast_mul]; grind
          have h6 : ((m * 2 ^ more : Nat) : Rat) * p2 P * p2 j ≤ (n : Rat) * p2 j := by rw [e]; exact hle
          exact le_of_mul_p h6 (p2_pos j)
        have hd := Nat.div_add_mod (m * 2 ^ more) n
        have hlt := Nat.mod_lt (m * 2 ^ more) (Nat.pos_of_ne_zero hn)
        have hbig : m * 2 ^ more = 0 ∨ n * 9007199254740992 ≤ m * 2 ^ more := by
          rcases quot_big (m := m) (n := n) with h | h
          · left; rw [h]; simp
          · right; rw [← hmore]; exact h
        generalize m * 2 ^ more = D at *
        -- with P ≥ 0 whole
        rcases Int.lt_or_le P 1 with hP0 | hP0
        · -- p2 P = 1 / 2^k
          obtain ⟨k, hk⟩ : ∃ k : Nat, P = -(k : Int) := ⟨(-P).toNat, by omega⟩
          have hk2 : p2 P * ((2 ^ k : Nat) : Rat) = 1 := by rw [← p2_natC, ← p2_add, hk, show -(k : Int) + k = 0 by omega, p2_zero]
          have h7 : D ≤ n * 2 ^ k := by
            have h8 := Rat.mul_le_mul_of_nonneg_right h5 (show (0 : Rat) ≤ ((2 ^ k : Nat) : Rat) by exact_mod_cast Nat.zero_le _)
            rw [Rat.mul_assoc, hk2, Rat.mul_one, ← Rat.natCast_mul] at h8
            exact_mod_cast h8
          have h9 : 2 * (D / n) + (D % n != 0).toNat ≤ 2 * 2 ^ k := by
            by_cases hz : D % n = 0
            · have : (D % n != 0) = false := by simp [hz]
              rw [this, Bool.toNat_false]
              have : D / n ≤ 2 ^ k := by
                rw [Nat.div_le_iff_le_mul_add_pred (Nat.pos_of_ne_zero hn)]; omega
              omega
            · have : (D % n != 0) = true := by simpa using hz
              rw [this, Bool.toNat_true]
              have : D / n < 2 ^ k := by
                rw [Nat.div_lt_iff_lt_mul (Nat.pos_of_ne_zero hn)]
                rcases Nat.lt_or_ge D (2 ^ k * n) with h | h
                · exact h
                · exfalso
                  have : D = n * 2 ^ k := by rw [Nat.mul_comm n] at h7 ⊢; omega
                  rw [this] at hz
                  exact hz (Nat.mul_mod_right _ _)
              omega
          have h10 := natCast_le h9
          have h11 : p2 (P - 1) * (((2 * 2 ^ k : Nat)) : Rat) = 1 := by
            have : (2 * 2 ^ k : Nat) = 2 ^ (k + 1) := by rw [Nat.pow_succ']
            rw [this, ← p2_natC, ← p2_add, hk, show -(k : Int) - 1 + ((k + 1 : Nat) : Int) = 0 by omega, p2_zero]
          have h12 := Rat.mul_le_mul_of_nonneg_right h10 (Rat.le_of_lt (p2_pos (P - 1)))
          rw [Rat.mul_comm ((2 * 2 ^ k : Nat) : Rat), h11] at h12
          exact h12
        · -- D < n
          obtain ⟨k, hk⟩ : ∃ k : Nat, P = (k : Int) + 1 := ⟨(P - 1).toNat, by omega⟩
          have h7 : D * 2 ^ (k + 1) ≤ n := by
            have : p2 P = ((2 ^ (k + 1) : Nat) : Rat) := by rw [hk, show (k : Int) + 1 = ((k + 1 : Nat) : Int) by omega, p2_natC]
            rw [this, ← Rat.natCast_mul] at h5
            exact_mod_cast h5
          rw [Nat.pow_succ] at h7
          have hk1 := Nat.two_pow_pos k
          have h8 := Nat.mul_le_mul_left D hk1
          rw [← Nat.mul_assoc] at h7
          have hDn : D < n := by omega
          rw [Nat.div_eq_of_lt hDn, Nat.mod_eq_of_lt hDn]
          have e5 : P - 1 = (k : Int) := by omega
          rw [e5, p2_natC]
          by_cases hz : D = 0
          · subst hz; simp; decide
          · exfalso; omega
theorem p2_lt_one {e : Int} (h : e ≤ -53) : (9007199254740992 : Rat) * p2 e ≤ 1 := by
  have h1 := Rat.mul_le_mul_of_nonneg_left (p2_le h) (show (0 : Rat) ≤ 9007199254740992 by decide)
  have h2 : (9007199254740992 : Rat) * p2 (-53) = 1 := by decide +kernel
  rw [h2] at h1; exact h1
/-- what is not beyond 1 is written so -/
theorem rung_one {M : Nat} {p : Int} (hf : rungF M p < 9218868437227405312) (h : (M : Rat) * p2 p ≤ 1) : fv (rungF M p) ≤ 1 := by
  by_cases hm : M = 0
  · subst hm
    have e2 : rungF 0 p = 0 := by unfold rungF; rw [if_pos rfl]
    rw [e2]
    have e3 : fv 0 = 0 := by decide +kernel
    rw [e3]; decide
  · obtain ⟨r1, r2, r3, t, t0, t1, t2, t3⟩ := rung_err hm hf
    obtain ⟨q, c, hr, hc, hq, hl, hcut⟩ := rung_kept hm hf
    have hv : fv (rungF M p) ≤ 1 + 1 * p2 (-53) + p2 (-1075) := by
      have := Rat.mul_le_mul_of_nonneg_right h (Rat.le_of_lt (p2_pos (-53)))
      have := t1.1
      grind
    rw [hr] at hf hv ⊢
    obtain ⟨s1, s2, s3⟩ := fv_rung hc hq hf
    rw [s3] at hv ⊢
    rcases Int.lt_or_le (-53) ((q : Int) - 1074) with h1 | h1
    · obtain ⟨k, hk⟩ : ∃ k : Nat, (q : Int) - 1074 = -52 + k := ⟨((q : Int) - 1074 + 52).toNat, by omega⟩
      rw [hk, p2_add, p2_natC] at hv ⊢
      have e : (c : Rat) * (p2 (-52) * ((2 ^ k : Nat) : Rat)) = ((c * 2 ^ k : Nat) : Rat) * p2 (-52) := by rw [Rat.natCast_mul]; grind
      rw [e] at hv ⊢
      have e52 : p2 (-52) = 1 / 4503599627370496 := by decide +kernel
      have e53 : p2 (-53) = 1 / 9007199254740992 := by decide +kernel
      have e75 : p2 (-1075) < 1 / 9007199254740992 := by decide +kernel
      rcases Nat.lt_or_ge 4503599627370496 (c * 2 ^ k) with h2 | h2
      · exfalso
        have h3 := natCast_le (show 4503599627370497 ≤ c * 2 ^ k from h2)
        have : ((4503599627370497 : Nat) : Rat) = 4503599627370497 := rfl
        rw [this] at h3
        rw [e52, e53] at hv
        generalize ((c * 2 ^ k : Nat) : Rat) = C at *
        generalize p2 (-1075) = z at *
        grind
      · have h3 := natCast_le h2
        have : ((4503599627370496 : Nat) : Rat) = 4503599627370496 := rfl
        rw [this] at h3
        rw [e52]
        generalize ((c * 2 ^ k : Nat) : Rat) = C at *
        grind
    · have h2 := p2_lt_one (e := (q : Int) - 1074) (by omega)
      have h3 := natCast_le hc
      have : ((9007199254740992 : Nat) : Rat) = 9007199254740992 := rfl
      rw [this] at h3
      have := Rat.mul_le_mul_of_nonneg_right h3 (Rat.le_of_lt (p2_pos ((q : Int) - 1074)))
      grind
/-- a quotient of what isn't greater is at most 1 -/
theorem fdiv_one {x y : Nat} (h : pK (fdiv x y) = 0) (hy : pK y = 0) (hle : absR (fv x) ≤ absR (fv y)) : absR (fv (fdiv x y)) ≤ 1 := by
  obtain ⟨kx, hy0, s, M, p, h1, _, h3⟩ := fdiv_write h hy
  rw [h1] at h ⊢
  have e1 : Ieee.double.write (.number s M p) = Ieee.double.word s (rungF M p) := nearest_eq s M p
  rw [e1] at h ⊢
  have hk := fin_word (rungF_le M p) h
  rw [(fv_word (s := s) hk).2]
  have h4 := rung_one hk (h3 hle)
  by_cases hm : M = 0
  · subst hm
    have e2 : rungF 0 p = 0 := by unfold rungF; rw [if_pos rfl]
    rw [e2]
    have e3 : fv 0 = 0 := by decide +kernel
    rw [e3]
    cases s <;> simp only [sgn, if_true, Bool.false_eq_true, if_false] <;> decide
  · rw [absR_sgn (rung_err hm hk).2.2.1]; exact h4
theorem fdiv_near {x y : Nat} (h : pK (fdiv x y) = 0) (hy : pK y = 0) : pK x = 0 ∧ fv y ≠ 0 ∧ ∃ t, 0 ≤ t ∧ Near (fv (fdiv x y) * fv y) (fv x) t ∧ t ≤ absR (fv x) * (2 * uR) + absR (fv y) * tR := by
  obtain ⟨kx, hy0, s, M, p, h1, h2, _⟩ := fdiv_write h hy
  refine ⟨kx, hy0, ?_⟩
  rw [h1] at h ⊢
  obtain ⟨t, t0, t1, t2, _⟩ := write_near h
  have n1 := near_trans (near_mul (z := fv y) t1) h2
  have a2 := near_abs h2
  rw [absR_mul] at a2
  have hu := uR_val
  have x0 := absR_nn (fv x)
  have y0 := absR_nn (fv y)
  refine ⟨_, ?_, n1, ?_⟩
  · have := Rat.mul_nonneg t0 y0
    have := Rat.mul_nonneg x0 (Rat.le_of_lt uR_pos)
    grind
  · have := Rat.mul_le_mul_of_nonneg_right t2 y0
    generalize absR (sgn s ((M : Rat) * p2 p)) = W at *
    generalize absR (fv x) = X at *
    generalize absR (fv y) = Y at *
    have z1 : (W * uR + tR) * Y = (W * Y) * uR + Y * tR := by grind
    rw [z1] at this
    generalize W * Y = WY at *
    generalize t * Y = TY at *
    generalize Y * tR = YT at *
    rw [hu] at *
    grind
end Go.Sx

set_option linter.unusedVariables false
set_option linter.unusedSimpArgs false
/-! ### the growth is as near as one rounding -/
namespace Go.Sx
theorem fin_lt {y : Nat} (h : y < 9218868437227405312) : pK y = 0 ∧ 0 ≤ fv y := by
  obtain ⟨m, p, hr, _⟩ := rungF_read h
  have hf := fin_of hr
  refine ⟨hf, ?_⟩
  have hs : sNeg y = false := by unfold sNeg; rw [Nat.div_eq_of_lt (by omega)]; rfl
  unfold fv
  rw [hs]
  have h0 := (pM_rng (x := y)).1
  exact Rat.mul_nonneg (by exact_mod_cast h0) (Rat.le_of_lt (p2_pos _))
theorem abs_fin {x : Nat} (h : pK x = 0) : absF x = x % 9223372036854775808 ∧ absF x < 9218868437227405312 := by
  have hlt : x % 9223372036854775808 < 9218868437227405312 := by
    unfold pK at h
    split at h
    · cases h
    · split at h
      · cases h
      · rename_i h2
        unfold pE₀ at h2
        omega
  have e : absF x = x % 9223372036854775808 := by
    unfold absF
    rcases cn_cases (x % 9223372036854775808) with ⟨h1, h2⟩ | ⟨h1, h2⟩
    · exfalso
      obtain ⟨m, p, hr, _⟩ := rungF_read hlt
      unfold isNaN at h1
      rw [hr] at h1; cases h1
    · exact h2
  exact ⟨e, by rw [e]; exact hlt⟩
theorem mxN_mem : ∀ (l : List Nat) (m : Nat), l.foldl max m = m ∨ l.foldl max m ∈ l
  | [], m => .inl rfl
  | a :: l, m => by
    simp only [List.foldl_cons, List.mem_cons]
    rcases mxN_mem l (max m a) with h | h
    · rw [h]
      by_cases hh : m ≤ a
      · right; left; omega
      · left; omega
    · exact .inr (.inr h)
theorem great_fin {l : List Nat} (h : ∀ x ∈ l, x < 9218868437227405312) : greatF l = mxN l ∧ greatF l < 9218868437227405312 := by
  have hq : ¬ qn ∈ l := fun hm => absurd (h _ hm) (by decide)
  have h1 := great_abs l (fun x hx => .inr (by have := h x hx; unfold fInf; omega))
  rw [if_neg hq] at h1
  refine ⟨h1, ?_⟩
  rw [h1]
  rcases mxN_mem l 0 with h2 | h2
  · unfold mxN; rw [h2]; decide
  · exact h _ h2
end Go.Sx

set_option linter.unusedVariables false
set_option linter.unusedSimpArgs false
set_option maxRecDepth 20000
/-! ### the factors are those of a matrix nearby -/
namespace Go.Sx
def sR (f : Nat → Rat) : Nat → Rat
  | 0 => 0
  | k + 1 => sR f k + f k
theorem sR_congr {f g : Nat → Rat} : ∀ {n : Nat}, (∀ k, k < n → f k = g k) → sR f n = sR g n
  | 0, _ => rfl
  | n + 1, h => by simp only [sR]; rw [sR_congr fun k hk => h k (by omega), h n (by omega)]
theorem sR_nn {f : Nat → Rat} : ∀ {n : Nat}, (∀ k, k < n → 0 ≤ f k) → 0 ≤ sR f n
  | 0, _ => Rat.le_refl
  | n + 1, h => by
    have h1 := sR_nn (f := f) (n := n) fun k hk => h k (by omega)
    have h2 := h n (by omega)
    simp only [sR]; grind
/-! finite at the end, finite before -/
theorem el_fin {h : Nat → Nat → Nat} {n t : Nat} (ht : t < n) (hf : ∀ i j, i < n → j < n → pK (elG h t i j) = 0) : ∀ i j, i < n → j < n → pK (h i j) = 0 := by
  intro i j hi hj
  have hq := hf i j hi hj
  by_cases h1 : i ≤ t
  · rwa [elG_row h1] at hq
  · by_cases h2 : j < t
    · rwa [elG_col h2] at hq
    · by_cases h3 : j = t
      · subst h3
        have hp := hf j j ht ht
        rw [elG_row (Nat.le_refl _)] at hp
        rw [elG_k (by omega)] at hq
        exact (fdiv_near hq hp).1
      · rw [elG_in (by omega) (by omega)] at hq
        exact (fsub_near hq).1
def sgT (t p i : Nat) : Nat := if i = t then p else if i = p then t else i
theorem sgT_lt {t p i n : Nat} (ht : t < n) (hp : p < n) (hi : i < n) : sgT t p i < n := by unfold sgT; split <;> (try split) <;> omega
theorem sgT_sgT (t p i : Nat) : sgT t p (sgT t p i) = i := by unfold sgT; grind
theorem swpG_sg (A : Nat → Nat → Nat) (t p i j : Nat) : swpG A t p i j = A (sgT t p i) j := by unfold swpG sgT; split <;> (try split) <;> rfl
theorem sw_fin {h : Nat → Nat → Nat} {n t p : Nat} (ht : t < n) (hp : p < n) (hf : ∀ i j, i < n → j < n → pK (swpG h t p i j) = 0) : ∀ i j, i < n → j < n → pK (h i j) = 0 := by
  intro i j hi hj
  have := hf (sgT t p i) j (sgT_lt ht hp hi) hj
  rwa [swpG_sg, sgT_sgT] at this
theorem st_fin {g : Nat → Nat → Nat} {n : Nat} (hf : ∀ i j, i < n → j < n → pK (stG g n n i j) = 0) : ∀ d t, t + d = n → ∀ i j, i < n → j < n → pK (stG g n t i j) = 0
  | 0, t, h => by have : t = n := by omega
                  subst this; exact hf
  | d + 1, t, h => sw_fin (t := t) (p := pvK (stG g n t) t n) (by omega) (pvK_lt (by omega)) (el_fin (by omega) (st_fin hf d (t + 1) (by omega)))
theorem sw_fin' {g : Nat → Nat → Nat} {n t : Nat} (ht : t < n) (hf : ∀ i j, i < n → j < n → pK (stG g n n i j) = 0) : ∀ i j, i < n → j < n → pK (swK (stG g n t) t n i j) = 0 :=
  el_fin ht (st_fin hf (n - (t + 1)) (t + 1) (by omega))
/-! what each number of L times U misses -/
def dG (A : Nat → Nat → Nat) (t i j : Nat) : Rat := if j < t ∧ j < i then fv (A i j) * fv (A j j) else fv (A i j)
def wG (A : Nat → Nat → Nat) (t i j : Nat) : Rat := if j < t ∧ j < i then absR (fv (A j j)) else 0
def pG (A : Nat → Nat → Nat) (t i j : Nat) : Rat := sR (fun k => fv (A i k) * fv (A k j)) (min (min i j) t)
def qG (A : Nat → Nat → Nat) (t i j : Nat) : Rat := sR (fun k => absR (fv (A i k) * fv (A k j))) (min (min i j) t)
def bG (A : Nat → Nat → Nat) (t i j : Nat) : Rat := 3 * (t : Rat) * uR * (qG A t i j + absR (dG A t i j)) + (t : Rat) * (4 * tR) * (1 + wG A t i j)
def InvE (g A : Nat → Nat → Nat) (o : Nat → Nat) (n t : Nat) : Prop := ∀ i j, i < n → j < n → Near (pG A t i j + dG A t i j) (fv (g (o i) j)) (bG A t i j)
theorem qG_nn (A : Nat → Nat → Nat) (t i j : Nat) : 0 ≤ qG A t i j := sR_nn fun k _ => absR_nn _
theorem wG_nn (A : Nat → Nat → Nat) (t i j : Nat) : 0 ≤ wG A t i j := by unfold wG; split; exact absR_nn _; exact Rat.le_refl
theorem inv_zero (g : Nat → Nat → Nat) (n : Nat) : InvE g g id n 0 := by
  intro i j hi hj
  have e1 : pG g 0 i j = 0 := by unfold pG; rw [Nat.min_zero]; rfl
  have e2 : dG g 0 i j = fv (g i j) := by unfold dG; rw [if_neg (by omega)]
  have e3 : bG g 0 i j = 0 := by
    unfold bG
    have : ((0 : Nat) : Rat) = 0 := rfl
    rw [this]
    grind
  rw [e1, e2, e3]
  show Near (0 + fv (g i j)) (fv (g i j)) 0
  constructor <;> grind
theorem inv_swap {g A : Nat → Nat → Nat} {o : Nat → Nat} {n t p : Nat} (ht : t < n) (hp : t ≤ p) (hpn : p < n) (h : InvE g A o n t) : InvE g (swpG A t p) (fun i => o (sgT t p i)) n t := by
  intro i j hi hj
  have key := h (sgT t p i) j (sgT_lt ht hpn hi) hj
  have lo : ∀ k, k < t → sgT t p k = k := fun k hk => by unfold sgT; rw [if_neg (by omega), if_neg (by omega)]
  have hi' : ¬ i < t → t ≤ sgT t p i := fun h => by unfold sgT; split <;> (try split) <;> omega
  have hm : min (min i j) t = min (min (sgT t p i) j) t := by
    by_cases h1 : i < t
    · rw [lo i h1]
    · have := hi' h1; omega
  have hj' : (j < t ∧ j < i) ↔ (j < t ∧ j < sgT t p i) := by
    by_cases h1 : i < t
    · rw [lo i h1]
    · have := hi' h1; omega
  have eA : ∀ i j, swpG A t p i j = A (sgT t p i) j := swpG_sg A t p
  have e1 : pG (swpG A t p) t i j = pG A t (sgT t p i) j := by
    unfold pG; rw [← hm]
    exact sR_congr fun k hk => by rw [eA, eA, lo k (by omega)]
  have e2 : qG (swpG A t p) t i j = qG A t (sgT t p i) j := by
    unfold qG; rw [← hm]
    exact sR_congr fun k hk => by rw [eA, eA, lo k (by omega)]
  have e3 : dG (swpG A t p) t i j = dG A t (sgT t p i) j := by
    unfold dG
    by_cases hc : j < t ∧ j < i
    · rw [if_pos hc, if_pos (hj'.1 hc), eA, eA, lo j hc.1]
    · rw [if_neg hc, if_neg (fun hh => hc (hj'.2 hh)), eA]
  have e4 : wG (swpG A t p) t i j = wG A t (sgT t p i) j := by
    unfold wG
    by_cases hc : j < t ∧ j < i
    · rw [if_pos hc, if_pos (hj'.1 hc), eA, lo j hc.1]
    · rw [if_neg hc, if_neg (fun hh => hc (hj'.2 hh))]
  unfold bG at key ⊢
  rw [e1, e2, e3, e4]
  exact key
theorem bG_mono {A : Nat → Nat → Nat} {t i j : Nat} {q d w : Rat} (hq : 0 ≤ q) (hw : 0 ≤ w) : 3 * (t : Rat) * uR * (q + absR d) + (t : Rat) * (4 * tR) * (1 + w) ≤ 3 * ((t + 1 : Nat) : Rat) * uR * (q + absR d) + ((t + 1 : Nat) : Rat) * (4 * tR) * (1 + w) := by
  have h1 : ((t + 1 : Nat) : Rat) = (t : Rat) + 1 := by rw [Rat.natCast_add]; rfl
  rw [h1]
  have d0 := absR_nn d
  have a1 : 0 ≤ uR * (q + absR d) := Rat.mul_nonneg (Rat.le_of_lt uR_pos) (by grind)
  have a2 : 0 ≤ tR * (1 + w) := Rat.mul_nonneg (Rat.le_of_lt tR_pos) (by grind)
  have e1 : 3 * ((t : Rat) + 1) * uR * (q + absR d) = 3 * (t : Rat) * uR * (q + absR d) + 3 * (uR * (q + absR d)) := by grind
  have e2 : ((t : Rat) + 1) * (4 * tR) * (1 + w) = (t : Rat) * (4 * tR) * (1 + w) + 4 * (tR * (1 + w)) := by grind
  rw [e1, e2]
  generalize 3 * (t : Rat) * uR * (q + absR d) = X
  generalize (t : Rat) * (4 * tR) * (1 + w) = Y
  generalize uR * (q + absR d) = Z at *
  generalize tR * (1 + w) = W at *
  grind
/-- the arithmetic of a step within -/
theorem step_in {t : Nat} (ht : t ≤ 64) {P Q a p l a' G d1 d2 : Rat} (hQ : 0 ≤ Q) (h : Near (P + a) G (3 * (t : Rat) * uR * (Q + absR a) + (t : Rat) * (4 * tR) * (1 + 0)))
    (h1 : Near p l d1) (b1 : d1 ≤ absR l * uR + tR) (h2 : Near a' (a - p) d2) (b2 : d2 ≤ absR a' * uR + tR) :
    Near (P + l + a') G (3 * ((t + 1 : Nat) : Rat) * uR * (Q + absR l + absR a') + ((t + 1 : Nat) : Rat) * (4 * tR) * (1 + 0)) := by
  have e1 : ((t + 1 : Nat) : Rat) = (t : Rat) + 1 := by rw [Rat.natCast_add]; rfl
  rw [e1]
  have t0 : (0 : Rat) ≤ t := by exact_mod_cast Nat.zero_le t
  have t64 : (t : Rat) ≤ 64 := by exact_mod_cast ht
  obtain ⟨ε, hε⟩ : ∃ ε, ε = 3 * (t : Rat) * uR := ⟨_, rfl⟩
  have ε0 : 0 ≤ ε := by rw [hε]; exact Rat.mul_nonneg (by grind) (Rat.le_of_lt uR_pos)
  have ε1 : ε ≤ 1 / 1000 := by rw [hε, uR_val]; grind
  have a0 := absR_ge a
  have l0 := absR_nn l
  have l1 := absR_ge l
  have c0 := absR_nn a'
  have c1 := absR_ge a'
  have τ := tR_pos
  obtain ⟨h3, h4⟩ := h; obtain ⟨h5, h6⟩ := h1; obtain ⟨h7, h8⟩ := h2
  have ha : absR a ≤ absR l + absR a' + (d1 + d2) := absR_le (by grind) (by grind)
  have m1 := Rat.mul_le_mul_of_nonneg_left ha ε0
  have dd : 0 ≤ d1 + d2 := by grind
  have m2 := Rat.mul_le_mul_of_nonneg_right ε1 dd
  have g1 : 3 * (t : Rat) * uR * (Q + absR a) = ε * Q + ε * absR a := by rw [hε]; grind
  have g2 : 3 * ((t : Rat) + 1) * uR * (Q + absR l + absR a') = ε * Q + ε * absR l + ε * absR a' + 3 * uR * (Q + absR l + absR a') := by rw [hε]; grind
  have g3 : ((t : Rat) + 1) * (4 * tR) * (1 + 0) = (t : Rat) * (4 * tR) * (1 + 0) + 4 * tR := by grind
  rw [g1] at h3 h4
  have m3 : ε * (absR l + absR a' + (d1 + d2)) = ε * absR l + ε * absR a' + ε * (d1 + d2) := by grind
  rw [m3] at m1
  unfold Near
  rw [g2, g3]
  generalize (t : Rat) * (4 * tR) * (1 + 0) = Y at *
  generalize ε * Q = εQ at *
  generalize ε * absR a = εa at *
  generalize ε * absR l = εl at *
  generalize ε * absR a' = εa' at *
  generalize ε * (d1 + d2) = εd at *
  rw [uR_val] at *
  generalize absR l = L at *
  generalize absR a' = A' at *
  generalize absR a = A at *
  clear hε g1 g2 g3 m3 e1
  constructor <;> grind
/-- .. of a step's column -/
theorem step_k {t : Nat} (ht : t ≤ 64) {P Q x z y G d : Rat} (hQ : 0 ≤ Q) (h : Near (P + x) G (3 * (t : Rat) * uR * (Q + absR x) + (t : Rat) * (4 * tR) * (1 + 0)))
    (h1 : Near z x d) (b1 : d ≤ absR x * (2 * uR) + absR y * tR) :
    Near (P + z) G (3 * ((t + 1 : Nat) : Rat) * uR * (Q + absR z) + ((t + 1 : Nat) : Rat) * (4 * tR) * (1 + absR y)) := by
  have e1 : ((t + 1 : Nat) : Rat) = (t : Rat) + 1 := by rw [Rat.natCast_add]; rfl
  rw [e1]
  have t0 : (0 : Rat) ≤ t := by exact_mod_cast Nat.zero_le t
  have t64 : (t : Rat) ≤ 64 := by exact_mod_cast ht
  obtain ⟨ε, hε⟩ : ∃ ε, ε = 3 * (t : Rat) * uR := ⟨_, rfl⟩
  have ε0 : 0 ≤ ε := by rw [hε]; exact Rat.mul_nonneg (by grind) (Rat.le_of_lt uR_pos)
  have ε1 : ε ≤ 1 / 1000 := by rw [hε, uR_val]; grind
  have z0 := absR_nn z
  have z1 := absR_ge z
  have y0 := absR_nn y
  have τ := tR_pos
  obtain ⟨h3, h4⟩ := h; obtain ⟨h5, h6⟩ := h1
  have hx : absR x ≤ absR z + d := absR_le (by grind) (by grind)
  have dd : 0 ≤ d := by grind
  have m1 := Rat.mul_le_mul_of_nonneg_left hx ε0
  have m2 := Rat.mul_le_mul_of_nonneg_right ε1 dd
  have yt : 0 ≤ absR y * tR := Rat.mul_nonneg y0 (Rat.le_of_lt τ)
  have tyt : 0 ≤ (t : Rat) * (absR y * tR) := Rat.mul_nonneg t0 yt
  have g1 : 3 * (t : Rat) * uR * (Q + absR x) = ε * Q + ε * absR x := by rw [hε]; grind
  have g2 : 3 * ((t : Rat) + 1) * uR * (Q + absR z) = ε * Q + ε * absR z + 3 * uR * (Q + absR z) := by rw [hε]; grind
  have g3 : ((t : Rat) + 1) * (4 * tR) * (1 + absR y) = (t : Rat) * (4 * tR) * (1 + 0) + 4 * tR + 4 * (absR y * tR) + 4 * ((t : Rat) * (absR y * tR)) := by grind
  rw [g1] at h3 h4
  have m3 : ε * (absR z + d) = ε * absR z + ε * d := by grind
  rw [m3] at m1
  unfold Near
  rw [g2, g3]
  generalize (t : Rat) * (4 * tR) * (1 + 0) = Y at *
  generalize ε * Q = εQ at *
  generalize ε * absR x = εx at *
  generalize ε * absR z = εz at *
  generalize ε * d = εd at *
  rw [uR_val] at *
  generalize (t : Rat) * (absR y * tR) = TYT at *
  generalize absR y * tR = YT at *
  generalize absR z = Z at *
  generalize absR x = X at *
  clear hε g1 g2 g3 m3 e1
  constructor <;> grind
theorem inv_el {g A : Nat → Nat → Nat} {o : Nat → Nat} {n t : Nat} (ht : t < n) (hn : n ≤ 64) (h : InvE g A o n t) (hf : ∀ i j, i < n → j < n → pK (elG A t i j) = 0) : InvE g (elG A t) o n (t + 1) := by
  intro i j hi hj
  have key := h i j hi hj
  have q0 := qG_nn A t i j
  by_cases hc : i ≤ t ∨ j < t
  · have hm : min (min i j) (t + 1) = min (min i j) t := by omega
    have e0 : ∀ k, elG A t i k = A i k ∨ ¬ k < min (min i j) t := fun k => by
      rcases hc with hc | hc
      · exact .inl (elG_row hc)
      · by_cases hk : k < min (min i j) t
        · exact .inl (elG_col (by omega))
        · exact .inr hk
    have e0' : ∀ k, k < min (min i j) t → elG A t k j = A k j := fun k hk => elG_row (by omega)
    have eij : elG A t i j = A i j := by rcases hc with hc | hc; exact elG_row hc; exact elG_col hc
    have hcj : (j < t + 1 ∧ j < i) ↔ (j < t ∧ j < i) := by omega
    have ejj : j < i → elG A t j j = A j j := fun hji => by
      rcases hc with hc | hc
      · exact elG_row (by omega)
      · exact elG_col hc
    have e1 : pG (elG A t) (t + 1) i j = pG A t i j := by
      unfold pG; rw [hm]
      exact sR_congr fun k hk => by rcases e0 k with h | h; rw [h, e0' k hk]; exact absurd hk h
    have e2 : qG (elG A t) (t + 1) i j = qG A t i j := by
      unfold qG; rw [hm]
      exact sR_congr fun k hk => by rcases e0 k with h | h; rw [h, e0' k hk]; exact absurd hk h
    have e3 : dG (elG A t) (t + 1) i j = dG A t i j := by
      unfold dG
      by_cases hh : j < t ∧ j < i
      · rw [if_pos hh, if_pos (hcj.2 hh), eij, ejj hh.2]
      · rw [if_neg hh, if_neg (fun x => hh (hcj.1 x)), eij]
    have e4 : wG (elG A t) (t + 1) i j = wG A t i j := by
      unfold wG
      by_cases hh : j < t ∧ j < i
      · rw [if_pos hh, if_pos (hcj.2 hh), ejj hh.2]
      · rw [if_neg hh, if_neg (fun x => hh (hcj.1 x))]
    unfold bG at key ⊢
    rw [e1, e2, e3, e4]
    exact near_mono key (bG_mono (A := A) (i := i) (j := j) q0 (wG_nn A t i j))
  · have hti : t < i := by omega
    by_cases hjt : j = t
    · subst hjt
      have e1 : pG (elG A j) (j + 1) i j = pG A j i j := by
        unfold pG; rw [show min (min i j) (j + 1) = min (min i j) j by omega]
        exact sR_congr fun k hk => by rw [elG_col (by omega), elG_row (by omega)]
      have e2 : qG (elG A j) (j + 1) i j = qG A j i j := by
        unfold qG; rw [show min (min i j) (j + 1) = min (min i j) j by omega]
        exact sR_congr fun k hk => by rw [elG_col (by omega), elG_row (by omega)]
      have e3 : dG (elG A j) (j + 1) i j = fv (fdiv (A i j) (A j j)) * fv (A j j) := by
        unfold dG; rw [if_pos (by omega), elG_k hti, elG_row (Nat.le_refl _)]
      have e3' : dG A j i j = fv (A i j) := by unfold dG; rw [if_neg (by omega)]
      have e4 : wG (elG A j) (j + 1) i j = absR (fv (A j j)) := by unfold wG; rw [if_pos (by omega), elG_row (Nat.le_refl _)]
      have e4' : wG A j i j = 0 := by unfold wG; rw [if_neg (by omega)]
      unfold bG at key ⊢
      rw [e1, e2, e3, e4]
      rw [e3', e4'] at key
      have f1 := hf i j hi hj
      rw [elG_k hti] at f1
      have f2 := hf j j hj hj
      rw [elG_row (Nat.le_refl _)] at f2
      obtain ⟨_, _, d, d0, d1, d2⟩ := fdiv_near f1 f2
      exact step_k (by omega) q0 key d1 d2
    · have htj : t < j := by omega
      have f1 := hf i j hi hj
      rw [elG_in hti htj] at f1
      obtain ⟨k1, k2, d2, _, n2, _, b2⟩ := fsub_near f1
      obtain ⟨k3, k4, d1, _, n1, b1⟩ := fmul_near k2
      have hmt : min (min i j) t = t := by omega
      have hmt1 : min (min i j) (t + 1) = t + 1 := by omega
      have e1 : pG (elG A t) (t + 1) i j = pG A t i j + fv (fdiv (A i t) (A t t)) * fv (A t j) := by
        unfold pG; rw [hmt, hmt1]
        simp only [sR]
        rw [elG_k hti, elG_row (Nat.le_refl t)]
        congr 1
        exact sR_congr fun k hk => by rw [elG_col hk, elG_row (by omega)]
      have e2 : qG (elG A t) (t + 1) i j = qG A t i j + absR (fv (fdiv (A i t) (A t t)) * fv (A t j)) := by
        unfold qG; rw [hmt, hmt1]
        simp only [sR]
        rw [elG_k hti, elG_row (Nat.le_refl t)]
        congr 1
        exact sR_congr fun k hk => by rw [elG_col hk, elG_row (by omega)]
      have e3 : dG (elG A t) (t + 1) i j = fv (fsub (A i j) (fmul (fdiv (A i t) (A t t)) (A t j))) := by unfold dG; rw [if_neg (by omega), elG_in hti htj]
      have e3' : dG A t i j = fv (A i j) := by unfold dG; rw [if_neg (by omega)]
      have e4 : wG (elG A t) (t + 1) i j = 0 := by unfold wG; rw [if_neg (by omega)]
      have e4' : wG A t i j = 0 := by unfold wG; rw [if_neg (by omega)]
      unfold bG at key ⊢
      rw [e1, e2, e3, e4]
      rw [e3', e4'] at key
      exact step_in (by omega) q0 key n1 b1 n2 b2
/-- the rows' order -/
def oN (g : Nat → Nat → Nat) (n : Nat) : Nat → Nat → Nat
  | 0 => id
  | t + 1 => fun i => oN g n t (sgT t (pvK (stG g n t) t n) i)
theorem inv_st {g : Nat → Nat → Nat} {n : Nat} (hn : n ≤ 64) (hf : ∀ i j, i < n → j < n → pK (stG g n n i j) = 0) : ∀ t, t ≤ n → InvE g (stG g n t) (oN g n t) n t
  | 0, _ => inv_zero g n
  | t + 1, h => inv_el (by omega) hn (inv_swap (by omega) pvK_ge (pvK_lt (by omega)) (inv_st hn hf t (by omega))) (st_fin hf (n - (t + 1)) (t + 1) (by omega))
theorem oN_lt {g : Nat → Nat → Nat} {n : Nat} : ∀ t, t ≤ n → ∀ i, i < n → oN g n t i < n
  | 0, _, i, hi => hi
  | t + 1, h, i, hi => oN_lt t (by omega) _ (sgT_lt (by omega) (pvK_lt (by omega)) hi)
theorem ordS_oN {g : Nat → Nat → Nat} {n : Nat} : ∀ t, t ≤ n → ∀ i, i < n → (ordS (pvL g n n) t).getD i 0 = (oN g n t i : Int)
  | 0, _, i, hi => by simp [ordS, List.getD, hi, oN]
  | t + 1, h, i, hi => by
    have hp := pvK_lt (g := stG g n t) (k := t) (n := n) (by omega)
    have ih := ordS_oN (g := g) (n := n) t (by omega)
    have e : ((pvL g n n).getD t 0).toNat = pvK (stG g n t) t n := by rw [pvL_get (by omega)]; rfl
    simp only [ordS, oN]
    rw [e]
    generalize pvK (stG g n t) t n = p at *
    have hl : (ordS (pvL g n n) t).length = n := by simp
    have gs : ∀ (L : List Int) (a : Nat) (v : Int) (b : Nat), b < L.length → (L.set a v).getD b 0 = if a = b then v else L.getD b 0 := fun L a v b hb => by
      simp only [List.getD, List.getElem?_set]
      by_cases hab : a = b
      · subst hab; simp [hb]
      · simp [hab]
    rw [gs _ _ _ _ (by simp; omega), gs _ _ _ _ (by simp; omega)]
    unfold sgT
    by_cases h1 : i = p
    · subst h1
      rw [if_pos rfl, ih t (by omega)]
      by_cases h2 : i = t
      · rw [if_pos h2, h2]
      · rw [if_neg h2, if_pos rfl]
    · rw [if_neg (fun x => h1 x.symm)]
      by_cases h2 : i = t
      · subst h2
        rw [if_pos rfl, if_pos rfl, ih p hp]
      · rw [if_neg (fun x => h2 x.symm), if_neg h2, if_neg h1, ih i hi]
/-! L's numbers are at most 1 -/
theorem fv_val {y : Nat} (h : y < 9218868437227405312) : fv y = ((fVal y : Nat) : Rat) * p2 (-1074) := by
  obtain ⟨m, e, h1, h2⟩ := read_pos (x := y) h
  rw [fv_read (fin_of h1), h1, h2, e_lp]
  simp only [dv, sgn, Bool.false_eq_true, if_false]
  rw [p2_add, p2_natC, Rat.natCast_mul]
  grind
theorem fv_absF {x : Nat} (h : pK x = 0) : absR (fv x) = fv (absF x) := by
  obtain ⟨e1, e2⟩ := abs_fin h
  obtain ⟨f1, f2⟩ := fin_lt e2
  obtain ⟨s, hs⟩ := read_split x
  rw [← e1] at hs
  rw [fv_read h, hs]
  obtain ⟨m, p, r1, _⟩ := rungF_read e2
  rw [fv_read f1] at f2 ⊢
  rw [r1] at f2 ⊢
  have : dv (if s = true then (Ieee.Datum.number false m p).opposite else Ieee.Datum.number false m p) = sgn s (dv (Ieee.Datum.number false m p)) := by
    cases s <;> simp [Ieee.Datum.opposite, dv, sgn]
  rw [this, absR_sgn f2]
theorem fv_le {x y : Nat} (hx : x < 9218868437227405312) (hy : y < 9218868437227405312) : fv x ≤ fv y ↔ x ≤ y := by
  rw [fv_val hx, fv_val hy]
  have hp := p2_pos (-1074)
  constructor
  · intro h
    have h1 := le_of_mul_p h hp
    have h2 : fVal x ≤ fVal y := by exact_mod_cast h1
    rcases Nat.lt_or_ge y x with h3 | h3
    · have := fVal_mono h3; omega
    · exact h3
  · intro h
    have h2 : fVal x ≤ fVal y := by
      rcases Nat.lt_or_ge x y with h3 | h3
      · exact Nat.le_of_lt (fVal_mono h3)
      · have : x = y := by omega
        subst this; exact Nat.le_refl _
    exact Rat.mul_le_mul_of_nonneg_right (natCast_le h2) (Rat.le_of_lt hp)
theorem moN_top {x : List Nat} : ∀ m, m ≤ x.length → (∀ k, k < m → absF (x.getD k 0) < 9218868437227405312) → ∀ k, k < m → absF (x.getD k 0) ≤ absF (x.getD (moN x m) 0)
  | 0, _, _, k, hk => by omega
  | 1, _, _, k, hk => by
    have : k = 0 := by omega
    subst this; rw [moN_one]; exact Nat.le_refl _
  | m + 2, hm, hf, k, hk => by
    have ih := moN_top (x := x) (m + 1) (by omega) (fun k hk => hf k (by omega))
    have hlt := moN_lt x (m + 1) (by omega)
    have a1 := hf (moN x (m + 1)) (by omega)
    have a2 := hf (m + 1) (by omega)
    have hfl := flt_pos (x := absF (x.getD (moN x (m + 1)) 0)) (y := absF (x.getD (m + 1) 0)) (by unfold fInf; omega) (by unfold fInf; omega)
    by_cases hc : absF (x.getD (moN x (m + 1)) 0) < absF (x.getD (m + 1) 0)
    · rw [decide_eq_true hc] at hfl
      rw [moN_T (by omega) hfl]
      rcases Nat.lt_or_ge k (m + 1) with h1 | h1
      · have := ih k h1; omega
      · have : k = m + 1 := by omega
        subst this; exact Nat.le_refl _
    · rw [decide_eq_false hc] at hfl
      rw [moN_F (by omega) hfl]
      rcases Nat.lt_or_ge k (m + 1) with h1 | h1
      · exact ih k h1
      · have : k = m + 1 := by omega
        subst this; omega
/-- the pivot is the greatest of its column -/
theorem piv_top {h : Nat → Nat → Nat} {n t : Nat} (ht : t < n) (hf : ∀ i j, i < n → j < n → pK (h i j) = 0) : ∀ i, t ≤ i → i < n → absR (fv (swK h t n i t)) ≤ absR (fv (swK h t n t t)) := by
  have hp := pvK_lt (g := h) ht
  have col : ∀ k, k < n - t → (colK h t n).getD k 0 = h (t + k) t := fun k hk => by unfold colK; rw [rml_get hk]
  have key : ∀ i, t ≤ i → i < n → absF (h i t) ≤ absF (h (pvK h t n) t) := fun i h1 h2 => by
    have hm := moN_top (x := colK h t n) (n - t) (by simp) (fun k hk => by rw [col k hk]; exact (abs_fin (hf _ _ (by omega) ht)).2) (i - t) (by omega)
    have hmo := moN_lt (colK h t n) (n - t) (by omega)
    rw [col _ (by omega), col _ hmo, show t + (i - t) = i by omega] at hm
    exact hm
  intro i h1 h2
  have e1 : ∀ i, swK h t n i t = h (sgT t (pvK h t n) i) t := fun i => swpG_sg h t (pvK h t n) i t
  have e2 : sgT t (pvK h t n) t = pvK h t n := by unfold sgT; rw [if_pos rfl]
  rw [e1, e1, e2]
  have hge := pvK_ge (g := h) (k := t) (n := n)
  have hi : t ≤ sgT t (pvK h t n) i := by unfold sgT; split <;> (try split) <;> omega
  have hi2 := sgT_lt ht hp h2
  have k := key _ hi hi2
  have f1 := hf _ t hi2 ht
  have f2 := hf _ t hp ht
  rw [fv_absF f1, fv_absF f2]
  exact (fv_le (abs_fin f1).2 (abs_fin f2).2).2 k
def InvL (A : Nat → Nat → Nat) (n t : Nat) : Prop := ∀ i j, i < n → j < t → j < i → absR (fv (A i j)) ≤ 1
theorem invL_st {g : Nat → Nat → Nat} {n : Nat} (hf : ∀ i j, i < n → j < n → pK (stG g n n i j) = 0) : ∀ t, t ≤ n → InvL (stG g n t) n t
  | 0, _ => fun i j _ hj _ => by omega
  | t + 1, h => by
    have ih := invL_st hf t (by omega)
    have f0 := st_fin hf (n - t) t (by omega)
    have f1 := st_fin hf (n - (t + 1)) (t + 1) (by omega)
    have fs := sw_fin' (t := t) (by omega) hf
    have hp := pvK_lt (g := stG g n t) (k := t) (n := n) (by omega)
    have hge := pvK_ge (g := stG g n t) (k := t) (n := n)
    intro i j hi hj hji
    show absR (fv (elG (swK (stG g n t) t n) t i j)) ≤ 1
    have hsw : ∀ i j, i < n → j < t → j < i → absR (fv (swK (stG g n t) t n i j)) ≤ 1 := fun i j hi hj hji => by
      have : swK (stG g n t) t n i j = stG g n t (sgT t (pvK (stG g n t) t n) i) j := swpG_sg _ _ _ _ _
      rw [this]
      refine ih _ j (sgT_lt (by omega) hp hi) hj ?_
      unfold sgT; split <;> (try split) <;> omega
    by_cases hjt : j < t
    · rw [elG_col hjt]; exact hsw i j hi hjt hji
    · have : j = t := by omega
      subst this
      have q1 := f1 i j hi (by omega)
      have q1' : pK (elG (swK (stG g n j) j n) j i j) = 0 := q1
      rw [elG_k hji] at q1' ⊢
      exact fdiv_one q1' (fs j j (by omega) (by omega)) (piv_top (by omega) f0 i (by omega) hi)
theorem low_one {g : Nat → Nat → Nat} {n : Nat} (hf : ∀ i j, i < n → j < n → pK (stG g n n i j) = 0) {i j : Nat} (hi : i < n) (hj : j < i) : flt fltOne (absF (stG g n n i j)) = false := by
  have h1 := invL_st hf n (Nat.le_refl _) i j hi (by omega) hj
  have f := hf i j hi (by omega)
  have a := (abs_fin f).2
  rw [fv_absF f] at h1
  have e1 : fv fltOne = 1 := by decide +kernel
  rw [← e1] at h1
  have h2 := (fv_le a (by decide)).1 h1
  rw [flt_pos (by decide) (by unfold fInf; omega)]
  exact decide_eq_false (by omega)
/-- L times U is as near as may be -/
theorem lu_close {g : Nat → Nat → Nat} {n : Nat} (hn : n ≤ 64) (hf : ∀ i j, i < n → j < n → pK (stG g n n i j) = 0) {i j : Nat} (hi : i < n) (hj : j < n) :
    (sR (fun k => fv (loG (stG g n n) i k) * fv (upG (stG g n n) k j)) (min i j + 1) - fv (g (oN g n n i) j)).abs ≤
      sR (fun k => (fv (loG (stG g n n) i k) * fv (upG (stG g n n) k j)).abs) (min i j + 1) * p2 (-51) * n + (fv (greatF ((rmA (upG (stG g n n)) n n).map absF)) + 1) * p2 (-1060) * n := by
  have hab : ∀ x : Rat, x.abs = absR x := fun x => by
    unfold absR
    split
    · rw [← Rat.abs_neg, Rat.abs_of_nonneg (by grind)]
    · rw [Rat.abs_of_nonneg (by grind)]
  simp only [hab]
  have key := inv_st hn hf n (Nat.le_refl _) i j hi hj
  generalize hA : stG g n n = A at *
  have hm : min (min i j) n = min i j := by omega
  have e1 : fv fltOne = 1 := by decide +kernel
  have main : ∀ F : Rat → Rat, sR (fun k => F (fv (loG A i k) * fv (upG A k j))) (min i j + 1) = sR (fun k => F (fv (A i k) * fv (A k j))) (min (min i j) n) + F (dG A n i j) := fun F => by
    rw [hm]
    simp only [sR]
    congr 1
    · exact sR_congr fun k hk => by
        unfold loG upG; rw [if_pos (by omega), if_neg (by omega)]
    · unfold dG
      by_cases hji : j < i
      · rw [if_pos (by omega), show min i j = j by omega]
        unfold loG upG; rw [if_pos hji, if_neg (by omega)]
      · rw [if_neg (by omega), show min i j = i by omega]
        unfold loG upG eyeG; rw [if_neg (by omega), if_pos rfl, if_neg (by omega), e1, Rat.one_mul]
  have m1 : sR (fun k => fv (loG A i k) * fv (upG A k j)) (min i j + 1) = sR (fun k => fv (A i k) * fv (A k j)) (min (min i j) n) + dG A n i j := main id
  rw [m1, main absR]
  have hk : Near (sR (fun k => fv (A i k) * fv (A k j)) (min (min i j) n) + dG A n i j) (fv (g (oN g n n i) j)) (3 * (n : Rat) * uR * (sR (fun k => absR (fv (A i k) * fv (A k j))) (min (min i j) n) + absR (dG A n i j)) + (n : Rat) * (4 * tR) * (1 + wG A n i j)) := key
  rw [near_abs'] at hk
  have s0 := sR_nn (f := fun k => absR (fv (A i k) * fv (A k j))) (n := min (min i j) n) fun k _ => absR_nn _
  have d0 := absR_nn (dG A n i j)
  -- the greatest of U
  have ul : ∀ x ∈ (rmA (upG A) n n).map absF, x < 9218868437227405312 := fun x hx => by
    obtain ⟨y, hy, rfl⟩ := List.mem_map.1 hx
    simp only [rmA, rml, List.mem_map, List.mem_range] at hy
    obtain ⟨k, hk, rfl⟩ := hy
    have hn0 : 0 < n := by omega
    have k1 := Nat.mod_lt k hn0
    have k2 := Nat.div_lt_of_lt_mul hk
    refine (abs_fin ?_).2
    unfold upG; split
    · decide
    · exact hf _ _ k2 k1
  obtain ⟨g1, g2⟩ := great_fin ul
  have gm : ∀ y ∈ (rmA (upG A) n n).map absF, y ≤ greatF ((rmA (upG A) n n).map absF) := by
    rw [g1]; exact ((mxN_le _ 0 _).1 (Nat.le_refl _)).2
  have g0 := (fin_lt g2).2
  have hw : wG A n i j ≤ fv (greatF ((rmA (upG A) n n).map absF)) := by
    unfold wG
    split
    · have f := hf j j hj hj
      rw [fv_absF f]
      refine (fv_le (abs_fin f).2 g2).2 (gm _ (List.mem_map.2 ⟨A j j, ?_, rfl⟩))
      have e : (rmA (upG A) n n).getD (j * n + j) 0 = A j j := by rw [rmA_get hj hj]; unfold upG; rw [if_neg (by omega)]
      have hl : j * n + j < (rmA (upG A) n n).length := by have := ix_lt hj hj; simp; omega
      rw [List.getD_eq_getElem?_getD, List.getElem?_eq_getElem hl] at e
      simp only [Option.getD_some] at e
      rw [← e]; exact List.getElem_mem _
    · exact g0
  have n0 : (0 : Rat) ≤ n := by exact_mod_cast Nat.zero_le n
  have e51 : p2 (-51) = 4 * uR := by rw [uR_val]; decide +kernel
  have e60 : 4 * tR ≤ p2 (-1060) := by
    have : (4 : Rat) = p2 2 := by decide +kernel
    unfold tR
    rw [this, ← p2_add]; exact p2_le (by decide)
  have w0 := wG_nn A n i j
  refine Rat.le_trans hk ?_
  rw [e51]
  have S0 : (0 : Rat) ≤ sR (fun k => absR (fv (A i k) * fv (A k j))) (min (min i j) n) + absR (dG A n i j) := by grind
  generalize sR (fun k => absR (fv (A i k) * fv (A k j))) (min (min i j) n) + absR (dG A n i j) = S at *
  generalize fv (greatF ((rmA (upG A) n n).map absF)) = T at *
  generalize wG A n i j = w at *
  have x1 := Rat.mul_nonneg n0 (Rat.mul_nonneg (Rat.le_of_lt uR_pos) S0)
  have x2 := Rat.mul_le_mul_of_nonneg_right e60 (show 0 ≤ 1 + w by grind)
  have x3 := Rat.mul_le_mul_of_nonneg_left (show 1 + w ≤ 1 + T by grind) (Rat.le_of_lt (p2_pos (-1060)))
  have x4 := Rat.mul_le_mul_of_nonneg_left (Rat.le_trans x2 x3) n0
  have y1 : 3 * (n : Rat) * uR * S = 3 * ((n : Rat) * (uR * S)) := by grind
  have y2 : S * (4 * uR) * (n : Rat) = 4 * ((n : Rat) * (uR * S)) := by grind
  have y3 : (n : Rat) * (4 * tR) * (1 + w) = (n : Rat) * (4 * tR * (1 + w)) := by grind
  have y4 : (T + 1) * p2 (-1060) * (n : Rat) = (n : Rat) * (p2 (-1060) * (1 + T)) := by grind
  rw [y1, y2, y3, y4]
  generalize (n : Rat) * (uR * S) = X at *
  generalize (n : Rat) * (4 * tR * (1 + w)) = Y at *
  generalize (n : Rat) * (p2 (-1060) * (1 + T)) = Z at *
  grind
end Go.Sx

set_option linter.unusedVariables false
set_option linter.unusedSimpArgs false
set_option maxRecDepth 20000
namespace Go.Sx
open Go.Proofs

def D0 : DV := ⟨false, [], 0⟩
def nb : Nat → DV → AV
  | 0, _ => .bool false
  | _ + 1, d => .bool d.neg
def nz : Nat → DV → AV
  | 0, _ => .slnil
  | _ + 1, d => .sl none d.l.length (il d.l)
def ne : Nat → DV → AV
  | 0, _ => .int .i64 0
  | _ + 1, d => .int .i64 d.e
theorem CSpec.args {P : Program} {f : Nat} {a a' : List AV} {H H' : List (List AV)} {r : AV} (h : CSpec P f a H r H') (ha : ∀ w g vs, LRep w g a' vs → LRep w g a vs) : CSpec P f a' H r H' := by
  rcases h with ⟨he, h⟩ | ⟨he, h⟩
  · exact .inl ⟨he, fun w g c hw hl => h w g c hw (ha _ _ _ hl)⟩
  · exact .inr ⟨he, fun w g c hl => h w g c (ha _ _ _ hl)⟩
theorem D0_rep {w : World} {g : Gh} {v : Value} (h : VRep w g (.agg [.bool false, .slnil, .int .i64 0]) v) : VRep w g (dV D0) v := by
  unfold dV D0
  simp only [VRep, LRep] at h ⊢
  obtain ⟨vs, rfl, h1, v1, r1, h2, h3, v2, r2, rfl, h4, h5⟩ := h
  refine ⟨vs, rfl, h1, v1, _, h2, h3, v2, r2, rfl, ⟨0, Nat.le_refl _, .inl ?_⟩, h5⟩
  simp only [h4]
  exact ⟨rfl, by simp, by simp, none, rfl⟩
attribute [local irreducible] Ex exOps exD opX opE thenX blkX RetQ Spec CSpec Fr condK guardK guardD ckK valK pickK loadK faK callK argK gK fK rK RetV lpX prK
set_option maxHeartbeats 4000000 in
theorem dint_w (H : List (List AV)) (m : Nat) (hm : m < 9223372036854775808) (d : DV) (h : ∀ H', CSpec Try.prog 118 [.bool false, .int .u64 (m : Int)] H' (dV d) H') :
    CSpec Try.prog 109 [.int .i64 (m : Int)] H (dV d) H := by
  refine .mk (fun args w => Try.call109 args w) (Spec.intro' (fn := Try.f109) Try.func109 rfl (by kernel_rfl) (by simp) false [] (draw := drawX Try.prog ⟨false, _, []⟩) dOk ?_)
  simp only [argE, Nat.reduceAdd]
  repeat' (first
    | (refine gateE ?_; (first | refine b_c0 ?_ | refine b_nil ?_ | fail))
    | (refine gateO ?_; (first | refine b_move (by (conv => {lhs; whnf}); done) ?_ | (refine b_bin (by (conv => {lhs; whnf}); done) (by (conv => {lhs; whnf}); done) (by (conv => {lhs; whnf}); done) ?_; (first | refine v_wu (by omega) ?_ | refine v_T (by omega) ?_ | refine v_F (by omega) ?_ | refine v_w (by omega) ?_ | refine v_wu (by omega) ?_ | refine v_k ?_ | refine v_c (by omega) ?_ | fail)) | (refine b_un (by (conv => {lhs; whnf}); done) (by (conv => {lhs; whnf}); done) ?_; (first | refine v_wu (by omega) ?_ | refine v_T (by omega) ?_ | refine v_F (by omega) ?_ | refine v_w (by omega) ?_ | refine v_wu (by omega) ?_ | refine v_k ?_ | refine v_c (by omega) ?_ | fail)) | refine b_callB ?_ | refine b_stL (by (conv => {lhs; whnf}); done) (by (conv => {lhs; whnf}); done) (by first | exact (by exact rfl) | exact cells_of_len hF.len | fail) (by exact rfl) (by exact rfl) (by exact Nat.le_of_ble_eq_true rfl) (by (conv => {lhs; simp only [sc, List.set_cons_zero, List.set_cons_succ]}); done) ?_ | refine b_alloc (by exact rfl) (by exact rfl) ?_ | (refine b_cnvI (by first | (conv => {lhs; whnf}; done) | exact (by exact rfl) | fail) ?_; (first | refine v_wu (by omega) ?_ | refine v_T (by omega) ?_ | refine v_F (by omega) ?_ | refine v_w (by omega) ?_ | refine v_wu (by omega) ?_ | refine v_k ?_ | refine v_c (by omega) ?_ | fail)) | refine b_cnvF (by (conv => {lhs; whnf}); done) (by exact rfl) ?_ | refine b_cnvIF (by (conv => {lhs; whnf}); done) ?_ | fail))
    | (refine gateT ?_; (first | refine b_thn ?_ | refine b_thr ?_ | refine b_the ?_ | fail))
    | (refine gateX ?_; (first | refine b_seq ?_ | refine b_region ?_ | (refine b_cond (by (conv => {lhs; whnf}); done) ?_; (first | refine c_T ?_ | refine c_F ?_ | refine c_P ?_ ?_ | refine c_B ?_ ?_ | fail)) | refine b_ret ?_ | refine b_skip ?_ | refine b_block ?_ | refine b_exit ?_ | fail))
    | refine a_consF (by kernel_rfl) ?_
    | refine a_consI ?_
    | refine a_cons (by (conv => {lhs; whnf}); done) ?_
    | refine a_nil ?_
    | (refine gateK ?_; (first | refine c_call (h _) (OldOk.refl _ _) ?_ | fail))
    | (refine gateQ ?_; refine b_retK (by simp) (by (conv => {lhs; whnf}); done) ?_)
    | (refine gateR ?_; (first | refine rk_tmp (by (conv => {lhs; whnf}); done) ?_ | refine rk_cellA (by (conv => {lhs; whnf}); done) (by exact rfl) (by exact rfl) ?_ | refine rk_cell1 (by (conv => {lhs; whnf}); done) (by exact rfl) (by exact rfl) ?_ | refine rk_nil ?_ | fail))
    | intro _)
  all_goals first
    | (exfalso; omega)
    | (refine rv_old rfl (by simp [mx, mxL, resOne, aOf, aOf1, mxL_il]) ?_; exact rfl)
    | (refine rv_old rfl (by simp [mx, mxL, resOne, aOf, aOf1, mxL_il]) ?_; simp only [resOne, List.nil_append, List.cons_append, aOf, aOf1, dNg, dSg, dV]; (repeat' split) <;> (first | rfl | (exfalso; omega) | (simp_all; done)))


theorem dint {m : Nat} (hm : m < 9223372036854775808) : ∃ d, In d 4 ∧ V d = (m : Rat) ∧ ∀ H, CSpec Try.prog 109 [.int .i64 (m : Int)] H (dV d) H := by
  have hm4 : m < 65536 ^ 4 := by omega
  have hw4 := wN_le m
  refine ⟨_, mD_In false (w_digs m (wN m)) (e := 0) (by omega) (by rw [mL_len]; omega), ?_, fun H => dint_w H m hm _ fun H' => whole_c H' false m hm4⟩
  rw [mD_V _ (w_digs _ _), w_val hm4]
  have : pw 0 = 1 := by unfold pw; rw [Int.mul_zero, p2_zero]
  rw [this, Rat.mul_one]
  rfl
theorem D0_In : In D0 0 := ⟨fun d hd => (by cases hd), fun _ => ⟨rfl, rfl⟩, fun h => absurd rfl h, fun h => absurd rfl h, fun h => absurd rfl h⟩
theorem D0_V : V D0 = 0 := by decide +kernel
/-- a sum, one number after the other -/
theorem sums (p : Nat → DV) {B : Int} (h0 : 0 ≤ B) : ∀ n : Nat, B + n ≤ 2 ^ 18 → (∀ k, k < n → In (p k) B) → ∃ E : Nat → DV, E 0 = D0 ∧ (∀ k, k ≤ n → In (E k) (B + k) ∧ V (E k) = sR (fun k => V (p k)) k) ∧
    ∀ k, k < n → ∀ H, CSpec Try.prog 56 [.agg [nb k (E k), nz k (E k), ne k (E k)], dV (p k)] H (dV (E (k + 1))) H
  | 0, _, _ => ⟨fun _ => D0, rfl, fun k hk => by
      have : k = 0 := by omega
      subst this
      exact ⟨D0_In.mono (by omega), D0_V⟩, fun k hk => by omega⟩
  | n + 1, hB, hp => by
    obtain ⟨E, e0, e1, e2⟩ := sums p h0 n (by omega) fun k hk => hp k (by omega)
    obtain ⟨h1, h2⟩ := e1 n (Nat.le_refl _)
    obtain ⟨d, d1, d2, d3⟩ := dadd h1 ((hp n (by omega)).mono (by omega)) (by omega) (by omega)
    refine ⟨fun k => if k ≤ n then E k else d, by show (if 0 ≤ n then E 0 else d) = D0; rw [if_pos (Nat.zero_le _)]; exact e0, fun k hk => ?_, fun k hk H => ?_⟩
    · by_cases hkn : k ≤ n
      · simp only [if_pos hkn]; exact e1 k hkn
      · simp only [if_neg hkn]
        have : k = n + 1 := by omega
        subst this
        refine ⟨d1.mono (by omega), ?_⟩
        rw [d2, h2]; rfl
    · by_cases hkn : k < n
      · have := e2 k hkn H
        simp only [if_pos (show k ≤ n by omega), if_pos (show k + 1 ≤ n by omega)]
        exact this
      · have : k = n := by omega
        subst this
        simp only [if_pos (Nat.le_refl k), if_neg (show ¬ k + 1 ≤ k by omega)]
        cases k with
        | zero =>
          refine CSpec.args (d3 H) fun w g vs hl => ?_
          simp only [LRep] at hl ⊢
          obtain ⟨v, r, rfl, h3, h4⟩ := hl
          exact ⟨v, r, rfl, by rw [e0]; exact D0_rep h3, h4⟩
        | succ k => exact d3 H
instance : Inhabited DV := ⟨D0⟩
theorem ch2 {α : Type} [Inhabited α] {p : Nat → Nat → α → Prop} {n : Nat} (h : ∀ i j, i < n → j < n → ∃ d, p i j d) : ∃ f : Nat → Nat → α, ∀ i j, i < n → j < n → p i j (f i j) := by
  classical
  refine ⟨fun i j => if h' : i < n ∧ j < n then Classical.choose (h i j h'.1 h'.2) else default, fun i j hi hj => ?_⟩
  show p i j (if h' : i < n ∧ j < n then Classical.choose (h i j h'.1 h'.2) else default)
  rw [dif_pos ⟨hi, hj⟩]
  exact Classical.choose_spec (h i j hi hj)
theorem cmpR_leq {x y : Rat} (h : x ≤ y) : cmpR x y ≤ 0 := by
  unfold cmpR
  split
  · decide
  · split
    · decide
    · rename_i h1 h2
      exact absurd h (by grind)
/-- all the numbers of 'closeTo' -/
theorem close_nums {g a : Nat → Nat → Nat} {o : Nat → Nat} {n T : Nat} (hn : n ≤ 64) (hg : ∀ i j, i < n → j < n → pK (g i j) = 0) (ha : ∀ i j, i < n → j < n → pK (a i j) = 0) (ho : ∀ i, i < n → o i < n) (hT : pK T = 0)
    (hcl : ∀ i j, i < n → j < n → (sR (fun k => fv (loG a i k) * fv (upG a k j)) (min i j + 1) - fv (g (o i) j)).abs ≤ sR (fun k => (fv (loG a i k) * fv (upG a k j)).abs) (min i j + 1) * p2 (-51) * n + (fv T + 1) * p2 (-1060) * n) :
    ∃ (L U G S M Y D : Nat → Nat → DV) (P E Z : Nat → Nat → Nat → DV) (C : Nat → Nat → Int) (t0 one t1 t2 N W : DV),
      (∀ H, CSpec Try.prog 49 [.flt T] H (dV t0) H) ∧ (∀ H, CSpec Try.prog 109 [.int .i64 1] H (dV one) H) ∧ (∀ H, CSpec Try.prog 56 [dV t0, dV one] H (dV t1) H) ∧ (∀ H, CSpec Try.prog 55 [dV t1, .int .i64 (-1060)] H (dV t2) H) ∧
      (∀ H, CSpec Try.prog 109 [.int .i64 (n : Int)] H (dV N) H) ∧ (∀ H, CSpec Try.prog 51 [dV t2, dV N] H (dV W) H) ∧
      (∀ i k, i < n → k < n → ∀ H, CSpec Try.prog 49 [.flt (loG a i k)] H (dV (L i k)) H) ∧ (∀ k j, k < n → j < n → ∀ H, CSpec Try.prog 49 [.flt (upG a k j)] H (dV (U k j)) H) ∧
      (∀ i j k, i < n → j < n → k < n → ∀ H, CSpec Try.prog 51 [dV (L i k), dV (U k j)] H (dV (P i j k)) H) ∧
      (∀ i j k, i < n → j < n → k < n → ∀ H, CSpec Try.prog 56 [.agg [nb k (E i j k), nz k (E i j k), ne k (E i j k)], dV (P i j k)] H (dV (E i j (k + 1))) H) ∧
      (∀ i j k, i < n → j < n → k < n → ∀ H, CSpec Try.prog 56 [.agg [nb k (Z i j k), nz k (Z i j k), ne k (Z i j k)], dV (dAb (P i j k))] H (dV (Z i j (k + 1))) H) ∧
      (∀ i j, i < n → j < n → ∀ H, CSpec Try.prog 55 [dV (Z i j (min i j + 1)), .int .i64 (-51)] H (dV (S i j)) H) ∧ (∀ i j, i < n → j < n → ∀ H, CSpec Try.prog 51 [dV (S i j), dV N] H (dV (M i j)) H) ∧ (∀ i j, i < n → j < n → ∀ H, CSpec Try.prog 56 [dV (M i j), dV W] H (dV (Y i j)) H) ∧
      (∀ i j, i < n → j < n → ∀ H, CSpec Try.prog 49 [.flt (g (o i) j)] H (dV (G i j)) H) ∧ (∀ i j, i < n → j < n → ∀ H, CSpec Try.prog 52 [dV (E i j (min i j + 1)), dV (G i j)] H (dV (D i j)) H) ∧
      (∀ i j, i < n → j < n → C i j ≤ 0) ∧ (∀ i j, i < n → j < n → ∀ H, CSpec Try.prog 54 [dV (dAb (D i j)), dV (Y i j)] H (.int .i64 (C i j)) H) := by
  have fl1 : ∀ i k, i < n → k < n → pK (loG a i k) = 0 := fun i k hi hk => by
    unfold loG eyeG; split
    · exact ha i k hi hk
    · split <;> decide
  have fu1 : ∀ k j, k < n → j < n → pK (upG a k j) = 0 := fun k j hk hj => by
    unfold upG; split
    · decide
    · exact ha k j hk hj
  obtain ⟨t0, i0, v0, c0⟩ := dof hT
  obtain ⟨one, i1, v1, c1⟩ := dint (m := 1) (by decide)
  obtain ⟨t1, i2, v2, c2⟩ := dadd i0 (i1.mono (show (4 : Int) ≤ 80 by decide)) (by decide) (by decide)
  obtain ⟨t2, i3, v3, c3⟩ := dshift i2 (by decide) (by decide) (-1060) (C := 100) (by decide) (by decide)
  obtain ⟨N, i4, v4, c4⟩ := dint (m := n) (by omega)
  obtain ⟨W, i5, v5, c5⟩ := dmul i3 i4 (by decide) (by decide) (by decide) (by decide)
  obtain ⟨L, hL⟩ := ch2 (fun i k hi hk => dof (fl1 i k hi hk))
  obtain ⟨U, hU⟩ := ch2 (fun k j hk hj => dof (fu1 k j hk hj))
  obtain ⟨G, hG⟩ := ch2 (fun i j hi hj => dof (hg (o i) j (ho i hi) hj))
  obtain ⟨P, hP⟩ := ch2 (α := Nat → DV) (p := fun i j f => ∀ k, k < n → In (f k) 161 ∧ V (f k) = fv (loG a i k) * fv (upG a k j) ∧ ∀ H, CSpec Try.prog 51 [dV (L i k), dV (U k j)] H (dV (f k)) H) (n := n) (fun i j hi hj => by
    obtain ⟨f, hf⟩ := ch2 (p := fun k (_ : Nat) d => In d 161 ∧ V d = fv (loG a i k) * fv (upG a k j) ∧ ∀ H, CSpec Try.prog 51 [dV (L i k), dV (U k j)] H (dV d) H) (n := n) (fun k z hk hz => by
      obtain ⟨a1, a2, a3⟩ := hL i k hi hk
      obtain ⟨b1, b2, b3⟩ := hU k j hk hj
      obtain ⟨d, d1, d2, d3⟩ := dmul a1 b1 (by decide) (by decide) (by decide) (by decide)
      exact ⟨d, d1, by rw [d2, a2, b2], d3⟩)
    exact ⟨fun k => f k 0, fun k hk => hf k 0 hk (by omega)⟩)
  obtain ⟨E, hE⟩ := ch2 (α := Nat → DV) (p := fun i j E => (∀ k, k ≤ n → In (E k) (161 + k) ∧ V (E k) = sR (fun k => V (P i j k)) k) ∧ ∀ k, k < n → ∀ H, CSpec Try.prog 56 [.agg [nb k (E k), nz k (E k), ne k (E k)], dV (P i j k)] H (dV (E (k + 1))) H) (n := n) (fun i j hi hj => by
    obtain ⟨E, e0, e1, e2⟩ := sums (P i j) (B := 161) (by decide) n (by omega) (fun k hk => (hP i j hi hj k hk).1)
    exact ⟨E, e1, e2⟩)
  obtain ⟨Z, hZ⟩ := ch2 (α := Nat → DV) (p := fun i j E => (∀ k, k ≤ n → In (E k) (161 + k) ∧ V (E k) = sR (fun k => V (dAb (P i j k))) k) ∧ ∀ k, k < n → ∀ H, CSpec Try.prog 56 [.agg [nb k (E k), nz k (E k), ne k (E k)], dV (dAb (P i j k))] H (dV (E (k + 1))) H) (n := n) (fun i j hi hj => by
    obtain ⟨E, e0, e1, e2⟩ := sums (fun k => dAb (P i j k)) (B := 161) (by decide) n (by omega) (fun k hk => dAb_In (hP i j hi hj k hk).1)
    exact ⟨E, e1, e2⟩)
  obtain ⟨S, hS⟩ := ch2 (fun i j hi hj => dshift (((hZ i j hi hj).1 (min i j + 1) (by omega)).1.mono (show _ ≤ (300 : Int) by omega)) (by decide) (by decide) (-51) (C := 100) (by decide) (by decide))
  obtain ⟨M, hM⟩ := ch2 (fun i j hi hj => dmul (hS i j hi hj).1 i4 (by decide) (by decide) (by decide) (by decide))
  obtain ⟨Y, hY⟩ := ch2 (fun i j hi hj => dadd ((hM i j hi hj).1.mono (show _ ≤ (1000 : Int) by decide)) (i5.mono (show _ ≤ (1000 : Int) by decide)) (by decide) (by decide))
  obtain ⟨D, hD⟩ := ch2 (fun i j hi hj => dsubt (((hE i j hi hj).1 (min i j + 1) (by omega)).1.mono (show _ ≤ (300 : Int) by omega)) ((hG i j hi hj).1.mono (show _ ≤ (300 : Int) by decide)) (by decide) (by decide))
  refine ⟨L, U, G, S, M, Y, D, P, E, Z, fun i j => cmpR (V (dAb (D i j))) (V (Y i j)), t0, one, t1, t2, N, W, c0, c1, c2, c3, c4, c5, fun i k hi hk => (hL i k hi hk).2.2, fun k j hk hj => (hU k j hk hj).2.2, fun i j k hi hj hk => (hP i j hi hj k hk).2.2,
    fun i j k hi hj hk => (hE i j hi hj).2 k hk, fun i j k hi hj hk => (hZ i j hi hj).2 k hk, fun i j hi hj => (hS i j hi hj).2.2, fun i j hi hj => (hM i j hi hj).2.2, fun i j hi hj => (hY i j hi hj).2.2, fun i j hi hj => (hG i j hi hj).2.2, fun i j hi hj => (hD i j hi hj).2.2, fun i j hi hj => ?_, fun i j hi hj H => ?_⟩
  · refine cmpR_leq ?_
    rw [dAb_V (hD i j hi hj).1, (hD i j hi hj).2.1, (hY i j hi hj).2.1, (hM i j hi hj).2.1, (hS i j hi hj).2.1, (hG i j hi hj).2.1, ((hE i j hi hj).1 (min i j + 1) (by omega)).2, ((hZ i j hi hj).1 (min i j + 1) (by omega)).2, v5, v4, v3, v2, v1, v0]
    have e1 : sR (fun k => V (P i j k)) (min i j + 1) = sR (fun k => fv (loG a i k) * fv (upG a k j)) (min i j + 1) := sR_congr fun k hk => (hP i j hi hj k (by omega)).2.1
    have e2 : sR (fun k => V (dAb (P i j k))) (min i j + 1) = sR (fun k => (fv (loG a i k) * fv (upG a k j)).abs) (min i j + 1) := sR_congr fun k hk => by
      obtain ⟨p1, p2, p3⟩ := hP i j hi hj k (by omega)
      rw [dAb_V p1, p2]
    rw [e1, e2]
    have := hcl i j hi hj
    have e3 : ((1 : Nat) : Rat) = 1 := rfl
    rw [e3]
    exact this
  · exact dcmp ((dAb_In (hD i j hi hj).1).mono (show _ ≤ (2000 : Int) by decide)) ((hY i j hi hj).1.mono (show _ ≤ (2000 : Int) by decide)) (by decide) (by decide) H
set_option maxHeartbeats 4000000 in
theorem close_c (H : List (List AV)) (Ag : AV) (g : Nat → Nat → Nat) (n : Nat) (hAg : FL H Ag (rmA g n n)) (Aa : AV) (a : Nat → Nat → Nat) (hAa : FL H Aa (rmA a n n)) (Pp : AV) (p : List Int) (hP : IL H Pp p) (hpl : p.length = n) (hpv : pivP p) (hn : n ≤ 64) (h0 : 0 < n) (o : Nat → Nat) (hg : ∀ i j, i < n → j < n → pK (g i j) = 0) (ha : ∀ i j, i < n → j < n → pK (a i j) = 0) (ho : ∀ i, i < n → o i < n) (hoo : ∀ i, i < n → (ordS p p.length).getD i 0 = (o i : Int)) (hT : pK (greatF ((rmA (upG a) n n).map absF)) = 0) (hcl : ∀ i j, i < n → j < n → (sR (fun k => fv (loG a i k) * fv (upG a k j)) (min i j + 1) - fv (g (o i) j)).abs ≤ sR (fun k => (fv (loG a i k) * fv (upG a k j)).abs) (min i j + 1) * p2 (-51) * n + (fv (greatF ((rmA (upG a) n n).map absF)) + 1) * p2 (-1060) * n) :
    CSpec Try.prog 43 [mM Ag n n, mM Aa n n, Pp] H (.bool true) H := by
  obtain ⟨L, U, G, S, M, Y, D, P, E, Z, C, t0, one, t1, t2, N, W, c0, c1, c2, c3, c4, c5, cL, cU, cP, cE, cZ, cS, cM, cY, cG, cD, cC0, cC⟩ := close_nums hn hg ha ho hT hcl
  have hat : ∀ (H' : List (List AV)) (i j : Nat), FL H' Ag (rmA g n n) → i < n → j < n → CSpec Try.prog 42 [mM Ag n n, .int .i64 ((ordS p p.length).getD i 0), .int .i64 (j : Int)] H' (.flt (g (o i) j)) H' := fun H' i j hF hi hj => by
    rw [hoo i hi]; exact tat_m H' Ag g n n hF (by omega) (by omega) (o i) j (ho i hi) hj
  refine .mk (fun args w => Try.call43 args w) (Spec.intro' (fn := Try.f43) Try.func43 rfl (by kernel_rfl) (by simp) false [] (draw := drawX Try.prog ⟨false, _, []⟩) dOk ?_)
  simp only [argE, Nat.reduceAdd]
  repeat' (first
    | (refine gateE ?_; (first | refine b_c0 ?_ | refine b_nil ?_ | fail))
    | (refine gateO ?_; (first | refine b_move (by (conv => {lhs; whnf}); done) ?_ | (refine b_fa (by (conv => {lhs; whnf}); done) ?_; first | refine f_loc (by (conv => {lhs; whnf}); done) ?_ | refine f_ptr (by (conv => {lhs; whnf}); done) ?_) | (refine b_load (by (conv => {lhs; whnf}); done) ?_; (first | refine l_loc1 (by exact rfl) (by exact rfl) ?_ | refine l_locA (by exact rfl) (by exact rfl) ?_ | refine l_IL (IL.fzn _ _ _ (by simp)) (by simp; omega) ?_ | fail)) | refine b_iaN (by (conv => {lhs; whnf}); done) (by (conv => {lhs; whnf}); done) (by exact rfl) (by omega) ?_ | (refine b_bin (by (conv => {lhs; whnf}); done) (by (conv => {lhs; whnf}); done) (by (conv => {lhs; whnf}); done) ?_; (first | refine v_F (by have := cC0 i j (by omega) (by omega); omega) ?_ | refine v_to ((t + 1 : Nat) : Int) (by omega) (by omega) ?_ | refine v_to ((j + 1 : Nat) : Int) (by omega) (by omega) ?_ | refine v_to ((i + 1 : Nat) : Int) (by omega) (by omega) ?_ | refine v_T (by omega) ?_ | refine v_F (by omega) ?_ | refine v_w (by omega) ?_ | refine v_wu (by omega) ?_ | refine v_k ?_ | refine v_c (by omega) ?_ | fail)) | refine b_assignF (by kernel_rfl) ?_ | refine b_assignI ?_ | refine b_assignN ?_ | refine b_assign (by (conv => {lhs; whnf}); done) ?_ | refine b_callB ?_ | refine b_ext (by (conv => {lhs; whnf}); done) (by exact rfl) ?_ | refine b_stL (by (conv => {lhs; whnf}); done) (by (conv => {lhs; whnf}); done) (by first | exact (by exact rfl) | exact cells_of_len hF.len | fail) (by exact rfl) (by exact rfl) (by exact Nat.le_of_ble_eq_true rfl) (by (conv => {lhs; simp only [sc, List.set_cons_zero, List.set_cons_succ]}); done) ?_ | refine b_box (by (conv => {lhs; whnf}); done) (by exact rfl) (by exact rfl) (by exact rfl) (by exact rfl) ?_ | refine b_alloc (by exact rfl) (by exact rfl) ?_ | refine b_build ?_ | refine b_min2 (by first | (conv => {lhs; whnf}; done) | exact (by exact rfl) | fail) (by first | (conv => {lhs; whnf}; done) | exact (by exact rfl) | fail) (by first | assumption | exact rfl) ?_ | fail))
    | (refine gateD ?_; (first | refine d_c0 (by exact rfl) ?_ | refine d_nil ?_ | fail))
    | (refine gateC ?_; (first | refine k_lt ?_ | refine k_fz ?_ | refine k_lb (by (conv => {lhs; whnf}); done) ?_ | refine k_ms ?_ | refine k_bx (by exact rfl) (by exact rfl) ?_ | refine k_ld (by (conv => {lhs; whnf}); done) (by exact rfl) ?_ | refine k_ldT (by (conv => {lhs; whnf}); done) ?_ | refine k_bin (by (conv => {lhs; whnf}); done) (by exact rfl) ?_ | refine k_mn ?_ | refine k_mnB (by exact rfl) ?_ | refine k_mnF ?_ | refine k_mnL (by exact rfl) ?_ | fail))
    | (refine gateT ?_; (first | refine b_thn ?_ | refine b_thr ?_ | refine b_the ?_ | fail))
    | (refine gateX ?_; (first | refine b_seq ?_ | refine b_region ?_ | (refine b_cond (by (conv => {lhs; whnf}); done) ?_; (first | refine c_T ?_ | refine c_F ?_ | refine c_P ?_ ?_ | refine c_B ?_ ?_ | fail)) | refine b_ret ?_ | refine b_skip ?_ | refine b_block ?_ | refine b_exit ?_ | refine b_draw (id := 3) [10] [] [(0, .ld true), (6, .lt), (7, .ld true), (10, .bx), (1, .mn true), (2, .mn true), (3, .mn true), (4, .mn true), (5, .mn true), (8, .mn true), (9, .mn true), (11, .mn true)] (by kernel_rfl) ?_ | refine b_draw (id := 14) [16] [] [(0, .ld true), (1, .lt), (2, .lt), (5, .ld true), (6, .lt), (7, .lt), (11, .bx), (3, .mn true), (4, .mn true), (8, .mn true), (9, .mn true), (10, .mn true), (12, .mn true)] (by kernel_rfl) ?_ | refine b_drawW (id := 16) ⟨[14], fun _ => false, [(14, [4])]⟩ [] [(0, .lb 14), (1, .ld true), (2, .mn true), (3, .mn true), (4, .ms 14)] (by kernel_rfl) ?_ | refine b_draw (id := 17) [17] [] [(0, .ld true), (2, .lt), (3, .ld true), (6, .ld true), (8, .bx), (1, .mn true), (4, .mn true), (5, .mn true), (7, .mn true), (9, .mn true)] (by kernel_rfl) ?_ | refine b_draw (id := 18) [] [] [(0, .ld true), (1, .ld true), (2, .lt), (3, .lt), (4, .lt), (5, .ld true), (6, .lt), (11, .ld true), (7, .mn true), (8, .mn true), (9, .mn true), (10, .mn true), (12, .mn true), (13, .lt)] (by kernel_rfl) ?_ | (refine b_loop [3, 4, 7, 8, 9, 10, 11, 12, 13, 14, 15] (min i j + 1) (fun t => ⟨[(3, .loc 3 0), (4, .loc 4 0), (7, .loc 7 0), (8, .loc 8 0), (9, .val (.sl none p.length (il (ordS p p.length)))), (10, .loc 10 0), (11, .val (.int .i64 ((i : Nat) : Int))), (12, .val (.int .i64 ((j : Nat) : Int))), (13, .loc 13 0), (14, .loc 14 0), (15, .val (.int .i64 ((t : Nat) : Int)))], [(3, [.int .i64 (n : Int), .int .i64 (n : Int), Ag]), (4, [.int .i64 (n : Int), .int .i64 (n : Int), Aa]), (7, [.int .i64 (n : Int), .int .i64 (n : Int), .sl none (n * n) (fl (rmA (loG a) n n))]), (8, [.int .i64 (n : Int), .int .i64 (n : Int), .sl none (n * n) (fl (rmA (upG a) n n))]), (10, [.bool W.neg, .sl none W.l.length (il W.l), .int .i64 W.e]), (13, [nb t (E i j t), nz t (E i j t), ne t (E i j t)]), (14, [nb t (Z i j t), nz t (Z i j t), ne t (Z i j t)])], H ++ []⟩) (by exact rfl) ?_ ?_ <;> (first | intro t ht K hK | intro K) <;> (try dsimp only at *)) | (refine b_loop [3, 4, 7, 8, 9, 10, 11, 12] n (fun j => ⟨[(3, .loc 3 0), (4, .loc 4 0), (7, .loc 7 0), (8, .loc 8 0), (9, .val (.sl none p.length (il (ordS p p.length)))), (10, .loc 10 0), (11, .val (.int .i64 ((i : Nat) : Int))), (12, .val (.int .i64 ((j : Nat) : Int)))], [(3, [.int .i64 (n : Int), .int .i64 (n : Int), Ag]), (4, [.int .i64 (n : Int), .int .i64 (n : Int), Aa]), (7, [.int .i64 (n : Int), .int .i64 (n : Int), .sl none (n * n) (fl (rmA (loG a) n n))]), (8, [.int .i64 (n : Int), .int .i64 (n : Int), .sl none (n * n) (fl (rmA (upG a) n n))]), (10, [.bool W.neg, .sl none W.l.length (il W.l), .int .i64 W.e])], H ++ []⟩) (by exact rfl) ?_ ?_ <;> (first | intro j hj K hK | intro K) <;> (try dsimp only at *)) | (refine b_loop [3, 4, 7, 8, 9, 10, 11] n (fun i => ⟨[(3, .loc 3 0), (4, .loc 4 0), (7, .loc 7 0), (8, .loc 8 0), (9, .val (.sl none p.length (il (ordS p p.length)))), (10, .loc 10 0), (11, .val (.int .i64 ((i : Nat) : Int)))], [(3, [.int .i64 (n : Int), .int .i64 (n : Int), Ag]), (4, [.int .i64 (n : Int), .int .i64 (n : Int), Aa]), (7, [.int .i64 (n : Int), .int .i64 (n : Int), .sl none (n * n) (fl (rmA (loG a) n n))]), (8, [.int .i64 (n : Int), .int .i64 (n : Int), .sl none (n * n) (fl (rmA (upG a) n n))]), (10, [.bool W.neg, .sl none W.l.length (il W.l), .int .i64 W.e])], H ++ []⟩) (by exact rfl) ?_ ?_ <;> (first | intro i hi K hK | intro K) <;> (try dsimp only at *)) | fail))
    | refine a_consF (by kernel_rfl) ?_
    | refine a_consI ?_
    | refine a_cons (by (conv => {lhs; whnf}); done) ?_
    | refine a_nil ?_
    | (refine gateK ?_; (first | refine c_call (rparts_c _ Aa a n (FL.app hAa _) (by omega)) (OldOk.app (by simp)) ?_ | refine c_call (rorder_g _ Pp p (IL.app hP _) (by omega) hpv (by omega)) (OldOk.app (by simp)) ?_ | refine c_call (rmax_c _ _ (rmA (upG a) n n) (FL.fzn _ _ _ (by simp)) n n (by simp) (by omega) (by omega)) (OldOk.app (by simp)) ?_ | refine c_call (tat_m _ _ (loG a) n n (FL.fzn _ _ _ (by simp)) (by omega) (by omega) i t (by omega) (by omega)) (OldOk.app (by simp)) ?_ | refine c_call (tat_m _ _ (upG a) n n (FL.fzn _ _ _ (by simp)) (by omega) (by omega) t j (by omega) (by omega)) (OldOk.app (by simp)) ?_ | refine c_call (hat _ i j (FL.app hAg _) (by omega) (by omega)) (OldOk.app (by simp)) ?_ | refine c_call (c0 _) (OldOk.app (by simp)) ?_ | refine c_call (c1 _) (OldOk.app (by simp)) ?_ | refine c_call (c2 _) (OldOk.app (by simp)) ?_ | refine c_call (c3 _) (OldOk.app (by simp)) ?_ | refine c_call (c4 _) (OldOk.app (by simp)) ?_ | refine c_call (c5 _) (OldOk.app (by simp)) ?_ | refine c_call (cL i t (by omega) (by omega) _) (OldOk.app (by simp)) ?_ | refine c_call (cU t j (by omega) (by omega) _) (OldOk.app (by simp)) ?_ | refine c_call (cP i j t (by omega) (by omega) (by omega) _) (OldOk.app (by simp)) ?_ | refine c_call (cE i j t (by omega) (by omega) (by omega) _) (OldOk.app (by simp)) ?_ | refine c_call (cZ i j t (by omega) (by omega) (by omega) _) (OldOk.app (by simp)) ?_ | refine c_call (cS i j (by omega) (by omega) _) (OldOk.app (by simp)) ?_ | refine c_call (cM i j (by omega) (by omega) _) (OldOk.app (by simp)) ?_ | refine c_call (cY i j (by omega) (by omega) _) (OldOk.app (by simp)) ?_ | refine c_call (cG i j (by omega) (by omega) _) (OldOk.app (by simp)) ?_ | refine c_call (cD i j (by omega) (by omega) _) (OldOk.app (by simp)) ?_ | refine c_call (cC i j (by omega) (by omega) _) (OldOk.app (by simp)) ?_ | refine c_call (dabs _ (P i j t)) (OldOk.app (by simp)) ?_ | refine c_call (dabs _ (D i j)) (OldOk.app (by simp)) ?_ | fail))
    | refine fk_cons (by (conv => {lhs; whnf}); done) (by first | exact (by exact rfl) | exact cells_of_len hF.len | fail) (by exact rfl) (by exact rfl) (by (conv => {lhs; simp only [sc, List.set_cons_zero, List.set_cons_succ]}); done) ?_
    | refine fk_nil ?_
    | (refine gateB ?_; (first | refine b_bln ?_ | refine b_blr ?_ | refine b_ble ?_ | refine b_blo (by exact rfl) ?_ | fail))
    | (refine gateL ?_; (first | refine lp_n ?_ | refine lp_r ?_ | refine lp_e ?_ | fail))
    | (refine pr_k (by exact rfl) ?_; first | exact hK | (exfalso; first | omega | (simp_all; done) | (simp_all; omega)))
    | (refine gateQ ?_; refine b_retK (by simp) (by (conv => {lhs; whnf}); done) ?_)
    | (refine gateR ?_; (first | refine rk_tmp (by (conv => {lhs; whnf}); done) ?_ | refine rk_cellA (by (conv => {lhs; whnf}); done) (by exact rfl) (by exact rfl) ?_ | refine rk_cell1 (by (conv => {lhs; whnf}); done) (by exact rfl) (by exact rfl) ?_ | refine rk_nil ?_ | fail))
    | intro _)
  all_goals first
    | (exfalso; omega)
    | (refine rv_old rfl (by simp [mx, mxL, resOne, aOf, aOf1]) ?_; exact rfl)

set_option maxHeartbeats 4000000 in
theorem close_z (H : List (List AV)) (Ag : AV) (g : Nat → Nat → Nat) (hAg : FL H Ag (rmA g 0 0)) (Aa : AV) (a : Nat → Nat → Nat) (hAa : FL H Aa (rmA a 0 0)) (Pp : AV) (p : List Int) (hP : IL H Pp p) (hpl : p.length = 0) (hT : pK (greatF ((rmA (upG a) 0 0).map absF)) = 0) :
    CSpec Try.prog 43 [mM Ag (0 : Nat) (0 : Nat), mM Aa (0 : Nat) (0 : Nat), Pp] H (.bool true) H := by
  obtain ⟨L, U, G, S, M, Y, D, P, E, Z, C, t0, one, t1, t2, N, W, c0, c1, c2, c3, c4, c5, _⟩ := close_nums (g := g) (a := a) (o := id) (n := 0) (by decide) (fun i j hi => absurd hi (by omega)) (fun i j hi => absurd hi (by omega)) (fun i hi => hi) hT (fun i j hi => absurd hi (by omega))
  refine .mk (fun args w => Try.call43 args w) (Spec.intro' (fn := Try.f43) Try.func43 rfl (by kernel_rfl) (by simp) false [] (draw := drawX Try.prog ⟨false, _, []⟩) dOk ?_)
  simp only [argE, Nat.reduceAdd]
  repeat' (first
    | (refine gateE ?_; (first | refine b_c0 ?_ | refine b_nil ?_ | fail))
    | (refine gateO ?_; (first | refine b_move (by (conv => {lhs; whnf}); done) ?_ | (refine b_fa (by (conv => {lhs; whnf}); done) ?_; first | refine f_loc (by (conv => {lhs; whnf}); done) ?_ | refine f_ptr (by (conv => {lhs; whnf}); done) ?_) | (refine b_load (by (conv => {lhs; whnf}); done) ?_; (first | refine l_loc1 (by exact rfl) (by exact rfl) ?_ | refine l_locA (by exact rfl) (by exact rfl) ?_ | fail)) | (refine b_bin (by (conv => {lhs; whnf}); done) (by (conv => {lhs; whnf}); done) (by (conv => {lhs; whnf}); done) ?_; (first | refine v_T (by omega) ?_ | refine v_F (by omega) ?_ | refine v_w (by omega) ?_ | refine v_wu (by omega) ?_ | refine v_k ?_ | refine v_c (by omega) ?_ | fail)) | refine b_assignF (by kernel_rfl) ?_ | refine b_assignI ?_ | refine b_assignN ?_ | refine b_assign (by (conv => {lhs; whnf}); done) ?_ | refine b_callB ?_ | refine b_ext (by (conv => {lhs; whnf}); done) (by exact rfl) ?_ | refine b_stL (by (conv => {lhs; whnf}); done) (by (conv => {lhs; whnf}); done) (by first | exact (by exact rfl) | exact cells_of_len hF.len | fail) (by exact rfl) (by exact rfl) (by exact Nat.le_of_ble_eq_true rfl) (by (conv => {lhs; simp only [sc, List.set_cons_zero, List.set_cons_succ]}); done) ?_ | refine b_box (by (conv => {lhs; whnf}); done) (by exact rfl) (by exact rfl) (by exact rfl) (by exact rfl) ?_ | refine b_alloc (by exact rfl) (by exact rfl) ?_ | refine b_build ?_ | refine b_min2 (by first | (conv => {lhs; whnf}; done) | exact (by exact rfl) | fail) (by first | (conv => {lhs; whnf}; done) | exact (by exact rfl) | fail) (by first | assumption | exact rfl) ?_ | fail))
    | (refine gateD ?_; (first | refine d_c0 (by exact rfl) ?_ | refine d_nil ?_ | fail))
    | (refine gateC ?_; (first | refine k_lt ?_ | refine k_fz ?_ | refine k_lb (by (conv => {lhs; whnf}); done) ?_ | refine k_ms ?_ | refine k_bx (by exact rfl) (by exact rfl) ?_ | refine k_ld (by (conv => {lhs; whnf}); done) (by exact rfl) ?_ | refine k_ldT (by (conv => {lhs; whnf}); done) ?_ | refine k_bin (by (conv => {lhs; whnf}); done) (by exact rfl) ?_ | refine k_mn ?_ | refine k_mnB (by exact rfl) ?_ | refine k_mnF ?_ | refine k_mnL (by exact rfl) ?_ | fail))
    | (refine gateT ?_; (first | refine b_thn ?_ | refine b_thr ?_ | refine b_the ?_ | fail))
    | (refine gateX ?_; (first | refine b_seq ?_ | refine b_region ?_ | (refine b_cond (by (conv => {lhs; whnf}); done) ?_; (first | refine c_T ?_ | refine c_F ?_ | refine c_P ?_ ?_ | refine c_B ?_ ?_ | fail)) | refine b_ret ?_ | refine b_skip ?_ | refine b_block ?_ | refine b_exit ?_ | refine b_draw (id := 3) [10] [] [(0, .ld true), (6, .lt), (7, .ld true), (10, .bx), (1, .mn true), (2, .mn true), (3, .mn true), (4, .mn true), (5, .mn true), (8, .mn true), (9, .mn true), (11, .mn true)] (by kernel_rfl) ?_ | refine b_draw (id := 14) [16] [] [(0, .ld true), (1, .lt), (2, .lt), (5, .ld true), (6, .lt), (7, .lt), (11, .bx), (3, .mn true), (4, .mn true), (8, .mn true), (9, .mn true), (10, .mn true), (12, .mn true)] (by kernel_rfl) ?_ | refine b_drawW (id := 16) ⟨[14], fun _ => false, [(14, [4])]⟩ [] [(0, .lb 14), (1, .ld true), (2, .mn true), (3, .mn true), (4, .ms 14)] (by kernel_rfl) ?_ | refine b_draw (id := 17) [17] [] [(0, .ld true), (2, .lt), (3, .ld true), (6, .ld true), (8, .bx), (1, .mn true), (4, .mn true), (5, .mn true), (7, .mn true), (9, .mn true)] (by kernel_rfl) ?_ | refine b_draw (id := 18) [] [] [(0, .ld true), (1, .ld true), (2, .lt), (3, .lt), (4, .lt), (5, .ld true), (6, .lt), (11, .ld true), (7, .mn true), (8, .mn true), (9, .mn true), (10, .mn true), (12, .mn true), (13, .lt)] (by kernel_rfl) ?_ | (refine b_loop [3, 4, 7, 8, 9, 10, 11] 0 (fun i => ⟨[(3, .loc 3 0), (4, .loc 4 0), (7, .loc 7 0), (8, .loc 8 0), (9, .val .slnil), (10, .loc 10 0), (11, .val (.int .i64 ((i : Nat) : Int)))], [(3, [.int .i64 ((0 : Nat) : Int), .int .i64 ((0 : Nat) : Int), Ag]), (4, [.int .i64 ((0 : Nat) : Int), .int .i64 ((0 : Nat) : Int), Aa]), (7, [.int .i64 ((0 : Nat) : Int), .int .i64 ((0 : Nat) : Int), .sl none (0 * 0) (fl (rmA (loG a) 0 0))]), (8, [.int .i64 ((0 : Nat) : Int), .int .i64 ((0 : Nat) : Int), .sl none (0 * 0) (fl (rmA (upG a) 0 0))]), (10, [.bool W.neg, .sl none W.l.length (il W.l), .int .i64 W.e])], H ++ []⟩) (by exact rfl) ?_ ?_ <;> (first | intro i hi K hK | intro K) <;> (try dsimp only at *)) | fail))
    | refine a_consF (by kernel_rfl) ?_
    | refine a_consI ?_
    | refine a_cons (by (conv => {lhs; whnf}); done) ?_
    | refine a_nil ?_
    | (refine gateK ?_; (first | refine c_call (rparts_c _ Aa a 0 (FL.app hAa _) (by omega)) (OldOk.app (by simp)) ?_ | refine c_call (rorder_0 _ Pp p (IL.app hP _) hpl) (OldOk.app (by simp)) ?_ | refine c_call (rmax_c _ _ (rmA (upG a) 0 0) (FL.fzn _ _ _ (by simp)) 0 0 (by simp) (by omega) (by omega)) (OldOk.app (by simp)) ?_ | refine c_call (c0 _) (OldOk.app (by simp)) ?_ | refine c_call (c1 _) (OldOk.app (by simp)) ?_ | refine c_call (c2 _) (OldOk.app (by simp)) ?_ | refine c_call (c3 _) (OldOk.app (by simp)) ?_ | refine c_call (c4 _) (OldOk.app (by simp)) ?_ | refine c_call (c5 _) (OldOk.app (by simp)) ?_ | fail))
    | refine fk_cons (by (conv => {lhs; whnf}); done) (by first | exact (by exact rfl) | exact cells_of_len hF.len | fail) (by exact rfl) (by exact rfl) (by (conv => {lhs; simp only [sc, List.set_cons_zero, List.set_cons_succ]}); done) ?_
    | refine fk_nil ?_
    | (refine gateB ?_; (first | refine b_bln ?_ | refine b_blr ?_ | refine b_ble ?_ | refine b_blo (by exact rfl) ?_ | fail))
    | (refine gateL ?_; (first | refine lp_n ?_ | refine lp_r ?_ | refine lp_e ?_ | fail))
    | (refine pr_k (by exact rfl) ?_; first | exact hK | (exfalso; first | omega | (simp_all; done) | (simp_all; omega)))
    | (refine gateQ ?_; refine b_retK (by simp) (by (conv => {lhs; whnf}); done) ?_)
    | (refine gateR ?_; (first | refine rk_tmp (by (conv => {lhs; whnf}); done) ?_ | refine rk_cellA (by (conv => {lhs; whnf}); done) (by exact rfl) (by exact rfl) ?_ | refine rk_cell1 (by (conv => {lhs; whnf}); done) (by exact rfl) (by exact rfl) ?_ | refine rk_nil ?_ | fail))
    | intro _)
  all_goals first
    | (exfalso; omega)
    | (refine rv_old rfl (by simp [mx, mxL, resOne, aOf, aOf1]) ?_; exact rfl)


end Go.Sx

set_option linter.unusedVariables false
set_option linter.unusedSimpArgs false
set_option maxRecDepth 20000
namespace Go.Sx
open Go.Proofs

theorem CSpec.spec {P : Program} {f : Nat} {a : List AV} {H H' : List (List AV)} {r : AV} (he : Enters P f) (h : CSpec P f a H r H') : Spec P f a H r H' := by
  rcases h with ⟨_, h⟩ | ⟨_, h⟩
  · exact h
  · intro w g c hw hl
    obtain ⟨v, h1, _⟩ := h w g c hl
    rw [he] at h1; cases h1
theorem Spec.weak {P : Program} {f : Nat} {a : List AV} {H H' : List (List AV)} {r r' : AV} (h : Spec P f a H r H') (hr : ∀ w g v, VRep w g r v → VRep w g r' v) : Spec P f a H r' H' := by
  intro w g c hw hl
  refine (h w g c hw hl).mono fun e w' ⟨v, g', h1, h2, h3, h4⟩ => ⟨v, g', h1, h2, h3, hr _ _ _ h4⟩
theorem isNaN_pK {b : Nat} (h : isNaN b = true) : pM b = 0 ∧ pE b = 0 ∧ pK b = 2 := by
  obtain ⟨s, t, hr⟩ := nan_read h
  unfold Ieee.Format.read at hr
  simp only [e_sw, e_bn, e_ir] at hr
  split at hr
  · cases hr
  · split at hr
    · cases hr
    · split at hr
      · cases hr
      · by_cases hb : b % 9223372036854775808 < 9223372036854775808
        · have e1 : pE₀ b = 2047 := by unfold pE₀; omega
          refine ⟨by unfold pM; rw [if_pos e1], by unfold pE; rw [if_pos e1], ?_⟩
          unfold pK
          rw [if_neg (by rw [e1]; unfold pM₀; omega), if_pos e1]
        · omega
theorem pK_cn {b : Nat} : pM (cn b) = pM b ∧ pE (cn b) = pE b ∧ pK (cn b) = pK b := by
  rcases cn_cases b with ⟨h1, h2⟩ | ⟨h1, h2⟩
  · obtain ⟨a, c, d⟩ := isNaN_pK h1
    rw [h2, a, c, d]; decide
  · rw [h2]; exact ⟨rfl, rfl, rfl⟩
theorem parts_f (H : List (List AV)) (x : Nat) : CSpec Try.prog 95 [.flt x] H (.tup [.junk, .int .u64 (pM x), .int .i64 (pE x), .int .i64 (pK x)]) H := by
  refine .mk (fun args w => Try.call95 args w) (Spec.raw1 fun b hb hbx => ?_)
  subst hbx
  obtain ⟨h1, h2, h3⟩ := pK_cn (b := b)
  rw [h1, h2, h3]
  refine Spec.weak (CSpec.spec (fun args w => Try.call95 args w) (parts_c H b hb)) fun w g v h => ?_
  simp only [VRep, LRep] at h ⊢
  obtain ⟨vs, rfl, v1, r1, h1, h2, h3⟩ := h
  exact ⟨vs, rfl, v1, r1, h1, trivial, h3⟩
attribute [local irreducible] Ex exOps exD opX opE thenX blkX RetQ Spec CSpec Fr condK guardK guardD ckK valK pickK loadK faK callK argK gK fK rK RetV lpX prK
set_option maxHeartbeats 4000000 in
theorem finite_c (H : List (List AV)) (D : AV) (l : List Nat) (hF : FL H D l) (hB : l.length ≤ 2 ^ 30) :
    CSpec Try.prog 38 [D] H (.bool (decide (∀ k, k < l.length → pK (l.getD k 0) = 0))) H := by
  obtain ⟨N, hN1, hN2, hN3⟩ := first_bad (fun k => pK (l.getD k 0) = 0) l.length
  have hdec : (N < l.length → decide (∀ k, k < l.length → pK (l.getD k 0) = 0) = false) ∧ (N = l.length → decide (∀ k, k < l.length → pK (l.getD k 0) = 0) = true) := ⟨fun h => decide_eq_false fun hh => hN3 h (hh N h), fun h => decide_eq_true fun k hk => hN2 k (by omega)⟩
  refine .mk (fun args w => Try.call38 args w) (Spec.intro' (fn := Try.f38) Try.func38 rfl (by kernel_rfl) (by simp) false [] (draw := drawX Try.prog ⟨false, _, []⟩) dOk ?_)
  simp only [argE, Nat.reduceAdd]
  repeat' (first
    | (refine gateE ?_; (first | refine b_c0 ?_ | refine b_nil ?_ | fail))
    | (refine gateO ?_; (first | refine b_move (by (conv => {lhs; whnf}); done) ?_ | (refine b_load (by (conv => {lhs; whnf}); done) ?_; (first | refine l_loc1 (by exact rfl) (by exact rfl) ?_ | refine l_locA (by exact rfl) (by exact rfl) ?_ | refine l_FL (FL.app hF _) (by omega) ?_ | fail)) | refine b_lenA (by (conv => {lhs; whnf}); done) (by exact hF.len) ?_ | refine b_iaF (by (conv => {lhs; whnf}); done) (by (conv => {lhs; whnf}); done) (by exact hF.len) (by omega) ?_ | (refine b_bin (by (conv => {lhs; whnf}); done) (by (conv => {lhs; whnf}); done) (by (conv => {lhs; whnf}); done) ?_; (first | refine v_to ((k + 1 : Nat) : Int) (by omega) (by omega) ?_ | refine v_neT (by omega) ?_ | refine v_neF (by omega) ?_ | refine v_neP ?_ | refine v_T (by omega) ?_ | refine v_F (by omega) ?_ | refine v_w (by omega) ?_ | refine v_wu (by omega) ?_ | refine v_k ?_ | refine v_c (by omega) ?_ | fail)) | refine b_assignF (by kernel_rfl) ?_ | refine b_assignI ?_ | refine b_assignN ?_ | refine b_assign (by (conv => {lhs; whnf}); done) ?_ | refine b_callB ?_ | refine b_lenA (by (conv => {lhs; whnf}); done) (by first | rfl | assumption) ?_ | refine b_ext (by (conv => {lhs; whnf}); done) (by exact rfl) ?_ | fail))
    | (refine gateT ?_; (first | refine b_thn ?_ | refine b_thr ?_ | refine b_the ?_ | fail))
    | (refine gateX ?_; (first | refine b_seq ?_ | refine b_region ?_ | (refine b_cond (by (conv => {lhs; whnf}); done) ?_; (first | refine c_T ?_ | refine c_F ?_ | refine c_P ?_ ?_ | refine c_B ?_ ?_ | fail)) | refine b_ret ?_ | refine b_skip ?_ | refine b_block ?_ | refine b_exit ?_ | (refine b_loop [0, 3] N (fun k => ⟨[(0, .val D), (3, .val (.int .i64 ((k : Nat) : Int)))], [], H ++ []⟩) (by exact rfl) ?_ ?_ <;> (first | intro k hk K hK | intro K) <;> (try dsimp only at *)) | fail))
    | refine a_cons (by (conv => {lhs; whnf}); done) ?_
    | refine a_nil ?_
    | (refine gateK ?_; (first | refine c_call (parts_f _ _) (OldOk.app (by simp)) ?_ | fail))
    | (refine gateB ?_; (first | refine b_bln ?_ | refine b_blr ?_ | refine b_ble ?_ | refine b_blo (by exact rfl) ?_ | fail))
    | (refine gateL ?_; (first | refine lp_n ?_ | refine lp_r ?_ | refine lp_e ?_ | fail))
    | (refine pr_k (by exact rfl) ?_; first | exact hK | (exfalso; have := hN2 k (by omega); omega) | (exfalso; first | omega | (simp_all; done) | (simp_all; omega)))
    | (refine gateQ ?_; refine b_retK (by simp) (by (conv => {lhs; whnf}); done) ?_)
    | (refine gateR ?_; (first | refine rk_tmp (by (conv => {lhs; whnf}); done) ?_ | refine rk_cellA (by (conv => {lhs; whnf}); done) (by exact rfl) (by exact rfl) ?_ | refine rk_cell1 (by (conv => {lhs; whnf}); done) (by exact rfl) (by exact rfl) ?_ | refine rk_nil ?_ | fail))
    | intro _)
  all_goals first
    | (exfalso; omega)
    | (exfalso; have := hN2 k (by omega); simp only [Int.toNat_natCast] at *; contradiction)
    | (refine rv_old rfl (by simp [mx, mxL, resOne, aOf, aOf1]) ?_; (first | rw [hdec.1 (by omega)] | rw [hdec.2 (by omega)]); exact rfl)


end Go.Sx

set_option linter.unusedVariables false
set_option linter.unusedSimpArgs false
set_option maxRecDepth 20000
namespace Go.Sx
open Go.Proofs

theorem gr_n (H : List (List AV)) (g : Nat → Nat → Nat) (n : Nat) (hn : n ≤ 64) : CSpec Try.prog 16 [mt (.sl none (n * n) (fl (cmA g n n))) 0 (n : Int) (n : Int) ((max n 1 : Nat) : Int)] H (.bool true) H := by
  have h := goodref_c H (.sl none (n * n) (fl (cmA g n n))) (cmA g n n).length 0 n n ((max n 1 : Nat) : Int) (by simp [slen]) (cm_MI hn)
  rwa [decide_eq_true (cm_good g n)] at h
theorem of_rc (H : List (List AV)) (D : AV) (l : List Nat) (hF : FL H D l) (off ld : Int) (r c : Nat) (hI : MI l.length off r c ld) (hG : GoodP l.length off r c ld) (hr : r ≤ 1000) (hc : c ≤ 1000) : CSpec Try.prog 27 [mt D off (r : Int) (c : Int) ld] H (mM (.sl none (r * c) (fl (rmA (mel l off ld) r c))) r c) H := by
  have h := of_c H D l hF off r c ld hI hG (by omega) (by omega)
  simpa only [Int.toNat_natCast] using h
theorem finite_t (H : List (List AV)) (D : AV) (l : List Nat) (hF : FL H D l) (hB : l.length ≤ 2 ^ 30) (h : ∀ k, k < l.length → pK (l.getD k 0) = 0) : CSpec Try.prog 38 [D] H (.bool true) H := by
  have := finite_c H D l hF hB
  rwa [decide_eq_true h] at this
theorem finite_f (H : List (List AV)) (D : AV) (l : List Nat) (hF : FL H D l) (hB : l.length ≤ 2 ^ 30) (h : ¬ ∀ k, k < l.length → pK (l.getD k 0) = 0) : CSpec Try.prog 38 [D] H (.bool false) H := by
  have := finite_c H D l hF hB
  rwa [decide_eq_false h] at this
theorem rm_fin {g : Nat → Nat → Nat} {n : Nat} (h : ∀ k, k < (rmA g n n).length → pK ((rmA g n n).getD k 0) = 0) : ∀ i j, i < n → j < n → pK (g i j) = 0 := fun i j hi hj => by
  have := h (i * n + j) (by have := ix_lt hi hj; simp; omega)
  rwa [rmA_get hi hj] at this
attribute [local irreducible] Ex exOps exD opX opE thenX blkX RetQ Spec CSpec Fr condK guardK guardD ckK valK pickK loadK faK callK argK gK fK rK RetV lpX prK
end Go.Sx

set_option linter.unusedVariables false
set_option linter.unusedSimpArgs false
set_option maxRecDepth 20000
namespace Go.Sx
open Go.Proofs

theorem v_bFe {dd : Nat} {K : St → Prop} {e : List (Nat × EV)} {L : List (Nat × List AV)} {H : List (List AV)} {b : Bool} (h : b = false) (hk : K ⟨(dd, .val (.bool false)) :: e, L, H⟩) : valK dd K ⟨e, L, H⟩ (some (True, .bool b)) := by
  subst h; exact ⟨trivial, hk⟩
attribute [local irreducible] Ex exOps exD opX opE thenX blkX RetQ Spec CSpec Fr condK guardK guardD ckK valK pickK loadK faK callK argK gK fK rK RetV lpX prK

theorem lclose_g (H : List (List AV)) (g : Nat → Nat → Nat) (n : Nat) (hn : n ≤ 64) (hg : ∀ i j, i < n → j < n → pK (g i j) = 0) (ha : ∀ i j, i < n → j < n → pK (stG g n n i j) = 0) :
    CSpec Try.prog 43 [mM (.sl none (n * n) (fl (rmA g n n))) n n, mM (.sl none (n * n) (fl (rmA (stG g n n) n n))) n n, .sl none n (il (pvL g n n))] H (.bool true) H := by
  have hT : pK (greatF ((rmA (upG (stG g n n)) n n).map absF)) = 0 := by
    refine (fin_lt (great_fin fun x hx => ?_).2).1
    obtain ⟨y, hy, rfl⟩ := List.mem_map.1 hx
    simp only [rmA, rml, List.mem_map, List.mem_range] at hy
    obtain ⟨k, hk, rfl⟩ := hy
    have hn0 : 0 < n := by
      rcases Nat.eq_zero_or_pos n with h | h
      · subst h; simp at hk
      · exact h
    refine (abs_fin ?_).2
    unfold upG; split
    · decide
    · exact ha _ _ (Nat.div_lt_of_lt_mul hk) (Nat.mod_lt k hn0)
  rcases Nat.eq_zero_or_pos n with h0 | h0
  · subst h0
    exact close_z H _ g (FL.fzn _ _ _ (by simp)) _ (stG g 0 0) (FL.fzn _ _ _ (by simp)) _ (pvL g 0 0) (IL.fzn _ _ _ (by simp)) rfl hT
  · exact close_c H _ g n (FL.fzn _ _ _ (by simp)) _ (stG g n n) (FL.fzn _ _ _ (by simp)) _ (pvL g n n) (IL.fzn _ _ _ (by simp)) (by simp) (pvL_piv g n) hn h0 (oN g n n) hg ha (fun i hi => oN_lt n (Nat.le_refl _) i hi) (fun i hi => by rw [pvL_len]; exact ordS_oN n (Nat.le_refl _) i hi) hT (fun i j hi hj => lu_close hn ha hi hj)
set_option maxHeartbeats 4000000 in
theorem lclose_b (H : List (List AV)) (x : Nat × Nat) (l : List Nat) (off rows cols ld : Int) (hI : MI l.length off rows cols ld) (hG : ¬ GoodP l.length off rows cols ld) :
    Spec Try.prog 8 [mt (aD x l) off rows cols ld] H (.bool true) H := by
  obtain ⟨hm, ho1, ho2, hr1, hr2, hc1, hc2, hl1, hl2⟩ := id hI
  refine (Spec.intro' (fn := Try.f8) Try.func8 rfl (by kernel_rfl) (by simp) false [] (draw := drawX Try.prog ⟨false, _, []⟩) dOk ?_)
  simp only [argE, Nat.reduceAdd]
  repeat' (first
    | (refine gateE ?_; (first | refine b_c0 ?_ | refine b_nil ?_ | refine b_gT (by exact rfl) (by exact rfl) ?_ | refine b_gF (by exact rfl) (by exact rfl) (by exact rfl) ?_ | refine b_gU (by exact rfl) (by exact rfl) (by constructor <;> simp) (by exact rfl) (by exact rfl) ?_ | (refine b_g0 (by exact rfl) (by exact rfl) (by (conv => {lhs; whnf}); done) ?_; (first | refine g_TT ?_ | refine g_FF ?_ | refine g_TF ?_ | refine g_FT ?_ | refine g_PT ?_ ?_ | refine g_PF ?_ ?_ | refine g_BT ?_ ?_ | refine g_BF ?_ ?_ | fail)) | (refine b_g1 (by exact rfl) (by exact rfl) (by exact rfl) (by (conv => {lhs; whnf}); done) ?_; (first | refine g_TT ?_ | refine g_FF ?_ | refine g_TF ?_ | refine g_FT ?_ | refine g_PT ?_ ?_ | refine g_PF ?_ ?_ | refine g_BT ?_ ?_ | refine g_BF ?_ ?_ | fail)) | refine b_c1 (by exact rfl) ?_ | fail))
    | (refine gateO ?_; (first | refine b_move (by (conv => {lhs; whnf}); done) ?_ | (refine b_fa (by (conv => {lhs; whnf}); done) ?_; first | refine f_loc (by (conv => {lhs; whnf}); done) ?_ | refine f_ptr (by (conv => {lhs; whnf}); done) ?_) | (refine b_load (by (conv => {lhs; whnf}); done) ?_; (first | refine l_loc1 (by exact rfl) (by exact rfl) ?_ | refine l_locA (by exact rfl) (by exact rfl) ?_ | fail)) | (refine b_binBn (by first | (conv => {lhs; whnf}; done) | exact (by exact rfl) | fail) (by first | (conv => {lhs; whnf}; done) | exact (by exact rfl) | fail) ?_; (first | refine v_bnF (by exact rfl) ?_ | refine v_bnT (by decide) ?_ | fail)) | (refine b_binB (by first | (conv => {lhs; whnf}; done) | exact (by exact rfl) | fail) (by first | (conv => {lhs; whnf}; done) | exact (by exact rfl) | fail) ?_; (first | refine v_bbT (by exact rfl) ?_ | refine v_k ?_ | fail)) | (refine b_bin (by (conv => {lhs; whnf}); done) (by (conv => {lhs; whnf}); done) (by (conv => {lhs; whnf}); done) ?_; (first | refine v_eT (by omega) ?_ | refine v_eF (by omega) ?_ | refine v_eP ?_ | refine v_neT (by omega) ?_ | refine v_neF (by omega) ?_ | refine v_neP ?_ | refine v_T (by omega) ?_ | refine v_F (by omega) ?_ | refine v_w (by omega) ?_ | refine v_wu (by omega) ?_ | refine v_nT ?_ | refine v_nF ?_ | refine v_nP ?_ | refine v_k ?_ | refine v_c (by omega) ?_ | fail)) | (refine b_pick (by (conv => {lhs; whnf}); done) ?_; (first | refine p_T (by (conv => {lhs; whnf}); done) ?_ | refine p_F (by (conv => {lhs; whnf}); done) ?_ | fail)) | refine b_assignF (by kernel_rfl) ?_ | refine b_assignI ?_ | refine b_assignN ?_ | refine b_assign (by (conv => {lhs; whnf}); done) ?_ | (refine b_un (by (conv => {lhs; whnf}); done) (by (conv => {lhs; whnf}); done) ?_; (first | refine v_eT (by omega) ?_ | refine v_eF (by omega) ?_ | refine v_eP ?_ | refine v_neT (by omega) ?_ | refine v_neF (by omega) ?_ | refine v_neP ?_ | refine v_T (by omega) ?_ | refine v_F (by omega) ?_ | refine v_w (by omega) ?_ | refine v_wu (by omega) ?_ | refine v_nT ?_ | refine v_nF ?_ | refine v_nP ?_ | refine v_k ?_ | refine v_c (by omega) ?_ | fail)) | refine b_callB ?_ | refine b_lenA (by (conv => {lhs; whnf}); done) (by first | rfl | assumption) ?_ | refine b_ext (by (conv => {lhs; whnf}); done) (by exact rfl) ?_ | refine b_stL (by (conv => {lhs; whnf}); done) (by (conv => {lhs; whnf}); done) (by first | exact (by exact rfl) | exact cells_of_len hF.len | fail) (by exact rfl) (by exact rfl) (by exact Nat.le_of_ble_eq_true rfl) (by (conv => {lhs; simp only [sc, List.set_cons_zero, List.set_cons_succ]}); done) ?_ | refine b_box (by (conv => {lhs; whnf}); done) (by exact rfl) (by exact rfl) (by exact rfl) (by exact rfl) ?_ | refine b_alloc (by exact rfl) (by exact rfl) ?_ | refine b_field (by (conv => {lhs; whnf}); done) (by exact rfl) (by exact rfl) (by exact rfl) ?_ | fail))
    | (refine gateD ?_; (first | refine d_c0 (by exact rfl) ?_ | refine d_nil ?_ | refine d_gT (by exact rfl) (by exact rfl) (by exact rfl) ?_ | refine d_gF (by exact rfl) (by exact rfl) (by exact rfl) (by exact rfl) ?_ | refine d_gU (by exact rfl) (by exact rfl) (by exact rfl) (by constructor <;> simp) (by exact rfl) (by exact rfl) ?_ | (refine d_g0 (by exact rfl) (by exact rfl) (by exact rfl) (by (conv => {lhs; whnf}); done) ?_; (first | refine dg_TT ?_ | refine dg_FF ?_ | refine dg_TF ?_ | refine dg_FT ?_ | refine dg_PT ?_ ?_ | refine dg_PF ?_ ?_ | refine dg_BT ?_ ?_ | refine dg_BF ?_ ?_ | fail)) | (refine d_g1 (by exact rfl) (by exact rfl) (by exact rfl) (by exact rfl) (by (conv => {lhs; whnf}); done) ?_; (first | refine dg_TT ?_ | refine dg_FF ?_ | refine dg_TF ?_ | refine dg_FT ?_ | refine dg_PT ?_ ?_ | refine dg_PF ?_ ?_ | refine dg_BT ?_ ?_ | refine dg_BF ?_ ?_ | fail)) | refine d_c1 (by exact rfl) (by exact rfl) ?_ | fail))
    | (refine gateC ?_; (first | refine k_lt ?_ | refine k_fz ?_ | refine k_lb (by (conv => {lhs; whnf}); done) ?_ | refine k_ms ?_ | refine k_bx (by exact rfl) (by exact rfl) ?_ | refine k_ld (by (conv => {lhs; whnf}); done) (by exact rfl) ?_ | refine k_ldT (by (conv => {lhs; whnf}); done) ?_ | refine k_bin (by (conv => {lhs; whnf}); done) (by exact rfl) ?_ | refine k_mn ?_ | refine k_mnB (by exact rfl) ?_ | refine k_mnF ?_ | refine k_mnL (by exact rfl) ?_ | fail))
    | (refine gateT ?_; (first | refine b_thn ?_ | refine b_thr ?_ | refine b_the ?_ | fail))
    | (refine gateX ?_; (first | refine b_seq ?_ | refine b_region ?_ | (refine b_cond (by (conv => {lhs; whnf}); done) ?_; (first | refine c_T ?_ | refine c_F ?_ | refine c_P ?_ ?_ | refine c_B ?_ ?_ | fail)) | refine b_ret ?_ | refine b_skip ?_ | refine b_block ?_ | refine b_exit ?_ | refine b_draw (id := 21) [] [] [(0, .ld true), (2, .ld true), (3, .lt), (4, .ld true), (1, .mn true), (5, .mn true), (6, .lt), (7, .mn true), (8, .lt), (9, .lt)] (by kernel_rfl) ?_ | fail))
    | refine a_cons (by (conv => {lhs; whnf}); done) ?_
    | refine a_nil ?_
    | (refine gateK ?_; (first | refine c_call (awake16_c _) (OldOk.app (by simp)) ?_ | refine c_call (greatm_c _ _ l (aD_FL _ x l) off rows cols ld hI) (OldOk.app (by simp)) ?_ | refine c_call (goodref_c _ _ l.length off rows cols ld (aD_len x l) hI) (OldOk.app (by simp)) ?_ | fail))
    | (refine gateB ?_; (first | refine b_bln ?_ | refine b_blr ?_ | refine b_ble ?_ | refine b_blo (by exact rfl) ?_ | fail))
    | (refine gateL ?_; (first | refine lp_n ?_ | refine lp_r ?_ | refine lp_e ?_ | fail))
    | (refine pr_k (by exact rfl) ?_; first | exact hK | (exfalso; first | omega | (simp_all; done) | (simp_all; omega)))
    | (refine gateQ ?_; refine b_retK (by simp) (by (conv => {lhs; whnf}); done) ?_)
    | (refine gateR ?_; (first | refine rk_tmp (by (conv => {lhs; whnf}); done) ?_ | refine rk_cellA (by (conv => {lhs; whnf}); done) (by exact rfl) (by exact rfl) ?_ | refine rk_cell1 (by (conv => {lhs; whnf}); done) (by exact rfl) (by exact rfl) ?_ | refine rk_nil ?_ | fail))
    | intro _)
  all_goals first
    | (exfalso; contradiction)
    | (exfalso; omega)
    | (exfalso; simp_all; done)
    | (refine rv_old rfl (by simp [mx, mxL, resOne, aOf, aOf1]) ?_; exact rfl)

set_option maxHeartbeats 4000000 in
theorem lclose_f (H : List (List AV)) (x : Nat × Nat) (l : List Nat) (off ld : Int) (r c : Nat) (hI : MI l.length off r c ld) (hG : GoodP l.length off r c ld) (hf : ¬ (∀ k, k < (rmA (mel l off ld) r c).length → pK ((rmA (mel l off ld) r c).getD k 0) = 0)) :
    Spec Try.prog 8 [mt (aD x l) off (r : Int) (c : Int) ld] H (.bool true) H := by
  obtain ⟨hm, ho1, ho2, hr1, hr2, hc1, hc2, hl1, hl2⟩ := id hI
  refine (Spec.intro' (fn := Try.f8) Try.func8 rfl (by kernel_rfl) (by simp) false [] (draw := drawX Try.prog ⟨false, _, []⟩) dOk ?_)
  simp only [argE, Nat.reduceAdd]
  repeat' (first
    | (refine gateE ?_; (first | refine b_c0 ?_ | refine b_nil ?_ | refine b_gT (by exact rfl) (by exact rfl) ?_ | refine b_gF (by exact rfl) (by exact rfl) (by exact rfl) ?_ | refine b_gU (by exact rfl) (by exact rfl) (by constructor <;> simp) (by exact rfl) (by exact rfl) ?_ | (refine b_g0 (by exact rfl) (by exact rfl) (by (conv => {lhs; whnf}); done) ?_; (first | refine g_TT ?_ | refine g_FF ?_ | refine g_TF ?_ | refine g_FT ?_ | refine g_PT ?_ ?_ | refine g_PF ?_ ?_ | refine g_BT ?_ ?_ | refine g_BF ?_ ?_ | fail)) | (refine b_g1 (by exact rfl) (by exact rfl) (by exact rfl) (by (conv => {lhs; whnf}); done) ?_; (first | refine g_TT ?_ | refine g_FF ?_ | refine g_TF ?_ | refine g_FT ?_ | refine g_PT ?_ ?_ | refine g_PF ?_ ?_ | refine g_BT ?_ ?_ | refine g_BF ?_ ?_ | fail)) | refine b_c1 (by exact rfl) ?_ | fail))
    | (refine gateO ?_; (first | refine b_move (by (conv => {lhs; whnf}); done) ?_ | (refine b_fa (by (conv => {lhs; whnf}); done) ?_; first | refine f_loc (by (conv => {lhs; whnf}); done) ?_ | refine f_ptr (by (conv => {lhs; whnf}); done) ?_) | (refine b_load (by (conv => {lhs; whnf}); done) ?_; (first | refine l_loc1 (by exact rfl) (by exact rfl) ?_ | refine l_locA (by exact rfl) (by exact rfl) ?_ | fail)) | (refine b_binBn (by first | (conv => {lhs; whnf}; done) | exact (by exact rfl) | fail) (by first | (conv => {lhs; whnf}; done) | exact (by exact rfl) | fail) ?_; (first | refine v_bnF (by exact rfl) ?_ | refine v_bnT (by decide) ?_ | fail)) | (refine b_binB (by first | (conv => {lhs; whnf}; done) | exact (by exact rfl) | fail) (by first | (conv => {lhs; whnf}; done) | exact (by exact rfl) | fail) ?_; (first | refine v_bbT (by exact rfl) ?_ | refine v_k ?_ | fail)) | (refine b_bin (by (conv => {lhs; whnf}); done) (by (conv => {lhs; whnf}); done) (by (conv => {lhs; whnf}); done) ?_; (first | refine v_eT (by omega) ?_ | refine v_eF (by omega) ?_ | refine v_eP ?_ | refine v_neT (by omega) ?_ | refine v_neF (by omega) ?_ | refine v_neP ?_ | refine v_T (by omega) ?_ | refine v_F (by omega) ?_ | refine v_w (by omega) ?_ | refine v_wu (by omega) ?_ | refine v_nT ?_ | refine v_nF ?_ | refine v_nP ?_ | refine v_k ?_ | refine v_c (by omega) ?_ | fail)) | (refine b_pick (by (conv => {lhs; whnf}); done) ?_; (first | refine p_T (by (conv => {lhs; whnf}); done) ?_ | refine p_F (by (conv => {lhs; whnf}); done) ?_ | fail)) | refine b_assignF (by kernel_rfl) ?_ | refine b_assignI ?_ | refine b_assignN ?_ | refine b_assign (by (conv => {lhs; whnf}); done) ?_ | (refine b_un (by (conv => {lhs; whnf}); done) (by (conv => {lhs; whnf}); done) ?_; (first | refine v_eT (by omega) ?_ | refine v_eF (by omega) ?_ | refine v_eP ?_ | refine v_neT (by omega) ?_ | refine v_neF (by omega) ?_ | refine v_neP ?_ | refine v_T (by omega) ?_ | refine v_F (by omega) ?_ | refine v_w (by omega) ?_ | refine v_wu (by omega) ?_ | refine v_nT ?_ | refine v_nF ?_ | refine v_nP ?_ | refine v_k ?_ | refine v_c (by omega) ?_ | fail)) | refine b_callB ?_ | refine b_lenA (by (conv => {lhs; whnf}); done) (by first | rfl | assumption) ?_ | refine b_ext (by (conv => {lhs; whnf}); done) (by exact rfl) ?_ | refine b_stL (by (conv => {lhs; whnf}); done) (by (conv => {lhs; whnf}); done) (by first | exact (by exact rfl) | exact cells_of_len hF.len | fail) (by exact rfl) (by exact rfl) (by exact Nat.le_of_ble_eq_true rfl) (by (conv => {lhs; simp only [sc, List.set_cons_zero, List.set_cons_succ]}); done) ?_ | refine b_box (by (conv => {lhs; whnf}); done) (by exact rfl) (by exact rfl) (by exact rfl) (by exact rfl) ?_ | refine b_alloc (by exact rfl) (by exact rfl) ?_ | refine b_field (by (conv => {lhs; whnf}); done) (by exact rfl) (by exact rfl) (by exact rfl) ?_ | fail))
    | (refine gateD ?_; (first | refine d_c0 (by exact rfl) ?_ | refine d_nil ?_ | refine d_gT (by exact rfl) (by exact rfl) (by exact rfl) ?_ | refine d_gF (by exact rfl) (by exact rfl) (by exact rfl) (by exact rfl) ?_ | refine d_gU (by exact rfl) (by exact rfl) (by exact rfl) (by constructor <;> simp) (by exact rfl) (by exact rfl) ?_ | (refine d_g0 (by exact rfl) (by exact rfl) (by exact rfl) (by (conv => {lhs; whnf}); done) ?_; (first | refine dg_TT ?_ | refine dg_FF ?_ | refine dg_TF ?_ | refine dg_FT ?_ | refine dg_PT ?_ ?_ | refine dg_PF ?_ ?_ | refine dg_BT ?_ ?_ | refine dg_BF ?_ ?_ | fail)) | (refine d_g1 (by exact rfl) (by exact rfl) (by exact rfl) (by exact rfl) (by (conv => {lhs; whnf}); done) ?_; (first | refine dg_TT ?_ | refine dg_FF ?_ | refine dg_TF ?_ | refine dg_FT ?_ | refine dg_PT ?_ ?_ | refine dg_PF ?_ ?_ | refine dg_BT ?_ ?_ | refine dg_BF ?_ ?_ | fail)) | refine d_c1 (by exact rfl) (by exact rfl) ?_ | fail))
    | (refine gateC ?_; (first | refine k_lt ?_ | refine k_fz ?_ | refine k_lb (by (conv => {lhs; whnf}); done) ?_ | refine k_ms ?_ | refine k_bx (by exact rfl) (by exact rfl) ?_ | refine k_ld (by (conv => {lhs; whnf}); done) (by exact rfl) ?_ | refine k_ldT (by (conv => {lhs; whnf}); done) ?_ | refine k_bin (by (conv => {lhs; whnf}); done) (by exact rfl) ?_ | refine k_mn ?_ | refine k_mnB (by exact rfl) ?_ | refine k_mnF ?_ | refine k_mnL (by exact rfl) ?_ | fail))
    | (refine gateT ?_; (first | refine b_thn ?_ | refine b_thr ?_ | refine b_the ?_ | fail))
    | (refine gateX ?_; (first | refine b_seq ?_ | refine b_region ?_ | (refine b_cond (by (conv => {lhs; whnf}); done) ?_; (first | refine c_T ?_ | refine c_F ?_ | refine c_P ?_ ?_ | refine c_B ?_ ?_ | fail)) | refine b_ret ?_ | refine b_skip ?_ | refine b_block ?_ | refine b_exit ?_ | refine b_draw (id := 21) [] [] [(0, .ld true), (2, .ld true), (3, .lt), (4, .ld true), (1, .mn true), (5, .mn true), (6, .lt), (7, .mn true), (8, .lt), (9, .lt)] (by kernel_rfl) ?_ | fail))
    | refine a_cons (by (conv => {lhs; whnf}); done) ?_
    | refine a_nil ?_
    | (refine gateK ?_; (first | refine c_call (awake16_c _) (OldOk.app (by simp)) ?_ | refine c_call (greatm_c _ _ l (aD_FL _ x l) off (r : Int) (c : Int) ld hI) (OldOk.app (by simp)) ?_ | refine c_call (goodref_c _ _ l.length off (r : Int) (c : Int) ld (aD_len x l) hI) (OldOk.app (by simp)) ?_ | refine c_call (of_rc _ _ l (aD_FL _ x l) off ld r c hI hG (by omega) (by omega)) (OldOk.app (by simp)) ?_ | refine c_call (finite_f _ _ (rmA (mel l off ld) r c) (FL.fzn _ _ _ (by simp)) (by have hq := Nat.mul_le_mul (show r ≤ 20 by omega) (show c ≤ 20 by omega); simp; omega) hf) (OldOk.app (by simp)) ?_ | fail))
    | (refine gateB ?_; (first | refine b_bln ?_ | refine b_blr ?_ | refine b_ble ?_ | refine b_blo (by exact rfl) ?_ | fail))
    | (refine gateL ?_; (first | refine lp_n ?_ | refine lp_r ?_ | refine lp_e ?_ | fail))
    | (refine pr_k (by exact rfl) ?_; first | exact hK | (exfalso; first | omega | (simp_all; done) | (simp_all; omega)))
    | (refine gateQ ?_; refine b_retK (by simp) (by (conv => {lhs; whnf}); done) ?_)
    | (refine gateR ?_; (first | refine rk_tmp (by (conv => {lhs; whnf}); done) ?_ | refine rk_cellA (by (conv => {lhs; whnf}); done) (by exact rfl) (by exact rfl) ?_ | refine rk_cell1 (by (conv => {lhs; whnf}); done) (by exact rfl) (by exact rfl) ?_ | refine rk_nil ?_ | fail))
    | intro _)
  all_goals first
    | (exfalso; contradiction)
    | (exfalso; omega)
    | (exfalso; simp_all; done)
    | (refine rv_old rfl (by simp [mx, mxL, resOne, aOf, aOf1]) ?_; exact rfl)

set_option maxHeartbeats 4000000 in
theorem lclose_q (H : List (List AV)) (x : Nat × Nat) (l : List Nat) (off ld : Int) (r c : Nat) (hI : MI l.length off r c ld) (hG : GoodP l.length off r c ld) (hf : (∀ k, k < (rmA (mel l off ld) r c).length → pK ((rmA (mel l off ld) r c).getD k 0) = 0)) (hne : (r : Int) ≠ (c : Int)) :
    Spec Try.prog 8 [mt (aD x l) off (r : Int) (c : Int) ld] H (.bool true) H := by
  obtain ⟨hm, ho1, ho2, hr1, hr2, hc1, hc2, hl1, hl2⟩ := id hI
  refine (Spec.intro' (fn := Try.f8) Try.func8 rfl (by kernel_rfl) (by simp) false [] (draw := drawX Try.prog ⟨false, _, []⟩) dOk ?_)
  simp only [argE, Nat.reduceAdd]
  repeat' (first
    | (refine gateE ?_; (first | refine b_c0 ?_ | refine b_nil ?_ | refine b_gT (by exact rfl) (by exact rfl) ?_ | refine b_gF (by exact rfl) (by exact rfl) (by exact rfl) ?_ | refine b_gU (by exact rfl) (by exact rfl) (by constructor <;> simp) (by exact rfl) (by exact rfl) ?_ | (refine b_g0 (by exact rfl) (by exact rfl) (by (conv => {lhs; whnf}); done) ?_; (first | refine g_TT ?_ | refine g_FF ?_ | refine g_TF ?_ | refine g_FT ?_ | refine g_PT ?_ ?_ | refine g_PF ?_ ?_ | refine g_BT ?_ ?_ | refine g_BF ?_ ?_ | fail)) | (refine b_g1 (by exact rfl) (by exact rfl) (by exact rfl) (by (conv => {lhs; whnf}); done) ?_; (first | refine g_TT ?_ | refine g_FF ?_ | refine g_TF ?_ | refine g_FT ?_ | refine g_PT ?_ ?_ | refine g_PF ?_ ?_ | refine g_BT ?_ ?_ | refine g_BF ?_ ?_ | fail)) | refine b_c1 (by exact rfl) ?_ | fail))
    | (refine gateO ?_; (first | refine b_move (by (conv => {lhs; whnf}); done) ?_ | (refine b_fa (by (conv => {lhs; whnf}); done) ?_; first | refine f_loc (by (conv => {lhs; whnf}); done) ?_ | refine f_ptr (by (conv => {lhs; whnf}); done) ?_) | (refine b_load (by (conv => {lhs; whnf}); done) ?_; (first | refine l_loc1 (by exact rfl) (by exact rfl) ?_ | refine l_locA (by exact rfl) (by exact rfl) ?_ | fail)) | (refine b_binBn (by first | (conv => {lhs; whnf}; done) | exact (by exact rfl) | fail) (by first | (conv => {lhs; whnf}; done) | exact (by exact rfl) | fail) ?_; (first | refine v_bnF (by exact rfl) ?_ | refine v_bnT (by decide) ?_ | fail)) | (refine b_binB (by first | (conv => {lhs; whnf}; done) | exact (by exact rfl) | fail) (by first | (conv => {lhs; whnf}; done) | exact (by exact rfl) | fail) ?_; (first | refine v_bbT (by exact rfl) ?_ | refine v_k ?_ | fail)) | (refine b_bin (by (conv => {lhs; whnf}); done) (by (conv => {lhs; whnf}); done) (by (conv => {lhs; whnf}); done) ?_; (first | refine v_eT (by omega) ?_ | refine v_eF (by omega) ?_ | refine v_eP ?_ | refine v_neT (by omega) ?_ | refine v_neF (by omega) ?_ | refine v_neP ?_ | refine v_T (by omega) ?_ | refine v_F (by omega) ?_ | refine v_w (by omega) ?_ | refine v_wu (by omega) ?_ | refine v_nT ?_ | refine v_nF ?_ | refine v_nP ?_ | refine v_k ?_ | refine v_c (by omega) ?_ | fail)) | (refine b_pick (by (conv => {lhs; whnf}); done) ?_; (first | refine p_T (by (conv => {lhs; whnf}); done) ?_ | refine p_F (by (conv => {lhs; whnf}); done) ?_ | fail)) | refine b_assignF (by kernel_rfl) ?_ | refine b_assignI ?_ | refine b_assignN ?_ | refine b_assign (by (conv => {lhs; whnf}); done) ?_ | (refine b_un (by (conv => {lhs; whnf}); done) (by (conv => {lhs; whnf}); done) ?_; (first | refine v_eT (by omega) ?_ | refine v_eF (by omega) ?_ | refine v_eP ?_ | refine v_neT (by omega) ?_ | refine v_neF (by omega) ?_ | refine v_neP ?_ | refine v_T (by omega) ?_ | refine v_F (by omega) ?_ | refine v_w (by omega) ?_ | refine v_wu (by omega) ?_ | refine v_nT ?_ | refine v_nF ?_ | refine v_nP ?_ | refine v_k ?_ | refine v_c (by omega) ?_ | fail)) | refine b_callB ?_ | refine b_lenA (by (conv => {lhs; whnf}); done) (by first | rfl | assumption) ?_ | refine b_ext (by (conv => {lhs; whnf}); done) (by exact rfl) ?_ | refine b_stL (by (conv => {lhs; whnf}); done) (by (conv => {lhs; whnf}); done) (by first | exact (by exact rfl) | exact cells_of_len hF.len | fail) (by exact rfl) (by exact rfl) (by exact Nat.le_of_ble_eq_true rfl) (by (conv => {lhs; simp only [sc, List.set_cons_zero, List.set_cons_succ]}); done) ?_ | refine b_box (by (conv => {lhs; whnf}); done) (by exact rfl) (by exact rfl) (by exact rfl) (by exact rfl) ?_ | refine b_alloc (by exact rfl) (by exact rfl) ?_ | refine b_field (by (conv => {lhs; whnf}); done) (by exact rfl) (by exact rfl) (by exact rfl) ?_ | fail))
    | (refine gateD ?_; (first | refine d_c0 (by exact rfl) ?_ | refine d_nil ?_ | refine d_gT (by exact rfl) (by exact rfl) (by exact rfl) ?_ | refine d_gF (by exact rfl) (by exact rfl) (by exact rfl) (by exact rfl) ?_ | refine d_gU (by exact rfl) (by exact rfl) (by exact rfl) (by constructor <;> simp) (by exact rfl) (by exact rfl) ?_ | (refine d_g0 (by exact rfl) (by exact rfl) (by exact rfl) (by (conv => {lhs; whnf}); done) ?_; (first | refine dg_TT ?_ | refine dg_FF ?_ | refine dg_TF ?_ | refine dg_FT ?_ | refine dg_PT ?_ ?_ | refine dg_PF ?_ ?_ | refine dg_BT ?_ ?_ | refine dg_BF ?_ ?_ | fail)) | (refine d_g1 (by exact rfl) (by exact rfl) (by exact rfl) (by exact rfl) (by (conv => {lhs; whnf}); done) ?_; (first | refine dg_TT ?_ | refine dg_FF ?_ | refine dg_TF ?_ | refine dg_FT ?_ | refine dg_PT ?_ ?_ | refine dg_PF ?_ ?_ | refine dg_BT ?_ ?_ | refine dg_BF ?_ ?_ | fail)) | refine d_c1 (by exact rfl) (by exact rfl) ?_ | fail))
    | (refine gateC ?_; (first | refine k_lt ?_ | refine k_fz ?_ | refine k_lb (by (conv => {lhs; whnf}); done) ?_ | refine k_ms ?_ | refine k_bx (by exact rfl) (by exact rfl) ?_ | refine k_ld (by (conv => {lhs; whnf}); done) (by exact rfl) ?_ | refine k_ldT (by (conv => {lhs; whnf}); done) ?_ | refine k_bin (by (conv => {lhs; whnf}); done) (by exact rfl) ?_ | refine k_mn ?_ | refine k_mnB (by exact rfl) ?_ | refine k_mnF ?_ | refine k_mnL (by exact rfl) ?_ | fail))
    | (refine gateT ?_; (first | refine b_thn ?_ | refine b_thr ?_ | refine b_the ?_ | fail))
    | (refine gateX ?_; (first | refine b_seq ?_ | refine b_region ?_ | (refine b_cond (by (conv => {lhs; whnf}); done) ?_; (first | refine c_T ?_ | refine c_F ?_ | refine c_P ?_ ?_ | refine c_B ?_ ?_ | fail)) | refine b_ret ?_ | refine b_skip ?_ | refine b_block ?_ | refine b_exit ?_ | refine b_draw (id := 21) [] [] [(0, .ld true), (2, .ld true), (3, .lt), (4, .ld true), (1, .mn true), (5, .mn true), (6, .lt), (7, .mn true), (8, .lt), (9, .lt)] (by kernel_rfl) ?_ | fail))
    | refine a_cons (by (conv => {lhs; whnf}); done) ?_
    | refine a_nil ?_
    | (refine gateK ?_; (first | refine c_call (awake16_c _) (OldOk.app (by simp)) ?_ | refine c_call (greatm_c _ _ l (aD_FL _ x l) off (r : Int) (c : Int) ld hI) (OldOk.app (by simp)) ?_ | refine c_call (goodref_c _ _ l.length off (r : Int) (c : Int) ld (aD_len x l) hI) (OldOk.app (by simp)) ?_ | refine c_call (of_rc _ _ l (aD_FL _ x l) off ld r c hI hG (by omega) (by omega)) (OldOk.app (by simp)) ?_ | refine c_call (finite_t _ _ (rmA (mel l off ld) r c) (FL.fzn _ _ _ (by simp)) (by have hq := Nat.mul_le_mul (show r ≤ 20 by omega) (show c ≤ 20 by omega); simp; omega) hf) (OldOk.app (by simp)) ?_ | refine c_call (fac_q _ _ l (aD_FL _ x l) off r c ld hI hG hne) (OldOk.app (by simp)) ?_ | fail))
    | (refine gateB ?_; (first | refine b_bln ?_ | refine b_blr ?_ | refine b_ble ?_ | refine b_blo (by exact rfl) ?_ | fail))
    | (refine gateL ?_; (first | refine lp_n ?_ | refine lp_r ?_ | refine lp_e ?_ | fail))
    | (refine pr_k (by exact rfl) ?_; first | exact hK | (exfalso; first | omega | (simp_all; done) | (simp_all; omega)))
    | (refine gateQ ?_; refine b_retK (by simp) (by (conv => {lhs; whnf}); done) ?_)
    | (refine gateR ?_; (first | refine rk_tmp (by (conv => {lhs; whnf}); done) ?_ | refine rk_cellA (by (conv => {lhs; whnf}); done) (by exact rfl) (by exact rfl) ?_ | refine rk_cell1 (by (conv => {lhs; whnf}); done) (by exact rfl) (by exact rfl) ?_ | refine rk_nil ?_ | fail))
    | intro _)
  all_goals first
    | (exfalso; contradiction)
    | (exfalso; omega)
    | (exfalso; simp_all; done)
    | (refine rv_old rfl (by simp [mx, mxL, resOne, aOf, aOf1]) ?_; exact rfl)

set_option maxHeartbeats 4000000 in
theorem lclose_s (H : List (List AV)) (x : Nat × Nat) (l : List Nat) (off ld : Int) (n : Nat) (hI : MI l.length off n n ld) (hG : GoodP l.length off n n ld) (hf : (∀ k, k < (rmA (mel l off ld) n n).length → pK ((rmA (mel l off ld) n n).getD k 0) = 0)) (hN : fN (mel l off ld) n < n) :
    Spec Try.prog 8 [mt (aD x l) off (n : Int) (n : Int) ld] H (.bool true) H := by
  obtain ⟨hm, ho1, ho2, hr1, hr2, hc1, hc2, hl1, hl2⟩ := id hI
  refine (Spec.intro' (fn := Try.f8) Try.func8 rfl (by kernel_rfl) (by simp) false [] (draw := drawX Try.prog ⟨false, _, []⟩) dOk ?_)
  simp only [argE, Nat.reduceAdd]
  repeat' (first
    | (refine gateE ?_; (first | refine b_c0 ?_ | refine b_nil ?_ | refine b_gT (by exact rfl) (by exact rfl) ?_ | refine b_gF (by exact rfl) (by exact rfl) (by exact rfl) ?_ | refine b_gU (by exact rfl) (by exact rfl) (by constructor <;> simp) (by exact rfl) (by exact rfl) ?_ | (refine b_g0 (by exact rfl) (by exact rfl) (by (conv => {lhs; whnf}); done) ?_; (first | refine g_TT ?_ | refine g_FF ?_ | refine g_TF ?_ | refine g_FT ?_ | refine g_PT ?_ ?_ | refine g_PF ?_ ?_ | refine g_BT ?_ ?_ | refine g_BF ?_ ?_ | fail)) | (refine b_g1 (by exact rfl) (by exact rfl) (by exact rfl) (by (conv => {lhs; whnf}); done) ?_; (first | refine g_TT ?_ | refine g_FF ?_ | refine g_TF ?_ | refine g_FT ?_ | refine g_PT ?_ ?_ | refine g_PF ?_ ?_ | refine g_BT ?_ ?_ | refine g_BF ?_ ?_ | fail)) | refine b_c1 (by exact rfl) ?_ | fail))
    | (refine gateO ?_; (first | refine b_move (by (conv => {lhs; whnf}); done) ?_ | (refine b_fa (by (conv => {lhs; whnf}); done) ?_; first | refine f_loc (by (conv => {lhs; whnf}); done) ?_ | refine f_ptr (by (conv => {lhs; whnf}); done) ?_) | (refine b_load (by (conv => {lhs; whnf}); done) ?_; (first | refine l_loc1 (by exact rfl) (by exact rfl) ?_ | refine l_locA (by exact rfl) (by exact rfl) ?_ | fail)) | (refine b_binBn (by first | (conv => {lhs; whnf}; done) | exact (by exact rfl) | fail) (by first | (conv => {lhs; whnf}; done) | exact (by exact rfl) | fail) ?_; (first | refine v_bnF (by exact rfl) ?_ | refine v_bnT (by decide) ?_ | fail)) | (refine b_binB (by first | (conv => {lhs; whnf}; done) | exact (by exact rfl) | fail) (by first | (conv => {lhs; whnf}; done) | exact (by exact rfl) | fail) ?_; (first | refine v_bbT (by exact rfl) ?_ | refine v_k ?_ | fail)) | (refine b_bin (by (conv => {lhs; whnf}); done) (by (conv => {lhs; whnf}); done) (by (conv => {lhs; whnf}); done) ?_; (first | refine v_eT (by omega) ?_ | refine v_eF (by omega) ?_ | refine v_eP ?_ | refine v_neT (by omega) ?_ | refine v_neF (by omega) ?_ | refine v_neP ?_ | refine v_T (by omega) ?_ | refine v_F (by omega) ?_ | refine v_w (by omega) ?_ | refine v_wu (by omega) ?_ | refine v_nT ?_ | refine v_nF ?_ | refine v_nP ?_ | refine v_k ?_ | refine v_c (by omega) ?_ | fail)) | (refine b_pick (by (conv => {lhs; whnf}); done) ?_; (first | refine p_T (by (conv => {lhs; whnf}); done) ?_ | refine p_F (by (conv => {lhs; whnf}); done) ?_ | fail)) | refine b_assignF (by kernel_rfl) ?_ | refine b_assignI ?_ | refine b_assignN ?_ | refine b_assign (by (conv => {lhs; whnf}); done) ?_ | (refine b_un (by (conv => {lhs; whnf}); done) (by (conv => {lhs; whnf}); done) ?_; (first | refine v_eT (by omega) ?_ | refine v_eF (by omega) ?_ | refine v_eP ?_ | refine v_neT (by omega) ?_ | refine v_neF (by omega) ?_ | refine v_neP ?_ | refine v_T (by omega) ?_ | refine v_F (by omega) ?_ | refine v_w (by omega) ?_ | refine v_wu (by omega) ?_ | refine v_nT ?_ | refine v_nF ?_ | refine v_nP ?_ | refine v_k ?_ | refine v_c (by omega) ?_ | fail)) | refine b_callB ?_ | refine b_lenA (by (conv => {lhs; whnf}); done) (by first | rfl | assumption) ?_ | refine b_ext (by (conv => {lhs; whnf}); done) (by exact rfl) ?_ | refine b_stL (by (conv => {lhs; whnf}); done) (by (conv => {lhs; whnf}); done) (by first | exact (by exact rfl) | exact cells_of_len hF.len | fail) (by exact rfl) (by exact rfl) (by exact Nat.le_of_ble_eq_true rfl) (by (conv => {lhs; simp only [sc, List.set_cons_zero, List.set_cons_succ]}); done) ?_ | refine b_box (by (conv => {lhs; whnf}); done) (by exact rfl) (by exact rfl) (by exact rfl) (by exact rfl) ?_ | refine b_alloc (by exact rfl) (by exact rfl) ?_ | refine b_field (by (conv => {lhs; whnf}); done) (by exact rfl) (by exact rfl) (by exact rfl) ?_ | fail))
    | (refine gateD ?_; (first | refine d_c0 (by exact rfl) ?_ | refine d_nil ?_ | refine d_gT (by exact rfl) (by exact rfl) (by exact rfl) ?_ | refine d_gF (by exact rfl) (by exact rfl) (by exact rfl) (by exact rfl) ?_ | refine d_gU (by exact rfl) (by exact rfl) (by exact rfl) (by constructor <;> simp) (by exact rfl) (by exact rfl) ?_ | (refine d_g0 (by exact rfl) (by exact rfl) (by exact rfl) (by (conv => {lhs; whnf}); done) ?_; (first | refine dg_TT ?_ | refine dg_FF ?_ | refine dg_TF ?_ | refine dg_FT ?_ | refine dg_PT ?_ ?_ | refine dg_PF ?_ ?_ | refine dg_BT ?_ ?_ | refine dg_BF ?_ ?_ | fail)) | (refine d_g1 (by exact rfl) (by exact rfl) (by exact rfl) (by exact rfl) (by (conv => {lhs; whnf}); done) ?_; (first | refine dg_TT ?_ | refine dg_FF ?_ | refine dg_TF ?_ | refine dg_FT ?_ | refine dg_PT ?_ ?_ | refine dg_PF ?_ ?_ | refine dg_BT ?_ ?_ | refine dg_BF ?_ ?_ | fail)) | refine d_c1 (by exact rfl) (by exact rfl) ?_ | fail))
    | (refine gateC ?_; (first | refine k_lt ?_ | refine k_fz ?_ | refine k_lb (by (conv => {lhs; whnf}); done) ?_ | refine k_ms ?_ | refine k_bx (by exact rfl) (by exact rfl) ?_ | refine k_ld (by (conv => {lhs; whnf}); done) (by exact rfl) ?_ | refine k_ldT (by (conv => {lhs; whnf}); done) ?_ | refine k_bin (by (conv => {lhs; whnf}); done) (by exact rfl) ?_ | refine k_mn ?_ | refine k_mnB (by exact rfl) ?_ | refine k_mnF ?_ | refine k_mnL (by exact rfl) ?_ | fail))
    | (refine gateT ?_; (first | refine b_thn ?_ | refine b_thr ?_ | refine b_the ?_ | fail))
    | (refine gateX ?_; (first | refine b_seq ?_ | refine b_region ?_ | (refine b_cond (by (conv => {lhs; whnf}); done) ?_; (first | refine c_T ?_ | refine c_F ?_ | refine c_P ?_ ?_ | refine c_B ?_ ?_ | fail)) | refine b_ret ?_ | refine b_skip ?_ | refine b_block ?_ | refine b_exit ?_ | refine b_draw (id := 21) [] [] [(0, .ld true), (2, .ld true), (3, .lt), (4, .ld true), (1, .mn true), (5, .mn true), (6, .lt), (7, .mn true), (8, .lt), (9, .lt)] (by kernel_rfl) ?_ | fail))
    | refine a_cons (by (conv => {lhs; whnf}); done) ?_
    | refine a_nil ?_
    | (refine gateK ?_; (first | refine c_call (awake16_c _) (OldOk.app (by simp)) ?_ | refine c_call (greatm_c _ _ l (aD_FL _ x l) off (n : Int) (n : Int) ld hI) (OldOk.app (by simp)) ?_ | refine c_call (goodref_c _ _ l.length off (n : Int) (n : Int) ld (aD_len x l) hI) (OldOk.app (by simp)) ?_ | refine c_call (of_n _ _ l (aD_FL _ x l) off ld n hI hG (by omega)) (OldOk.app (by simp)) ?_ | refine c_call (finite_t _ _ (rmA (mel l off ld) n n) (FL.fzn _ _ _ (by simp)) (by have hq := Nat.mul_le_mul (show n ≤ 20 by omega) (show n ≤ 20 by omega); simp; omega) hf) (OldOk.app (by simp)) ?_ | refine c_call (fac_s _ _ l (aD_FL _ x l) off ld n hI hG (by omega) _ (by exact rfl) hN) (OldOk.app (by simp)) ?_ | fail))
    | (refine gateB ?_; (first | refine b_bln ?_ | refine b_blr ?_ | refine b_ble ?_ | refine b_blo (by exact rfl) ?_ | fail))
    | (refine gateL ?_; (first | refine lp_n ?_ | refine lp_r ?_ | refine lp_e ?_ | fail))
    | (refine pr_k (by exact rfl) ?_; first | exact hK | (exfalso; first | omega | (simp_all; done) | (simp_all; omega)))
    | (refine gateQ ?_; refine b_retK (by simp) (by (conv => {lhs; whnf}); done) ?_)
    | (refine gateR ?_; (first | refine rk_tmp (by (conv => {lhs; whnf}); done) ?_ | refine rk_cellA (by (conv => {lhs; whnf}); done) (by exact rfl) (by exact rfl) ?_ | refine rk_cell1 (by (conv => {lhs; whnf}); done) (by exact rfl) (by exact rfl) ?_ | refine rk_nil ?_ | fail))
    | intro _)
  all_goals first
    | (exfalso; contradiction)
    | (exfalso; omega)
    | (exfalso; simp_all; done)
    | (refine rv_old rfl (by simp [mx, mxL, resOne, aOf, aOf1]) ?_; exact rfl)

set_option maxHeartbeats 4000000 in
theorem lclose_y (H : List (List AV)) (x : Nat × Nat) (l : List Nat) (off ld : Int) (n : Nat) (hI : MI l.length off n n ld) (hG : GoodP l.length off n n ld) (hf : (∀ k, k < (rmA (mel l off ld) n n).length → pK ((rmA (mel l off ld) n n).getD k 0) = 0)) (hN : fN (mel l off ld) n = n) (hx : ¬ (∀ k, k < (rmA (stG (mel l off ld) n n) n n).length → pK ((rmA (stG (mel l off ld) n n) n n).getD k 0) = 0)) :
    Spec Try.prog 8 [mt (aD x l) off (n : Int) (n : Int) ld] H (.bool true) H := by
  obtain ⟨hm, ho1, ho2, hr1, hr2, hc1, hc2, hl1, hl2⟩ := id hI
  refine (Spec.intro' (fn := Try.f8) Try.func8 rfl (by kernel_rfl) (by simp) false [] (draw := drawX Try.prog ⟨false, _, []⟩) dOk ?_)
  simp only [argE, Nat.reduceAdd]
  repeat' (first
    | (refine gateE ?_; (first | refine b_c0 ?_ | refine b_nil ?_ | refine b_gT (by exact rfl) (by exact rfl) ?_ | refine b_gF (by exact rfl) (by exact rfl) (by exact rfl) ?_ | refine b_gU (by exact rfl) (by exact rfl) (by constructor <;> simp) (by exact rfl) (by exact rfl) ?_ | (refine b_g0 (by exact rfl) (by exact rfl) (by (conv => {lhs; whnf}); done) ?_; (first | refine g_TT ?_ | refine g_FF ?_ | refine g_TF ?_ | refine g_FT ?_ | refine g_PT ?_ ?_ | refine g_PF ?_ ?_ | refine g_BT ?_ ?_ | refine g_BF ?_ ?_ | fail)) | (refine b_g1 (by exact rfl) (by exact rfl) (by exact rfl) (by (conv => {lhs; whnf}); done) ?_; (first | refine g_TT ?_ | refine g_FF ?_ | refine g_TF ?_ | refine g_FT ?_ | refine g_PT ?_ ?_ | refine g_PF ?_ ?_ | refine g_BT ?_ ?_ | refine g_BF ?_ ?_ | fail)) | refine b_c1 (by exact rfl) ?_ | fail))
    | (refine gateO ?_; (first | refine b_move (by (conv => {lhs; whnf}); done) ?_ | (refine b_fa (by (conv => {lhs; whnf}); done) ?_; first | refine f_loc (by (conv => {lhs; whnf}); done) ?_ | refine f_ptr (by (conv => {lhs; whnf}); done) ?_) | (refine b_load (by (conv => {lhs; whnf}); done) ?_; (first | refine l_loc1 (by exact rfl) (by exact rfl) ?_ | refine l_locA (by exact rfl) (by exact rfl) ?_ | fail)) | (refine b_binBn (by first | (conv => {lhs; whnf}; done) | exact (by exact rfl) | fail) (by first | (conv => {lhs; whnf}; done) | exact (by exact rfl) | fail) ?_; (first | refine v_bnF (by exact rfl) ?_ | refine v_bnT (by decide) ?_ | fail)) | refine b_lenA (by (conv => {lhs; whnf}); done) (by exact (IL.fzn [] (pvL (mel l off ld) n n) n (by simp)).len) ?_ | (refine b_binB (by first | (conv => {lhs; whnf}; done) | exact (by exact rfl) | fail) (by first | (conv => {lhs; whnf}; done) | exact (by exact rfl) | fail) ?_; (first | refine v_bbT (by exact rfl) ?_ | refine v_k ?_ | fail)) | (refine b_bin (by (conv => {lhs; whnf}); done) (by (conv => {lhs; whnf}); done) (by (conv => {lhs; whnf}); done) ?_; (first | refine v_eT (by omega) ?_ | refine v_eF (by omega) ?_ | refine v_eP ?_ | refine v_neT (by omega) ?_ | refine v_neF (by omega) ?_ | refine v_neP ?_ | refine v_T (by omega) ?_ | refine v_F (by omega) ?_ | refine v_w (by omega) ?_ | refine v_wu (by omega) ?_ | refine v_nT ?_ | refine v_nF ?_ | refine v_nP ?_ | refine v_k ?_ | refine v_c (by omega) ?_ | fail)) | (refine b_pick (by (conv => {lhs; whnf}); done) ?_; (first | refine p_T (by (conv => {lhs; whnf}); done) ?_ | refine p_F (by (conv => {lhs; whnf}); done) ?_ | fail)) | refine b_assignF (by kernel_rfl) ?_ | refine b_assignI ?_ | refine b_assignN ?_ | refine b_assign (by (conv => {lhs; whnf}); done) ?_ | (refine b_un (by (conv => {lhs; whnf}); done) (by (conv => {lhs; whnf}); done) ?_; (first | refine v_eT (by omega) ?_ | refine v_eF (by omega) ?_ | refine v_eP ?_ | refine v_neT (by omega) ?_ | refine v_neF (by omega) ?_ | refine v_neP ?_ | refine v_T (by omega) ?_ | refine v_F (by omega) ?_ | refine v_w (by omega) ?_ | refine v_wu (by omega) ?_ | refine v_nT ?_ | refine v_nF ?_ | refine v_nP ?_ | refine v_k ?_ | refine v_c (by omega) ?_ | fail)) | refine b_callB ?_ | refine b_lenA (by (conv => {lhs; whnf}); done) (by first | rfl | assumption) ?_ | refine b_ext (by (conv => {lhs; whnf}); done) (by exact rfl) ?_ | refine b_stL (by (conv => {lhs; whnf}); done) (by (conv => {lhs; whnf}); done) (by first | exact (by exact rfl) | exact cells_of_len hF.len | fail) (by exact rfl) (by exact rfl) (by exact Nat.le_of_ble_eq_true rfl) (by (conv => {lhs; simp only [sc, List.set_cons_zero, List.set_cons_succ]}); done) ?_ | refine b_box (by (conv => {lhs; whnf}); done) (by exact rfl) (by exact rfl) (by exact rfl) (by exact rfl) ?_ | refine b_alloc (by exact rfl) (by exact rfl) ?_ | refine b_field (by (conv => {lhs; whnf}); done) (by exact rfl) (by exact rfl) (by exact rfl) ?_ | fail))
    | (refine gateD ?_; (first | refine d_c0 (by exact rfl) ?_ | refine d_nil ?_ | refine d_gT (by exact rfl) (by exact rfl) (by exact rfl) ?_ | refine d_gF (by exact rfl) (by exact rfl) (by exact rfl) (by exact rfl) ?_ | refine d_gU (by exact rfl) (by exact rfl) (by exact rfl) (by constructor <;> simp) (by exact rfl) (by exact rfl) ?_ | (refine d_g0 (by exact rfl) (by exact rfl) (by exact rfl) (by (conv => {lhs; whnf}); done) ?_; (first | refine dg_TT ?_ | refine dg_FF ?_ | refine dg_TF ?_ | refine dg_FT ?_ | refine dg_PT ?_ ?_ | refine dg_PF ?_ ?_ | refine dg_BT ?_ ?_ | refine dg_BF ?_ ?_ | fail)) | (refine d_g1 (by exact rfl) (by exact rfl) (by exact rfl) (by exact rfl) (by (conv => {lhs; whnf}); done) ?_; (first | refine dg_TT ?_ | refine dg_FF ?_ | refine dg_TF ?_ | refine dg_FT ?_ | refine dg_PT ?_ ?_ | refine dg_PF ?_ ?_ | refine dg_BT ?_ ?_ | refine dg_BF ?_ ?_ | fail)) | refine d_c1 (by exact rfl) (by exact rfl) ?_ | fail))
    | (refine gateC ?_; (first | refine k_lt ?_ | refine k_fz ?_ | refine k_lb (by (conv => {lhs; whnf}); done) ?_ | refine k_ms ?_ | refine k_bx (by exact rfl) (by exact rfl) ?_ | refine k_ld (by (conv => {lhs; whnf}); done) (by exact rfl) ?_ | refine k_ldT (by (conv => {lhs; whnf}); done) ?_ | refine k_bin (by (conv => {lhs; whnf}); done) (by exact rfl) ?_ | refine k_mn ?_ | refine k_mnB (by exact rfl) ?_ | refine k_mnF ?_ | refine k_mnL (by exact rfl) ?_ | fail))
    | (refine gateT ?_; (first | refine b_thn ?_ | refine b_thr ?_ | refine b_the ?_ | fail))
    | (refine gateX ?_; (first | refine b_seq ?_ | refine b_region ?_ | (refine b_cond (by (conv => {lhs; whnf}); done) ?_; (first | refine c_T ?_ | refine c_F ?_ | refine c_P ?_ ?_ | refine c_B ?_ ?_ | fail)) | refine b_ret ?_ | refine b_skip ?_ | refine b_block ?_ | refine b_exit ?_ | refine b_draw (id := 21) [] [] [(0, .ld true), (2, .ld true), (3, .lt), (4, .ld true), (1, .mn true), (5, .mn true), (6, .lt), (7, .mn true), (8, .lt), (9, .lt)] (by kernel_rfl) ?_ | fail))
    | refine a_cons (by (conv => {lhs; whnf}); done) ?_
    | refine a_nil ?_
    | (refine gateK ?_; (first | refine c_call (awake16_c _) (OldOk.app (by simp)) ?_ | refine c_call (greatm_c _ _ l (aD_FL _ x l) off (n : Int) (n : Int) ld hI) (OldOk.app (by simp)) ?_ | refine c_call (goodref_c _ _ l.length off (n : Int) (n : Int) ld (aD_len x l) hI) (OldOk.app (by simp)) ?_ | refine c_call (of_n _ _ l (aD_FL _ x l) off ld n hI hG (by omega)) (OldOk.app (by simp)) ?_ | refine c_call (finite_t _ _ (rmA (mel l off ld) n n) (FL.fzn _ _ _ (by simp)) (by have hq := Nat.mul_le_mul (show n ≤ 20 by omega) (show n ≤ 20 by omega); simp; omega) hf) (OldOk.app (by simp)) ?_ | refine c_call (fac_n _ _ l (aD_FL _ x l) off ld n hI hG (by omega) _ (by exact rfl) hN) (OldOk.app (by simp)) ?_ | refine c_call (gr_n _ (stG (mel l off ld) n n) n (by omega)) (OldOk.app (by simp)) ?_ | refine c_call (lu_of _ (stG (mel l off ld) n n) n (by omega)) (OldOk.app (by simp)) ?_ | refine c_call (piv_t _ _ (pvL (mel l off ld) n n) (IL.fzn _ _ _ (by simp)) (by simp; omega) (pvL_piv _ n)) (OldOk.app (by simp)) ?_ | refine c_call (finite_f _ _ (rmA (stG (mel l off ld) n n) n n) (FL.fzn _ _ _ (by simp)) (by have hq := Nat.mul_le_mul (show n ≤ 20 by omega) (show n ≤ 20 by omega); simp; omega) hx) (OldOk.app (by simp)) ?_ | fail))
    | (refine gateB ?_; (first | refine b_bln ?_ | refine b_blr ?_ | refine b_ble ?_ | refine b_blo (by exact rfl) ?_ | fail))
    | (refine gateL ?_; (first | refine lp_n ?_ | refine lp_r ?_ | refine lp_e ?_ | fail))
    | (refine pr_k (by exact rfl) ?_; first | exact hK | (exfalso; first | omega | (simp_all; done) | (simp_all; omega)))
    | (refine gateQ ?_; refine b_retK (by simp) (by (conv => {lhs; whnf}); done) ?_)
    | (refine gateR ?_; (first | refine rk_tmp (by (conv => {lhs; whnf}); done) ?_ | refine rk_cellA (by (conv => {lhs; whnf}); done) (by exact rfl) (by exact rfl) ?_ | refine rk_cell1 (by (conv => {lhs; whnf}); done) (by exact rfl) (by exact rfl) ?_ | refine rk_nil ?_ | fail))
    | intro _)
  all_goals first
    | (exfalso; contradiction)
    | (exfalso; omega)
    | (exfalso; simp_all; done)
    | (refine rv_old rfl (by simp [mx, mxL, resOne, aOf, aOf1]) ?_; exact rfl)

set_option maxHeartbeats 4000000 in
theorem lclose_n (H : List (List AV)) (x : Nat × Nat) (l : List Nat) (off ld : Int) (n : Nat) (hI : MI l.length off n n ld) (hG : GoodP l.length off n n ld) (hf : (∀ k, k < (rmA (mel l off ld) n n).length → pK ((rmA (mel l off ld) n n).getD k 0) = 0)) (hN : fN (mel l off ld) n = n) (hx : (∀ k, k < (rmA (stG (mel l off ld) n n) n n).length → pK ((rmA (stG (mel l off ld) n n) n n).getD k 0) = 0)) :
    Spec Try.prog 8 [mt (aD x l) off (n : Int) (n : Int) ld] H (.bool true) H := by
  obtain ⟨hm, ho1, ho2, hr1, hr2, hc1, hc2, hl1, hl2⟩ := id hI
  have hfa := rm_fin hx
  have hone : ∀ i j, i < n → j < i → flt fltOne (absF ((stG (mel l off ld) n n) i j)) = false := fun i j hi hj => low_one hfa hi hj
  refine (Spec.intro' (fn := Try.f8) Try.func8 rfl (by kernel_rfl) (by simp) false [] (draw := drawX Try.prog ⟨false, _, []⟩) dOk ?_)
  simp only [argE, Nat.reduceAdd]
  repeat' (first
    | (refine gateE ?_; (first | refine b_c0 ?_ | refine b_nil ?_ | refine b_gT (by exact rfl) (by exact rfl) ?_ | refine b_gF (by exact rfl) (by exact rfl) (by exact rfl) ?_ | refine b_gU (by exact rfl) (by exact rfl) (by constructor <;> simp) (by exact rfl) (by exact rfl) ?_ | (refine b_g0 (by exact rfl) (by exact rfl) (by (conv => {lhs; whnf}); done) ?_; (first | refine g_TT ?_ | refine g_FF ?_ | refine g_TF ?_ | refine g_FT ?_ | refine g_PT ?_ ?_ | refine g_PF ?_ ?_ | refine g_BT ?_ ?_ | refine g_BF ?_ ?_ | fail)) | (refine b_g1 (by exact rfl) (by exact rfl) (by exact rfl) (by (conv => {lhs; whnf}); done) ?_; (first | refine g_TT ?_ | refine g_FF ?_ | refine g_TF ?_ | refine g_FT ?_ | refine g_PT ?_ ?_ | refine g_PF ?_ ?_ | refine g_BT ?_ ?_ | refine g_BF ?_ ?_ | fail)) | refine b_c1 (by exact rfl) ?_ | fail))
    | (refine gateO ?_; (first | refine b_move (by (conv => {lhs; whnf}); done) ?_ | (refine b_fa (by (conv => {lhs; whnf}); done) ?_; first | refine f_loc (by (conv => {lhs; whnf}); done) ?_ | refine f_ptr (by (conv => {lhs; whnf}); done) ?_) | (refine b_load (by (conv => {lhs; whnf}); done) ?_; (first | refine l_loc1 (by exact rfl) (by exact rfl) ?_ | refine l_locA (by exact rfl) (by exact rfl) ?_ | fail)) | (refine b_binBn (by first | (conv => {lhs; whnf}; done) | exact (by exact rfl) | fail) (by first | (conv => {lhs; whnf}; done) | exact (by exact rfl) | fail) ?_; (first | refine v_bnF (by exact rfl) ?_ | refine v_bnT (by decide) ?_ | fail)) | refine b_lenA (by (conv => {lhs; whnf}); done) (by exact (IL.fzn [] (pvL (mel l off ld) n n) n (by simp)).len) ?_ | (refine b_binB (by first | (conv => {lhs; whnf}; done) | exact (by exact rfl) | fail) (by first | (conv => {lhs; whnf}; done) | exact (by exact rfl) | fail) ?_; (first | refine v_bFe (by exact hone i j (by omega) (by omega)) ?_ | refine v_to ((j + 1 : Nat) : Int) (by omega) (by omega) ?_ | refine v_to ((i + 1 : Nat) : Int) (by omega) (by omega) ?_ | refine v_bbT (by exact rfl) ?_ | refine v_k ?_ | fail)) | (refine b_bin (by (conv => {lhs; whnf}); done) (by (conv => {lhs; whnf}); done) (by (conv => {lhs; whnf}); done) ?_; (first | refine v_bFe (by exact hone i j (by omega) (by omega)) ?_ | refine v_to ((j + 1 : Nat) : Int) (by omega) (by omega) ?_ | refine v_to ((i + 1 : Nat) : Int) (by omega) (by omega) ?_ | refine v_eT (by omega) ?_ | refine v_eF (by omega) ?_ | refine v_eP ?_ | refine v_neT (by omega) ?_ | refine v_neF (by omega) ?_ | refine v_neP ?_ | refine v_T (by omega) ?_ | refine v_F (by omega) ?_ | refine v_w (by omega) ?_ | refine v_wu (by omega) ?_ | refine v_nT ?_ | refine v_nF ?_ | refine v_nP ?_ | refine v_k ?_ | refine v_c (by omega) ?_ | fail)) | (refine b_pick (by (conv => {lhs; whnf}); done) ?_; (first | refine p_T (by (conv => {lhs; whnf}); done) ?_ | refine p_F (by (conv => {lhs; whnf}); done) ?_ | fail)) | refine b_assignF (by kernel_rfl) ?_ | refine b_assignI ?_ | refine b_assignN ?_ | refine b_assign (by (conv => {lhs; whnf}); done) ?_ | (refine b_un (by (conv => {lhs; whnf}); done) (by (conv => {lhs; whnf}); done) ?_; (first | refine v_bFe (by exact hone i j (by omega) (by omega)) ?_ | refine v_to ((j + 1 : Nat) : Int) (by omega) (by omega) ?_ | refine v_to ((i + 1 : Nat) : Int) (by omega) (by omega) ?_ | refine v_eT (by omega) ?_ | refine v_eF (by omega) ?_ | refine v_eP ?_ | refine v_neT (by omega) ?_ | refine v_neF (by omega) ?_ | refine v_neP ?_ | refine v_T (by omega) ?_ | refine v_F (by omega) ?_ | refine v_w (by omega) ?_ | refine v_wu (by omega) ?_ | refine v_nT ?_ | refine v_nF ?_ | refine v_nP ?_ | refine v_k ?_ | refine v_c (by omega) ?_ | fail)) | refine b_callB ?_ | refine b_lenA (by (conv => {lhs; whnf}); done) (by first | rfl | assumption) ?_ | refine b_ext (by (conv => {lhs; whnf}); done) (by exact rfl) ?_ | refine b_stL (by (conv => {lhs; whnf}); done) (by (conv => {lhs; whnf}); done) (by first | exact (by exact rfl) | exact cells_of_len hF.len | fail) (by exact rfl) (by exact rfl) (by exact Nat.le_of_ble_eq_true rfl) (by (conv => {lhs; simp only [sc, List.set_cons_zero, List.set_cons_succ]}); done) ?_ | refine b_box (by (conv => {lhs; whnf}); done) (by exact rfl) (by exact rfl) (by exact rfl) (by exact rfl) ?_ | refine b_alloc (by exact rfl) (by exact rfl) ?_ | refine b_field (by (conv => {lhs; whnf}); done) (by exact rfl) (by exact rfl) (by exact rfl) ?_ | fail))
    | (refine gateD ?_; (first | refine d_c0 (by exact rfl) ?_ | refine d_nil ?_ | refine d_gT (by exact rfl) (by exact rfl) (by exact rfl) ?_ | refine d_gF (by exact rfl) (by exact rfl) (by exact rfl) (by exact rfl) ?_ | refine d_gU (by exact rfl) (by exact rfl) (by exact rfl) (by constructor <;> simp) (by exact rfl) (by exact rfl) ?_ | (refine d_g0 (by exact rfl) (by exact rfl) (by exact rfl) (by (conv => {lhs; whnf}); done) ?_; (first | refine dg_TT ?_ | refine dg_FF ?_ | refine dg_TF ?_ | refine dg_FT ?_ | refine dg_PT ?_ ?_ | refine dg_PF ?_ ?_ | refine dg_BT ?_ ?_ | refine dg_BF ?_ ?_ | fail)) | (refine d_g1 (by exact rfl) (by exact rfl) (by exact rfl) (by exact rfl) (by (conv => {lhs; whnf}); done) ?_; (first | refine dg_TT ?_ | refine dg_FF ?_ | refine dg_TF ?_ | refine dg_FT ?_ | refine dg_PT ?_ ?_ | refine dg_PF ?_ ?_ | refine dg_BT ?_ ?_ | refine dg_BF ?_ ?_ | fail)) | refine d_c1 (by exact rfl) (by exact rfl) ?_ | fail))
    | (refine gateC ?_; (first | refine k_lt ?_ | refine k_fz ?_ | refine k_lb (by (conv => {lhs; whnf}); done) ?_ | refine k_ms ?_ | refine k_bx (by exact rfl) (by exact rfl) ?_ | refine k_ld (by (conv => {lhs; whnf}); done) (by exact rfl) ?_ | refine k_ldT (by (conv => {lhs; whnf}); done) ?_ | refine k_bin (by (conv => {lhs; whnf}); done) (by exact rfl) ?_ | refine k_mn ?_ | refine k_mnB (by exact rfl) ?_ | refine k_mnF ?_ | refine k_mnL (by exact rfl) ?_ | fail))
    | (refine gateT ?_; (first | refine b_thn ?_ | refine b_thr ?_ | refine b_the ?_ | fail))
    | (refine gateX ?_; (first | refine b_seq ?_ | refine b_region ?_ | (refine b_cond (by (conv => {lhs; whnf}); done) ?_; (first | refine c_T ?_ | refine c_F ?_ | refine c_P ?_ ?_ | refine c_B ?_ ?_ | fail)) | refine b_ret ?_ | refine b_skip ?_ | refine b_block ?_ | refine b_exit ?_ | refine b_draw (id := 21) [] [] [(0, .ld true), (2, .ld true), (3, .lt), (4, .ld true), (1, .mn true), (5, .mn true), (6, .lt), (7, .mn true), (8, .lt), (9, .lt)] (by kernel_rfl) ?_ | (refine b_loop [1, 3, 6, 7, 8] i (fun j => ⟨[(1, .loc 1 0), (3, .loc 3 0), (6, .loc 6 0), (7, .val (.int .i64 ((i : Nat) : Int))), (8, .val (.int .i64 ((j : Nat) : Int)))], [(1, [aD x l, .int .i64 off, .int .i64 (n : Int), .int .i64 (n : Int), .int .i64 ld]), (3, [.sl none (n * n) (fl (cmA (stG (mel l off ld) n n) n n)), .int .i64 0, .int .i64 (n : Int), .int .i64 (n : Int), .int .i64 ((max n 1 : Nat) : Int), .sl none n (il (pvL (mel l off ld) n n))]), (6, [.int .i64 (n : Int), .int .i64 (n : Int), .sl none (n * n) (fl (rmA (stG (mel l off ld) n n) n n))])], H ++ []⟩) (by exact rfl) ?_ ?_ <;> (first | intro j hj K hK | intro K) <;> (try dsimp only at *)) | (refine b_loop [1, 3, 6, 7] n (fun i => ⟨[(1, .loc 1 0), (3, .loc 3 0), (6, .loc 6 0), (7, .val (.int .i64 ((i : Nat) : Int)))], [(1, [aD x l, .int .i64 off, .int .i64 (n : Int), .int .i64 (n : Int), .int .i64 ld]), (3, [.sl none (n * n) (fl (cmA (stG (mel l off ld) n n) n n)), .int .i64 0, .int .i64 (n : Int), .int .i64 (n : Int), .int .i64 ((max n 1 : Nat) : Int), .sl none n (il (pvL (mel l off ld) n n))]), (6, [.int .i64 (n : Int), .int .i64 (n : Int), .sl none (n * n) (fl (rmA (stG (mel l off ld) n n) n n))])], H ++ []⟩) (by exact rfl) ?_ ?_ <;> (first | intro i hi K hK | intro K) <;> (try dsimp only at *)) | fail))
    | refine a_cons (by (conv => {lhs; whnf}); done) ?_
    | refine a_nil ?_
    | (refine gateK ?_; (first | refine c_call (awake16_c _) (OldOk.app (by simp)) ?_ | refine c_call (greatm_c _ _ l (aD_FL _ x l) off (n : Int) (n : Int) ld hI) (OldOk.app (by simp)) ?_ | refine c_call (goodref_c _ _ l.length off (n : Int) (n : Int) ld (aD_len x l) hI) (OldOk.app (by simp)) ?_ | refine c_call (of_n _ _ l (aD_FL _ x l) off ld n hI hG (by omega)) (OldOk.app (by simp)) ?_ | refine c_call (finite_t _ _ (rmA (mel l off ld) n n) (FL.fzn _ _ _ (by simp)) (by have hq := Nat.mul_le_mul (show n ≤ 20 by omega) (show n ≤ 20 by omega); simp; omega) hf) (OldOk.app (by simp)) ?_ | refine c_call (fac_n _ _ l (aD_FL _ x l) off ld n hI hG (by omega) _ (by exact rfl) hN) (OldOk.app (by simp)) ?_ | refine c_call (gr_n _ (stG (mel l off ld) n n) n (by omega)) (OldOk.app (by simp)) ?_ | refine c_call (lu_of _ (stG (mel l off ld) n n) n (by omega)) (OldOk.app (by simp)) ?_ | refine c_call (piv_t _ _ (pvL (mel l off ld) n n) (IL.fzn _ _ _ (by simp)) (by simp; omega) (pvL_piv _ n)) (OldOk.app (by simp)) ?_ | refine c_call (finite_t _ _ (rmA (stG (mel l off ld) n n) n n) (FL.fzn _ _ _ (by simp)) (by have hq := Nat.mul_le_mul (show n ≤ 20 by omega) (show n ≤ 20 by omega); simp; omega) hx) (OldOk.app (by simp)) ?_ | refine c_call (tat_m _ _ (stG (mel l off ld) n n) n n (FL.fzn _ _ _ (by simp)) (by omega) (by omega) i j (by omega) (by omega)) (OldOk.app (by simp)) ?_ | refine c_call (rabs_c _ ((stG (mel l off ld) n n) i j)) (OldOk.app (by simp)) ?_ | refine c_call (lclose_g _ (mel l off ld) n (by omega) (rm_fin hf) hfa) (OldOk.app (by simp)) ?_ | fail))
    | (refine gateB ?_; (first | refine b_bln ?_ | refine b_blr ?_ | refine b_ble ?_ | refine b_blo (by exact rfl) ?_ | fail))
    | (refine gateL ?_; (first | refine lp_n ?_ | refine lp_r ?_ | refine lp_e ?_ | fail))
    | (refine pr_k (by exact rfl) ?_; first | exact hK | (exfalso; first | omega | (simp_all; done) | (simp_all; omega)))
    | (refine gateQ ?_; refine b_retK (by simp) (by (conv => {lhs; whnf}); done) ?_)
    | (refine gateR ?_; (first | refine rk_tmp (by (conv => {lhs; whnf}); done) ?_ | refine rk_cellA (by (conv => {lhs; whnf}); done) (by exact rfl) (by exact rfl) ?_ | refine rk_cell1 (by (conv => {lhs; whnf}); done) (by exact rfl) (by exact rfl) ?_ | refine rk_nil ?_ | fail))
    | intro _)
  all_goals first
    | (exfalso; contradiction)
    | (exfalso; omega)
    | (exfalso; simp_all; done)
    | (refine rv_old rfl (by simp [mx, mxL, resOne, aOf, aOf1]) ?_; exact rfl)


theorem lclose (H : List (List AV)) (x : Nat × Nat) (l : List Nat) (off rows cols ld : Int) (hI : MI l.length off rows cols ld) : Spec Try.prog 8 [mt (aD x l) off rows cols ld] H (.bool true) H := by
  by_cases hG : GoodP l.length off rows cols ld
  · obtain ⟨r, rfl⟩ : ∃ r : Nat, rows = (r : Int) := ⟨rows.toNat, by have := hG.1; omega⟩
    obtain ⟨c, rfl⟩ : ∃ c : Nat, cols = (c : Int) := ⟨cols.toNat, by have := hG.2.1; omega⟩
    by_cases hf : (∀ k, k < (rmA (mel l off ld) r c).length → pK ((rmA (mel l off ld) r c).getD k 0) = 0)
    · by_cases hne : (r : Int) = (c : Int)
      · have : r = c := by omega
        subst this
        have hle := fN_le (mel l off ld) r
        by_cases hN : fN (mel l off ld) r < r
        · exact lclose_s H x l off ld r hI hG hf hN
        · have hN' : fN (mel l off ld) r = r := by omega
          by_cases hx : (∀ k, k < (rmA (stG (mel l off ld) r r) r r).length → pK ((rmA (stG (mel l off ld) r r) r r).getD k 0) = 0)
          · exact lclose_n H x l off ld r hI hG hf hN' hx
          · exact lclose_y H x l off ld r hI hG hf hN' hx
      · exact lclose_q H x l off ld r c hI hG hf hne
    · exact lclose_f H x l off ld r c hI hG hf
  · exact lclose_b H x l off rows cols ld hI hG

end Go.Sx
