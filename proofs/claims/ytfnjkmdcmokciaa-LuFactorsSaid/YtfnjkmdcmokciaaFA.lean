/- A part of the proofs of this seat: FA. No condition is set. -/
import Derived.Test.YtfnjkmdcmokciaaFO
set_option linter.unusedVariables false
set_option linter.unusedSimpArgs false
namespace Go.Sx
/-! ### signs of products -/
open Ieee
theorem e_sw : Ieee.double.signWeight = 9223372036854775808 := by decide
theorem e_bn : Ieee.double.binade = 4503599627370496 := by decide
theorem e_ir : Ieee.double.infRung = 9218868437227405312 := by decide
theorem e_lp : Ieee.double.leastPlace = -1074 := by decide
theorem e_fb : Ieee.double.fractionBits = 52 := by decide
theorem read_word (s : Bool) (k : Nat) (h : k ≤ 9218868437227405312) : Ieee.double.read (Ieee.double.word s k) = (if s then (Ieee.double.read k).opposite else Ieee.double.read k) := by
  have hk : k < 9223372036854775808 := by omega
  have h1 : (k / 9223372036854775808 % 2 == 1) = false := by rw [Nat.div_eq_of_lt hk]; rfl
  have h2 : k % 9223372036854775808 = k := Nat.mod_eq_of_lt hk
  cases s with
  | false =>
    have : Ieee.double.word false k = k := by simp [Ieee.Format.word, e_sw]
    rw [this]; rfl
  | true =>
    have e : Ieee.double.word true k = 9223372036854775808 + k := by simp [Ieee.Format.word, e_sw]
    rw [e]
    have h3 : ((9223372036854775808 + k) / 9223372036854775808 % 2 == 1) = true := by
      have : (9223372036854775808 + k) / 9223372036854775808 = 1 := by omega
      rw [this]; rfl
    have h4 : (9223372036854775808 + k) % 9223372036854775808 = k := by omega
    unfold Ieee.Format.read
    simp only [e_sw, e_bn, e_ir, h1, h2, h3, h4, if_true]
    split
    · simp [Ieee.Datum.opposite]
    · split
      · simp [Ieee.Datum.opposite]
      · split
        · simp [Ieee.Datum.opposite]
        · simp [Ieee.Datum.opposite]
def rungF (m : Nat) (p : Int) : Nat :=
  if m = 0 then 0 else
    let last := max (p + m.log2 - 52) (-1074)
    min ((last - (-1074)).toNat * 4503599627370496 + Toward.even.cut false (m <<< (p - last).toNat) (last - p).toNat) 9218868437227405312
theorem cut_even (s : Bool) (n d : Nat) : Toward.even.cut s n d = Toward.even.cut false n d := rfl
theorem nearest_eq (s : Bool) (m : Nat) (p : Int) : Ieee.double.nearest s m p = Ieee.double.word s (rungF m p) := by
  unfold Ieee.Format.nearest rungF
  by_cases h : m = 0
  · simp [h]
  · simp only [h, if_false, e_fb, e_lp, e_bn, e_ir, cut_even s]
    rfl
theorem rungF_le (m : Nat) (p : Int) : rungF m p ≤ 9218868437227405312 := by
  unfold rungF
  split
  · omega
  · exact Nat.min_le_right _ _
theorem log2_of {n k : Nat} (h1 : 2 ^ k ≤ n) (h2 : n < 2 ^ (k + 1)) : n.log2 = k := by
  have hn : n ≠ 0 := by have := Nat.two_pow_pos k; omega
  exact (Nat.log2_eq_iff hn).2 ⟨h1, h2⟩
theorem cut_exact {n : Nat} (h : 1 ≤ n) : Toward.even.cut false ((4503599627370496 * n) <<< 0) 52 = n := by
  have hl : 52 ≤ (4503599627370496 * n).log2 := by
    rw [Nat.le_log2 (by omega)]
    have : 2 ^ 52 = 4503599627370496 := by decide
    omega
  unfold Toward.cut
  have e0 : (4503599627370496 * n) <<< 0 = 4503599627370496 * n := rfl
  have e1 : min 52 ((4503599627370496 * n).log2 + 2) = 52 := by omega
  have e2 : (1 : Nat) <<< 52 = 4503599627370496 := by decide
  simp only [e0, e1, e2]
  have e3 : 4503599627370496 * n / 4503599627370496 = n := Nat.mul_div_cancel_left n (by decide)
  have e4 : 4503599627370496 * n % 4503599627370496 = 0 := Nat.mul_mod_right _ _
  rw [e3, e4]
  simp
/-- what is read is written again, from a place 52 further down -/
theorem rungF_read {k : Nat} (h : k < 9218868437227405312) : ∃ m e, Ieee.double.read k = .number false m e ∧ rungF (4503599627370496 * m) (e + -52) = k := by
  have hk : k < 9223372036854775808 := by omega
  have h1 : (k / 9223372036854775808 % 2 == 1) = false := by rw [Nat.div_eq_of_lt hk]; rfl
  have h2 : k % 9223372036854775808 = k := Nat.mod_eq_of_lt hk
  unfold Ieee.Format.read
  simp only [e_sw, e_bn, e_ir, e_lp, h1, h2]
  by_cases hB : k < 4503599627370496
  · rw [if_pos hB]
    refine ⟨k, -1074, rfl, ?_⟩
    by_cases h0 : k = 0
    · subst h0; decide
    · have hl2 : (4503599627370496 * k).log2 < 104 := by
        rw [Nat.log2_lt (by omega)]
        have : 2 ^ 104 = 4503599627370496 * 4503599627370496 := by decide
        omega
      unfold rungF
      rw [if_neg (by omega)]
      have e1 : max (-1074 + -52 + (((4503599627370496 * k).log2 : Nat) : Int) - 52) (-1074) = -1074 := by omega
      simp only [e1]
      have e2 : ((-1074 : Int) + -52 - -1074).toNat = 0 := by decide
      have e3 : ((-1074 : Int) - (-1074 + -52)).toNat = 52 := by decide
      have e4 : ((-1074 : Int) - -1074).toNat = 0 := by decide
      rw [e2, e3, e4, cut_exact (by omega)]
      omega
  · rw [if_neg hB, if_pos h]
    refine ⟨_, _, rfl, ?_⟩
    have hd := Nat.div_add_mod k 4503599627370496
    have hm := Nat.mod_lt k (show 0 < 4503599627370496 by decide)
    have hq : 1 ≤ k / 4503599627370496 := (Nat.le_div_iff_mul_le (by decide)).2 (by omega)
    generalize k % 4503599627370496 = r at hd hm
    generalize k / 4503599627370496 = q at hd hq
    have hl : (4503599627370496 * (4503599627370496 + r)).log2 = 104 := by
      apply log2_of
      · have : 2 ^ 104 = 4503599627370496 * 4503599627370496 := by decide
        omega
      · have : 2 ^ (104 + 1) = 4503599627370496 * 9007199254740992 := by decide
        omega
    unfold rungF
    rw [if_neg (by omega), hl]
    have e1 : max ((-1074 : Int) + ((q - 1 : Nat) : Int) + -52 + ((104 : Nat) : Int) - 52) (-1074) = -1074 + ((q - 1 : Nat) : Int) := by omega
    simp only [e1]
    have e2 : ((-1074 : Int) + ((q - 1 : Nat) : Int) + -52 - (-1074 + ((q - 1 : Nat) : Int))).toNat = 0 := by omega
    have e3 : ((-1074 : Int) + ((q - 1 : Nat) : Int) - (-1074 + ((q - 1 : Nat) : Int) + -52)).toNat = 52 := by omega
    have e4 : ((-1074 : Int) + ((q - 1 : Nat) : Int) - -1074).toNat = q - 1 := by omega
    rw [e2, e3, e4, cut_exact (by omega)]
    have : (q - 1) * 4503599627370496 + (4503599627370496 + r) = k := by omega
    rw [this]; omega
/-- a word's sign, and the rest -/
theorem read_split (y : Nat) : ∃ s : Bool, Ieee.double.read y = (if s then (Ieee.double.read (y % 9223372036854775808)).opposite else Ieee.double.read (y % 9223372036854775808)) := by
  have h2 : y % 9223372036854775808 % 9223372036854775808 = y % 9223372036854775808 := Nat.mod_mod _ _
  have h3 : (y % 9223372036854775808 / 9223372036854775808 % 2 == 1) = false := by rw [Nat.div_eq_of_lt (Nat.mod_lt _ (by decide))]; rfl
  refine ⟨y / 9223372036854775808 % 2 == 1, ?_⟩
  unfold Ieee.Format.read
  simp only [e_sw, e_bn, e_ir, h2, h3]
  cases (y / 9223372036854775808 % 2 == 1) with
  | false => simp
  | true =>
    simp only [if_true]
    split
    · simp [Ieee.Datum.opposite]
    · split
      · simp [Ieee.Datum.opposite]
      · split
        · simp [Ieee.Datum.opposite]
        · simp [Ieee.Datum.opposite]
theorem opp_opp (d : Datum) : d.opposite.opposite = d := by cases d <;> simp [Ieee.Datum.opposite]
def negOne : Nat := 13830554455654793216
theorem read_negOne : Ieee.double.read negOne = .number true 4503599627370496 (-52) := by decide
theorem mul_negOne {y : Nat} (hn : isNaN y = false) : ∃ r, Ieee.double.mul negOne y = some r ∧ Ieee.double.read r = (Ieee.double.read y).opposite := by
  obtain ⟨s, hs⟩ := read_split y
  have hk : y % 9223372036854775808 ≤ 9218868437227405312 := by
    rcases Nat.lt_or_ge 9218868437227405312 (y % 9223372036854775808) with h | h
    · have : isNaN y = true := by
        unfold isNaN Ieee.Format.read
        simp only [e_sw, e_bn, e_ir]
        rw [if_neg (by omega), if_neg (by omega), if_neg (by omega)]
        rfl
      rw [this] at hn; cases hn
    · exact h
  generalize y % 9223372036854775808 = k at hs hk
  unfold Ieee.Format.mul
  rw [read_negOne, hs]
  rcases Nat.lt_or_ge k 9218868437227405312 with h | h
  · obtain ⟨m, e, h1, h2⟩ := rungF_read h
    rw [h1]
    have e1 : (-52 + e : Int) = e + -52 := by omega
    cases s with
    | false =>
      refine ⟨Ieee.double.word true k, ?_, ?_⟩
      · simp [Ieee.Datum.product, Ieee.Format.write, nearest_eq, e1, h2]
      · rw [read_word _ _ hk]; simp [h1]
    | true =>
      refine ⟨Ieee.double.word false k, ?_, ?_⟩
      · simp [Ieee.Datum.product, Ieee.Datum.opposite, Ieee.Format.write, nearest_eq, e1, h2]
      · rw [read_word _ _ hk]; simp [h1, Ieee.Datum.opposite]
  · have hke : k = 9218868437227405312 := by omega
    subst hke
    have hi : Ieee.double.read 9218868437227405312 = .infinity false := by decide
    rw [hi]
    cases s with
    | false =>
      refine ⟨Ieee.double.word true 9218868437227405312, ?_, ?_⟩
      · simp [Ieee.Datum.product, Ieee.Format.write, e_ir]
      · rw [read_word _ _ hk]; simp [hi]
    | true =>
      refine ⟨Ieee.double.word false 9218868437227405312, ?_, ?_⟩
      · simp [Ieee.Datum.product, Ieee.Datum.opposite, Ieee.Format.write, e_ir]
      · rw [read_word _ _ hk]; simp [hi, Ieee.Datum.opposite]

theorem product_opp (a b : Datum) : a.opposite.product b = (a.product b).map Datum.opposite := by
  cases a <;> cases b <;> simp [Ieee.Datum.opposite, Ieee.Datum.product] <;> (try split) <;> simp_all [Ieee.Datum.opposite]
theorem product_comm (a b : Datum) : a.product b = b.product a := by
  cases a <;> cases b <;> simp [Ieee.Datum.product, Bool.xor_comm, Nat.mul_comm, Int.add_comm] <;> (try split) <;> simp_all [Bool.xor_comm]
theorem write_opp {d : Datum} (h : d.isNaN = false) : Ieee.double.read (Ieee.double.write d.opposite) = (Ieee.double.read (Ieee.double.write d)).opposite ∧ (Ieee.double.read (Ieee.double.write d)).isNaN = false := by
  have nn : ∀ k, k ≤ 9218868437227405312 → (Ieee.double.read k).isNaN = false := by
    intro k hk
    rcases Nat.lt_or_ge k 9218868437227405312 with h | h
    · obtain ⟨m, e, h1, _⟩ := rungF_read h
      rw [h1]; rfl
    · have : k = 9218868437227405312 := by omega
      subst this; decide
  have on : ∀ d : Datum, d.opposite.isNaN = d.isNaN := by intro d; cases d <;> rfl
  have key : ∀ (s : Bool) (k : Nat), k ≤ 9218868437227405312 → Ieee.double.read (Ieee.double.word (!s) k) = (Ieee.double.read (Ieee.double.word s k)).opposite ∧ (Ieee.double.read (Ieee.double.word s k)).isNaN = false := by
    intro s k hk
    rw [read_word _ _ hk, read_word _ _ hk]
    cases s
    · simp [nn k hk]
    · simp [opp_opp, on, nn k hk]
  cases d with
  | number s m p =>
    simp only [Ieee.Datum.opposite, Ieee.Format.write, nearest_eq]
    exact key s _ (rungF_le m p)
  | infinity s =>
    simp only [Ieee.Datum.opposite, Ieee.Format.write, e_ir]
    exact key s _ (Nat.le_refl _)
  | nan s t => cases h
theorem cn_idem (b : Nat) : cn (cn b) = cn b := by
  rcases cn_cases b with ⟨h1, h2⟩ | ⟨h1, h2⟩
  · rw [h2]; exact cn_qn
  · rw [h2, h2]
theorem add_cnr (a b : Nat) : Ieee.double.add a (cn b) = Ieee.double.add a b := by
  rw [← add_cn a (cn b), cn_idem, add_cn]
theorem sub_cnr (a b : Nat) : Ieee.double.sub a (cn b) = Ieee.double.sub a b := by
  rw [← sub_cn a (cn b), cn_idem, sub_cn]
theorem mul_cnl (a b : Nat) : Ieee.double.mul (cn a) b = Ieee.double.mul a b := by
  rw [← mul_cn (cn a) b, cn_idem, mul_cn]
theorem isNaN_read {b : Nat} : isNaN b = (Ieee.double.read b).isNaN := rfl
theorem nan_mul (x : Nat) {y : Nat} (h : isNaN y = true) : Ieee.double.mul x y = none ∧ Ieee.double.mul y x = none := by
  obtain ⟨s, t, hr⟩ := nan_read h
  unfold Ieee.Format.mul
  rw [hr]
  constructor
  · cases Ieee.double.read x <;> rfl
  · rfl
theorem nan_add (x : Nat) {y : Nat} (h : isNaN y = true) : Ieee.double.add x y = none ∧ Ieee.double.sub x y = none := by
  obtain ⟨s, t, hr⟩ := nan_read h
  unfold Ieee.Format.add Ieee.Format.sub
  rw [hr]
  constructor <;> cases Ieee.double.read x <;> rfl
theorem qnN : isNaN qn = true := by decide
/-- ger's step is the document's: a number less a product -/
theorem ger_step {p x y : Nat} : fadd p (fmul (fmul negOne y) x) = fsub p (fmul x y) := by
  have ff : ∀ (f : Nat → Nat → Option Nat) a b, fop f a b = (match f a b with | some r => cn r | none => qn) := fun _ _ _ => rfl
  by_cases hn : isNaN y = true
  · have e1 : fmul negOne y = qn := by show fop _ _ _ = _; rw [ff, (nan_mul negOne hn).1]
    have e2 : fmul qn x = qn := by show fop _ _ _ = _; rw [ff, (nan_mul x qnN).2]
    have e3 : fmul x y = qn := by show fop _ _ _ = _; rw [ff, (nan_mul x hn).1]
    rw [e1, e2, e3]
    show fop _ _ _ = fop _ _ _
    rw [ff, ff, (nan_add p qnN).1, (nan_add p qnN).2]
  · have hn' : isNaN y = false := by simpa using hn
    obtain ⟨r, h1, h2⟩ := mul_negOne hn'
    have e1 : fmul negOne y = cn r := by show fop _ _ _ = _; rw [ff, h1]
    rw [e1]
    have e2 : Ieee.double.mul (cn r) x = ((Ieee.double.read x).product (Ieee.double.read y)).map (fun d => Ieee.double.write d.opposite) := by
      rw [mul_cnl]
      unfold Ieee.Format.mul
      rw [h2, product_opp, product_comm]
      cases (Ieee.double.read x).product (Ieee.double.read y) <;> rfl
    have e3 : Ieee.double.mul x y = ((Ieee.double.read x).product (Ieee.double.read y)).map Ieee.double.write := rfl
    show fop _ p (fop _ _ _) = fop _ p (fop _ _ _)
    simp only [ff]
    rw [e2, e3]
    cases hd : (Ieee.double.read x).product (Ieee.double.read y) with
    | none =>
      simp only [Option.map_none]
      rw [(nan_add p qnN).1, (nan_add p qnN).2]
    | some d =>
      simp only [Option.map_some]
      rw [add_cnr, sub_cnr]
      have hdn : d.isNaN = false := by
        revert hd
        cases Ieee.double.read x <;> cases Ieee.double.read y <;> simp [Ieee.Datum.product] <;> first | (intro hh; subst hh; rfl) | (intro _ hh; subst hh; rfl)
      obtain ⟨h3, h4⟩ := write_opp hdn
      unfold Ieee.Format.add Ieee.Format.sub
      rw [h3]
end Go.Sx
