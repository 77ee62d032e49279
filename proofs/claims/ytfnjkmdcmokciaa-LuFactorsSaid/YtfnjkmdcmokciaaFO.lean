/- A part of the proofs of this seat: FO. No condition is set. -/
import Derived.Test.YtfnjkmdcmokciaaSxX
set_option linter.unusedVariables false
set_option linter.unusedSimpArgs false
namespace Go.Sx
/-! ### the order of floats that are not below 0 -/
def fB : Nat := 4503599627370496
def fVal (x : Nat) : Nat := if x < fB then x else (fB + x % fB) * 2 ^ (x / fB - 1)
theorem fVal_mono {x y : Nat} (h : x < y) : fVal x < fVal y := by
  have hB : 0 < fB := by decide
  unfold fVal
  have hx := Nat.div_add_mod x fB
  have hy := Nat.div_add_mod y fB
  have hxm := Nat.mod_lt x hB
  have hym := Nat.mod_lt y hB
  by_cases h1 : x < fB
  · by_cases h2 : y < fB
    · rw [if_pos h1, if_pos h2]; exact h
    · rw [if_pos h1, if_neg h2]
      have : 1 ≤ 2 ^ (y / fB - 1) := Nat.one_le_two_pow
      have := Nat.mul_le_mul (Nat.le_refl (fB + y % fB)) this
      omega
  · by_cases h2 : y < fB
    · omega
    · rw [if_neg h1, if_neg h2]
      have hqx : 1 ≤ x / fB := (Nat.le_div_iff_mul_le hB).2 (by omega)
      rcases Nat.lt_trichotomy (x / fB) (y / fB) with hq | hq | hq
      · have e1 : (fB + x % fB) * 2 ^ (x / fB - 1) < (2 * fB) * 2 ^ (x / fB - 1) := Nat.mul_lt_mul_of_pos_right (by omega) (Nat.two_pow_pos _)
        have e2 : (2 * fB) * 2 ^ (x / fB - 1) = fB * 2 ^ (x / fB) := by
          have : 2 ^ (x / fB) = 2 * 2 ^ (x / fB - 1) := by
            rw [← Nat.pow_succ']; congr 1; omega
          rw [this, ← Nat.mul_assoc, Nat.mul_comm 2 fB]
        have e3 : fB * 2 ^ (x / fB) ≤ (fB + y % fB) * 2 ^ (y / fB - 1) := Nat.mul_le_mul (by omega) (Nat.pow_le_pow_right (by omega) (by omega))
        omega
      · rw [hq] at hx ⊢
        exact Nat.mul_lt_mul_of_pos_right (by omega) (Nat.two_pow_pos _)
      · have : y / fB + 1 ≤ x / fB := hq
        have := Nat.mul_le_mul (Nat.le_refl fB) this
        rw [Nat.mul_add, Nat.mul_one] at this
        omega
theorem fVal_cmp (x y : Nat) : compare (fVal x) (fVal y) = compare x y := by
  rcases Nat.lt_trichotomy x y with h | h | h
  · rw [Nat.compare_eq_lt.2 h, Nat.compare_eq_lt.2 (fVal_mono h)]
  · subst h; rw [Nat.compare_eq_eq.2 rfl, Nat.compare_eq_eq.2 rfl]
  · rw [Nat.compare_eq_gt.2 h, Nat.compare_eq_gt.2 (fVal_mono h)]
def fInf : Nat := 9218868437227405312
theorem read_pos {x : Nat} (h : x < fInf) : ∃ m e : Nat, Ieee.double.read x = .number false m (Ieee.double.leastPlace + (e : Int)) ∧ fVal x = m * 2 ^ e := by
  have e1 : Ieee.double.signWeight = 9223372036854775808 := by decide
  have e2 : Ieee.double.binade = fB := by decide
  have e3 : Ieee.double.infRung = fInf := by decide
  have hx : x < 9223372036854775808 := by unfold fInf at h; omega
  have h0 : (x / 9223372036854775808 % 2 == 1) = false := by
    rw [Nat.div_eq_of_lt hx]; rfl
  have hm : x % 9223372036854775808 = x := Nat.mod_eq_of_lt hx
  unfold Ieee.Format.read fVal
  simp only [e1, e2, e3, h0, hm]
  by_cases h1 : x < fB
  · rw [if_pos h1, if_pos h1]
    exact ⟨x, 0, by simp, by simp⟩
  · rw [if_neg h1, if_pos h, if_neg h1]
    exact ⟨_, _, rfl, rfl⟩
theorem read_inf : Ieee.double.read fInf = .infinity false := by decide
theorem shl_cmp (m n a b : Nat) (i j k : Nat) (hi : a = i + k) (hj : b = j + k) : compare ((m <<< i : Nat) : Int) ((n <<< j : Nat) : Int) = compare (m * 2 ^ a) (n * 2 ^ b) := by
  have e : ∀ x y : Nat, compare (x : Int) (y : Int) = compare x y := by
    intro x y
    rcases Nat.lt_trichotomy x y with h | h | h
    · rw [Nat.compare_eq_lt.2 h, Int.compare_eq_lt.2 (by omega)]
    · subst h; rw [Nat.compare_eq_eq.2 rfl, Int.compare_eq_eq.2 rfl]
    · rw [Nat.compare_eq_gt.2 h, Int.compare_eq_gt.2 (by omega)]
  rw [e, Nat.shiftLeft_eq, Nat.shiftLeft_eq]
  subst hi hj
  have h1 : m * 2 ^ (i + k) = m * 2 ^ i * 2 ^ k := by rw [Nat.pow_add, Nat.mul_assoc]
  have h2 : n * 2 ^ (j + k) = n * 2 ^ j * 2 ^ k := by rw [Nat.pow_add, Nat.mul_assoc]
  rw [h1, h2]
  have hp : 0 < 2 ^ k := Nat.two_pow_pos k
  rcases Nat.lt_trichotomy (m * 2 ^ i) (n * 2 ^ j) with h | h | h
  · rw [Nat.compare_eq_lt.2 h, Nat.compare_eq_lt.2 (Nat.mul_lt_mul_of_pos_right h hp)]
  · rw [h, Nat.compare_eq_eq.2 rfl, Nat.compare_eq_eq.2 rfl]
  · rw [Nat.compare_eq_gt.2 h, Nat.compare_eq_gt.2 (Nat.mul_lt_mul_of_pos_right h hp)]
theorem order_pos {x y : Nat} (hx : x ≤ fInf) (hy : y ≤ fInf) : Ieee.double.order x y = some (compare x y) := by
  unfold Ieee.Format.order
  rcases Nat.lt_or_ge x fInf with h1 | h1
  · obtain ⟨m, e, r1, v1⟩ := read_pos h1
    rcases Nat.lt_or_ge y fInf with h2 | h2
    · obtain ⟨n, f, r2, v2⟩ := read_pos h2
      rw [r1, r2]
      simp only [Ieee.Datum.order, Ieee.signed, Bool.false_eq_true, if_false, Option.some.injEq]
      rw [shl_cmp m n e f _ _ (min e f) (by omega) (by omega), ← v1, ← v2, fVal_cmp]
    · have : y = fInf := by omega
      subst this
      rw [r1, read_inf]
      simp [Ieee.Datum.order, Nat.compare_eq_lt.2 h1]
  · have : x = fInf := by omega
    subst this
    rcases Nat.lt_or_ge y fInf with h2 | h2
    · obtain ⟨n, f, r2, v2⟩ := read_pos h2
      rw [r2, read_inf]
      simp [Ieee.Datum.order, Nat.compare_eq_gt.2 h2]
    · have : y = fInf := by omega
      subst this
      rw [read_inf]
      simp [Ieee.Datum.order]
theorem flt_pos {x y : Nat} (hx : x ≤ fInf) (hy : y ≤ fInf) : flt x y = decide (x < y) := by
  unfold flt
  rw [order_pos hx hy]
  rcases Nat.lt_trichotomy x y with h | h | h
  · rw [Nat.compare_eq_lt.2 h]; simp [h]
  · subst h; rw [Nat.compare_eq_eq.2 rfl]; simp
  · rw [Nat.compare_eq_gt.2 h]; simp; omega
theorem feq_pos {x : Nat} (hx : x ≤ fInf) : feq x x = true := by
  unfold feq
  rw [order_pos hx hx, Nat.compare_eq_eq.2 rfl]; rfl
theorem feq_qn : feq qn qn = false := by decide
/-- a number without its sign: none, or not beyond infinity -/
theorem absF_cases (x : Nat) : absF x = qn ∨ absF x ≤ fInf := by
  unfold absF
  rcases cn_cases (x % 9223372036854775808) with ⟨h1, h2⟩ | ⟨h1, h2⟩
  · exact .inl h2
  · right
    rw [h2]
    have e1 : Ieee.double.signWeight = 9223372036854775808 := by decide
    have e2 : Ieee.double.binade = 4503599627370496 := by decide
    have e3 : Ieee.double.infRung = 9218868437227405312 := by decide
    unfold isNaN Ieee.Format.read at h1
    simp only [e1, e2, e3] at h1
    unfold fInf
    split at h1
    · omega
    · split at h1
      · omega
      · split at h1
        · omega
        · simp [Ieee.Datum.isNaN] at h1
def mxN (l : List Nat) : Nat := l.foldl max 0
theorem foldl_mx (l : List Nat) (h : ∀ x ∈ l, x ≤ fInf) : ∀ m, m ≤ fInf → l.foldl mxF m = l.foldl max m := by
  induction l with
  | nil => intro m _; rfl
  | cons a l ih =>
    intro m hm
    have ha := h a (by simp)
    simp only [List.foldl_cons]
    have : mxF m a = max m a := by
      unfold mxF
      rw [flt_pos hm ha]
      by_cases hh : m < a
      · simp [hh]; omega
      · simp [hh]; omega
    rw [this]
    exact ih (fun x hx => h x (by simp [hx])) _ (by omega)
theorem great_abs (l : List Nat) (h : ∀ x ∈ l, x = qn ∨ x ≤ fInf) : greatF l = if qn ∈ l then qn else mxN l := by
  have hf : ∀ x, x = qn ∨ x ≤ fInf → ((!feq x x) = true ↔ x = qn) := by
    intro x hx
    rcases hx with rfl | hx
    · simp [feq_qn]
    · rw [feq_pos hx]
      simp
      intro hq; subst hq; exact absurd hx (by decide)
  unfold greatF
  by_cases hq : qn ∈ l
  · rw [if_pos hq]
    have : (l.find? (fun x => !feq x x)).isSome := by
      rw [List.find?_isSome]
      exact ⟨qn, hq, by simp [feq_qn]⟩
    obtain ⟨x, hx⟩ := Option.isSome_iff_exists.1 this
    rw [hx]
    have h1 := List.find?_some hx
    have h2 := List.mem_of_find?_eq_some hx
    exact (hf x (h x h2)).1 h1
  · rw [if_neg hq]
    have : l.find? (fun x => !feq x x) = none := by
      rw [List.find?_eq_none]
      intro x hx hh
      have := (hf x (h x hx)).1 hh
      subst this; exact hq hx
    rw [this]
    refine foldl_mx l (fun x hx => ?_) 0 (by decide)
    rcases h x hx with rfl | h'
    · exact absurd hx hq
    · exact h'
theorem mxN_le : ∀ (l : List Nat) (m x : Nat), l.foldl max m ≤ x ↔ m ≤ x ∧ ∀ y ∈ l, y ≤ x
  | [], m, x => by simp
  | a :: l, m, x => by
    simp only [List.foldl_cons]
    rw [mxN_le l]
    simp only [List.mem_cons, forall_eq_or_imp]
    constructor
    · rintro ⟨h1, h2⟩; exact ⟨by omega, by omega, h2⟩
    · rintro ⟨h1, h2, h3⟩; exact ⟨by omega, h3⟩
/-- what holds the same numbers has the same greatest -/
theorem great_perm {l l' : List Nat} (h : ∀ x, x ∈ l ↔ x ∈ l') : greatF (l.map absF) = greatF (l'.map absF) := by
  have hm : ∀ x, x ∈ l.map absF ↔ x ∈ l'.map absF := by
    intro x; simp only [List.mem_map]
    exact ⟨fun ⟨y, h1, h2⟩ => ⟨y, (h y).1 h1, h2⟩, fun ⟨y, h1, h2⟩ => ⟨y, (h y).2 h1, h2⟩⟩
  have hc : ∀ l : List Nat, ∀ x ∈ l.map absF, x = qn ∨ x ≤ fInf := by
    intro l x hx
    obtain ⟨y, _, rfl⟩ := List.mem_map.1 hx
    exact absF_cases y
  rw [great_abs _ (hc l), great_abs _ (hc l')]
  by_cases hq : qn ∈ l.map absF
  · rw [if_pos hq, if_pos ((hm _).1 hq)]
  · rw [if_neg hq, if_neg (fun h => hq ((hm _).2 h))]
    apply Nat.le_antisymm
    · exact (mxN_le _ _ _).2 ⟨Nat.zero_le _, fun y hy => ((mxN_le (l'.map absF) 0 (mxN (l'.map absF))).1 (Nat.le_refl _)).2 y ((hm y).1 hy)⟩
    · exact (mxN_le _ _ _).2 ⟨Nat.zero_le _, fun y hy => ((mxN_le (l.map absF) 0 (mxN (l.map absF))).1 (Nat.le_refl _)).2 y ((hm y).2 hy)⟩
theorem mem_rml {g : Nat → Nat} {n x : Nat} : x ∈ rml g n ↔ ∃ k, k < n ∧ g k = x := by simp [rml]
theorem mem_rmA {g : Nat → Nat → Nat} {r c x : Nat} : x ∈ rmA g r c ↔ ∃ i j, i < r ∧ j < c ∧ g i j = x := by
  rw [rmA, mem_rml]
  constructor
  · rintro ⟨k, hk, h⟩
    exact ⟨k / c, k % c, div_lt' (by simpa using hk), Nat.mod_lt _ (pos_of_lt hk), h⟩
  · rintro ⟨i, j, hi, hj, h⟩
    exact ⟨i * c + j, ix_lt hi hj, by simpa only [ix_div hj, ix_mod hj] using h⟩
theorem mem_cmA {g : Nat → Nat → Nat} {r c x : Nat} : x ∈ cmA g r c ↔ ∃ i j, i < r ∧ j < c ∧ g i j = x := by
  rw [cmA, Nat.mul_comm, mem_rml]
  constructor
  · rintro ⟨k, hk, h⟩
    exact ⟨k % r, k / r, Nat.mod_lt _ (pos_of_lt hk), div_lt' hk, h⟩
  · rintro ⟨i, j, hi, hj, h⟩
    exact ⟨j * r + i, ix_lt hj hi, by simpa only [ix_div hi, ix_mod hi] using h⟩
theorem max_orders (g : Nat → Nat → Nat) (r c : Nat) : greatF ((cmA g r c).map absF) = greatF ((rmA g r c).map absF) :=
  great_perm fun x => by rw [mem_cmA, mem_rmA]
end Go.Sx
