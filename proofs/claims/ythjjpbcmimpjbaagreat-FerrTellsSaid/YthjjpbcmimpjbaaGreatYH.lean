/- A part of the proofs of this seat: YH. No condition is set. -/
import Derived.Test.YthjjpbcmimpjbaaGreatYF
set_option linter.unusedVariables false
set_option linter.unusedSimpArgs false
set_option maxRecDepth 20000
namespace Go.Sx
open Ieee
theorem zn4 (a : Int) : compare a a = .eq := Int.compare_eq_eq.2 rfl
theorem zid {x : Nat} (h : pK x = 0) : feq x x = true := by
  unfold feq Ieee.Format.order
  rw [zem h]
  simp only [Ieee.Datum.order, zn4]
  rfl
theorem ztr : Ieee.double.read 0 = .number false 0 (-1074) := by decide
theorem zjg (s : Bool) (m k : Nat) : Ieee.signed s m k = 0 ↔ m = 0 := by
  unfold Ieee.signed
  rw [Nat.shiftLeft_eq]
  have hp := Nat.two_pow_pos k
  have key : m * 2 ^ k = 0 ↔ m = 0 := by
    constructor
    · intro h
      rcases Nat.mul_eq_zero.1 h with h | h
      · exact h
      · omega
    · intro h; rw [h, Nat.zero_mul]
  rw [← key]
  generalize m * 2 ^ k = v
  cases s
  · simp only [Bool.false_eq_true, if_false]; omega
  · simp only [if_true]; omega
theorem zmw {x : Nat} (h : pK x = 0) : feq x 0 = decide (pM x = 0) := by
  unfold feq Ieee.Format.order
  rw [zem h, ztr]
  simp only [Ieee.Datum.order]
  have he := (zhz (x := x)).1
  have hm := (zgk (x := x)).1
  have e1 : min (pE x) (-1074) = -1074 := by omega
  rw [e1]
  have e2 : Ieee.signed false 0 (-1074 - -1074 : Int).toNat = 0 := by decide
  rw [e2]
  by_cases h0 : pM x = 0
  · have : (pM x).toNat = 0 := by omega
    rw [decide_eq_true h0, this, (zjg _ 0 _).2 rfl, zn4]; rfl
  · have hne : Ieee.signed (zeb x) (pM x).toNat (pE x - -1074).toNat ≠ 0 := fun h => by have := (zjg _ _ _).1 h; omega
    rw [decide_eq_false h0]
    generalize Ieee.signed (zeb x) (pM x).toNat (pE x - -1074).toNat = v at *
    rcases Int.lt_or_lt_of_ne hne with h1 | h1
    · rw [Int.compare_eq_lt.2 h1]; rfl
    · rw [Int.compare_eq_gt.2 h1]; rfl
theorem z9r {x : Nat} (h : pK x = 0) (h0 : pM x ≠ 0) : flt x 0 = zeb x := by
  unfold flt Ieee.Format.order
  rw [zem h, ztr]
  simp only [Ieee.Datum.order]
  have he := (zhz (x := x)).1
  have hm := (zgk (x := x)).1
  have e1 : min (pE x) (-1074) = -1074 := by omega
  rw [e1]
  have e2 : Ieee.signed false 0 (-1074 - -1074 : Int).toNat = 0 := by decide
  rw [e2]
  have hp : 0 < (pM x).toNat <<< (pE x - -1074).toNat := by rw [Nat.shiftLeft_eq]; exact Nat.mul_pos (by omega) (Nat.two_pow_pos _)
  unfold Ieee.signed
  generalize (pM x).toNat <<< (pE x - -1074).toNat = v at *
  cases zeb x
  · simp only [Bool.false_eq_true, if_false]
    rw [Int.compare_eq_gt.2 (by omega)]; rfl
  · simp only [if_true]
    rw [Int.compare_eq_lt.2 (by omega)]; rfl
theorem zzu {x : Nat} (h : pK x = 0) : flt 9218868437227405311 (zbm x) = false := by
  have hb := (zmr h).2
  rw [zkp (by decide) (by unfold zf3; omega)]
  exact decide_eq_false (by omega)
theorem zr8 {x : Nat} (h : pK x = 0) : flt (zbm x) 4503599627370496 = decide (zbm x < 4503599627370496) := by
  have hb := (zmr h).2
  exact zkp (by unfold zf3; omega) (by decide)
theorem zi4 {x : Nat} (h : pK x ≠ 0) (h64 : x < 2 ^ 64) (hc : cn x = x) : x = 9218868437227405312 ∨ x = 18442240474082181120 ∨ x = qn := by
  rcases zb1 x with ⟨h1, h2⟩ | ⟨h1, h2⟩
  · right; right; rw [← hc, h2]
  · have hE : pE₀ x = 2047 := by
      apply Classical.byContradiction; intro hE
      apply h; unfold pK; rw [if_neg (fun hh => hE hh.1), if_neg hE]
    have hM : pM₀ x = 0 := by
      apply Classical.byContradiction; intro hM
      unfold isNaN Ieee.Format.read at h1
      simp only [zkk, zxj, zxk] at h1
      unfold pE₀ at hE; unfold pM₀ at hM
      rw [if_neg (by omega), if_neg (by omega), if_neg (by omega)] at h1
      cases h1
    unfold pE₀ at hE; unfold pM₀ at hM
    omega
theorem zql {x : Nat} (h : pK x = 0) (h0 : pM x = 0) (h64 : x < 2 ^ 64) (k : Int) : zcy x k = x := by
  unfold zcy
  rw [if_pos h, h0]
  have : zbs (0 : Int).toNat (pE x + k) = 0 := by show zbs 0 _ = 0; unfold zbs; rw [if_pos rfl]
  rw [this]
  have hE : pE₀ x = 0 ∧ pM₀ x = 0 := by
    have h2 : pE₀ x ≠ 2047 := by intro hE; unfold pK at h; rw [if_pos hE] at h; split at h <;> cases h
    unfold pM at h0
    rw [if_neg h2] at h0
    split at h0
    · rename_i h3; exact ⟨h3, h0⟩
    · have : 0 ≤ pM₀ x := by unfold pM₀; omega
      omega
    
  obtain ⟨a, b⟩ := hE
  unfold pE₀ at a; unfold pM₀ at b
  unfold Ieee.Format.word
  rw [zkk]
  unfold zeb
  have : x / 9223372036854775808 = 0 ∨ x / 9223372036854775808 = 1 := by omega
  rcases this with hs | hs <;> rw [hs] <;> simp <;> omega
end Go.Sx
namespace Go.Sx
open Ieee
theorem ztx {m : Nat} (hm : 4503599627370496 ≤ m) {e : Int} (he : 972 ≤ e) : zbs m e = 9218868437227405312 := by
  rcases Nat.lt_or_ge (zbs m e) 9218868437227405312 with h | h
  · exfalso
    obtain ⟨q, c, hr, hc, hq, hl, _⟩ := zmg (by omega : m ≠ 0) h
    have h52 : 52 ≤ m.log2 := by
      rw [Nat.le_log2 (by omega)]
      have : 2 ^ 52 = 4503599627370496 := by decide
      omega
    have h0 : q ≠ 0 := by omega
    have := hq h0
    omega
  · have := zk8 m e; omega
theorem z0b {F : Nat} (hF : F < 4503599627370496) : (4503599627370496 + F).log2 = 52 := by
  apply zm4
  · have : 2 ^ 52 = 4503599627370496 := by decide
    omega
  · have : 2 ^ (52 + 1) = 9007199254740992 := by decide
    omega
theorem zg5 {s : Bool} {a F : Nat} (ha : 1 ≤ a) (ha2 : a ≤ 2046) (hF : F < 4503599627370496) : (if s then 9223372036854775808 else 0) + a * 4503599627370496 + F < 2 ^ 64 ∧ cn ((if s then 9223372036854775808 else 0) + a * 4503599627370496 + F) = (if s then 9223372036854775808 else 0) + a * 4503599627370496 + F ∧
    Ieee.double.read ((if s then 9223372036854775808 else 0) + a * 4503599627370496 + F) = .number s (4503599627370496 + F) ((a : Int) - 1075) := by
  have e1 : (if s then 9223372036854775808 else 0) + a * 4503599627370496 + F = Ieee.double.word s (a * 4503599627370496 + F) := by
    unfold Ieee.Format.word; rw [zkk]; cases s <;> simp <;> omega
  have hk : a * 4503599627370496 + F < 9218868437227405312 := by omega
  refine ⟨by cases s <;> simp <;> omega, ?_, ?_⟩
  · rw [e1]; exact zhp (Nat.le_of_lt hk)
  · rw [e1, zjc _ _ (Nat.le_of_lt hk)]
    have hr : Ieee.double.read (a * 4503599627370496 + F) = .number false (4503599627370496 + F) ((a : Int) - 1075) := by
      generalize hR : a * 4503599627370496 + F = R at hk
      unfold Ieee.Format.read
      simp only [zkk, zxj, zxk, z7v]
      have h1 : R % 9223372036854775808 = R := Nat.mod_eq_of_lt (by omega)
      have h2 : (R / 9223372036854775808 % 2 == 1) = false := by rw [Nat.div_eq_of_lt (by omega)]; rfl
      have h3 : R % 4503599627370496 = F := by omega
      have h4 : R / 4503599627370496 = a := by omega
      rw [h1, h2, if_neg (by omega), if_pos hk, h3, h4]
      congr 1; omega
    rw [hr]; cases s <;> rfl
theorem zx8 {m : Nat} {e : Int} (h0 : 1 ≤ m) (hm : m < 4611686018427387904) (he : -1200 ≤ e ∧ e ≤ 2000) :
    ∃ (N1 N2 : Nat) (P Q : Nat → Nat) (hb lb : Nat → Bool), N1 ≤ 52 ∧ N2 ≤ 400 ∧ P 0 = m ∧ (∀ k, P (k + 1) = 2 * P k) ∧ (∀ k : Nat, k < N1 → P k < 4503599627370496 ∧ -1074 < e - k) ∧ ¬ (P N1 < 4503599627370496 ∧ -1074 < e - N1) ∧
      Q 0 = P N1 ∧ (∀ t, Q (t + 1) = Q t / 2) ∧ (∀ t, Q t < 4611686018427387904) ∧ (∀ t : Nat, t < N2 → 9007199254740992 ≤ Q t ∨ e - N1 + t < -1074) ∧ Q N2 < 9007199254740992 ∧ -1074 ≤ e - N1 + N2 ∧
      hb 0 = false ∧ lb 0 = false ∧ (∀ t, hb (t + 1) = decide (Q t % 2 = 1)) ∧ (∀ t, lb (t + 1) = (lb t || hb t)) ∧
      zbs m e = min ((e - N1 + N2 + 1074).toNat * 4503599627370496 + (Q N2 + (if hb N2 = true ∧ (lb N2 = true ∨ Q N2 % 2 = 1) then 1 else 0))) 9218868437227405312 ∧ (Q N2 < 4503599627370496 → e - N1 + N2 = -1074) := by
  obtain ⟨N1, hN1, h1, h1'⟩ := mk1 h0 e
  have hM62 : m * 2 ^ N1 < 2 ^ 62 := by
    cases N1 with
    | zero => simpa using hm
    | succ n => have := (h1 n (by omega)).1; rw [Nat.pow_succ, ← Nat.mul_assoc]; omega
  obtain ⟨N2, hN2, h2, h3, h4⟩ := mk2 hM62 (e := e - N1) (by omega)
  have hk := z4u h0 h1 h1' h2 h3 h4
  refine ⟨N1, N2, fun k => m * 2 ^ k, fun t => m * 2 ^ N1 / 2 ^ t, fun t => hfB (m * 2 ^ N1) t, fun t => loB (m * 2 ^ N1) t, hN1, hN2, by simp, fun k => ?_, h1, h1', by simp, fun t => (zrv _ t).symm, fun t => Nat.lt_of_le_of_lt (Nat.div_le_self _ _) hM62, h2, h3, h4, rfl, rfl, fun t => rfl, fun t => rfl, hk.1, hk.2⟩
  show m * 2 ^ (k + 1) = 2 * (m * 2 ^ k)
  rw [Nat.pow_succ, ← Nat.mul_assoc, Nat.mul_comm]
end Go.Sx
